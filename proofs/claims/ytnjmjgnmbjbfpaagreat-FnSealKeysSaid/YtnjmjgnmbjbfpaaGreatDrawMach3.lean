/- Contracts of DrawSealMessage, DrawReadDouble. -/
import Derived.Test.YtnjmjgnmbjbfpaaGreatDrawMach2
import Derived.Test.YtnjmjgnmbjbfpaaGreatSpecKeys
import Derived.Test.YtnjmjgnmbjbfpaaGreatLawSteps
namespace Go.Proofs.YtnjmjgnmbjbfpaaGreat
set_option linter.unusedVariables false
set_option linter.unusedSimpArgs false
open Go.RowKit

set_option maxHeartbeats 1000000 in
theorem c_DrawSealMessage (A0 : Option Addr) (n c : Nat) (w : World) (hc : Code_ w A0 n c) :
    Calls Tryz.prog 11 #[.slice A0 n c] w fun e w' => ∃ (A : Option Addr) (cA : Nat) (M : Mch) (s k t : ByteArray), e = .returned (.tuple #[mV A cA M, .string s, .string k, .string t]) ∧ IsRots w' (.slice A M.l.length cA) M.l ∧ MSm M ∧ s.size ≤ 1001 ∧ k.size ≤ 1001 ∧ t.size ≤ 1000000 ∧ Below w.heap.size w w' := by
  have HC := Lib.hid (hc.ext (ext_alloc w (.cells #[.slice none 0 0, .string ByteArray.empty, .string ByteArray.empty, .string ByteArray.empty] 27)))
  clear hc
  go_enter Tryz.func11, Tryz.ntmps11
  go_wp2_with fail
  refine (c_l21Open A0 n c _ HC.out.1 HC.out.2.1 HC.out.2.2).mono ?_
  rintro e w1 ⟨g, rfl, hg, hr1, hb1⟩
  have hg' : w.heap.size + 1 ≤ g := by simpa using hg
  have K1 := Lib.hid ((Blk.new w 27 #[.slice none 0 0, .string ByteArray.empty, .string ByteArray.empty, .string ByteArray.empty]).ext hb1)
  have BL1 := Lib.hid ((ext_alloc w (.cells #[.slice none 0 0, .string ByteArray.empty, .string ByteArray.empty, .string ByteArray.empty] 27)).trans (hb1.mono (by simp)))
  have R1 := Lib.hid hr1
  have hgl1 := hr1.1
  clear hg hr1 hb1 HC
  go_wp2_with fail
  refine (c_l9Open g 0 _ R1.out (by omega)).mono ?_
  rintro e w2 ⟨A, cA, M, s, k, rfl, hR2, hM, hs, hk, hne, hr2, hg2⟩
  have HM := Lib.hid hM
  have K2 := Lib.hid ((K1.out.grown hg2 (by simp; omega)).alloc (.cells #[.slice A M.l.length cA, .string M.rf, .string M.rg, .string M.pl] 27))
  have KB := Lib.hid (Blk.new w2 27 #[.slice A M.l.length cA, .string M.rf, .string M.rg, .string M.pl])
  have RT2 : Hid (IsRots (w2.alloc (.cells #[.slice A M.l.length cA, .string M.rf, .string M.rg, .string M.pl] 27)) (.slice A M.l.length cA) M.l) := hR2.ext (ext_alloc _ _)
  have R2 := Lib.hid (hr2.ext (ext_alloc w2 (.cells #[.slice A M.l.length cA, .string M.rf, .string M.rg, .string M.pl] 27)))
  have G2 := Lib.hid (grow_alloc hg2 (.cells #[.slice A M.l.length cA, .string M.rf, .string M.rg, .string M.pl] 27))
  have HNE := Lib.hid hne
  have hl2 : w1.heap.size ≤ w2.heap.size := hg2.size
  have hz2 : (w2.alloc (.cells #[.slice A M.l.length cA, .string M.rf, .string M.rg, .string M.pl] 27)).heap.size = w2.heap.size + 1 := by simp
  have HZ2 := Lib.hid hz2
  clear hr2 hg2 hR2 hz2 R1 hM hne
  go_upto_region 3 with fail
  generalize w2.alloc (.cells #[.slice A M.l.length cA, .string M.rf, .string M.rg, .string M.pl] 27) = W2 at *
  go_wp2_with fail
  refine (c_l1Word g (0 + 400) 10 _ R2.out (by omega) (by omega)).mono ?_
  rintro e w3 ⟨t0, rfl, ht0, _, hr3, hg3⟩
  have R3 := Lib.hid hr3
  have G3 := Lib.hid hg3
  clear hr3 hg3
  go_wp2_with fail
  refine (c_pick g (0 + 400 + 10 + 1) _ _ R3.out (by omega) (by omega) (by omega)).mono ?_
  rintro e w4 ⟨q, rfl, hq, hr4, hg4⟩
  have R4 := Lib.hid hr4
  have G4 := Lib.hid (G3.out.trans hg4)
  clear hr4 hg4 R3 G3
  by_cases hq0 : q = 0
  all_goals
    first
      | (have tq : ((q : Int) == 0) = true := by simp [hq0]
         clear hq0
         go_wp2_with fail
         refine (c_l1Bad g (0 + 400 + 10 + 1 + 1) t0 _ R4.out (by omega) (by omega)).mono ?_
         rintro e w5 ⟨t, rfl, ht, hr5, hg5⟩
         have G5 := Lib.hid (G4.out.trans hg5)
         have HT := Lib.hid ht
         clear hr5 hg5 ht R4 G4 tq)
      | (have tq : ((q : Int) == 0) = false := by simp [hq0]
         obtain ⟨t, htt⟩ : ∃ t, t = t0 := ⟨_, rfl⟩
         obtain ⟨w5, hw5⟩ : ∃ w5, w5 = w4 := ⟨_, rfl⟩
         subst htt hw5
         have G5 := Lib.hid G4.out
         have HT : Hid (t.size ≤ 1000000) := by show t.size ≤ 1000000; omega
         clear R4 G4 hq0)
    have K5 := Lib.hid (K2.out.grown G5.out (by simp; omega))
    have KB5 := Lib.hid (KB.out.grown G5.out (by simp; omega))
    have G25 := Lib.hid (G2.out.trans G5.out)
    have HF := Lib.hid (fin9 (A := A) (c := cA) (M := M) K5.out (RT2.out.grownR G5.out (fun b o e => (HNE.out b o e).1)) (fun b o e => by have := (HNE.out b o e).2; have := BL1.out.size; omega) (below_of_grown BL1.out G25.out (by omega)) (Nat.le_refl _))
    have x0 := KB5.out.cell 0
    have x1 := KB5.out.cell 1
    have x2 := KB5.out.cell 2
    have x3 := KB5.out.cell 3
    clear K2 KB G2 G5 HZ2 R2 G25 BL1 RT2
    go_wp2_with (refine wpList_store_row rfl 27 _ _ rfl w.heap.size _ rfl rfl 27 _ K5.out infoM rfl (by simp [Value.oneCell']) ?_)
    obtain ⟨q1, q2, q3⟩ := HF.out
    refine bodyPost_ret (res_c3 Tryz.results11 _ _ w.heap.size _ _ rfl q1 Tryz.underlying27 rfl infoM) rfl ⟨A, cA, M, s, k, t, rfl, q2, HM.out, by omega, by omega, HT.out, q3⟩
end Go.Proofs.YtnjmjgnmbjbfpaaGreat
