/- Contracts of DrawSealMessage, DrawReadDouble. -/
import Derived.Test.YtnjmjgnmbjbfpaaDrawMach2
import Derived.Test.YtnjmjgnmbjbfpaaSpecKeys
import Derived.Test.YtnjmjgnmbjbfpaaLawSteps
namespace Go.Proofs.Ytnjmjgnmbjbfpaa
set_option linter.unusedVariables false
set_option linter.unusedSimpArgs false
open Go.RowKit

set_option maxHeartbeats 1000000 in
theorem c_DrawSealMessage (A0 : Option Addr) (n c : Nat) (w : World) (hc : Code_ w A0 n c) :
    Calls Try.prog 28 #[.slice A0 n c] w fun e w' => ∃ (A : Option Addr) (cA : Nat) (M : Mch) (s k t : ByteArray), e = .returned (.tuple #[mV A cA M, .string s, .string k, .string t]) ∧ IsRots w' (.slice A M.l.length cA) M.l ∧ MSm M ∧ s.size ≤ 1001 ∧ k.size ≤ 1001 ∧ t.size ≤ 1000000 ∧ Below w.heap.size w w' := by
  have HC := Lib.hid (hc.ext (ext_alloc w (.cells #[.slice none 0 0, .string ByteArray.empty, .string ByteArray.empty, .string ByteArray.empty] 27)))
  clear hc
  go_enter Try.func28, Try.ntmps28
  go_wp2_with fail
  refine (c_l21Open A0 n c _ HC.out.1 HC.out.2.1 HC.out.2.2).mono ?_
  rintro e w1 ⟨g, rfl, hg, hr1, hb1⟩
  have hg' : w.heap.size + 1 ≤ g := by simpa using hg
  have K1 := Lib.hid ((Blk.new w 27 #[.slice none 0 0, .string ByteArray.empty, .string ByteArray.empty, .string ByteArray.empty]).ext hb1)
  have BL1 := Lib.hid ((ext_alloc w (.cells #[.slice none 0 0, .string ByteArray.empty, .string ByteArray.empty, .string ByteArray.empty] 27)).trans (hb1.mono (by simp)))
  have R1 := Lib.hid hr1
  have hgl1 := hr1.1
  clear hg hr1 hb1 HC
  go_wp2_with fail
  refine (c_l9Open g 0 _ R1.out (by omega)).mono ?_
  rintro e w2 ⟨A, cA, M, s, k, rfl, hR2, hM, hs, hk, hne, hr2, hg2⟩
  have HM := Lib.hid hM
  have K2 := Lib.hid ((K1.out.grown hg2 (by simp; omega)).alloc (.cells #[.slice A M.l.length cA, .string M.rf, .string M.rg, .string M.pl] 27))
  have KB := Lib.hid (Blk.new w2 27 #[.slice A M.l.length cA, .string M.rf, .string M.rg, .string M.pl])
  have RT2 : Hid (IsRots (w2.alloc (.cells #[.slice A M.l.length cA, .string M.rf, .string M.rg, .string M.pl] 27)) (.slice A M.l.length cA) M.l) := hR2.ext (ext_alloc _ _)
  have R2 := Lib.hid (hr2.ext (ext_alloc w2 (.cells #[.slice A M.l.length cA, .string M.rf, .string M.rg, .string M.pl] 27)))
  have G2 := Lib.hid (grow_alloc hg2 (.cells #[.slice A M.l.length cA, .string M.rf, .string M.rg, .string M.pl] 27))
  have HNE := Lib.hid hne
  have hl2 : w1.heap.size ≤ w2.heap.size := hg2.size
  have hz2 : (w2.alloc (.cells #[.slice A M.l.length cA, .string M.rf, .string M.rg, .string M.pl] 27)).heap.size = w2.heap.size + 1 := by simp
  have HZ2 := Lib.hid hz2
  clear hr2 hg2 hR2 hz2 R1 hM hne
  go_upto_region 3 with fail
  generalize w2.alloc (.cells #[.slice A M.l.length cA, .string M.rf, .string M.rg, .string M.pl] 27) = W2 at *
  go_wp2_with fail
  refine (c_l1Word g (0 + 400) 10 _ R2.out (by omega) (by omega)).mono ?_
  rintro e w3 ⟨t0, rfl, ht0, _, hr3, hg3⟩
  have R3 := Lib.hid hr3
  have G3 := Lib.hid hg3
  clear hr3 hg3
  go_wp2_with fail
  refine (c_pick g (0 + 400 + 10 + 1) _ _ R3.out (by omega) (by omega) (by omega)).mono ?_
  rintro e w4 ⟨q, rfl, hq, hr4, hg4⟩
  have R4 := Lib.hid hr4
  have G4 := Lib.hid (G3.out.trans hg4)
  clear hr4 hg4 R3 G3
  by_cases hq0 : q = 0
  all_goals
    first
      | (have tq : ((q : Int) == 0) = true := by simp [hq0]
         clear hq0
         go_wp2_with fail
         refine (c_l1Bad g (0 + 400 + 10 + 1 + 1) t0 _ R4.out (by omega) (by omega)).mono ?_
         rintro e w5 ⟨t, rfl, ht, hr5, hg5⟩
         have G5 := Lib.hid (G4.out.trans hg5)
         have HT := Lib.hid ht
         clear hr5 hg5 ht R4 G4 tq)
      | (have tq : ((q : Int) == 0) = false := by simp [hq0]
         obtain ⟨t, htt⟩ : ∃ t, t = t0 := ⟨_, rfl⟩
         obtain ⟨w5, hw5⟩ : ∃ w5, w5 = w4 := ⟨_, rfl⟩
         subst htt hw5
         have G5 := Lib.hid G4.out
         have HT : Hid (t.size ≤ 1000000) := by show t.size ≤ 1000000; omega
         clear R4 G4 hq0)
    have K5 := Lib.hid (K2.out.grown G5.out (by simp; omega))
    have KB5 := Lib.hid (KB.out.grown G5.out (by simp; omega))
    have G25 := Lib.hid (G2.out.trans G5.out)
    have HF := Lib.hid (fin9 (A := A) (c := cA) (M := M) K5.out (RT2.out.grownR G5.out (fun b o e => (HNE.out b o e).1)) (fun b o e => by have := (HNE.out b o e).2; have := BL1.out.size; omega) (below_of_grown BL1.out G25.out (by omega)) (Nat.le_refl _))
    have x0 := KB5.out.cell 0
    have x1 := KB5.out.cell 1
    have x2 := KB5.out.cell 2
    have x3 := KB5.out.cell 3
    clear K2 KB G2 G5 HZ2 R2 G25 BL1 RT2
    go_wp2_with (refine wpList_store_row rfl 27 _ _ rfl w.heap.size _ rfl rfl 27 _ K5.out infoM rfl (by simp [Value.oneCell']) ?_)
    obtain ⟨q1, q2, q3⟩ := HF.out
    refine bodyPost_ret (res_c3 Try.results28 _ _ w.heap.size _ _ rfl q1 Try.underlying27 rfl infoM) rfl ⟨A, cA, M, s, k, t, rfl, q2, HM.out, by omega, by omega, HT.out, q3⟩
theorem c_ofLD (g P : Nat) (l : List ByteArray) (n : Nat) (arr : Array Value) (t : TypeId) (w : World) (hn : n = l.length) (ha : arr = (l.map Value.string).toArray) (hr : Rd w g P) (hP : P ≤ 1000000)
    (h0 : 0 < l.length) (h1 : l.length ≤ 1000) (hs : ∀ s ∈ l, s.size ≤ 1000) :
    Calls Try.prog 61 #[.pointer (some ⟨g, 0, none⟩), .slice (some ⟨w.heap.size, 0, none⟩) n n] (w.alloc (.cells arr t)).drew fun e w' => ∃ s, e = .returned (.string s) ∧ s.size ≤ 1000 ∧ Rd w' g (P + 1) ∧ w.grownBy w' (some g) := by
  subst hn ha
  refine (c_of g P _ l _ (hr.ext (ext_alloc _ _)).drew hP ((lit_strs w l t h1 (fun k hk => Nat.le_trans (hs _ (gS_mem hk)) (by omega))).ext (Below.refl _ _).drew) h0 h1 ?_).mono ?_
  · intro A c b o e1 e2
    injection e1 with e1
    rw [e2] at e1
    injection e1 with e1; injection e1 with e1
    have := hr.1
    omega
  · rintro e w2 ⟨j, rfl, hj, hr2, hg2⟩
    exact ⟨_, rfl, hs _ (gS_mem hj), hr2, (grow_drew (grow_alloc (World.grownBy.refl _ _) _)).trans hg2⟩
theorem dblR_some (M : Mch) (s t : ByteArray) : ∃ (d : ByteArray) (b : Bool), dblR M s t = .tuple #[.string d, .bool b] ∧ d.size ≤ 2 * t.size := by
  cases h : (setB M s && setB M t)
  · exact ⟨_, _, dblR_no h, Nat.zero_le _⟩
  · rw [Bool.and_eq_true] at h
    exact ⟨_, _, dblR_ok h.1 h.2, by rw [encW_size, ByteArray.size_append]; omega⟩
set_option maxHeartbeats 1000000 in
theorem c_DrawReadDouble (A0 : Option Addr) (n c : Nat) (w : World) (hc : Code_ w A0 n c) :
    Calls Try.prog 31 #[.slice A0 n c] w fun e w' => ∃ (A : Option Addr) (cA : Nat) (M : Mch) (s t : ByteArray), e = .returned (.tuple #[mV A cA M, .string s, .string t]) ∧ IsRots w' (.slice A M.l.length cA) M.l ∧ MSm M ∧ s.size ≤ 1001 ∧ t.size ≤ 1000000 ∧ Below w.heap.size w w' := by
  have HC := Lib.hid (hc.ext (ext_alloc w (.cells #[.slice none 0 0, .string ByteArray.empty, .string ByteArray.empty, .string ByteArray.empty] 27)))
  clear hc
  go_enter Try.func31, Try.ntmps31
  go_wp2_with fail
  refine (c_l21Open A0 n c _ HC.out.1 HC.out.2.1 HC.out.2.2).mono ?_
  rintro e w1 ⟨g, rfl, hg, hr1, hb1⟩
  have hg' : w.heap.size + 1 ≤ g := by simpa using hg
  have K1 := Lib.hid ((Blk.new w 27 #[.slice none 0 0, .string ByteArray.empty, .string ByteArray.empty, .string ByteArray.empty]).ext hb1)
  have BL1 := Lib.hid ((ext_alloc w (.cells #[.slice none 0 0, .string ByteArray.empty, .string ByteArray.empty, .string ByteArray.empty] 27)).trans (hb1.mono (by simp)))
  have R1 := Lib.hid hr1
  have hgl1 := hr1.1
  clear hg hr1 hb1 HC
  go_wp2_with fail
  refine (c_l9Open g 0 _ R1.out (by omega)).mono ?_
  rintro e w2 ⟨A, cA, M, s, k, rfl, hR2, hM, hs, hk, hne, hr2, hg2⟩
  have HM := Lib.hid hM
  have K2 := Lib.hid ((K1.out.grown hg2 (by simp; omega)).alloc (.cells #[.slice A M.l.length cA, .string M.rf, .string M.rg, .string M.pl] 27))
  have KB := Lib.hid (Blk.new w2 27 #[.slice A M.l.length cA, .string M.rf, .string M.rg, .string M.pl])
  have RT2 : Hid (IsRots (w2.alloc (.cells #[.slice A M.l.length cA, .string M.rf, .string M.rg, .string M.pl] 27)) (.slice A M.l.length cA) M.l) := hR2.ext (ext_alloc _ _)
  have R2 := Lib.hid (hr2.ext (ext_alloc w2 (.cells #[.slice A M.l.length cA, .string M.rf, .string M.rg, .string M.pl] 27)))
  have G2 := Lib.hid (grow_alloc hg2 (.cells #[.slice A M.l.length cA, .string M.rf, .string M.rg, .string M.pl] 27))
  have HNE := Lib.hid hne
  have hl2 : w1.heap.size ≤ w2.heap.size := hg2.size
  have hz2 : (w2.alloc (.cells #[.slice A M.l.length cA, .string M.rf, .string M.rg, .string M.pl] 27)).heap.size = w2.heap.size + 1 := by simp
  have HZ2 := Lib.hid hz2
  clear hr2 hg2 hR2 hz2 R1 hM hne
  go_upto_region 3 with fail
  generalize w2.alloc (.cells #[.slice A M.l.length cA, .string M.rf, .string M.rg, .string M.pl] 27) = W2 at *
  have x0 := KB.out.cell 0
  have x1 := KB.out.cell 1
  have x2 := KB.out.cell 2
  have x3 := KB.out.cell 3
  go_wp2_with fail
  refine (c_sDoubleIndicator A cA M s k _ RT2.out HM.out.sz (by omega) (by omega)).mono ?_
  rintro e w3 ⟨rfl, hb3⟩
  obtain ⟨d, bb, hd, hdz⟩ := dblR_some M s k
  rw [hd]
  have R3 := Lib.hid (R2.out.ext hb3)
  have G3 := Lib.hid (grow_ext2 G2.out hb3)
  have K3 := Lib.hid (K2.out.ext hb3)
  have KB3 := Lib.hid (KB.out.ext hb3)
  have RT3 := Lib.hid (RT2.out.ext hb3)
  have hz3 : w2.heap.size + 1 ≤ w3.heap.size := by have := hb3.size; have := HZ2.out; omega
  clear hd hb3 x0 x1 x2 x3 R2 G2 K2 KB RT2 HZ2
  go_wp2_with fail
  refine (c_pick g (0 + 400) _ _ R3.out (by omega) (by omega) (by omega)).mono ?_
  rintro e w4 ⟨q, rfl, hq, hr4, hg4⟩
  have R4 := Lib.hid hr4
  have G4 := Lib.hid hg4
  clear hr4 hg4 R3
  go_wp2_with fail
  refine (c_pick g (0 + 400 + 1) _ _ R4.out (by omega) (by omega) (by omega)).mono ?_
  rintro e w5 ⟨p, rfl, hp, hr5, hg5⟩
  have R5 := Lib.hid hr5
  have G5 := Lib.hid (G4.out.trans hg5)
  clear hr5 hg5 R4 G4
  by_cases p0 : p = 0
  · have tp : ((p : Int) == 0) = true := by simp [p0]
    clear p0
    have hc := c_l1Some g (0 + 400 + 1 + 1) (2 * s.size) w5 R5.out (by omega) (by omega)
    rw [show ((2 * s.size : Nat) : Int) = 2 * (s.size : Int) by omega] at hc
    have HC := Lib.hid hc
    clear hc
    go_wp2_with fail
    refine HC.out.mono ?_
    rintro e w6 ⟨t, rfl, ht, _, _, hg6⟩
    have G6 := Lib.hid (G5.out.trans hg6)
    have HT : Hid (t.size ≤ 1000000) := by show t.size ≤ 1000000; omega
    clear hg6 ht HC
    have K6 := Lib.hid (K3.out.grown G6.out (by simp; omega))
    have KB6 := Lib.hid (KB3.out.grown G6.out (by simp; omega))
    have G16 := Lib.hid (G3.out.trans G6.out)
    have HF := Lib.hid (fin9 (A := A) (c := cA) (M := M) K6.out (RT3.out.grownR G6.out (fun b o e => (HNE.out b o e).1)) (fun b o e => by have := (HNE.out b o e).2; have := BL1.out.size; omega) (below_of_grown BL1.out G16.out (by omega)) (Nat.le_refl _))
    have x0 := KB6.out.cell 0
    have x1 := KB6.out.cell 1
    have x2 := KB6.out.cell 2
    have x3 := KB6.out.cell 3
    clear K3 KB3 G3 G5 G6 R5 G16 BL1 RT3
    go_wp2_with (refine wpList_store_row rfl 27 _ _ rfl w.heap.size _ rfl rfl 27 _ K6.out infoM rfl (by simp [Value.oneCell']) ?_)
    obtain ⟨q1, q2, q3⟩ := HF.out
    refine bodyPost_ret (res_c2 Try.results31 _ _ w.heap.size _ _ rfl q1 Try.underlying27 rfl infoM) rfl ⟨A, cA, M, s, t, rfl, q2, HM.out, by omega, HT.out, q3⟩
  · have tp : ((p : Int) == 0) = false := by simp [p0]
    by_cases p1 : p = 1
    · have tp1 : ((p : Int) == 1) = true := by simp [p1]
      have i1 : (0 : Int) ≤ (q : Int) := by omega
      have i2 : (q : Int) ≤ (d.size : Int) := by omega
      have z1 := x1size d (a := 0) (b := q) (by omega)
      have z2 := x1size d (a := q) (b := d.size) (Nat.le_refl _)
      clear p0 p1
      go_wp2_with fail
      go_region_law (first
        | (go_simp
           go_at_call 61
           refine (c_ofLD g (0 + 400 + 1 + 1) [⟨#[97]⟩, ⟨#[107]⟩, ⟨#[97, 98]⟩] _ _ _ _ rfl rfl R5.out (by omega) (by decide) (by decide) (by decide)).mono ?_
           rintro e w6 ⟨u, rfl, hu, hr6, hg6⟩
           have hsum : ¬ (9223372036854775807 < q + u.size) := by omega
           have hsum2 : ¬ (9223372036854775807 < q + u.size + (d.size - q)) := by omega))
      all_goals
        obtain ⟨t, ht⟩ : ∃ t, d.extract 0 q ++ u ++ d.extract q d.size = t := ⟨_, rfl⟩
        have HT : Hid (t.size ≤ 1000000) := by show t.size ≤ 1000000; rw [← ht, ByteArray.size_append, ByteArray.size_append]; omega
        rw [ht]
        have G6 := Lib.hid (G5.out.trans hg6)
        clear hg6 ht hr6
        have K6 := Lib.hid (K3.out.grown G6.out (by simp; omega))
        have KB6 := Lib.hid (KB3.out.grown G6.out (by simp; omega))
        have G16 := Lib.hid (G3.out.trans G6.out)
        have HF := Lib.hid (fin9 (A := A) (c := cA) (M := M) K6.out (RT3.out.grownR G6.out (fun b o e => (HNE.out b o e).1)) (fun b o e => by have := (HNE.out b o e).2; have := BL1.out.size; omega) (below_of_grown BL1.out G16.out (by omega)) (Nat.le_refl _))
        have x0 := KB6.out.cell 0
        have x1 := KB6.out.cell 1
        have x2 := KB6.out.cell 2
        have x3 := KB6.out.cell 3
        clear K3 KB3 G3 G5 G6 R5 G16 BL1 RT3
        go_wp2_with (refine wpList_store_row rfl 27 _ _ rfl w.heap.size _ rfl rfl 27 _ K6.out infoM rfl (by simp [Value.oneCell']) ?_)
        obtain ⟨q1, q2, q3⟩ := HF.out
        refine bodyPost_ret (res_c2 Try.results31 _ _ w.heap.size _ _ rfl q1 Try.underlying27 rfl infoM) rfl ⟨A, cA, M, s, t, rfl, q2, HM.out, by omega, HT.out, q3⟩
    · have tp1 : ((p : Int) == 1) = false := by rw [beq_eq_false_iff_ne]; omega
      have HT : Hid (d.size ≤ 1000000) := by show d.size ≤ 1000000; omega
      have G6 := Lib.hid G5.out
      obtain ⟨w6, hw6⟩ : ∃ w6, w5 = w6 := ⟨_, rfl⟩
      subst hw6
      clear p0 p1
      have K6 := Lib.hid (K3.out.grown G6.out (by simp; omega))
      have KB6 := Lib.hid (KB3.out.grown G6.out (by simp; omega))
      have G16 := Lib.hid (G3.out.trans G6.out)
      have HF := Lib.hid (fin9 (A := A) (c := cA) (M := M) K6.out (RT3.out.grownR G6.out (fun b o e => (HNE.out b o e).1)) (fun b o e => by have := (HNE.out b o e).2; have := BL1.out.size; omega) (below_of_grown BL1.out G16.out (by omega)) (Nat.le_refl _))
      have x0 := KB6.out.cell 0
      have x1 := KB6.out.cell 1
      have x2 := KB6.out.cell 2
      have x3 := KB6.out.cell 3
      clear K3 KB3 G3 G5 G6 R5 G16 BL1 RT3
      go_wp2_with (refine wpList_store_row rfl 27 _ _ rfl w.heap.size _ rfl rfl 27 _ K6.out infoM rfl (by simp [Value.oneCell']) ?_)
      obtain ⟨q1, q2, q3⟩ := HF.out
      refine bodyPost_ret (res_c2 Try.results31 _ _ w.heap.size _ _ rfl q1 Try.underlying27 rfl infoM) rfl ⟨A, cA, M, s, d, rfl, q2, HM.out, by omega, HT.out, q3⟩
end Go.Proofs.Ytnjmjgnmbjbfpaa
