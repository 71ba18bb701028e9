/- Contracts of DrawEncipher, l9Open, DrawDoubleIndicator, DrawSealMessage. -/
import Derived.Test.YtnjmjgnmbjbfpaaGreatDrawMach
import Derived.Test.YtnjmjgnmbjbfpaaGreatCoded
namespace Go.Proofs.YtnjmjgnmbjbfpaaGreat
set_option linter.unusedVariables false
set_option linter.unusedSimpArgs false
open Go.RowKit

theorem res_c2 {P : Program} {fn : Func} {p q r : Tmp} {ty : TypeId} (h : fn.results = #[.cell p ty, .tmp q, .tmp r]) (tmps : Array Value) (w : World) (g : Nat) (cs : Array Value) (d : TypeDesc) (hp : tmps.getD p undef = .pointer (some ⟨g, 0, none⟩)) (hg : Blk w g ty cs)
    (hu : P.underlying ty = some d) (hd : (match d with | .struct _ | .array _ _ => true | _ => false) = true) (hi : (P.info? ty).map (·.size) = some cs.size) : (results fn tmps).run P w = .ok (.tuple #[.agg cs, tmps.getD q undef, tmps.getD r undef]) w := by
  have hp' : tmps[p]?.getD undef = .pointer (some ⟨g, 0, none⟩) := by simpa using hp
  simp [results, h, hp', asAddr, run_loadVar_row w g ty ty cs (0, 0) d hg hu hd hi]
theorem res_c3 {P : Program} {fn : Func} {p q r s : Tmp} {ty : TypeId} (h : fn.results = #[.cell p ty, .tmp q, .tmp r, .tmp s]) (tmps : Array Value) (w : World) (g : Nat) (cs : Array Value) (d : TypeDesc) (hp : tmps.getD p undef = .pointer (some ⟨g, 0, none⟩)) (hg : Blk w g ty cs)
    (hu : P.underlying ty = some d) (hd : (match d with | .struct _ | .array _ _ => true | _ => false) = true) (hi : (P.info? ty).map (·.size) = some cs.size) : (results fn tmps).run P w = .ok (.tuple #[.agg cs, tmps.getD q undef, tmps.getD r undef, tmps.getD s undef]) w := by
  have hp' : tmps[p]?.getD undef = .pointer (some ⟨g, 0, none⟩) := by simpa using hp
  simp [results, h, hp', asAddr, run_loadVar_row w g ty ty cs (0, 0) d hg hu hd hi]
/-- the sizes of a machine that is drawn -/
def MSm (M : Mch) : Prop := M.rf.size ≤ 1001 ∧ M.rg.size ≤ 1001 ∧ M.pl.size ≤ 1001
theorem MSm.sz {M : Mch} (h : MSm M) : MSz M := by obtain ⟨a, b, c⟩ := h; exact ⟨by omega, by omega, by omega⟩
/-- the machine is laid into its variable, block b -/
theorem fin9 {w W : World} {b c : Nat} {tc : TypeId} {A : Option Addr} {M : Mch} {zs : Array Value} (hk : Blk W b tc zs) (hR : IsRots W (.slice A M.l.length c) M.l) (hne : ∀ b' o, A = some ⟨b', o, none⟩ → b' ≠ b) (hb : Below w.heap.size w W) (hw : w.heap.size ≤ b) :
    Blk (W.setRow b (mCells A c M)) b tc (mCells A c M) ∧ IsRots (W.setRow b (mCells A c M)) (.slice A M.l.length c) M.l ∧ Below w.heap.size w (W.setRow b (mCells A c M)) :=
  ⟨hk.setRow _, hR.grownR (grow_row _ _ _) hne, below_row hb hw _⟩
set_option maxHeartbeats 1000000 in
theorem c_DrawEncipher (A0 : Option Addr) (n c : Nat) (w : World) (hc : Code_ w A0 n c) :
    Calls Tryz.prog 6 #[.slice A0 n c] w fun e w' => ∃ (A : Option Addr) (cA : Nat) (M : Mch) (s t : ByteArray), e = .returned (.tuple #[mV A cA M, .string s, .string t]) ∧ IsRots w' (.slice A M.l.length cA) M.l ∧ MSm M ∧ s.size ≤ 1001 ∧ t.size ≤ 1000000 ∧ Below w.heap.size w w' := by
  have HC := Lib.hid (hc.ext (ext_alloc w (.cells #[.slice none 0 0, .string ByteArray.empty, .string ByteArray.empty, .string ByteArray.empty] 27)))
  clear hc
  go_enter Tryz.func6, Tryz.ntmps6
  go_wp2_with fail
  refine (c_l21Open A0 n c _ HC.out.1 HC.out.2.1 HC.out.2.2).mono ?_
  rintro e w1 ⟨g, rfl, hg, hr1, hb1⟩
  have hg' : w.heap.size + 1 ≤ g := by simpa using hg
  have K1 := Lib.hid ((Blk.new w 27 #[.slice none 0 0, .string ByteArray.empty, .string ByteArray.empty, .string ByteArray.empty]).ext hb1)
  have BL1 := Lib.hid ((ext_alloc w (.cells #[.slice none 0 0, .string ByteArray.empty, .string ByteArray.empty, .string ByteArray.empty] 27)).trans (hb1.mono (by simp)))
  have R1 := Lib.hid hr1
  have hgl1 := hr1.1
  clear hg hr1 hb1 HC
  go_wp2_with fail
  refine (c_l8Any g 0 _ R1.out (by omega)).mono ?_
  rintro e w2 ⟨vR, rf, s, rg, pl, m, f, rfl, hrf, hrg, hpl, hm1, hm3, hs, ho, hok, hr2, hg2⟩
  obtain ⟨gR, cR, rfl, hgR1, hgR2⟩ := ho.at0 (by omega)
  have K2 := Lib.hid ((K1.out.grown hg2 (by simp; omega)).alloc (.cells #[.slice (some ⟨gR, 0, none⟩) m cR, .string rf, .string rg, .string pl] 27))
  have KB := Lib.hid (Blk.new w2 27 #[.slice (some ⟨gR, 0, none⟩) m cR, .string rf, .string rg, .string pl])
  have O2 : Hid (OwnR (w2.alloc (.cells #[.slice (some ⟨gR, 0, none⟩) m cR, .string rf, .string rg, .string pl] 27)) (w1.heap.size + 1) (.slice (some ⟨gR, 0, none⟩) m cR) m f) := ho.ext (ext_alloc _ _)
  have R2 := Lib.hid (hr2.ext (ext_alloc w2 (.cells #[.slice (some ⟨gR, 0, none⟩) m cR, .string rf, .string rg, .string pl] 27)))
  have G2 := Lib.hid (grow_alloc hg2 (.cells #[.slice (some ⟨gR, 0, none⟩) m cR, .string rf, .string rg, .string pl] 27))
  have HOK := Lib.hid hok
  have hl2 : w1.heap.size + 1 ≤ w2.heap.size := by omega
  have hz2 : (w2.alloc (.cells #[.slice (some ⟨gR, 0, none⟩) m cR, .string rf, .string rg, .string pl] 27)).heap.size = w2.heap.size + 1 := by simp
  have HZ2 := Lib.hid hz2
  clear hr2 hg2 ho hok hz2 R1
  go_upto_region 3 with fail
  generalize w2.alloc (.cells #[.slice (some ⟨gR, 0, none⟩) m cR, .string rf, .string rg, .string pl] 27) = W2 at *
  go_wp2_with fail
  refine (c_l1Word g (0 + 300) 12 _ R2.out (by omega) (by omega)).mono ?_
  rintro e w3 ⟨t0, rfl, ht0, _, hr3, hg3⟩
  have R3 := Lib.hid hr3
  have G3 := Lib.hid hg3
  clear hr3 hg3
  go_wp2_with fail
  refine (c_pick g (0 + 300 + 12 + 1) _ _ R3.out (by omega) (by omega) (by omega)).mono ?_
  rintro e w4 ⟨q, rfl, hq, hr4, hg4⟩
  have R4 := Lib.hid hr4
  have G4 := Lib.hid (G3.out.trans hg4)
  clear hr4 hg4 R3 G3
  by_cases hq0 : q = 0
  all_goals
    first
      | (have tq : ((q : Int) == 0) = true := by simp [hq0]
         clear hq0
         go_wp2_with fail
         refine (c_l1Bad g (0 + 300 + 12 + 1 + 1) t0 _ R4.out (by omega) (by omega)).mono ?_
         rintro e w5 ⟨t, rfl, ht, hr5, hg5⟩
         have R5 := Lib.hid (hr5.more (show 0 + 300 + 12 + 1 + 1 + 2 ≤ 400 by omega))
         have G5 := Lib.hid (G4.out.trans hg5)
         have HT := Lib.hid ht
         clear hr5 hg5 ht R4 G4 tq)
      | (have tq : ((q : Int) == 0) = false := by simp [hq0]
         obtain ⟨t, htt⟩ : ∃ t, t = t0 := ⟨_, rfl⟩
         obtain ⟨w5, hw5⟩ : ∃ w5, w5 = w4 := ⟨_, rfl⟩
         subst htt hw5
         have R5 := Lib.hid (R4.out.more (show 0 + 300 + 12 + 1 + 1 ≤ 400 by omega))
         have G5 := Lib.hid G4.out
         have HT : Hid (t.size ≤ 1000000) := by show t.size ≤ 1000000; omega
         clear R4 G4 hq0)
    have K5 := Lib.hid (K2.out.grown G5.out (by simp; omega))
    have KB5 := Lib.hid (KB.out.grown G5.out (by simp; omega))
    have O5 := Lib.hid (O2.out.keptB G5.out (by omega))
    have G25 := Lib.hid (G2.out.trans G5.out)
    have hz5 : w2.heap.size + 1 ≤ w5.heap.size := by have := G5.out.size; have := HZ2.out; omega
    clear K2 KB O2 G2 G5 HZ2 R2
    have x0 := KB5.out.cell 0
    have x1 := KB5.out.cell 1
    have x2 := KB5.out.cell 2
    have x3 := KB5.out.cell 3
    go_wp2_with fail
    refine (c_l8Bad g 400 (w1.heap.size + 1) m _ rf rg pl f w1 _ R5.out (by omega) (by omega) G25.out hgl1 (by omega) O5.out HOK.out hm1 hm3 (by omega) (by omega) (by omega) (by omega)).mono ?_
    rintro e w6 ⟨A, cA, M, rfl, hR6, m1, m2, m3, hne, hr6, hg6⟩
    have HR6 := Lib.hid hR6
    have HNE := Lib.hid hne
    have HM : Hid (MSm M) := ⟨m1, m2, m3⟩
    have R6 := Lib.hid hr6
    have G6 := Lib.hid hg6
    clear hR6 hne m1 m2 m3 hr6 hg6 x0 x1 x2 x3 KB5 O5 G25 R5
    go_wp2_with fail
    refine (c_l8Off g (400 + 30) s _ R6.out (by omega) (by omega) (by omega)).mono ?_
    rintro e w7 ⟨s', rfl, hs', hr7, hg7⟩
    have K7 := Lib.hid ((K1.out.grown G6.out (by simp; omega)).grown hg7 (by simp; omega))
    have HF := Lib.hid (fin9 (A := A) (c := cA) (M := M) K7.out (HR6.out.grownR hg7 (fun b o e => (HNE.out b o e).1)) (fun b o e => by have := (HNE.out b o e).2; have := BL1.out.size; omega) (below_of_grown BL1.out (G6.out.trans hg7) (by omega)) (Nat.le_refl _))
    clear hr7 hg7
    go_wp2_with (refine wpList_store_row rfl 27 _ _ rfl w.heap.size _ rfl rfl 27 _ K7.out infoM rfl (by simp [Value.oneCell']) ?_)
    obtain ⟨q1, q2, q3⟩ := HF.out
    refine bodyPost_ret (res_c2 Tryz.results6 _ _ w.heap.size _ _ rfl q1 Tryz.underlying27 rfl infoM) rfl ⟨A, cA, M, s', t, rfl, q2, HM.out, by omega, HT.out, q3⟩
set_option maxHeartbeats 1000000 in
theorem c_l9Open (g P : Nat) (w : World) (hr : Rd w g P) (hP : P + 1000 ≤ 1000000) :
    Calls Tryz.prog 33 #[.pointer (some ⟨g, 0, none⟩)] w fun e w' => ∃ (A : Option Addr) (cA : Nat) (M : Mch) (s k : ByteArray), e = .returned (.tuple #[mV A cA M, .string s, .string k]) ∧ IsRots w' (.slice A M.l.length cA) M.l ∧ MSm M ∧ s.size ≤ 10 ∧ k.size ≤ 10 ∧ (∀ b o, A = some ⟨b, o, none⟩ → b ≠ g ∧ w.heap.size + 1 ≤ b) ∧ Rd w' g (P + 400) ∧ w.grownBy w' (some g) := by
  have K0 := Lib.hid (Blk.new w 27 #[.slice none 0 0, .string ⟨#[]⟩, .string ⟨#[]⟩, .string ⟨#[]⟩])
  have R0 := Lib.hid (hr.ext (ext_alloc w (.cells #[.slice none 0 0, .string ⟨#[]⟩, .string ⟨#[]⟩, .string ⟨#[]⟩] 27)))
  have G0 := Lib.hid (grow_alloc (World.grownBy.refl w (some g)) (.cells #[.slice none 0 0, .string ⟨#[]⟩, .string ⟨#[]⟩, .string ⟨#[]⟩] 27))
  have hgl := hr.1
  have hz1 : (w.alloc (.cells #[.slice none 0 0, .string ⟨#[]⟩, .string ⟨#[]⟩, .string ⟨#[]⟩] 27)).heap.size = w.heap.size + 1 := by simp
  have HZ1 := Lib.hid hz1
  clear hr hz1
  go_enter Tryz.func33, Tryz.ntmps33
  go_wp2_with fail
  generalize w.alloc (.cells #[.slice none 0 0, .string ⟨#[]⟩, .string ⟨#[]⟩, .string ⟨#[]⟩] 27) = w1 at *
  refine (c_l8Any g P _ R0.out (by omega)).mono ?_
  rintro e w2 ⟨vR, rf, s, rg, pl, m, f, rfl, hrf, hrg, hpl, hm1, hm3, hs, ho, hok, hr2, hg2⟩
  obtain ⟨gR, cR, rfl, hgR1, hgR2⟩ := ho.at0 (by omega)
  have KB := Lib.hid (Blk.new w2 27 #[.slice (some ⟨gR, 0, none⟩) m cR, .string rf, .string rg, .string pl])
  have O2 : Hid (OwnR (w2.alloc (.cells #[.slice (some ⟨gR, 0, none⟩) m cR, .string rf, .string rg, .string pl] 27)) (w1.heap.size + 1) (.slice (some ⟨gR, 0, none⟩) m cR) m f) := ho.ext (ext_alloc _ _)
  have R2 := Lib.hid (hr2.ext (ext_alloc w2 (.cells #[.slice (some ⟨gR, 0, none⟩) m cR, .string rf, .string rg, .string pl] 27)))
  have G2 := Lib.hid (grow_alloc hg2 (.cells #[.slice (some ⟨gR, 0, none⟩) m cR, .string rf, .string rg, .string pl] 27))
  have HOK := Lib.hid hok
  have hs1 : 1 ≤ s.size := by omega
  have hs3 : s.size ≤ 3 := by omega
  have hrg1 : 1 ≤ rg.size := by omega
  have hrg3 : rg.size ≤ 3 := by omega
  have hrf1 : rf.size ≤ 10 := by omega
  have hpl1 : pl.size ≤ 10 := by omega
  clear hs hrg hrf hpl
  have hl2 : w1.heap.size + 1 ≤ w2.heap.size := by omega
  have hz2 : (w2.alloc (.cells #[.slice (some ⟨gR, 0, none⟩) m cR, .string rf, .string rg, .string pl] 27)).heap.size = w2.heap.size + 1 := by simp
  have HZ2 := Lib.hid hz2
  clear hr2 hg2 ho hok hz2 R0
  have x0 := KB.out.cell 0
  have x1 := KB.out.cell 1
  have x2 := KB.out.cell 2
  have x3 := KB.out.cell 3
  go_wp2_with fail
  refine (c_l8Bad g (P + 300) (w1.heap.size + 1) m _ rf rg pl f w1 _ R2.out (by omega) (by omega) G2.out (by have := HZ1.out; omega) (by have := HZ2.out; omega) O2.out HOK.out hm1 hm3 (by omega) (by omega) (by omega) (by omega)).mono ?_
  rintro e w6 ⟨A, cA, M, rfl, hR6, m1, m2, m3, hne, hr6, hg6⟩
  have HR6 := Lib.hid hR6
  have HNE := Lib.hid hne
  have HM : Hid (MSm M) := ⟨m1, m2, m3⟩
  have R6 := Lib.hid hr6
  have G6 := Lib.hid hg6
  clear hR6 hne m1 m2 m3 hr6 hg6 x0 x1 x2 x3 KB O2 G2 R2
  go_wp2_with fail
  refine (c_l8Off g (P + 300 + 30) s _ R6.out (by omega) (by omega) (by omega)).mono ?_
  rintro e w7 ⟨s', rfl, hs', hr7, hg7⟩
  have R7 := Lib.hid hr7
  have G7 := Lib.hid hg7
  clear hr7 hg7 R6
  go_wp2_with fail
  refine (c_l1Some g (P + 300 + 30 + 1) s.size _ R7.out (by omega) (by omega)).mono ?_
  rintro e w8 ⟨k0, rfl, hk0, _, hr8, hg8⟩
  have R8 := Lib.hid hr8
  have G8 := Lib.hid (G7.out.trans hg8)
  clear hr8 hg8 R7 G7
  go_wp2_with fail
  refine (c_l8Off g (P + 300 + 30 + 1 + s.size) k0 _ R8.out (by omega) (by omega) (by omega)).mono ?_
  rintro e w9 ⟨k, rfl, hk, hr9, hg9⟩
  have G9 := Lib.hid (G8.out.trans hg9)
  have G19 := Lib.hid ((G0.out.trans G6.out).trans G9.out)
  have K9 := Lib.hid ((K0.out.grown G6.out (by simp; omega)).grown G9.out (by simp; omega))
  have HF := Lib.hid (fin8 (A := A) (c := cA) (M := M) K9.out (HR6.out.grownR G9.out (fun b o e => (HNE.out b o e).1)) (fun b o e => by have := (HNE.out b o e).2; have := HZ1.out; omega) (hr9.more (show P + 300 + 30 + 1 + s.size + 1 ≤ P + 400 by omega)) G19.out (by omega) (Nat.le_refl _))
  clear hr9 hg9 R8 G8
  go_wp2_with (refine wpList_store_row rfl 27 _ _ rfl w.heap.size _ rfl rfl 27 _ K9.out infoM rfl (by simp [Value.oneCell']) ?_)
  obtain ⟨q1, q2, q3, q4⟩ := HF.out
  refine bodyPost_ret (res_c2 Tryz.results33 _ _ w.heap.size _ _ rfl q1 Tryz.underlying27 rfl infoM) rfl ⟨A, cA, M, s', k, rfl, q2, HM.out, by omega, by omega, fun b o e => ⟨(HNE.out b o e).1, by have := (HNE.out b o e).2; have := HZ1.out; omega⟩, q3, q4⟩
end Go.Proofs.YtnjmjgnmbjbfpaaGreat
