/- Contracts of DrawStepMoves, DrawStepWindows, DrawPeriodOf, DrawLeadIn, DrawStepMany, DrawLeftMoves. -/
import Derived.Test.YtlcanmofgjbcbaaDrawSteps
import Derived.Test.YtlcanmofgjbcbaaCoded
namespace Go.Proofs.Ytlcanmofgjbcbaa
set_option linter.unusedVariables false
set_option linter.unusedSimpArgs false
open Go.RowKit
attribute [local go_sem ↓] Go.wp_at_zero Go.wp_at_succ

/-- the results of a draw laid into their variable -/
theorem draw_finW {w w1 W : World} {g : Nat} {tc : TypeId} {A : Option Addr} {c : Nat} {rf : ByteArray} {l : List Rot} (hb : Below w.heap.size w w1) (hg : w1.grownBy W (some g)) (hw : w.heap.size ≤ g)
    (hk : Blk W w.heap.size tc #[.slice none 0 0, .string ByteArray.empty]) (hR : IsRots W (.slice A l.length c) l) :
    ((W.setCell ⟨w.heap.size, 0, none⟩ (.slice A l.length c)).setCell ⟨w.heap.size, 1, none⟩ (.string rf)).cell? ⟨w.heap.size, 0, none⟩ = some (.slice A l.length c) ∧
    ((W.setCell ⟨w.heap.size, 0, none⟩ (.slice A l.length c)).setCell ⟨w.heap.size, 1, none⟩ (.string rf)).cell? ⟨w.heap.size, 1, none⟩ = some (.string rf) ∧
    IsRots ((W.setCell ⟨w.heap.size, 0, none⟩ (.slice A l.length c)).setCell ⟨w.heap.size, 1, none⟩ (.string rf)) (.slice A l.length c) l ∧
    Below w.heap.size w ((W.setCell ⟨w.heap.size, 0, none⟩ (.slice A l.length c)).setCell ⟨w.heap.size, 1, none⟩ (.string rf)) := by
  have k1 := hk.set 0 (.slice A l.length c)
  have k2 := k1.set 1 (.string rf)
  exact ⟨k2.cell 0, k2.cell 1, (hR.setBox hk _).setBox k1 _, below_set (below_set (below_of_grown hb hg hw) _) _⟩

set_option maxHeartbeats 400000 in
theorem c_DrawStepMoves (A : Option Addr) (n c : Nat) (w : World) (hc : Code_ w A n c) :
    Calls Try.prog 38 #[.slice A n c] w fun e w' => ∃ (vR : Value) (rf s : ByteArray) (l : List Rot), e = .returned (.tuple #[.agg #[vR, .string rf], .string s]) ∧ IsRots w' vR l ∧ rf.size ≤ 1000 ∧ s.size ≤ 1001 ∧ Below w.heap.size w w' := by
  have HC := Lib.hid (hc.ext (ext_alloc w (.cells #[.slice none 0 0, .string ByteArray.empty] 25)))
  clear hc
  go_enter Try.func38, Try.ntmps38
  go_wp2_with fail
  refine (c_l21Open A n c _ HC.out.1 HC.out.2.1 HC.out.2.2).mono ?_
  rintro e w1 ⟨g, rfl, hg, hr1, hb1⟩
  have hg' : w.heap.size + 1 ≤ g := by simpa using hg
  have K1 := Lib.hid ((Blk.new w 25 #[.slice none 0 0, .string ByteArray.empty]).ext hb1)
  have BL1 := Lib.hid ((ext_alloc w (.cells #[.slice none 0 0, .string ByteArray.empty] 25)).trans (hb1.mono (by simp)))
  have R1 := Lib.hid hr1
  have hgl1 := hr1.1
  clear hg hr1 hb1
  go_wp2_with fail
  refine (c_l7Some g 0 _ R1.out (by omega)).mono ?_
  rintro e w2 ⟨vR, rf, s, m, f, rfl, hrf, hm1, hm3, hs, _, ho, hok, hr2, hg2⟩
  obtain ⟨gR, cR, rfl, hgR1, hgR2⟩ := ho.at0 (by omega)
  have K2 := Lib.hid ((K1.out.grown hg2 (by simp; omega)).alloc (.cells #[.slice (some ⟨gR, 0, none⟩) m cR, .string rf] 25))
  have O2 := Lib.hid (ho.alloc (.cells #[.slice (some ⟨gR, 0, none⟩) m cR, .string rf] 25))
  have R2 := Lib.hid (hr2.ext (ext_alloc w2 (.cells #[.slice (some ⟨gR, 0, none⟩) m cR, .string rf] 25)))
  have G2 := Lib.hid (grow_alloc hg2 (.cells #[.slice (some ⟨gR, 0, none⟩) m cR, .string rf] 25))
  have HOK := Lib.hid hok
  have hz : w1.heap.size ≤ (w2.alloc (.cells #[.slice (some ⟨gR, 0, none⟩) m cR, .string rf] 25)).heap.size := G2.out.size
  clear hr2 hg2 ho hok
  go_wp2_with fail
  refine (c_l7Bad g (0 + 250) w1.heap.size m _ rf s f w1 _ R2.out (by omega) (Nat.le_refl _) G2.out hgl1 hz O2.out HOK.out hm1 hm3 (by omega) (by omega) (by omega)).mono ?_
  rintro e w3 ⟨vR', rf', s', l, rfl, hl, hrf', hs', hne, hr3, hg3, _⟩
  obtain ⟨A', c', hv'⟩ := hl.form
  subst hv'
  have k3 := K1.out.grown hg3 (by simp; omega)
  have x0 : w3.cell? ⟨w.heap.size, 0, none⟩ = some (.slice none 0 0) := k3.cell 0
  have x1 : w3.cell? ⟨w.heap.size, 1, none⟩ = some (.string ByteArray.empty) := k3.cell 1
  have y0 := k3.free 0
  have y1 := k3.free 1
  have HF := Lib.hid (draw_finW (rf := rf') BL1.out hg3 (by omega) k3 hl)
  clear k3 hl hg3 hr3
  go_wp2_with fail
  obtain ⟨f0, f1, f2, f3⟩ := HF.out
  exact bodyPost_ret (v := .tuple #[.agg #[.slice A' l.length c', .string rf'], .string s']) (by simp [results, Try.results38, go_sem, f0, f1]) rfl ⟨_, rf', s', l, rfl, f2, hrf', hs', f3⟩

theorem draw_via {w W : World} {tc : TypeId} {A : Option Addr} {c : Nat} {rf : ByteArray} {l : List Rot} (hb : Below w.heap.size w W) (hk : Blk W w.heap.size tc #[.slice none 0 0, .string ByteArray.empty]) (hR : IsRots W (.slice A l.length c) l) :
    ((W.setCell ⟨w.heap.size, 0, none⟩ (.slice A l.length c)).setCell ⟨w.heap.size, 1, none⟩ (.string rf)).cell? ⟨w.heap.size, 0, none⟩ = some (.slice A l.length c) ∧
    ((W.setCell ⟨w.heap.size, 0, none⟩ (.slice A l.length c)).setCell ⟨w.heap.size, 1, none⟩ (.string rf)).cell? ⟨w.heap.size, 1, none⟩ = some (.string rf) ∧
    IsRots ((W.setCell ⟨w.heap.size, 0, none⟩ (.slice A l.length c)).setCell ⟨w.heap.size, 1, none⟩ (.string rf)) (.slice A l.length c) l ∧
    Below w.heap.size w ((W.setCell ⟨w.heap.size, 0, none⟩ (.slice A l.length c)).setCell ⟨w.heap.size, 1, none⟩ (.string rf)) := by
  have k1 := hk.set 0 (.slice A l.length c)
  have k2 := k1.set 1 (.string rf)
  exact ⟨k2.cell 0, k2.cell 1, (hR.setBox hk _).setBox k1 _, below_set (below_set hb _) _⟩
theorem c_DrawStepWindows (A : Option Addr) (n c : Nat) (w : World) (hc : Code_ w A n c) :
    Calls Try.prog 30 #[.slice A n c] w fun e w' => ∃ (vR : Value) (rf s : ByteArray) (l : List Rot), e = .returned (.tuple #[.agg #[vR, .string rf], .string s]) ∧ IsRots w' vR l ∧ rf.size ≤ 1000 ∧ s.size ≤ 1001 ∧ Below w.heap.size w w' := by
  have HC := Lib.hid (hc.ext (ext_alloc w (.cells #[.slice none 0 0, .string ByteArray.empty] 25)))
  clear hc
  go_enter Try.func30, Try.ntmps30
  go_wp2_with fail
  refine (c_DrawStepMoves A n c _ HC.out).mono ?_
  rintro e w3 ⟨vR', rf', s', l, rfl, hl, hrf', hs', hb3⟩
  obtain ⟨A', c', hv'⟩ := hl.form
  subst hv'
  have k3 := (Blk.new w 25 #[.slice none 0 0, .string ByteArray.empty]).ext hb3
  have x0 : w3.cell? ⟨w.heap.size, 0, none⟩ = some (.slice none 0 0) := k3.cell 0
  have x1 : w3.cell? ⟨w.heap.size, 1, none⟩ = some (.string ByteArray.empty) := k3.cell 1
  have y0 := k3.free 0
  have y1 := k3.free 1
  have HF := Lib.hid (draw_via (rf := rf') ((ext_alloc w (.cells #[.slice none 0 0, .string ByteArray.empty] 25)).trans (hb3.mono (by simp))) k3 hl)
  clear k3 hl hb3
  go_wp2_with fail
  obtain ⟨f0, f1, f2, f3⟩ := HF.out
  exact bodyPost_ret (v := .tuple #[.agg #[.slice A' l.length c', .string rf'], .string s']) (by simp [results, Try.results30, go_sem, f0, f1]) rfl ⟨_, rf', s', l, rfl, f2, hrf', hs', f3⟩
theorem c_DrawPeriodOf (A : Option Addr) (n c : Nat) (w : World) (hc : Code_ w A n c) :
    Calls Try.prog 12 #[.slice A n c] w fun e w' => ∃ (vR : Value) (rf s : ByteArray) (l : List Rot), e = .returned (.tuple #[.agg #[vR, .string rf], .string s]) ∧ IsRots w' vR l ∧ rf.size ≤ 1000 ∧ s.size ≤ 1001 ∧ Below w.heap.size w w' := by
  have HC := Lib.hid (hc.ext (ext_alloc w (.cells #[.slice none 0 0, .string ByteArray.empty] 25)))
  clear hc
  go_enter Try.func12, Try.ntmps12
  go_wp2_with fail
  refine (c_DrawStepMoves A n c _ HC.out).mono ?_
  rintro e w3 ⟨vR', rf', s', l, rfl, hl, hrf', hs', hb3⟩
  obtain ⟨A', c', hv'⟩ := hl.form
  subst hv'
  have k3 := (Blk.new w 25 #[.slice none 0 0, .string ByteArray.empty]).ext hb3
  have x0 : w3.cell? ⟨w.heap.size, 0, none⟩ = some (.slice none 0 0) := k3.cell 0
  have x1 : w3.cell? ⟨w.heap.size, 1, none⟩ = some (.string ByteArray.empty) := k3.cell 1
  have y0 := k3.free 0
  have y1 := k3.free 1
  have HF := Lib.hid (draw_via (rf := rf') ((ext_alloc w (.cells #[.slice none 0 0, .string ByteArray.empty] 25)).trans (hb3.mono (by simp))) k3 hl)
  clear k3 hl hb3
  go_wp2_with fail
  obtain ⟨f0, f1, f2, f3⟩ := HF.out
  exact bodyPost_ret (v := .tuple #[.agg #[.slice A' l.length c', .string rf'], .string s']) (by simp [results, Try.results12, go_sem, f0, f1]) rfl ⟨_, rf', s', l, rfl, f2, hrf', hs', f3⟩
theorem c_DrawLeadIn (A : Option Addr) (n c : Nat) (w : World) (hc : Code_ w A n c) :
    Calls Try.prog 16 #[.slice A n c] w fun e w' => ∃ (vR : Value) (rf s : ByteArray) (l : List Rot), e = .returned (.tuple #[.agg #[vR, .string rf], .string s]) ∧ IsRots w' vR l ∧ rf.size ≤ 1000 ∧ s.size ≤ 1001 ∧ Below w.heap.size w w' := by
  have HC := Lib.hid (hc.ext (ext_alloc w (.cells #[.slice none 0 0, .string ByteArray.empty] 25)))
  clear hc
  go_enter Try.func16, Try.ntmps16
  go_wp2_with fail
  refine (c_DrawStepMoves A n c _ HC.out).mono ?_
  rintro e w3 ⟨vR', rf', s', l, rfl, hl, hrf', hs', hb3⟩
  obtain ⟨A', c', hv'⟩ := hl.form
  subst hv'
  have k3 := (Blk.new w 25 #[.slice none 0 0, .string ByteArray.empty]).ext hb3
  have x0 : w3.cell? ⟨w.heap.size, 0, none⟩ = some (.slice none 0 0) := k3.cell 0
  have x1 : w3.cell? ⟨w.heap.size, 1, none⟩ = some (.string ByteArray.empty) := k3.cell 1
  have y0 := k3.free 0
  have y1 := k3.free 1
  have HF := Lib.hid (draw_via (rf := rf') ((ext_alloc w (.cells #[.slice none 0 0, .string ByteArray.empty] 25)).trans (hb3.mono (by simp))) k3 hl)
  clear k3 hl hb3
  go_wp2_with fail
  obtain ⟨f0, f1, f2, f3⟩ := HF.out
  exact bodyPost_ret (v := .tuple #[.agg #[.slice A' l.length c', .string rf'], .string s']) (by simp [results, Try.results16, go_sem, f0, f1]) rfl ⟨_, rf', s', l, rfl, f2, hrf', hs', f3⟩
end Go.Proofs.Ytlcanmofgjbcbaa
