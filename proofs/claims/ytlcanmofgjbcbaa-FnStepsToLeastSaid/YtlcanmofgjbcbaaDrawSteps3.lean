/- Contracts of DrawStepMany, DrawLeftMoves. -/
import Derived.Test.YtlcanmofgjbcbaaDrawSteps2
namespace Go.Proofs.Ytlcanmofgjbcbaa
set_option linter.unusedVariables false
set_option linter.unusedSimpArgs false
open Go.RowKit
attribute [local go_sem ↓] Go.wp_at_zero Go.wp_at_succ

set_option maxHeartbeats 1000000 in
set_option maxRecDepth 100000 in
theorem c_DrawStepMany (A : Option Addr) (n c : Nat) (w : World) (hc : Code_ w A n c) :
    Calls Try.prog 19 #[.slice A n c] w fun e w' => ∃ (vR : Value) (rf s : ByteArray) (l : List Rot) (x : Int), e = .returned (.tuple #[.agg #[vR, .string rf], .string s, .int .i64 x]) ∧ IsRots w' vR l ∧ rf.size ≤ 1000 ∧ s.size ≤ 1001 ∧ -1 ≤ x ∧ x ≤ 9223372036854775807 ∧ Below w.heap.size w w' := by
  have HC := Lib.hid (hc.ext (ext_alloc w (.cells #[.slice none 0 0, .string ByteArray.empty] 25)))
  clear hc
  go_enter Try.func19, Try.ntmps19
  go_wp2_with fail
  refine (c_l21Open A n c _ HC.out.1 HC.out.2.1 HC.out.2.2).mono ?_
  rintro e w1 ⟨g, rfl, hg, hr1, hb1⟩
  have hg' : w.heap.size + 1 ≤ g := by simpa using hg
  have K1 := Lib.hid ((Blk.new w 25 #[.slice none 0 0, .string ByteArray.empty]).ext hb1)
  have BL1 := Lib.hid ((ext_alloc w (.cells #[.slice none 0 0, .string ByteArray.empty] 25)).trans (hb1.mono (by simp)))
  have R1 := Lib.hid hr1
  have hgl1 := hr1.1
  clear hg hr1 hb1
  go_wp2_with fail
  refine (c_l7Some g 0 _ R1.out (by omega)).mono ?_
  rintro e w2 ⟨vR, rf, s, m, f, rfl, hrf, hm1, hm3, hs, _, ho, hok, hr2, hg2⟩
  obtain ⟨gR, cR, rfl, hgR1, hgR2⟩ := ho.at0 (by omega)
  have O2 := Lib.hid (ho.alloc (.cells #[.slice (some ⟨gR, 0, none⟩) m cR, .string rf] 25))
  have N2 := Lib.hid (Blk.new w2 25 #[.slice (some ⟨gR, 0, none⟩) m cR, .string rf])
  have R2 := Lib.hid (hr2.ext (ext_alloc w2 (.cells #[.slice (some ⟨gR, 0, none⟩) m cR, .string rf] 25)))
  have G2 := Lib.hid (grow_alloc hg2 (.cells #[.slice (some ⟨gR, 0, none⟩) m cR, .string rf] 25))
  have HOK := Lib.hid hok
  have hz : w1.heap.size ≤ (w2.alloc (.cells #[.slice (some ⟨gR, 0, none⟩) m cR, .string rf] 25)).heap.size := G2.out.size
  have hz2 : w1.heap.size ≤ w2.heap.size := hg2.size
  clear hr2 hg2 ho hok
  go_wp2_with fail
  refine (c_l7Bad g (0 + 250) w1.heap.size m _ rf s f w1 _ R2.out (by omega) (Nat.le_refl _) G2.out hgl1 hz O2.out HOK.out hm1 hm3 (by omega) (by omega) (by omega)).mono ?_
  rintro e w3 ⟨vR', rf', s', l, rfl, hl, hrf', hs', hne, hr3, hg3, hkp⟩
  obtain ⟨A', c', hv'⟩ := hl.form
  subst hv'
  have k3 := (hkp gR rfl).blk N2.out (by omega) (by omega)
  have x0 : w3.cell? ⟨w2.heap.size, 0, none⟩ = some (.slice (some ⟨gR, 0, none⟩) m cR) := k3.cell 0
  have x1 : w3.cell? ⟨w2.heap.size, 1, none⟩ = some (.string rf) := k3.cell 1
  have y0 := k3.free 0
  have y1 := k3.free 1
  have HF := Lib.hid (fin6b (rf := rf') k3 hl hr3 hg3 (by omega) hz2)
  have HK0 := Lib.hid (((K1.out.grown hg3 (by simp; omega)).far (p := ⟨w2.heap.size, 0, none⟩) (by simp; omega) (.slice A' l.length c')).far (p := ⟨w2.heap.size, 1, none⟩) (by simp; omega) (.string rf'))
  have hlt0 : w.heap.size < w2.heap.size := by omega
  clear k3 hl hg3 hr3 hkp O2 N2 R2 G2 hz
  go_wp2_with fail
  clear x0 x1 y0 y1
  obtain ⟨f0, f1, f2, f3, f4, f5⟩ := HF.out
  have k0 := HK0.out
  clear HF HK0
  generalize (w3.setCell ⟨w2.heap.size, 0, none⟩ (.slice A' l.length c')).setCell ⟨w2.heap.size, 1, none⟩ (.string rf') = W at *
  have F2 := Lib.hid f2
  have F3 := Lib.hid f3
  have F4 := Lib.hid f4
  have F5 := Lib.hid f5
  have K0 := Lib.hid k0
  have x0 := k0.cell 0
  have x1 := k0.cell 1
  have y0 := k0.free 0
  have y1 := k0.free 1
  clear f2 f3 f4 f5 k0
  go_region_law (first
    | (go_simp
       go_at_call 48
       refine (c_l7Number g (0 + 250 + 30) _ F3.out.drew (by omega)).mono ?_
       rintro e w5 ⟨x, rfl, hx0, hx1, hr5, hg5⟩
       have k5 := F5.out.drew.grown hg5 (by simp; omega)
       have p0 : w5.cell? ⟨w2.heap.size, 0, none⟩ = some (.slice A' l.length c') := k5.cell 0
       have p1 : w5.cell? ⟨w2.heap.size, 1, none⟩ = some (.string rf') := k5.cell 1
       have k6 := K0.out.drew.grown hg5 (by simp; omega)
       have p2 : w5.cell? ⟨w.heap.size, 0, none⟩ = some (.slice none 0 0) := k6.cell 0
       have p3 : w5.cell? ⟨w.heap.size, 1, none⟩ = some (.string ByteArray.empty) := k6.cell 1
       have p4 := k6.free 0
       have p5 := k6.free 1))
  all_goals
    have FI := Lib.hid (draw_finW (rf := rf') BL1.out (F4.out.trans ⟨hg5.os, hg5.tape, hg5.output, hg5.size, hg5.block⟩) (by omega) k6 (F2.out.grownNe ⟨hg5.os, hg5.tape, hg5.output, hg5.size, hg5.block⟩ hne))
    clear k5 k6 hr5 hg5
    go_wp2_with fail
    obtain ⟨f0, f1, f2, f3⟩ := FI.out
    exact bodyPost_ret (v := .tuple #[.agg #[.slice A' l.length c', .string rf'], .string s', .int .i64 x]) (by simp [results, Try.results19, go_sem, Act.put, f0, f1]) rfl ⟨_, rf', s', l, x, rfl, f2, hrf', hs', hx0, hx1, f3⟩
theorem c_DrawLeftMoves (A : Option Addr) (n c : Nat) (w : World) (hc : Code_ w A n c) :
    Calls Try.prog 25 #[.slice A n c] w fun e w' => ∃ (vR : Value) (rf s : ByteArray) (l : List Rot) (x : Int), e = .returned (.tuple #[.agg #[vR, .string rf], .string s, .int .i64 x]) ∧ IsRots w' vR l ∧ rf.size ≤ 1000 ∧ s.size ≤ 1001 ∧ -1 ≤ x ∧ x ≤ 9223372036854775807 ∧ Below w.heap.size w w' := by
  have HC := Lib.hid (hc.ext (ext_alloc w (.cells #[.slice none 0 0, .string ByteArray.empty] 25)))
  clear hc
  go_enter Try.func25, Try.ntmps25
  go_wp2_with fail
  refine (c_DrawStepMany A n c _ HC.out).mono ?_
  rintro e w3 ⟨vR', rf', s', l, x, rfl, hl, hrf', hs', hx0, hx1, hb3⟩
  obtain ⟨A', c', hv'⟩ := hl.form
  subst hv'
  have k3 := (Blk.new w 25 #[.slice none 0 0, .string ByteArray.empty]).ext hb3
  have x0 : w3.cell? ⟨w.heap.size, 0, none⟩ = some (.slice none 0 0) := k3.cell 0
  have x1 : w3.cell? ⟨w.heap.size, 1, none⟩ = some (.string ByteArray.empty) := k3.cell 1
  have y0 := k3.free 0
  have y1 := k3.free 1
  have HF := Lib.hid (draw_via (rf := rf') ((ext_alloc w (.cells #[.slice none 0 0, .string ByteArray.empty] 25)).trans (hb3.mono (by simp))) k3 hl)
  clear k3 hl hb3
  go_wp2_with fail
  obtain ⟨f0, f1, f2, f3⟩ := HF.out
  exact bodyPost_ret (v := .tuple #[.agg #[.slice A' l.length c', .string rf'], .string s', .int .i64 x]) (by simp [results, Try.results25, go_sem, f0, f1]) rfl ⟨_, rf', s', l, x, rfl, f2, hrf', hs', hx0, hx1, f3⟩
end Go.Proofs.Ytlcanmofgjbcbaa
