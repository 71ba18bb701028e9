/- Contract of DrawStepsTo. -/
import Derived.Test.YtlcanmofgjbcbaaDrawSteps2
import Derived.Test.YtlcanmofgjbcbaaSpecSteps
namespace Go.Proofs.Ytlcanmofgjbcbaa
set_option linter.unusedVariables false
set_option linter.unusedSimpArgs false
open Go.RowKit
attribute [local go_sem ↓] Go.wp_at_zero Go.wp_at_succ

theorem OwnR.list {n : Nat} {f : Nat → Rot} (hn : n ≤ 1000000) (hs : ∀ k, k < n → (f k).1.size ≤ 1000000 ∧ (f k).2.size ≤ 1000000) : ∃ l : List Rot, l.length = n ∧ ∀ (w : World) (B : Nat) (v : Value), OwnR w B v n f → IsRots w v l :=
  ⟨(List.range n).map f, by simp, fun _ _ _ h => h.toRots hn hs⟩
/-- windows of wheels that may not be valid -/
def winV (l : List Rot) (s : ByteArray) : Prop := 1 ≤ s.size ∧ s.size ≤ 3 ∧ s.size = l.length ∧ wv s = true
theorem winV.it {l : List Rot} {s : ByteArray} (h : winV l s) (n : Nat) : winV l (it (stepS l) n s) := by
  obtain ⟨h1, h2, h3, h4⟩ := h
  exact ⟨by rw [it_size]; exact h1, by rw [it_size]; exact h2, by rw [it_size]; exact h3, it_wv l n h4⟩
set_option maxHeartbeats 400000 in
theorem c_l7WalkV (A : Option Addr) (cA : Nat) (l : List Rot) (rf s : ByteArray) (n : Nat) (w : World) (hR : IsRots w (.slice A l.length cA) l) (h : winV l s) (hn : n ≤ 9223372036854775807) : Calls Try.prog 43 #[.agg #[.slice A l.length cA, .string rf], .string s, .int .i64 n] w fun e w' => e = .returned (.string (it (stepS l) n s)) ∧ Below w.heap.size w w' := by
  have I0 := Lib.hid (WInv.start rf hR)
  have H := Lib.hid h
  clear hR h
  go_enter Try.func43, Try.ntmps43
  go_wp2_with fail
  go_loopw [1, 2] (fun x i wr => ∃ k q : Nat, k + q = n ∧ i = .int .i64 q ∧ x = .string (it (stepS l) k s) ∧ WInv w wr A cA l rf) (fun _ i _ => (intOf i).toNat)
  case atStart => exact ⟨0, n, by omega, rfl, rfl, I0.out⟩
  case round =>
    obtain ⟨k, q, hk, rfl, rfl, hi⟩ := hrel
    have HI := Lib.hid hi
    have y0 := hi.c0
    have y1 := hi.c1
    clear hi
    by_cases hq : 0 < q
    · go_wp2_with fail
      refine (c_l7Step A cA l rf _ _ HI.out.rot (H.out.it k).1 (H.out.it k).2.1 (H.out.it k).2.2.1 (H.out.it k).2.2.2).mono ?_
      rintro e w2 ⟨rfl, hb2⟩
      have HI2 := Lib.hid (HI.out.ext hb2)
      clear hb2 y0 y1
      go_wp2_with fail
      exact ⟨⟨k + 1, q - 1, by omega, by congr 1; omega, rfl, HI2.out⟩, by simp [intOf]; omega⟩
    · have e : q = 0 := by omega
      subst e
      have e2 : k = n := by omega
      subst e2
      go_wp2_with fail
      go_ret
      exact ⟨rfl, HI.out.bel⟩
set_option maxHeartbeats 1000000 in
set_option maxRecDepth 100000 in
theorem c_DrawStepsTo (A : Option Addr) (n c : Nat) (w : World) (hc : Code_ w A n c) :
    Calls Try.prog 28 #[.slice A n c] w fun e w' => ∃ (vR : Value) (rf s t : ByteArray) (l : List Rot), e = .returned (.tuple #[.agg #[vR, .string rf], .string s, .string t]) ∧ IsRots w' vR l ∧ rf.size ≤ 1000 ∧ s.size ≤ 1001 ∧ t.size ≤ 1001 ∧ Below w.heap.size w w' := by
  have HC := Lib.hid (hc.ext (ext_alloc w (.cells #[.slice none 0 0, .string ByteArray.empty] 25)))
  clear hc
  go_enter Try.func28, Try.ntmps28
  go_wp2_with fail
  refine (c_l21Open A n c _ HC.out.1 HC.out.2.1 HC.out.2.2).mono ?_
  rintro e w1 ⟨g, rfl, hg, hr1, hb1⟩
  have hg' : w.heap.size + 1 ≤ g := by simpa using hg
  have K1 := Lib.hid ((Blk.new w 25 #[.slice none 0 0, .string ByteArray.empty]).ext hb1)
  have BL1 := Lib.hid ((ext_alloc w (.cells #[.slice none 0 0, .string ByteArray.empty] 25)).trans (hb1.mono (by simp)))
  have R1 := Lib.hid hr1
  have hgl1 := hr1.1
  clear hg hr1 hb1
  go_wp2_with fail
  refine (c_l7Some g 0 _ R1.out (by omega)).mono ?_
  rintro e w2 ⟨vR, rf, s, m, f, rfl, hrf, hm1, hm3, hs, hls, ho, hok, hr2, hg2⟩
  obtain ⟨gR, cR, rfl, hgR1, hgR2⟩ := ho.at0 (by omega)
  obtain ⟨l0, hl0, hlR⟩ := OwnR.list (n := m) (f := f) (by omega) (fun k hk => by have := hok k hk; omega)
  subst hl0
  have HLR := Lib.hid hlR
  have HV : Hid (winV l0 s) := ⟨by omega, by omega, hs, ltr_wv hls (by omega)⟩
  have O2 := Lib.hid (ho.alloc (.cells #[.slice (some ⟨gR, 0, none⟩) l0.length cR, .string rf] 25))
  have N2 := Lib.hid (Blk.new w2 25 #[.slice (some ⟨gR, 0, none⟩) l0.length cR, .string rf])
  have R2 := Lib.hid (hr2.ext (ext_alloc w2 (.cells #[.slice (some ⟨gR, 0, none⟩) l0.length cR, .string rf] 25)))
  have G2 := Lib.hid (grow_alloc hg2 (.cells #[.slice (some ⟨gR, 0, none⟩) l0.length cR, .string rf] 25))
  have HOK := Lib.hid hok
  have hz2 : w1.heap.size ≤ w2.heap.size := hg2.size
  have hs1 : 1 ≤ s.size := by omega
  have hs3 : s.size ≤ 3 := by omega
  clear hr2 hg2 ho hok hls hlR hs
  go_wp2_with fail
  refine (c_l1Some g (0 + 250) s.size _ R2.out (by omega) (by omega)).mono ?_
  rintro e w3 ⟨t, rfl, ht, _, hr3, hg3⟩
  have O3 := Lib.hid (O2.out.keptB hg3 (by omega))
  have N3 := Lib.hid (N2.out.grown hg3 (by simp; omega))
  have R3 := Lib.hid hr3
  have G3 := Lib.hid (G2.out.trans hg3)
  clear hr3 hg3 O2 N2 R2 G2
  go_wp2_with fail
  refine (c_pick g (0 + 250 + s.size) _ _ R3.out (by omega) (by omega) (by omega)).mono ?_
  rintro e w4 ⟨q, rfl, hq, hr4, hg4⟩
  have O4 := Lib.hid (O3.out.keptB hg4 (by omega))
  have N4 := Lib.hid (N3.out.grown hg4 (by simp; omega))
  have R4 := Lib.hid hr4
  have G4 := Lib.hid (G3.out.trans hg4)
  have K4 := Lib.hid (K1.out.grown G4.out (by simp; omega))
  clear hr4 hg4 O3 N3 R3 G3
  go_upto_if 22 with (fail)
  go_cut [8] (fun o wx => ∃ (t : ByteArray), o = .string t ∧ t.size ≤ 1001 ∧ OwnR wx w1.heap.size (.slice (some ⟨gR, 0, none⟩) l0.length cR) l0.length f ∧ Blk wx w2.heap.size 25 #[.slice (some ⟨gR, 0, none⟩) l0.length cR, .string rf] ∧ Rd wx g (0 + 250 + s.size + 2) ∧ w1.grownBy wx (some g))
  case first =>
    by_cases q0 : q = 0
    · have t0 : ((q : Int) == 0) = true := by simp [q0]
      clear q0
      have c0 : w4.cell? ⟨w2.heap.size, 0, none⟩ = some (.slice (some ⟨gR, 0, none⟩) l0.length cR) := N4.out.cell 0
      have c1 : w4.cell? ⟨w2.heap.size, 1, none⟩ = some (.string rf) := N4.out.cell 1
      go_wp2_with fail
      go_region_law (first
        | (go_simp
           go_at_call 54
           refine (c_pick g (0 + 250 + s.size + 1) _ _ R4.out.drew (by omega) (by omega) (by omega)).mono ?_
           rintro e w5 ⟨y, rfl, hy, hr5, hg5⟩
           have k5 := N4.out.drew.grown hg5 (by simp; omega)
           have p0 : w5.cell? ⟨w2.heap.size, 0, none⟩ = some (.slice (some ⟨gR, 0, none⟩) l0.length cR) := k5.cell 0
           have p1 : w5.cell? ⟨w2.heap.size, 1, none⟩ = some (.string rf) := k5.cell 1)
        | (go_simp
           go_at_call 43
           refine (c_l7WalkV (some ⟨gR, 0, none⟩) cR l0 rf s y w5 (HLR.out _ _ _ (O4.out.drew.keptB hg5 (by omega))) HV.out (by omega)).mono ?_
           rintro e w6 ⟨rfl, hb6⟩))
      all_goals
        have O6 := Lib.hid ((O4.out.drew.keptB hg5 (by omega)).ext hb6)
        have N6 := Lib.hid (k5.ext hb6)
        have R6 := Lib.hid (hr5.ext hb6)
        have G6 := Lib.hid (grow_ext2 (G4.out.trans ⟨hg5.os, hg5.tape, hg5.output, hg5.size, hg5.block⟩) hb6)
        clear hr5 hg5 hb6 k5 p0 p1 c0 c1
        go_wp2_with fail
        go_meet
        case rel => exact ⟨_, rfl, by rw [it_size]; omega, O6.out, N6.out, R6.out, G6.out⟩
    · have t0 : ((q : Int) == 0) = false := by simp [q0]
      clear q0
      go_wp2_with fail
      go_meet
      case rel => exact ⟨t, rfl, by omega, O4.out, N4.out, R4.out.more (by omega), G4.out⟩
  case rest =>
    obtain ⟨t, rfl, ht, ho, hn, hr, hgr⟩ := hcut
    have O5 := Lib.hid ho
    have N5 := Lib.hid hn
    have R5 := Lib.hid hr
    have G5 := Lib.hid hgr
    have hz : w1.heap.size ≤ wc.heap.size := hgr.size
    have c0 : wc.cell? ⟨w2.heap.size, 0, none⟩ = some (.slice (some ⟨gR, 0, none⟩) l0.length cR) := hn.cell 0
    have c1 : wc.cell? ⟨w2.heap.size, 1, none⟩ = some (.string rf) := hn.cell 1
    clear ho hn hr hgr O4 N4 R4 G4 K4
    go_wp2_with fail
    refine (c_l7Bad g (0 + 250 + s.size + 2) w1.heap.size l0.length _ rf s f w1 _ R5.out (by omega) (Nat.le_refl _) G5.out hgl1 hz O5.out HOK.out hm1 hm3 (by omega) (by omega) (by omega)).mono ?_
    rintro e w3 ⟨vR', rf', s', l, rfl, hl, hrf', hs', hne, hr3, hg3, hkp⟩
    obtain ⟨A', c', hv'⟩ := hl.form
    subst hv'
    have k3 := (hkp gR rfl).blk N5.out (by omega) (by omega)
    have x0 : w3.cell? ⟨w2.heap.size, 0, none⟩ = some (.slice (some ⟨gR, 0, none⟩) l0.length cR) := k3.cell 0
    have x1 : w3.cell? ⟨w2.heap.size, 1, none⟩ = some (.string rf) := k3.cell 1
    have y0 := k3.free 0
    have y1 := k3.free 1
    have HF := Lib.hid (fin6b (rf := rf') k3 hl hr3 hg3 (by omega) hz2)
    have HK0 := Lib.hid (((K1.out.grown hg3 (by simp; omega)).far (p := ⟨w2.heap.size, 0, none⟩) (by simp; omega) (.slice A' l.length c')).far (p := ⟨w2.heap.size, 1, none⟩) (by simp; omega) (.string rf'))
    have hlt0 : w.heap.size < w2.heap.size := by omega
    clear k3 hl hg3 hr3 hkp O5 N5 R5 G5 hz c0 c1
    go_upto_region 7 with (fail)
    clear x0 x1 y0 y1
    obtain ⟨f0, f1, f2, f3, f4, f5⟩ := HF.out
    have k0 := HK0.out
    clear HF HK0
    generalize (w3.setCell ⟨w2.heap.size, 0, none⟩ (.slice A' l.length c')).setCell ⟨w2.heap.size, 1, none⟩ (.string rf') = W at *
    have FI := Lib.hid (draw_finW (rf := rf') BL1.out f4 (by omega) k0 f2)
    have x0 := k0.cell 0
    have x1 := k0.cell 1
    have y0 := k0.free 0
    have y1 := k0.free 1
    clear f2 f3 f4 f5 k0
    go_wp2_with fail
    obtain ⟨f0, f1, f2, f3⟩ := FI.out
    exact bodyPost_ret (v := .tuple #[.agg #[.slice A' l.length c', .string rf'], .string s', .string t]) (by simp [results, Try.results28, go_sem, f0, f1]) rfl ⟨_, rf', s', t, l, rfl, f2, hrf', hs', ht, f3⟩
end Go.Proofs.Ytlcanmofgjbcbaa
