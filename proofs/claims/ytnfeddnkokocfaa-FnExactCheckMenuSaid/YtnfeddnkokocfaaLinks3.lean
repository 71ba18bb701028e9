/- l13Fits; facts of a menu. -/
import Derived.Test.YtnfeddnkokocfaaLinks2
import Derived.Test.YtnfeddnkokocfaaSpecMach3
namespace Go.Proofs.Ytnfeddnkokocfaa
set_option linter.unusedVariables false
set_option linter.unusedSimpArgs false
open Go.RowKit

theorem menuB_facts {l : List Lnk} (h : menuB l = true) : 1 ≤ l.length ∧ l.length ≤ 12 ∧ ∀ k, k < l.length → linkB (lastL l k) (gL l k) = true := by
  unfold menuB at h
  simp only [Bool.and_eq_true, decide_eq_true_eq] at h
  exact ⟨h.1.1, h.1.2, fun k hk => (allB_iff _ _).1 h.2 k hk⟩
theorem menu_step {l : List Lnk} (h : menuB l = true) {k : Nat} (hk : k + 1 < l.length) : (gL l k).2.2 < (gL l (k + 1)).2.2 := by
  have := ((linkB_iff _ _).1 ((menuB_facts h).2.2 (k + 1) hk)).2.2.2.2.1
  have e : lastL l (k + 1) = (gL l k).2.2 := rfl
  rwa [e] at this
theorem menu_range {l : List Lnk} (h : menuB l = true) {k : Nat} (hk : k < l.length) : 1 ≤ (gL l k).2.2 ∧ (gL l k).2.2 ≤ 60 := by
  refine ⟨?_, ((linkB_iff _ _).1 ((menuB_facts h).2.2 k hk)).2.2.2.2.2⟩
  induction k with
  | zero =>
    have := ((linkB_iff _ _).1 ((menuB_facts h).2.2 0 hk)).2.2.2.2.1
    have e : lastL l 0 = 0 := rfl
    rw [e] at this
    omega
  | succ k ih =>
    have a := ih (by omega)
    have b := menu_step h hk
    omega
theorem menu_mono {l : List Lnk} (h : menuB l = true) {i j : Nat} (hij : i ≤ j) (hj : j < l.length) : (gL l i).2.2 ≤ (gL l j).2.2 := by
  induction j with
  | zero => rw [show i = 0 by omega]; exact Int.le_refl _
  | succ j ih =>
    by_cases e : i = j + 1
    · rw [e]; exact Int.le_refl _
    · have a := ih (by omega) (by omega)
      have b := menu_step h hj
      omega
set_option maxHeartbeats 1000000 in
theorem c_l13Fits (A : Option Addr) (cA : Nat) (M : Mch) (s : ByteArray) (v : Value) (l : List Lnk) (w : World) (hR : IsRots w (.slice A M.l.length cA) M.l) (hz : MSz M) (hs : s.size ≤ 9223372036854775807) (hL : IsLinks w v l) : Calls Try.prog 76 #[mV A cA M, .string s, v] w fun e w' => e = .returned (.bool (setB M s && menuB l)) ∧ Below w.heap.size w w' := by
  have L0 := Lib.hid (MW.start M (Below.refl w.heap.size w) hR)
  have V0 := Lib.hid (hL.ext (ext_alloc w (.cells #[.slice A M.l.length cA, .string M.rf, .string M.rg, .string M.pl] 33)))
  have HZ := Lib.hid hz
  clear hR hz hL
  go_enter Try.func76, Try.ntmps76
  have y0 := L0.out.c0
  have y1 := L0.out.c1
  have y2 := L0.out.c2
  have y3 := L0.out.c3
  go_wp2_with fail
  refine (c_l8Fits A cA M s _ L0.out.rot HZ.out hs).mono ?_
  rintro e w1 ⟨rfl, hb1⟩
  have L1 := Lib.hid (L0.out.ext hb1)
  have V1 := Lib.hid (V0.out.ext hb1)
  clear hb1 y0 y1 y2 y3 L0 V0
  cases h1 : setB M s with
  | false =>
    have HE : Hid ((setB M s && menuB l) = false) := by show _ = _; rw [h1]; rfl
    clear h1
    go_wp2_with fail
    go_ret
    exact ⟨by rw [HE.out]; rfl, L1.out.bel⟩
  | true =>
    have HE : Hid ((setB M s && menuB l) = menuB l) := by show _ = _; rw [h1]; rfl
    clear h1
    go_wp2_with fail
    refine (c_sMenuValid v l _ V1.out).mono ?_
    rintro e w2 ⟨rfl, hb2⟩
    have L2 := Lib.hid (L1.out.ext hb2)
    clear hb2
    go_wp2_with fail
    go_ret
    exact ⟨by rw [HE.out]; rfl, L2.out.bel⟩
end Go.Proofs.Ytnfeddnkokocfaa
