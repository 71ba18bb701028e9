/- The walks of the laws on periods and lead-ins: each returns true. -/
import Derived.Test.YtlcanmofgjbcbaaLawStepsB
namespace Go.Proofs.Ytlcanmofgjbcbaa
set_option linter.unusedVariables false
set_option linter.unusedSimpArgs false
open Go.RowKit
attribute [local go_sem] Ext.cell
open BigFrame

set_option maxHeartbeats 1000000 in
set_option maxRecDepth 100000 in
theorem walk_FnStepsToAny (a0 : Option Addr) (len0 cap0 : Nat) (z0 : List Int) (w : World) (w0 : IsRowB w a0 len0 cap0 z0) :
    Calls Try.prog 5 #[.slice a0 len0 cap0] w fun e w' => e = .returned (.bool true) ∧ Below w.heap.size w w' := by
  by_cases hl0 : 1048576 < len0
  · clear w0
    go_enter Try.func5, Try.ntmps5
    go_wp2_with fail
    go_ret
    exact ⟨rfl, Below.refl _ _⟩
  · have HC := Lib.hid (code_of w0 (by omega))
    clear w0
    go_enter Try.func5, Try.ntmps5
    go_wp2_with fail
    refine (c_DrawStepMany a0 len0 cap0 _ HC.out).mono ?_
    rintro e w1 ⟨vR, rf, s, l, x, rfl, hR, hrf, hs, hx0, hx1, hb1⟩
    obtain ⟨A, cA, hv⟩ := hR.form
    subst hv
    have L1 := Lib.hid (LW.start rf hb1 hR)
    clear hR hb1 HC
    have x0 := L1.out.c0
    have x1 := L1.out.c1
    go_wp2_with fail
    refine (c_StepMany _ l rf s x _ L1.out.rot (by omega) (by omega)).mono ?_
    rintro e w2 ⟨rfl, hb2⟩
    have L2 := Lib.hid (L1.out.ext hb2)
    clear hb2 x0 x1 L1
    have x0 := L2.out.c0
    have x1 := L2.out.c1
    rcases manyOk_cases l rf s x with ⟨h1, hr⟩ | ⟨h1, h2, hr⟩ | ⟨h1, h2, h3, hr⟩ | ⟨h1, N, rfl, h2, hr⟩
    case inr.inr.inr =>
      rw [manyR_ok hr, Int.toNat_natCast]
      have HW := Lib.hid h1
      have HR := Lib.hid hr
      have hz : (it (stepS l) N s).size ≤ 1001 := by rw [it_size]; exact hs
      clear h1 hr
      go_wp2_with fail
      refine (c_sStepMany _ l rf s N _ L2.out.rot (by omega) (by omega)).mono ?_
      rintro e w3 ⟨rfl, hb3⟩
      rw [manyR_ok HR.out, Int.toNat_natCast]
      have L3 := Lib.hid (L2.out.ext hb3)
      clear hb3 x0 x1 L2
      have x0 := L3.out.c0
      have x1 := L3.out.c1
      obtain ⟨k, hk, hkN, hkm, hke, hkd, _⟩ := to_it HW.out N
      obtain ⟨p, hp⟩ : ∃ p, perN' (stepS l) s = p := ⟨_, rfl⟩
      have hp1 : 1 ≤ p := by rw [← hp]; exact (win_rho' HW.out).1.1
      have hp2 : p ≤ 1000 := by rw [← hp]; have := (win_rho' HW.out).2.2; omega
      have EP : Hid (perR l rf s = (p : Int)) := by show perR l rf s = _; unfold perR; rw [if_pos HW.out, hp]
      have EK := Lib.hid hk
      rw [hp] at hkd
      have hq : ((N : Int) - (k : Int)).tmod (p : Int) = 0 := by
        rw [Int.tmod_eq_emod_of_nonneg (by omega), ← Int.ofNat_sub hkN]
        exact_mod_cast Nat.mod_eq_zero_of_dvd hkd
      have hz : ¬ (p : Int) = 0 := by omega
      have hq2 : ((N : Int) - (k : Int)) % (p : Int) = 0 := by rw [← Int.tmod_eq_emod_of_nonneg (by omega)]; exact hq
      have t1 : decide ((k : Int) ≤ (N : Int)) = true := by simp; omega
      clear hk hkm hke hkd hp
      go_wp2_with fail
      refine (c_StepsTo _ l rf s _ _ L3.out.rot (by omega) (by omega) (by omega)).mono ?_
      rintro e w4 ⟨rfl, hb4⟩
      rw [EK.out]
      have L4 := Lib.hid (L3.out.ext hb4)
      clear hb4 x0 x1 L3
      have x0 := L4.out.c0
      have x1 := L4.out.c1
      go_wp2_with fail
      refine (c_PeriodOf _ l rf s _ L4.out.rot (by omega) (by omega)).mono ?_
      rintro e w5 ⟨rfl, hb5⟩
      rw [EP.out]
      have L5 := Lib.hid (L4.out.ext hb5)
      clear hb5 x0 x1 L4
      have x0 := L5.out.c0
      have x1 := L5.out.c1
      go_wp2_with fail
      go_ret
      exact ⟨rfl, L5.out.bel⟩
    all_goals
      rw [manyR_no hr]
      have HR := Lib.hid hr
      clear hr h1
      go_wp2_with fail
      refine (c_sStepMany _ l rf s x _ L2.out.rot (by omega) (by omega)).mono ?_
      rintro e w3 ⟨rfl, hb3⟩
      rw [manyR_no HR.out]
      have L3 := Lib.hid (L2.out.ext hb3)
      clear hb3 x0 x1 L2
      have x0 := L3.out.c0
      have x1 := L3.out.c1
      go_wp2_with fail
      go_ret
      exact ⟨rfl, L3.out.bel⟩
end Go.Proofs.Ytlcanmofgjbcbaa
