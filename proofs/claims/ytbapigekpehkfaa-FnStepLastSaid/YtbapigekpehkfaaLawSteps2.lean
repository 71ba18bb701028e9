/- The walks of the laws on steps: each returns true. -/
import Derived.Test.YtbapigekpehkfaaLawSteps
namespace Go.Proofs.Ytbapigekpehkfaa
set_option linter.unusedVariables false
set_option linter.unusedSimpArgs false
open Go.RowKit
attribute [local go_sem] Ext.cell
open BigFrame

set_option maxHeartbeats 1000000 in
set_option maxRecDepth 100000 in
theorem walk_FnStepOne (a0 : Option Addr) (len0 cap0 : Nat) (z0 : List Int) (w : World) (w0 : IsRowB w a0 len0 cap0 z0) :
    Calls Try.prog 10 #[.slice a0 len0 cap0] w fun e w' => e = .returned (.bool true) ∧ Below w.heap.size w w' := by
  by_cases hl0 : 1048576 < len0
  · clear w0
    go_enter Try.func10, Try.ntmps10
    go_wp2_with fail
    go_ret
    exact ⟨rfl, Below.refl _ _⟩
  · have HC := Lib.hid (code_of w0 (by omega))
    clear w0
    go_enter Try.func10, Try.ntmps10
    go_wp2_with fail
    refine (c_DrawStepMany a0 len0 cap0 _ HC.out).mono ?_
    rintro e w1 ⟨vR, rf, s, l, x, rfl, hR, hrf, hs, hx0, hx1, hb1⟩
    obtain ⟨A, cA, hv⟩ := hR.form
    subst hv
    have L1 := Lib.hid (LW.start rf hb1 hR)
    clear hR hb1 HC
    have x0 := L1.out.c0
    have x1 := L1.out.c1
    go_wp2_with fail
    refine (c_StepMany _ l rf s x _ L1.out.rot (by omega) (by omega)).mono ?_
    rintro e w2 ⟨rfl, hb2⟩
    have L2 := Lib.hid (L1.out.ext hb2)
    clear hb2 x0 x1 L1
    have x0 := L2.out.c0
    have x1 := L2.out.c1
    rcases manyOk_cases l rf s x with ⟨h1, hr⟩ | ⟨h1, h2, hr⟩ | ⟨h1, h2, h3, hr⟩ | ⟨h1, N, rfl, h2, hr⟩
    case inr.inr.inr =>
      rw [manyR_ok hr, Int.toNat_natCast]
      have HW := Lib.hid h1
      have HR := Lib.hid hr
      have hz : (it (stepS l) N s).size ≤ 1001 := by rw [it_size]; exact hs
      clear h1 hr
      go_wp2_with fail
      refine (c_sStepMany _ l rf s N _ L2.out.rot (by omega) (by omega)).mono ?_
      rintro e w3 ⟨rfl, hb3⟩
      rw [manyR_ok HR.out, Int.toNat_natCast]
      have L3 := Lib.hid (L2.out.ext hb3)
      clear hb3 x0 x1 L2
      have x0 := L3.out.c0
      have x1 := L3.out.c1
      by_cases hN : N = 2000
      · have t0 : ((N : Int) == 2000) = true := by simp [hN]
        clear hN
        go_wp2_with fail
        go_ret
        exact ⟨rfl, L3.out.bel⟩
      · have t0 : ((N : Int) == 2000) = false := by rw [beq_eq_false_iff_ne]; omega
        have hk4 : manyOk l rf (it (stepS l) N s) 1 = true := by unfold manyOk; rw [it_win N HW.out]; rfl
        have HK4 := Lib.hid hk4
        clear hk4
        go_wp2_with fail
        refine (c_StepWindows _ l rf _ _ L3.out.rot (by omega) (by omega)).mono ?_
        rintro e w4 ⟨rfl, hb4⟩
        rw [manyR_ok HK4.out]
        have L4 := Lib.hid (L3.out.ext hb4)
        clear hb4 x0 x1 L3
        have x0 := L4.out.c0
        have x1 := L4.out.c1
        go_wp2_with fail
        refine (c_rcSteps A cA l rf s _ _ L4.out.rot (by omega) (by omega)).mono ?_
        rintro e w5 ⟨rfl, hb5⟩
        have e1 : stR l rf s ((N : Int) + 1) = it (stepS l) (N + 1) s := stR_ok (n := N + 1) HW.out (by omega)
        rw [e1]
        clear e1
        have L5 := Lib.hid (L4.out.ext hb5)
        clear hb5 x0 x1 L4
        have x0 := L5.out.c0
        have x1 := L5.out.c1
        go_wp2_with fail
        go_ret
        exact ⟨ret_bool (bs_yes rfl), L5.out.bel⟩
    all_goals
      rw [manyR_no hr]
      have HR := Lib.hid hr
      clear hr h1
      go_wp2_with fail
      refine (c_sStepMany _ l rf s x _ L2.out.rot (by omega) (by omega)).mono ?_
      rintro e w3 ⟨rfl, hb3⟩
      rw [manyR_no HR.out]
      have L3 := Lib.hid (L2.out.ext hb3)
      clear hb3 x0 x1 L2
      have x0 := L3.out.c0
      have x1 := L3.out.c1
      go_wp2_with fail
      go_ret
      exact ⟨rfl, L3.out.bel⟩
set_option maxHeartbeats 1000000 in
set_option maxRecDepth 100000 in
theorem walk_FnStepLast (a0 : Option Addr) (len0 cap0 : Nat) (z0 : List Int) (w : World) (w0 : IsRowB w a0 len0 cap0 z0) :
    Calls Try.prog 11 #[.slice a0 len0 cap0] w fun e w' => e = .returned (.bool true) ∧ Below w.heap.size w w' := by
  by_cases hl0 : 1048576 < len0
  · clear w0
    go_enter Try.func11, Try.ntmps11
    go_wp2_with fail
    go_ret
    exact ⟨rfl, Below.refl _ _⟩
  · have HC := Lib.hid (code_of w0 (by omega))
    clear w0
    go_enter Try.func11, Try.ntmps11
    go_wp2_with fail
    refine (c_DrawStepMany a0 len0 cap0 _ HC.out).mono ?_
    rintro e w1 ⟨vR, rf, s, l, x, rfl, hR, hrf, hs, hx0, hx1, hb1⟩
    obtain ⟨A, cA, hv⟩ := hR.form
    subst hv
    have L1 := Lib.hid (LW.start rf hb1 hR)
    clear hR hb1 HC
    have x0 := L1.out.c0
    have x1 := L1.out.c1
    go_wp2_with fail
    refine (c_StepMany _ l rf s x _ L1.out.rot (by omega) (by omega)).mono ?_
    rintro e w2 ⟨rfl, hb2⟩
    have L2 := Lib.hid (L1.out.ext hb2)
    clear hb2 x0 x1 L1
    have x0 := L2.out.c0
    have x1 := L2.out.c1
    rcases manyOk_cases l rf s x with ⟨h1, hr⟩ | ⟨h1, h2, hr⟩ | ⟨h1, h2, h3, hr⟩ | ⟨h1, N, rfl, h2, hr⟩
    case inr.inr.inr =>
      rw [manyR_ok hr, Int.toNat_natCast]
      have HW := Lib.hid h1
      have HR := Lib.hid hr
      have hz : (it (stepS l) N s).size ≤ 1001 := by rw [it_size]; exact hs
      clear h1 hr
      go_wp2_with fail
      refine (c_sStepMany _ l rf s N _ L2.out.rot (by omega) (by omega)).mono ?_
      rintro e w3 ⟨rfl, hb3⟩
      rw [manyR_ok HR.out, Int.toNat_natCast]
      have L3 := Lib.hid (L2.out.ext hb3)
      clear hb3 x0 x1 L2
      have x0 := L3.out.c0
      have x1 := L3.out.c1
      obtain ⟨f1, f2, f3, f4⟩ := win_facts HW.out
      have HZ := Lib.hid (it_size l N s)
      have HF4 := Lib.hid f4
      have g1 : 1 ≤ (it (stepS l) N s).size := by rw [it_size]; exact f1
      have g3 : (it (stepS l) N s).size ≤ 3 := by rw [it_size]; exact f2
      have HL := Lib.hid (last_bt (l := l) f4 N f1)
      clear f3 f4
      obtain ⟨j, hj⟩ : ∃ j, s.size = j + 1 := ⟨s.size - 1, by omega⟩
      have HJ := Lib.hid hj
      have z1 : (it (stepS l) N s).size = j + 1 := by rw [HZ.out, hj]
      have e1 : IntKind.i64.wrap (((it (stepS l) N s).size : Int) - 1) = (j : Int) := by rw [IntWalk.i64_in _ (by omega)]; omega
      have q1 : (N : Int).tmod 10 = ((N % 10 : Nat) : Int) := by rw [Int.tmod_eq_emod_of_nonneg (by omega)]; omega
      have i1 : (0 : Int) ≤ (j : Int) := by omega
      have i2 : (j : Int) ≤ (s.size : Int) := by omega
      have i3 : (j : Int) ≤ ((it (stepS l) N s).size : Int) := by omega
      go_wp2_with fail
      refine wp_region_ext (by kernel_rfl) (by kernel_rfl) ?_
      repeat (go_big_quiet_step ((go_at_call 32; exact Ext.call _ (c_ShiftWord _ _ _ (xle9 _ _ _ hs)))))
      refine wpQuiet_nil ?_
      rintro _ ⟨⟨w4, hb4⟩, rfl⟩
      have L4 := Lib.hid (L3.out.ext hb4)
      clear hb4
      go_wp2_with fail
      go_ret
      exact ⟨ret_bool (bs_yes (last_law HW.out HJ.out)), L4.out.bel⟩
    all_goals
      rw [manyR_no hr]
      have HR := Lib.hid hr
      clear hr h1
      go_wp2_with fail
      refine (c_sStepMany _ l rf s x _ L2.out.rot (by omega) (by omega)).mono ?_
      rintro e w3 ⟨rfl, hb3⟩
      rw [manyR_no HR.out]
      have L3 := Lib.hid (L2.out.ext hb3)
      clear hb3 x0 x1 L2
      have x0 := L3.out.c0
      have x1 := L3.out.c1
      go_wp2_with fail
      go_ret
      exact ⟨rfl, L3.out.bel⟩
end Go.Proofs.Ytbapigekpehkfaa
