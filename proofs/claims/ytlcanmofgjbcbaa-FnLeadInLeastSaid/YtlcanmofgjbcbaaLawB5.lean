/- The walks of the laws on periods and lead-ins: each returns true. -/
import Derived.Test.YtlcanmofgjbcbaaLawStepsB
namespace Go.Proofs.Ytlcanmofgjbcbaa
set_option linter.unusedVariables false
set_option linter.unusedSimpArgs false
open Go.RowKit
attribute [local go_sem] Ext.cell
open BigFrame

set_option maxHeartbeats 1000000 in
set_option maxRecDepth 100000 in
theorem walk_FnLeadInLeast (a0 : Option Addr) (len0 cap0 : Nat) (z0 : List Int) (w : World) (w0 : IsRowB w a0 len0 cap0 z0) :
    Calls Try.prog 7 #[.slice a0 len0 cap0] w fun e w' => e = .returned (.bool true) ∧ Below w.heap.size w w' := by
  by_cases hl0 : 1048576 < len0
  · clear w0
    go_enter Try.func7, Try.ntmps7
    go_wp2_with fail
    go_ret
    exact ⟨rfl, Below.refl _ _⟩
  · have HC := Lib.hid (code_of w0 (by omega))
    clear w0
    go_enter Try.func7, Try.ntmps7
    go_wp2_with fail
    refine (c_DrawLeadIn a0 len0 cap0 _ HC.out).mono ?_
    rintro e w1 ⟨vR, rf, s, l, rfl, hR, hrf, hs, hb1⟩
    obtain ⟨A, cA, hv⟩ := hR.form
    subst hv
    have L1 := Lib.hid (LW.start rf hb1 hR)
    clear hR hb1 HC
    have x0 := L1.out.c0
    have x1 := L1.out.c1
    go_wp2_with fail
    refine (c_LeadIn _ l rf s _ L1.out.rot (by omega) (by omega)).mono ?_
    rintro e w2 ⟨rfl, hb2⟩
    have L2 := Lib.hid (L1.out.ext hb2)
    clear hb2 x0 x1 L1
    have x0 := L2.out.c0
    have x1 := L2.out.c1
    cases h1 : winB l rf s with
    | true =>
      obtain ⟨hr, hle, hle2⟩ := win_rho' h1
      obtain ⟨m, hm⟩ : ∃ m, leadN (stepS l) s = m := ⟨_, rfl⟩
      obtain ⟨p, hp⟩ : ∃ p, perN' (stepS l) s = p := ⟨_, rfl⟩
      have EP : Hid (perR l rf s = (p : Int)) := by show perR l rf s = _; unfold perR; rw [if_pos h1, hp]
      have EL : Hid (leadR l rf s = (m : Int)) := by show leadR l rf s = _; unfold leadR; rw [if_pos h1, hm]
      have HM := Lib.hid hm
      have HP := Lib.hid hp
      rw [hm, hp] at hr hle hle2
      have hp1 := hr.1
      have HRHO := Lib.hid hr
      have HW := Lib.hid h1
      clear h1 hr hm hp hle
      rw [EL.out]
      go_wp2_with fail
      refine (c_sLeadIn _ l rf s _ L2.out.rot (by omega) (by omega)).mono ?_
      rintro e w3 ⟨rfl, hb3⟩
      rw [EL.out]
      have L3 := Lib.hid (L2.out.ext hb3)
      clear hb3 x0 x1 L2
      have x0 := L3.out.c0
      have x1 := L3.out.c1
      have t1 : decide ((0 : Int) ≤ (m : Int)) = true := by simp
      have t2 : decide ((m : Int) < 0) = false := by simp
      go_wp2_with fail
      refine (c_rcFit A cA l rf s _ L3.out.rot (by omega) (by omega)).mono ?_
      rintro e w4 ⟨rfl, hb4⟩
      rw [HW.out]
      have L4 := Lib.hid (L3.out.ext hb4)
      clear hb4 x0 x1 L3
      have x0 := L4.out.c0
      have x1 := L4.out.c1
      go_wp2_with fail
      refine (c_PeriodOf _ l rf s _ L4.out.rot (by omega) (by omega)).mono ?_
      rintro e w5 ⟨rfl, hb5⟩
      rw [EP.out]
      have L5 := Lib.hid (L4.out.ext hb5)
      clear hb5 x0 x1 L4
      have x0 := L5.out.c0
      have x1 := L5.out.c1
      go_wp2_with fail
      go_loopw [7] (fun i wr => ∃ k : Nat, k ≤ m + 2 ∧ i = .int .i64 k ∧ LW w w1.heap.size A cA l rf wr) (fun i _ => m + 2 - (intOf i).toNat)
      case atStart => exact ⟨0, by omega, rfl, L5.out⟩
      case round =>
        clear x0 x1 L5
        obtain ⟨k, hk, rfl, hL⟩ := hrel
        have L5 := Lib.hid hL
        have x0 := hL.c0
        have x1 := hL.c1
        clear hL
        by_cases hc : k ≤ m + 1
        · have hz : (it (stepS l) k s).size ≤ 1001 := by rw [it_size]; exact hs
          have E6 : Hid (stR l rf s (k : Int) = it (stepS l) k s) := stR_ok (n := k) HW.out (by omega)
          have E7 : Hid (stR l rf (it (stepS l) k s) (p : Int) = it (stepS l) p (it (stepS l) k s)) := stR_ok (n := p) (it_win k HW.out) (by omega)
          have HI := Lib.hid (rho_at HRHO.out k)
          go_wp2_with fail
          refine (c_rcSteps A cA l rf _ _ _ L5.out.rot (by omega) (by omega)).mono ?_
          rintro e w6 ⟨rfl, hb6⟩
          rw [E6.out]
          have L6 := Lib.hid (L5.out.ext hb6)
          clear hb6 x0 x1 L5
          have x0 := L6.out.c0
          have x1 := L6.out.c1
          go_wp2_with fail
          refine (c_rcSteps A cA l rf _ _ _ L6.out.rot (by omega) (by omega)).mono ?_
          rintro e w7 ⟨rfl, hb7⟩
          rw [E7.out]
          have L7 := Lib.hid (L6.out.ext hb7)
          clear hb7 x0 x1 L6
          have x0 := L7.out.c0
          have x1 := L7.out.c1
          by_cases hge : m ≤ k
          · have hb := bs_yes (HI.out.2 hge)
            have t3 : decide ((m : Int) ≤ (k : Int)) = true := by simp; omega
            go_wp2_with fail
            exact ⟨⟨k + 1, by omega, by go_num, L7.out⟩, by simp [intOf]; omega⟩
          · have hb := bs_no (fun e => hge (HI.out.1 e))
            have t3 : decide ((m : Int) ≤ (k : Int)) = false := by simp; omega
            go_wp2_with fail
            exact ⟨⟨k + 1, by omega, by go_num, L7.out⟩, by simp [intOf]; omega⟩
        · skip
          go_wp2_with fail
          go_ret
          exact ⟨rfl, L5.out.bel⟩
    | false =>
      have EP : Hid (perR l rf s = 0) := by show perR l rf s = _; unfold perR; rw [if_neg (by rw [h1]; simp)]
      have EL : Hid (leadR l rf s = -1) := by show leadR l rf s = _; unfold leadR; rw [if_neg (by rw [h1]; simp)]
      have HW := Lib.hid h1
      clear h1
      rw [EL.out]
      go_wp2_with fail
      refine (c_sLeadIn _ l rf s _ L2.out.rot (by omega) (by omega)).mono ?_
      rintro e w3 ⟨rfl, hb3⟩
      rw [EL.out]
      have L3 := Lib.hid (L2.out.ext hb3)
      clear hb3 x0 x1 L2
      have x0 := L3.out.c0
      have x1 := L3.out.c1
      go_wp2_with fail
      refine (c_rcFit A cA l rf s _ L3.out.rot (by omega) (by omega)).mono ?_
      rintro e w4 ⟨rfl, hb4⟩
      rw [HW.out]
      have L4 := Lib.hid (L3.out.ext hb4)
      clear hb4 x0 x1 L3
      have x0 := L4.out.c0
      have x1 := L4.out.c1
      go_wp2_with fail
      refine (c_sLeadIn _ l rf s _ L4.out.rot (by omega) (by omega)).mono ?_
      rintro e w5 ⟨rfl, hb5⟩
      rw [EL.out]
      have L5 := Lib.hid (L4.out.ext hb5)
      clear hb5 x0 x1 L4
      have x0 := L5.out.c0
      have x1 := L5.out.c1
      go_wp2_with fail
      refine (c_rcFit A cA l rf s _ L5.out.rot (by omega) (by omega)).mono ?_
      rintro e w6 ⟨rfl, hb6⟩
      rw [HW.out]
      have L6 := Lib.hid (L5.out.ext hb6)
      clear hb6 x0 x1 L5
      have x0 := L6.out.c0
      have x1 := L6.out.c1
      go_wp2_with fail
      go_ret
      exact ⟨rfl, L6.out.bel⟩
end Go.Proofs.Ytlcanmofgjbcbaa
