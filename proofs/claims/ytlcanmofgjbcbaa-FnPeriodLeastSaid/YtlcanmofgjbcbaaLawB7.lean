/- The walks of the laws on periods and lead-ins: each returns true. -/
import Derived.Test.YtlcanmofgjbcbaaLawStepsB
namespace Go.Proofs.Ytlcanmofgjbcbaa
set_option linter.unusedVariables false
set_option linter.unusedSimpArgs false
open Go.RowKit
attribute [local go_sem] Ext.cell
open BigFrame

set_option maxHeartbeats 1000000 in
set_option maxRecDepth 100000 in
theorem walk_FnPeriodLeast (a0 : Option Addr) (len0 cap0 : Nat) (z0 : List Int) (w : World) (w0 : IsRowB w a0 len0 cap0 z0) :
    Calls Try.prog 9 #[.slice a0 len0 cap0] w fun e w' => e = .returned (.bool true) ∧ Below w.heap.size w w' := by
  by_cases hl0 : 1048576 < len0
  · clear w0
    go_enter Try.func9, Try.ntmps9
    go_wp2_with fail
    go_ret
    exact ⟨rfl, Below.refl _ _⟩
  · have HC := Lib.hid (code_of w0 (by omega))
    clear w0
    go_enter Try.func9, Try.ntmps9
    go_wp2_with fail
    refine (c_DrawPeriodOf a0 len0 cap0 _ HC.out).mono ?_
    rintro e w1 ⟨vR, rf, s, l, rfl, hR, hrf, hs, hb1⟩
    obtain ⟨A, cA, hv⟩ := hR.form
    subst hv
    have L1 := Lib.hid (LW.start rf hb1 hR)
    clear hR hb1 HC
    have x0 := L1.out.c0
    have x1 := L1.out.c1
    go_wp2_with fail
    refine (c_PeriodOf _ l rf s _ L1.out.rot (by omega) (by omega)).mono ?_
    rintro e w2 ⟨rfl, hb2⟩
    have L2 := Lib.hid (L1.out.ext hb2)
    clear hb2 x0 x1 L1
    have x0 := L2.out.c0
    have x1 := L2.out.c1
    cases h1 : winB l rf s with
    | true =>
      obtain ⟨hr, hle, hle2⟩ := win_rho' h1
      obtain ⟨m, hm⟩ : ∃ m, leadN (stepS l) s = m := ⟨_, rfl⟩
      obtain ⟨p, hp⟩ : ∃ p, perN' (stepS l) s = p := ⟨_, rfl⟩
      have EP : Hid (perR l rf s = (p : Int)) := by show perR l rf s = _; unfold perR; rw [if_pos h1, hp]
      have EL : Hid (leadR l rf s = (m : Int)) := by show leadR l rf s = _; unfold leadR; rw [if_pos h1, hm]
      have HM := Lib.hid hm
      have HP := Lib.hid hp
      rw [hm, hp] at hr hle hle2
      have hp1 := hr.1
      have HRHO := Lib.hid hr
      have HW := Lib.hid h1
      clear h1 hr hm hp hle
      rw [EP.out]
      go_wp2_with fail
      refine (c_sPeriodOf _ l rf s _ L2.out.rot (by omega) (by omega)).mono ?_
      rintro e w3 ⟨rfl, hb3⟩
      rw [EP.out]
      have L3 := Lib.hid (L2.out.ext hb3)
      clear hb3 x0 x1 L2
      have x0 := L3.out.c0
      have x1 := L3.out.c1
      have t2 : ((p : Int) == 0) = false := by rw [beq_eq_false_iff_ne]; omega
      obtain ⟨f1, f2, f3, f4⟩ := win_facts HW.out
      clear f3 f4
      have hlt3 := L3.out.lt
      go_wp2_with fail
      refine wp_region_ext (by kernel_rfl) (by kernel_rfl) ?_
      repeat (go_big_quiet_step ((first
        | (go_at_call 17; exact Ext.callv _ (c_LeadIn _ l rf s _ (L3.out.rot.ext (Subtype.property _)) (by omega) (by omega)) (congrArg (Value.int .i64) EL.out))
        | (go_at_call 24; exact Ext.callv _ (c_rcSteps A cA l rf s _ _ (L3.out.rot.ext (Subtype.property _)) (by omega) (by omega)) (congrArg Value.string (stR_ok (n := m) HW.out (by omega)))))))
      refine wpQuiet_nil ?_
      rintro _ ⟨⟨w4, hb4⟩, rfl⟩
      have L4 := Lib.hid (L3.out.ext hb4)
      clear hb4 x0 x1 L3 hlt3
      have x0 := L4.out.c0
      have x1 := L4.out.c1
      have hz : (it (stepS l) m s).size ≤ 1001 := by rw [it_size]; exact hs
      go_wp2_with fail
      go_loopw [7] (fun i wr => ∃ k : Nat, 1 ≤ k ∧ k ≤ 40 ∧ i = .int .i64 k ∧ LW w w1.heap.size A cA l rf wr) (fun i _ => 40 - (intOf i).toNat)
      case atStart => exact ⟨1, Nat.le_refl _, by omega, rfl, L4.out⟩
      case round =>
        clear x0 x1 L4
        obtain ⟨k, hk1, hk, rfl, hL⟩ := hrel
        have L4 := Lib.hid hL
        have x0 := hL.c0
        have x1 := hL.c1
        clear hL
        by_cases hc : k < p ∧ k < 40
        · obtain ⟨hc1, hc2⟩ := hc
          have t3 : decide ((k : Int) < (p : Int)) = true := by simp; omega
          have t4 : decide ((k : Int) < 40) = true := by simp; omega
          have E6 : Hid (stR l rf (it (stepS l) m s) (k : Int) = it (stepS l) k (it (stepS l) m s)) := stR_ok (n := k) (it_win m HW.out) (by omega)
          have HB := Lib.hid (bs_no (fun e => by have := Nat.le_of_dvd (by omega) ((rho_back HRHO.out (k := k) (by omega)).1 e); omega : it (stepS l) k (it (stepS l) m s) ≠ it (stepS l) m s))
          go_wp2_with fail
          refine (c_rcSteps A cA l rf _ _ _ L4.out.rot (by omega) (by omega)).mono ?_
          rintro e w5 ⟨rfl, hb5⟩
          rw [E6.out]
          have L5 := Lib.hid (L4.out.ext hb5)
          clear hb5 x0 x1 L4
          have x0 := L5.out.c0
          have x1 := L5.out.c1
          have hb := HB.out
          go_wp2_with fail
          exact ⟨⟨k + 1, by omega, by omega, by go_num, L5.out⟩, by simp [intOf]; omega⟩
        · have hc3 : k < p → ¬ k < 40 := fun h1 h2 => hc ⟨h1, h2⟩
          have hz1 : (it (stepS l) 1 (it (stepS l) m s)).size ≤ 1001 := by rw [it_size]; exact hz
          have E7 : Hid (toR l rf (it (stepS l) 1 (it (stepS l) m s)) (it (stepS l) m s) = (p : Int) - 1) := by
            have := to_back HW.out
            rw [HM.out, HP.out] at this
            exact this
          have e1 : IntKind.i64.wrap ((p : Int) - 1) = (p : Int) - 1 := IntWalk.i64_in _ (by omega)
          have E1 := Lib.hid e1
          have hlt4 := L4.out.lt
          clear hc e1
          by_cases hc1 : k < p
          · have t3 : decide ((k : Int) < (p : Int)) = true := by simp; omega
            have t4 : decide ((k : Int) < 40) = false := by have := hc3 hc1; simp; omega
            clear hc3
            go_wp2_with fail
            have e1 := E1.out
            refine wp_region_ext (by kernel_rfl) (by kernel_rfl) ?_
            repeat (go_big_quiet_step ((first
              | (go_at_call 24; exact Ext.callv _ (c_rcSteps A cA l rf _ _ _ (L4.out.rot.ext (Subtype.property _)) (by omega) (by omega)) (congrArg Value.string (stR_ok (n := 1) (it_win m HW.out) (by omega))))
              | (go_at_call 22; exact Ext.callv _ (c_StepsTo _ l rf _ _ _ (L4.out.rot.ext (Subtype.property _)) (by omega) (by omega) (by omega)) (congrArg (Value.int .i64) E7.out)))))
            refine wpQuiet_nil ?_
            rintro _ ⟨⟨w5, hb5⟩, rfl⟩
            have L5 := Lib.hid (L4.out.ext hb5)
            clear hb5 x0 x1 e1
            go_wp2_with fail
            go_ret
            exact ⟨rfl, L5.out.bel⟩
          · have t3 : decide ((k : Int) < (p : Int)) = false := by simp; omega
            clear hc3
            go_wp2_with fail
            have e1 := E1.out
            refine wp_region_ext (by kernel_rfl) (by kernel_rfl) ?_
            repeat (go_big_quiet_step ((first
              | (go_at_call 24; exact Ext.callv _ (c_rcSteps A cA l rf _ _ _ (L4.out.rot.ext (Subtype.property _)) (by omega) (by omega)) (congrArg Value.string (stR_ok (n := 1) (it_win m HW.out) (by omega))))
              | (go_at_call 22; exact Ext.callv _ (c_StepsTo _ l rf _ _ _ (L4.out.rot.ext (Subtype.property _)) (by omega) (by omega) (by omega)) (congrArg (Value.int .i64) E7.out)))))
            refine wpQuiet_nil ?_
            rintro _ ⟨⟨w5, hb5⟩, rfl⟩
            have L5 := Lib.hid (L4.out.ext hb5)
            clear hb5 x0 x1 e1
            go_wp2_with fail
            go_ret
            exact ⟨rfl, L5.out.bel⟩
    | false =>
      have EP : Hid (perR l rf s = 0) := by show perR l rf s = _; unfold perR; rw [if_neg (by rw [h1]; simp)]
      have EL : Hid (leadR l rf s = -1) := by show leadR l rf s = _; unfold leadR; rw [if_neg (by rw [h1]; simp)]
      have HW := Lib.hid h1
      clear h1
      rw [EP.out]
      go_wp2_with fail
      refine (c_sPeriodOf _ l rf s _ L2.out.rot (by omega) (by omega)).mono ?_
      rintro e w3 ⟨rfl, hb3⟩
      rw [EP.out]
      have L3 := Lib.hid (L2.out.ext hb3)
      clear hb3 x0 x1 L2
      have x0 := L3.out.c0
      have x1 := L3.out.c1
      go_wp2_with fail
      refine (c_sPeriodOf _ l rf s _ L3.out.rot (by omega) (by omega)).mono ?_
      rintro e w4 ⟨rfl, hb4⟩
      rw [EP.out]
      have L4 := Lib.hid (L3.out.ext hb4)
      clear hb4 x0 x1 L3
      have x0 := L4.out.c0
      have x1 := L4.out.c1
      go_wp2_with fail
      go_ret
      exact ⟨rfl, L4.out.bel⟩
end Go.Proofs.Ytlcanmofgjbcbaa
