/- The walks of the laws on periods and lead-ins: each returns true. -/
import Derived.Test.YtlcanmofgjbcbaaLawStepsB
import Derived.Test.YtlcanmofgjbcbaaDrawSteps4
namespace Go.Proofs.Ytlcanmofgjbcbaa
set_option linter.unusedVariables false
set_option linter.unusedSimpArgs false
open Go.RowKit
attribute [local go_sem] Ext.cell
open BigFrame

set_option maxHeartbeats 1000000 in
set_option maxRecDepth 100000 in
theorem walk_FnStepsToLeast (a0 : Option Addr) (len0 cap0 : Nat) (z0 : List Int) (w : World) (w0 : IsRowB w a0 len0 cap0 z0) :
    Calls Try.prog 10 #[.slice a0 len0 cap0] w fun e w' => e = .returned (.bool true) ∧ Below w.heap.size w w' := by
  by_cases hl0 : 1048576 < len0
  · clear w0
    go_enter Try.func10, Try.ntmps10
    go_wp2_with fail
    go_ret
    exact ⟨rfl, Below.refl _ _⟩
  · have HC := Lib.hid (code_of w0 (by omega))
    clear w0
    go_enter Try.func10, Try.ntmps10
    go_wp2_with fail
    refine (c_DrawStepsTo a0 len0 cap0 _ HC.out).mono ?_
    rintro e w1 ⟨vR, rf, s, t, l, rfl, hR, hrf, hs, ht, hb1⟩
    obtain ⟨A, cA, hv⟩ := hR.form
    subst hv
    have L1 := Lib.hid (LW.start rf hb1 hR)
    clear hR hb1 HC
    have x0 := L1.out.c0
    have x1 := L1.out.c1
    go_wp2_with fail
    refine (c_StepsTo _ l rf s t _ L1.out.rot (by omega) (by omega) (by omega)).mono ?_
    rintro e w2 ⟨rfl, hb2⟩
    have L2 := Lib.hid (L1.out.ext hb2)
    clear hb2 x0 x1 L1
    have x0 := L2.out.c0
    have x1 := L2.out.c1
    rcases to_cases l rf s t with hE | ⟨h1, n, hE, hit, hls, hlt⟩
    · have E1 := Lib.hid hE
      rw [hE]
      clear hE
      go_wp2_with fail
      refine (c_sStepsTo _ l rf s t _ L2.out.rot (by omega) (by omega) (by omega)).mono ?_
      rintro e w3 ⟨rfl, hb3⟩
      rw [E1.out]
      have L3 := Lib.hid (L2.out.ext hb3)
      clear hb3 x0 x1 L2
      have x0 := L3.out.c0
      have x1 := L3.out.c1
      go_wp2_with fail
      refine (c_sStepsTo _ l rf s t _ L3.out.rot (by omega) (by omega) (by omega)).mono ?_
      rintro e w4 ⟨rfl, hb4⟩
      rw [E1.out]
      have L4 := Lib.hid (L3.out.ext hb4)
      clear hb4 x0 x1 L3
      have x0 := L4.out.c0
      have x1 := L4.out.c1
      go_wp2_with fail
      go_ret
      exact ⟨rfl, L4.out.bel⟩
    · have E1 := Lib.hid hE
      rw [hE]
      have HIT := Lib.hid hit
      have HLS := Lib.hid hls
      have HLT := Lib.hid hlt
      clear hE hit hls hlt
      obtain ⟨hr, hle, hle2⟩ := win_rho' h1
      obtain ⟨m, hm⟩ : ∃ m, leadN (stepS l) s = m := ⟨_, rfl⟩
      obtain ⟨p, hp⟩ : ∃ p, perN' (stepS l) s = p := ⟨_, rfl⟩
      have EP : Hid (perR l rf s = (p : Int)) := by show perR l rf s = _; unfold perR; rw [if_pos h1, hp]
      have EL : Hid (leadR l rf s = (m : Int)) := by show leadR l rf s = _; unfold leadR; rw [if_pos h1, hm]
      have HM := Lib.hid hm
      have HP := Lib.hid hp
      rw [hm, hp] at hr hle hle2
      have hp1 := hr.1
      have HRHO := Lib.hid hr
      have HW := Lib.hid h1
      clear h1 hr hm hp hle
      have hnm : n < m + p := by have := HLT.out; rw [HM.out, HP.out] at this; exact this
      have t0 : decide ((n : Int) < 0) = false := by simp
      clear HLT
      go_wp2_with fail
      refine (c_sStepsTo _ l rf s t _ L2.out.rot (by omega) (by omega) (by omega)).mono ?_
      rintro e w3 ⟨rfl, hb3⟩
      rw [E1.out]
      have L3 := Lib.hid (L2.out.ext hb3)
      clear hb3 x0 x1 L2
      have x0 := L3.out.c0
      have x1 := L3.out.c1
      go_wp2_with fail
      go_loopw [7] (fun i wr => ∃ k : Nat, k ≤ 40 ∧ i = .int .i64 k ∧ LW w w1.heap.size A cA l rf wr) (fun i _ => 40 - (intOf i).toNat)
      case atStart => exact ⟨0, by omega, rfl, L3.out⟩
      case round =>
        clear x0 x1 L3
        obtain ⟨k, hk, rfl, hL⟩ := hrel
        have L3 := Lib.hid hL
        have x0 := hL.c0
        have x1 := hL.c1
        clear hL
        by_cases hc : k < n ∧ k < 40
        · obtain ⟨hc1, hc2⟩ := hc
          have t3 : decide ((k : Int) < (n : Int)) = true := by simp; omega
          have t4 : decide ((k : Int) < 40) = true := by simp; omega
          have E6 : Hid (stR l rf s (k : Int) = it (stepS l) k s) := stR_ok (n := k) HW.out (by omega)
          have HB := Lib.hid (bs_no (HLS.out k hc1))
          go_wp2_with fail
          refine (c_rcSteps A cA l rf _ _ _ L3.out.rot (by omega) (by omega)).mono ?_
          rintro e w4 ⟨rfl, hb4⟩
          rw [E6.out]
          have L4 := Lib.hid (L3.out.ext hb4)
          clear hb4 x0 x1 L3
          have x0 := L4.out.c0
          have x1 := L4.out.c1
          have hb := HB.out
          go_wp2_with fail
          exact ⟨⟨k + 1, by omega, by go_num, L4.out⟩, by simp [intOf]; omega⟩
        · have hc3 : k < n → ¬ k < 40 := fun h1 h2 => hc ⟨h1, h2⟩
          have hlt3 := L3.out.lt
          have HB := Lib.hid (bs_yes HIT.out)
          have t5 : decide ((n : Int) < (m : Int) + (p : Int)) = true := by simp; omega
          have e1 : IntKind.i64.wrap ((m : Int) + (p : Int)) = (m : Int) + (p : Int) := IntWalk.i64_in _ (by omega)
          have E9 := Lib.hid e1
          clear hc e1
          by_cases hc1 : k < n
          · have t3 : decide ((k : Int) < (n : Int)) = true := by simp; omega
            have t4 : decide ((k : Int) < 40) = false := by have := hc3 hc1; simp; omega
            clear hc3
            go_wp2_with fail
            have e1 := E9.out
            have hb := HB.out
            refine wp_region_ext (by kernel_rfl) (by kernel_rfl) ?_
            repeat (go_big_quiet_step ((first
              | (go_at_call 24; exact Ext.callv _ (c_rcSteps A cA l rf _ _ _ (L3.out.rot.ext (Subtype.property _)) (by omega) (by omega)) (congrArg Value.string (stR_ok (n := n) HW.out (by omega))))
              | (go_at_call 17; exact Ext.callv _ (c_LeadIn _ l rf s _ (L3.out.rot.ext (Subtype.property _)) (by omega) (by omega)) (congrArg (Value.int .i64) EL.out))
              | (go_at_call 13; exact Ext.callv _ (c_PeriodOf _ l rf s _ (L3.out.rot.ext (Subtype.property _)) (by omega) (by omega)) (congrArg (Value.int .i64) EP.out)))))
            refine wpQuiet_nil ?_
            rintro _ ⟨⟨w4, hb4⟩, rfl⟩
            have L4 := Lib.hid (L3.out.ext hb4)
            clear hb4 x0 x1 e1 hb
            go_wp2_with fail
            go_ret
            exact ⟨rfl, L4.out.bel⟩
          · have t3 : decide ((k : Int) < (n : Int)) = false := by simp; omega
            clear hc3
            go_wp2_with fail
            have e1 := E9.out
            have hb := HB.out
            refine wp_region_ext (by kernel_rfl) (by kernel_rfl) ?_
            repeat (go_big_quiet_step ((first
              | (go_at_call 24; exact Ext.callv _ (c_rcSteps A cA l rf _ _ _ (L3.out.rot.ext (Subtype.property _)) (by omega) (by omega)) (congrArg Value.string (stR_ok (n := n) HW.out (by omega))))
              | (go_at_call 17; exact Ext.callv _ (c_LeadIn _ l rf s _ (L3.out.rot.ext (Subtype.property _)) (by omega) (by omega)) (congrArg (Value.int .i64) EL.out))
              | (go_at_call 13; exact Ext.callv _ (c_PeriodOf _ l rf s _ (L3.out.rot.ext (Subtype.property _)) (by omega) (by omega)) (congrArg (Value.int .i64) EP.out)))))
            refine wpQuiet_nil ?_
            rintro _ ⟨⟨w4, hb4⟩, rfl⟩
            have L4 := Lib.hid (L3.out.ext hb4)
            clear hb4 x0 x1 e1 hb
            go_wp2_with fail
            go_ret
            exact ⟨rfl, L4.out.bel⟩
end Go.Proofs.Ytlcanmofgjbcbaa
