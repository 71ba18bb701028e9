/- The walks of the laws on steps: each returns true. -/
import Derived.Test.YtbapigekpehkfaaLawSteps
namespace Go.Proofs.Ytbapigekpehkfaa
set_option linter.unusedVariables false
set_option linter.unusedSimpArgs false
open Go.RowKit
attribute [local go_sem] Ext.cell
open BigFrame

set_option maxHeartbeats 1000000 in
set_option maxRecDepth 100000 in
theorem walk_FnStepTwice (a0 : Option Addr) (len0 cap0 : Nat) (z0 : List Int) (w : World) (w0 : IsRowB w a0 len0 cap0 z0) :
    Calls Try.prog 14 #[.slice a0 len0 cap0] w fun e w' => e = .returned (.bool true) ∧ Below w.heap.size w w' := by
  by_cases hl0 : 1048576 < len0
  · clear w0
    go_enter Try.func14, Try.ntmps14
    go_wp2_with fail
    go_ret
    exact ⟨rfl, Below.refl _ _⟩
  · have HC := Lib.hid (code_of w0 (by omega))
    clear w0
    go_enter Try.func14, Try.ntmps14
    go_wp2_with fail
    refine (c_DrawStepWindows a0 len0 cap0 _ HC.out).mono ?_
    rintro e w1 ⟨vR, rf, s, l, rfl, hR, hrf, hs, hb1⟩
    obtain ⟨A, cA, hv⟩ := hR.form
    subst hv
    have L1 := Lib.hid (LW.start rf hb1 hR)
    clear hR hb1 HC
    have x0 := L1.out.c0
    have x1 := L1.out.c1
    go_wp2_with fail
    refine (c_StepWindows _ l rf s _ L1.out.rot (by omega) (by omega)).mono ?_
    rintro e w2 ⟨rfl, hb2⟩
    have L2 := Lib.hid (L1.out.ext hb2)
    clear hb2 x0 x1 L1
    have x0 := L2.out.c0
    have x1 := L2.out.c1
    cases h1 : winB l rf s with
    | true =>
      rw [manyR_one h1]
      have HW := Lib.hid h1
      clear h1
      go_wp2_with fail
      refine (c_sStepWindows _ l rf s _ L2.out.rot (by omega) (by omega)).mono ?_
      rintro e w3 ⟨rfl, hb3⟩
      rw [manyR_one HW.out]
      have L3 := Lib.hid (L2.out.ext hb3)
      clear hb3 x0 x1 L2
      have x0 := L3.out.c0
      have x1 := L3.out.c1
      obtain ⟨f1, f2, f3, f4⟩ := win_facts HW.out
      have HV := Lib.hid f4
      by_cases h3 : s.size = 3
      · have t3 : ((s.size : Int) != 3) = false := by simp [h3]
        have H3 := Lib.hid h3
        have hl1 : 1 < l.length := by omega
        obtain ⟨b, o, hA, hb, hc0, hc1⟩ := L3.out.rot.at_ hl1
        have hsz := L3.out.rot.size_le hl1
        have HRB := Lib.hid (wheelsB_rot ((winB_iff _ _ _).1 HW.out).1 hl1)
        subst hA
        generalize hg : gR l 1 = r1 at hc0 hc1 hsz
        obtain ⟨wi, no⟩ := r1
        have HG := Lib.hid hg
        have RB : Hid (rotB (wi, no) = true) := by rw [← hg]; exact HRB.out
        have SZ := Lib.hid hsz
        have z1 := x1size s (a := 1) (b := 2) (by omega)
        have ZB := Lib.hid (x1bt s (a := 1) (b := 2) (k := 0) (by omega) (by omega))
        have ZV := Lib.hid (x1wv f4 1 2 (by omega))
        have hc0' : w3.cell? ⟨b, o + 2, none⟩ = some (.string wi) := hc0
        have hc1' : w3.cell? ⟨b, o + 3, none⟩ = some (.string no) := hc1
        have i1 : (1 : Int) < (l.length : Int) := by omega
        have i2 : (2 : Int) ≤ (s.size : Int) := by omega
        have hlt3 := L3.out.lt
        clear hg hc0 hc1 hsz f3 f4 HRB h3
        cases ha : hasB no (bt (s.extract 1 2) 0) with
        | true =>
          have HA := Lib.hid ha
          clear ha
          go_wp2_with fail
          refine wp_region_ext (by kernel_rfl) (by kernel_rfl) ?_
          repeat (go_big_quiet_step ((go_at_call 37; exact Ext.call _ (c_AtNotchX wi no _ _ RB.out z1 ZV.out SZ.out.1 SZ.out.2 true HA.out))))
          refine wpQuiet_nil ?_
          rintro _ ⟨⟨w4, hb4⟩, rfl⟩
          all_goals
            have L4 := Lib.hid (L3.out.ext hb4)
            clear hb4
            go_wp2_with fail
            refine (c_ShiftWord s 1 _ (by omega)).mono ?_
            rintro e w5 ⟨rfl, hb5⟩
            have L5 := Lib.hid (L4.out.ext hb5)
            clear hb5
            go_wp2_with fail
            go_ret
            refine ⟨ret_bool (bs_yes (twice_law HW.out H3.out ?_)), L5.out.bel⟩
            rw [HG.out]
            have := HA.out
            rw [ZB.out] at this
            exact this
        | false =>
          have HA := Lib.hid ha
          clear ha
          go_wp2_with fail
          refine wp_region_ext (by kernel_rfl) (by kernel_rfl) ?_
          repeat (go_big_quiet_step ((go_at_call 37; exact Ext.call _ (c_AtNotchX wi no _ _ RB.out z1 ZV.out SZ.out.1 SZ.out.2 false HA.out))))
          refine wpQuiet_nil ?_
          rintro _ ⟨⟨w4, hb4⟩, rfl⟩
          all_goals
            have L4 := Lib.hid (L3.out.ext hb4)
            clear hb4
            go_wp2_with fail
            go_ret
            exact ⟨rfl, L4.out.bel⟩
      · have t3 : ((s.size : Int) == 3) = false := by rw [beq_eq_false_iff_ne]; omega
        have t4 : ((s.size : Int) != 3) = true := by unfold bne; rw [t3]; rfl
        clear h3 f3
        go_wp2_with fail
        go_quiet (fail)
        go_wp2_with fail
        go_ret
        exact ⟨rfl, (L3.out.drewN _).bel⟩
    | false =>
      rw [manyR_one_no h1]
      have HW := Lib.hid h1
      clear h1
      go_wp2_with fail
      refine (c_sStepWindows _ l rf s _ L2.out.rot (by omega) (by omega)).mono ?_
      rintro e w3 ⟨rfl, hb3⟩
      rw [manyR_one_no HW.out]
      have L3 := Lib.hid (L2.out.ext hb3)
      clear hb3 x0 x1 L2
      have x0 := L3.out.c0
      have x1 := L3.out.c1
      go_wp2_with fail
      go_quiet (fail)
      go_wp2_with fail
      go_ret
      exact ⟨rfl, (L3.out.drewN _).bel⟩
end Go.Proofs.Ytbapigekpehkfaa
