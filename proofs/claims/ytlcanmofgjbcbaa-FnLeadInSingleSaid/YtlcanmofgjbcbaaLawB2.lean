/- The walks of the laws on periods and lead-ins: each returns true. -/
import Derived.Test.YtlcanmofgjbcbaaLawStepsB
namespace Go.Proofs.Ytlcanmofgjbcbaa
set_option linter.unusedVariables false
set_option linter.unusedSimpArgs false
open Go.RowKit
attribute [local go_sem] Ext.cell
open BigFrame

set_option maxHeartbeats 1000000 in
set_option maxRecDepth 100000 in
theorem walk_FnLeadInSingle (a0 : Option Addr) (len0 cap0 : Nat) (z0 : List Int) (w : World) (w0 : IsRowB w a0 len0 cap0 z0) :
    Calls Try.prog 4 #[.slice a0 len0 cap0] w fun e w' => e = .returned (.bool true) ∧ Below w.heap.size w w' := by
  by_cases hl0 : 1048576 < len0
  · clear w0
    go_enter Try.func4, Try.ntmps4
    go_wp2_with fail
    go_ret
    exact ⟨rfl, Below.refl _ _⟩
  · have HC := Lib.hid (code_of w0 (by omega))
    clear w0
    go_enter Try.func4, Try.ntmps4
    go_wp2_with fail
    refine (c_DrawLeadIn a0 len0 cap0 _ HC.out).mono ?_
    rintro e w1 ⟨vR, rf, s, l, rfl, hR, hrf, hs, hb1⟩
    obtain ⟨A, cA, hv⟩ := hR.form
    subst hv
    have L1 := Lib.hid (LW.start rf hb1 hR)
    clear hR hb1 HC
    have x0 := L1.out.c0
    have x1 := L1.out.c1
    go_wp2_with fail
    refine (c_LeadIn _ l rf s _ L1.out.rot (by omega) (by omega)).mono ?_
    rintro e w2 ⟨rfl, hb2⟩
    have L2 := Lib.hid (L1.out.ext hb2)
    clear hb2 x0 x1 L1
    have x0 := L2.out.c0
    have x1 := L2.out.c1
    cases h1 : winB l rf s with
    | true =>
      obtain ⟨hr, hle, hle2⟩ := win_rho' h1
      obtain ⟨m, hm⟩ : ∃ m, leadN (stepS l) s = m := ⟨_, rfl⟩
      obtain ⟨p, hp⟩ : ∃ p, perN' (stepS l) s = p := ⟨_, rfl⟩
      have EP : Hid (perR l rf s = (p : Int)) := by show perR l rf s = _; unfold perR; rw [if_pos h1, hp]
      have EL : Hid (leadR l rf s = (m : Int)) := by show leadR l rf s = _; unfold leadR; rw [if_pos h1, hm]
      have HM := Lib.hid hm
      have HP := Lib.hid hp
      rw [hm, hp] at hr hle hle2
      have hp1 := hr.1
      have HRHO := Lib.hid hr
      have HW := Lib.hid h1
      clear h1 hr hm hp hle
      rw [EL.out]
      go_wp2_with fail
      refine (c_sLeadIn _ l rf s _ L2.out.rot (by omega) (by omega)).mono ?_
      rintro e w3 ⟨rfl, hb3⟩
      rw [EL.out]
      have L3 := Lib.hid (L2.out.ext hb3)
      clear hb3 x0 x1 L2
      have x0 := L3.out.c0
      have x1 := L3.out.c1
      have t0 : decide ((m : Int) < 0) = false := by simp
      cases hsg : singB l with
      | false =>
        have HS := Lib.hid hsg
        clear hsg
        go_wp2_with fail
        refine (c_rcSingle A cA l rf _ L3.out.rot).mono ?_
        rintro e w4 ⟨rfl, hb4⟩
        rw [HS.out]
        have L4 := Lib.hid (L3.out.ext hb4)
        clear hb4 x0 x1 L3
        have x0 := L4.out.c0
        have x1 := L4.out.c1
        go_wp2_with fail
        refine (c_sLeadIn _ l rf s _ L4.out.rot (by omega) (by omega)).mono ?_
        rintro e w5 ⟨rfl, hb5⟩
        rw [EL.out]
        have L5 := Lib.hid (L4.out.ext hb5)
        clear hb5 x0 x1 L4
        have x0 := L5.out.c0
        have x1 := L5.out.c1
        go_wp2_with fail
        go_ret
        exact ⟨rfl, L5.out.bel⟩
      | true =>
        have HS := Lib.hid hsg
        clear hsg
        go_wp2_with fail
        refine (c_rcSingle A cA l rf _ L3.out.rot).mono ?_
        rintro e w4 ⟨rfl, hb4⟩
        rw [HS.out]
        have L4 := Lib.hid (L3.out.ext hb4)
        clear hb4 x0 x1 L3
        have x0 := L4.out.c0
        have x1 := L4.out.c1
        obtain ⟨f1, f2, f3, f4⟩ := win_facts HW.out
        have hcs := single_rho (Sg.of HW.out HS.out) f1 f2 HRHO.out
        rw [f3] at hcs
        clear f3 f4
        rcases hcs with ⟨hl, _, hq⟩ | ⟨hl, _, hq⟩ | ⟨hl, _, hq⟩
        · subst hq
          have e1 : decide ((l.length : Int) < 3) = true := by rw [hl]; rfl
          go_wp2_with fail
          go_ret
          exact ⟨rfl, L4.out.bel⟩
        · subst hq
          have e1 : decide ((l.length : Int) < 3) = true := by rw [hl]; rfl
          go_wp2_with fail
          go_ret
          exact ⟨rfl, L4.out.bel⟩
        · have e1 : decide ((l.length : Int) < 3) = false := by rw [hl]; rfl
          have e2 : ((l.length : Int) == 3) = true := by rw [hl]; rfl
          have e3 : decide ((m : Int) ≤ 2) = true := by simp; omega
          go_wp2_with fail
          go_ret
          exact ⟨rfl, L4.out.bel⟩
    | false =>
      have EP : Hid (perR l rf s = 0) := by show perR l rf s = _; unfold perR; rw [if_neg (by rw [h1]; simp)]
      have EL : Hid (leadR l rf s = -1) := by show leadR l rf s = _; unfold leadR; rw [if_neg (by rw [h1]; simp)]
      have HW := Lib.hid h1
      clear h1
      rw [EL.out]
      go_wp2_with fail
      refine (c_sLeadIn _ l rf s _ L2.out.rot (by omega) (by omega)).mono ?_
      rintro e w3 ⟨rfl, hb3⟩
      rw [EL.out]
      have L3 := Lib.hid (L2.out.ext hb3)
      clear hb3 x0 x1 L2
      have x0 := L3.out.c0
      have x1 := L3.out.c1
      go_wp2_with fail
      refine (c_sLeadIn _ l rf s _ L3.out.rot (by omega) (by omega)).mono ?_
      rintro e w4 ⟨rfl, hb4⟩
      rw [EL.out]
      have L4 := Lib.hid (L3.out.ext hb4)
      clear hb4 x0 x1 L3
      have x0 := L4.out.c0
      have x1 := L4.out.c1
      go_wp2_with fail
      go_ret
      exact ⟨rfl, L4.out.bel⟩
end Go.Proofs.Ytlcanmofgjbcbaa
