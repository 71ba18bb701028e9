/- The walks of the laws on steps: each returns true. -/
import Derived.Test.YtbapigekpehkfaaLawSteps
namespace Go.Proofs.Ytbapigekpehkfaa
set_option linter.unusedVariables false
set_option linter.unusedSimpArgs false
open Go.RowKit

set_option maxHeartbeats 1000000 in
set_option maxRecDepth 100000 in
theorem walk_FnStepSum (a0 : Option Addr) (len0 cap0 : Nat) (z0 : List Int) (a1 : Option Addr) (len1 cap1 : Nat) (z1 : List Int) (w : World) (w0 : IsRowB w a0 len0 cap0 z0) (w1 : IsRowB w a1 len1 cap1 z1) :
    Calls Try.prog 9 #[.slice a0 len0 cap0, .slice a1 len1 cap1] w fun e w' => e = .returned (.bool true) ∧ Below w.heap.size w w' := by
  by_cases hl0 : 1048576 < len0
  · clear w0 w1
    go_enter Try.func9, Try.ntmps9
    go_wp2_with fail
    go_ret
    exact ⟨rfl, Below.refl _ _⟩
  · skip
    by_cases hl1 : 1048576 < len1
    · clear w0 w1
      go_enter Try.func9, Try.ntmps9
      go_wp2_with fail
      go_ret
      exact ⟨rfl, Below.refl _ _⟩
    · have HC := Lib.hid (code_of w0 (by omega))
      clear w0 w1
      go_enter Try.func9, Try.ntmps9
      go_wp2_with fail
      refine (c_DrawStepMany a0 len0 cap0 _ HC.out).mono ?_
      rintro e w1 ⟨vR, rf, s, l, x, rfl, hR, hrf, hs, hx0, hx1, hb1⟩
      obtain ⟨A, cA, hv⟩ := hR.form
      subst hv
      have L1 := Lib.hid (LW.start rf hb1 hR)
      clear hR hb1 HC
      have x0 := L1.out.c0
      have x1 := L1.out.c1
      go_wp2_with fail
      refine (c_StepMany _ l rf s x _ L1.out.rot (by omega) (by omega)).mono ?_
      rintro e w2 ⟨rfl, hb2⟩
      have L2 := Lib.hid (L1.out.ext hb2)
      clear hb2 x0 x1 L1
      have x0 := L2.out.c0
      have x1 := L2.out.c1
      rcases manyOk_cases l rf s x with ⟨h1, hr⟩ | ⟨h1, h2, hr⟩ | ⟨h1, h2, h3, hr⟩ | ⟨h1, N, rfl, h2, hr⟩
      case inr.inr.inr =>
        rw [manyR_ok hr, Int.toNat_natCast]
        have HW := Lib.hid h1
        have HR := Lib.hid hr
        have hz : (it (stepS l) N s).size ≤ 1001 := by rw [it_size]; exact hs
        clear h1 hr
        go_wp2_with fail
        refine (c_sStepMany _ l rf s N _ L2.out.rot (by omega) (by omega)).mono ?_
        rintro e w3 ⟨rfl, hb3⟩
        rw [manyR_ok HR.out, Int.toNat_natCast]
        have L3 := Lib.hid (L2.out.ext hb3)
        clear hb3 x0 x1 L2
        have x0 := L3.out.c0
        have x1 := L3.out.c1
        obtain ⟨k, hk⟩ : ∃ k : Nat, len1 % 40 = k := ⟨_, rfl⟩
        have hk40 : k < 40 := by omega
        have hk1 : (len1 : Int) % 40 = (k : Int) := by omega
        have hk2 : (len1 : Int).tmod 40 = (k : Int) := by rw [Int.tmod_eq_emod_of_nonneg (by omega)]; exact hk1
        clear hk
        by_cases hNk : 2000 < N + k
        · have t0 : (2000 : Int) < (N : Int) + (k : Int) := by omega
          go_wp2_with fail
          go_ret
          exact ⟨rfl, L3.out.bel⟩
        · have t0 : ¬ (2000 : Int) < (N : Int) + (k : Int) := by omega
          have HK0 : Hid (manyOk l rf s 0 = true) := by show manyOk l rf s 0 = true; unfold manyOk; rw [HW.out]; rfl
          go_wp2_with fail
          refine (c_StepMany _ l rf s 0 _ L3.out.rot (by omega) (by omega)).mono ?_
          rintro e w4 ⟨rfl, hb4⟩
          rw [manyR_ok HK0.out]
          have L4 := Lib.hid (L3.out.ext hb4)
          clear hb4 x0 x1 L3
          have x0 := L4.out.c0
          have x1 := L4.out.c1
          have e1 : IntKind.i64.wrap ((N : Int) + (k : Int)) = ((N + k : Nat) : Int) := by rw [IntWalk.i64_in _ (by omega)]; omega
          have g1 : ((it (stepS l) (Int.toNat 0) s).toList == s.toList) = true := bs_yes rfl
          have g2 : (it (stepS l) 0 s).toList = s.toList := rfl
          have E1 := Lib.hid e1
          have G2 := Lib.hid g2
          clear e1
          go_wp2_with fail
          have e1 := E1.out
          have g2 := G2.out
          go_region_held3 (fun w' => w'.cell? ⟨w1.heap.size, 0, none⟩ = some (.slice A l.length cA) ∧ w'.cell? ⟨w1.heap.size, 1, none⟩ = some (.string rf) ∧ LW w w1.heap.size A cA l rf w')
            (first | assumption | exact ⟨x0, x1, L4.out.drew⟩)
            (first
              | (go_at_call 31; refine (c_rcStepsH w _ w1.heap.size A cA l rf _ _ (by assumption) (by omega) (by omega)).mono ?_; rintro e w8 ⟨rfl, hk8⟩))
          all_goals
            have L8 := Lib.hid hk8.2.2
            clear hk8 e1 g2 x0 x1
            go_wp2_with fail
            go_ret
            exact ⟨ret_bool (bs_yes (sum_law HW.out (by omega))), L8.out.bel⟩
      all_goals
        rw [manyR_no hr]
        have HR := Lib.hid hr
        clear hr h1
        go_wp2_with fail
        refine (c_sStepMany _ l rf s x _ L2.out.rot (by omega) (by omega)).mono ?_
        rintro e w3 ⟨rfl, hb3⟩
        rw [manyR_no HR.out]
        have L3 := Lib.hid (L2.out.ext hb3)
        clear hb3 x0 x1 L2
        have x0 := L3.out.c0
        have x1 := L3.out.c1
        go_wp2_with fail
        go_ret
        exact ⟨rfl, L3.out.bel⟩
end Go.Proofs.Ytbapigekpehkfaa
