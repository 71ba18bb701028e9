/- The walks of the laws on steps: each returns true. -/
import Derived.Test.YtbapigekpehkfaaLawSteps
namespace Go.Proofs.Ytbapigekpehkfaa
set_option linter.unusedVariables false
set_option linter.unusedSimpArgs false
open Go.RowKit

set_option maxHeartbeats 1000000 in
set_option maxRecDepth 100000 in
theorem walk_FnStepMoves (a0 : Option Addr) (len0 cap0 : Nat) (z0 : List Int) (w : World) (w0 : IsRowB w a0 len0 cap0 z0) :
    Calls Try.prog 12 #[.slice a0 len0 cap0] w fun e w' => e = .returned (.bool true) ∧ Below w.heap.size w w' := by
  by_cases hl0 : 1048576 < len0
  · clear w0
    go_enter Try.func12, Try.ntmps12
    go_wp2_with fail
    go_ret
    exact ⟨rfl, Below.refl _ _⟩
  · have HC := Lib.hid (code_of w0 (by omega))
    clear w0
    go_enter Try.func12, Try.ntmps12
    go_wp2_with fail
    refine (c_DrawStepWindows a0 len0 cap0 _ HC.out).mono ?_
    rintro e w1 ⟨vR, rf, s, l, rfl, hR, hrf, hs, hb1⟩
    obtain ⟨A, cA, hv⟩ := hR.form
    subst hv
    have L1 := Lib.hid (LW.start rf hb1 hR)
    clear hR hb1 HC
    have x0 := L1.out.c0
    have x1 := L1.out.c1
    go_wp2_with fail
    refine (c_StepWindows _ l rf s _ L1.out.rot (by omega) (by omega)).mono ?_
    rintro e w2 ⟨rfl, hb2⟩
    have L2 := Lib.hid (L1.out.ext hb2)
    clear hb2 x0 x1 L1
    have x0 := L2.out.c0
    have x1 := L2.out.c1
    cases h1 : winB l rf s with
    | true =>
      rw [manyR_one h1]
      have HW := Lib.hid h1
      clear h1
      go_wp2_with fail
      refine (c_sStepWindows _ l rf s _ L2.out.rot (by omega) (by omega)).mono ?_
      rintro e w3 ⟨rfl, hb3⟩
      rw [manyR_one HW.out]
      have L3 := Lib.hid (L2.out.ext hb3)
      clear hb3 x0 x1 L2
      have x0 := L3.out.c0
      have x1 := L3.out.c1
      go_wp2_with fail
      refine (c_rcFit A cA l rf s _ L3.out.rot (by omega) (by omega)).mono ?_
      rintro e w4 ⟨rfl, hb4⟩
      rw [HW.out]
      have L4 := Lib.hid (L3.out.ext hb4)
      clear hb4 x0 x1 L3
      have x0 := L4.out.c0
      have x1 := L4.out.c1
      go_wp2_with fail
      refine (c_StepMoves _ l rf s _ L4.out.rot (by omega) (by omega)).mono ?_
      rintro e w5 ⟨rfl, hb5⟩
      rw [show movR l rf s = movS l s by unfold movR; rw [if_pos HW.out]]
      have L5 := Lib.hid (L4.out.ext hb5)
      clear hb5 x0 x1 L4
      have x0 := L5.out.c0
      have x1 := L5.out.c1
      obtain ⟨f1, f2, f3, f4⟩ := win_facts HW.out
      have HV := Lib.hid f4
      have z1 : (stepS l s).size = s.size := stepS_size l s
      have z2 : (movS l s).size = s.size := mkS_size _ _
      clear f3 f4
      go_wp2_with fail
      go_loopw [10] (fun i wr => ∃ k : Nat, k ≤ s.size ∧ i = .int .i64 k ∧ LW w w1.heap.size A cA l rf wr) (fun i _ => s.size - (intOf i).toNat)
      case atStart => exact ⟨0, Nat.zero_le _, rfl, L5.out⟩
      case round =>
        clear x0 x1 L5
        obtain ⟨k, hk, rfl, hL⟩ := hrel
        have L5 := Lib.hid hL
        clear hL
        by_cases hlt : k < s.size
        · have e1 : IntKind.i64.wrap ((k : Int) + 1) = (k : Int) + 1 := IntWalk.i64_in _ (by omega)
          have i1 : (0 : Int) ≤ (k : Int) := by omega
          have i2 : (k : Int) + 1 ≤ (s.size : Int) := by omega
          have i3 : (k : Int) + 1 ≤ ((stepS l s).size : Int) := by omega
          have i4 : (k : Int) < ((movS l s).size : Int) := by omega
          have i5 : (0 : Int) ≤ (k : Int) + 1 := by omega
          have i6 : (k : Int) ≤ (k : Int) + 1 := by omega
          have hkm : k < (movS l s).size := by omega
          have hb := bt_get (movS l s) k hkm
          have hmb : bt (movS l s) k = 48 ∨ bt (movS l s) k = 49 := by rw [movS_bt l s hlt]; split <;> simp
          have e2 : IntKind.i64.wrap (bt (movS l s) k - 48) = bt (movS l s) k - 48 := IntWalk.i64_in _ (by omega)
          have e3 : IntKind.i64.wrap (bt (movS l s) k) = bt (movS l s) k := IntWalk.i64_in _ (by omega)
          clear hmb
          go_wp2_with fail
          go_region_held3 (fun _ => True) (trivial) (first
            | (go_at_call 32; refine (c_ShiftWord _ _ _ (xle9 _ _ _ hs)).mono ?_; rintro e w6 ⟨rfl, hb6⟩))
          all_goals
            have L6 := Lib.hid (L5.out.ext ((Below.refl _ _).drew.trans hb6))
            clear hb6 e1 e2 e3 hb
            go_wp2_with fail
            all_goals first
              | exact ⟨⟨k + 1, by omega, by go_num, L6.out⟩, by simp [intOf]; omega⟩
              | (exfalso
                 have hx : (!(((stepS l s).extract k (k + 1)).toList == (shR (s.extract k (k + 1)) (bt (movS l s) k - 48)).toList)) = true := by assumption
                 rw [bs_yes (moves_law HV.out hlt)] at hx
                 cases hx)
        · have t0 : (((stepS l s).size : Int) == (s.size : Int)) = true := by simp [z1]
          go_wp2_with fail
          go_ret
          exact ⟨rfl, L5.out.bel⟩
    | false =>
      rw [manyR_one_no h1]
      have HW := Lib.hid h1
      clear h1
      go_wp2_with fail
      refine (c_sStepWindows _ l rf s _ L2.out.rot (by omega) (by omega)).mono ?_
      rintro e w3 ⟨rfl, hb3⟩
      rw [manyR_one_no HW.out]
      have L3 := Lib.hid (L2.out.ext hb3)
      clear hb3 x0 x1 L2
      have x0 := L3.out.c0
      have x1 := L3.out.c1
      go_wp2_with fail
      refine (c_rcFit A cA l rf s _ L3.out.rot (by omega) (by omega)).mono ?_
      rintro e w4 ⟨rfl, hb4⟩
      rw [HW.out]
      have L4 := Lib.hid (L3.out.ext hb4)
      clear hb4 x0 x1 L3
      have x0 := L4.out.c0
      have x1 := L4.out.c1
      go_wp2_with fail
      refine (c_rcFit A cA l rf s _ L4.out.rot (by omega) (by omega)).mono ?_
      rintro e w5 ⟨rfl, hb5⟩
      rw [HW.out]
      have L5 := Lib.hid (L4.out.ext hb5)
      clear hb5 x0 x1 L4
      have x0 := L5.out.c0
      have x1 := L5.out.c1
      go_wp2_with fail
      go_ret
      exact ⟨rfl, L5.out.bel⟩
end Go.Proofs.Ytbapigekpehkfaa
