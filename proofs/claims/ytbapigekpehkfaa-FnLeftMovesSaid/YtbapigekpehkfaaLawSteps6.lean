/- The walks of the laws on steps: each returns true. -/
import Derived.Test.YtbapigekpehkfaaLawSteps
namespace Go.Proofs.Ytbapigekpehkfaa
set_option linter.unusedVariables false
set_option linter.unusedSimpArgs false
open Go.RowKit
attribute [local go_sem] Ext.cell
open BigFrame

set_option maxHeartbeats 1000000 in
set_option maxRecDepth 100000 in
theorem walk_FnLeftMoves (a0 : Option Addr) (len0 cap0 : Nat) (z0 : List Int) (w : World) (w0 : IsRowB w a0 len0 cap0 z0) :
    Calls Try.prog 13 #[.slice a0 len0 cap0] w fun e w' => e = .returned (.bool true) ∧ Below w.heap.size w w' := by
  by_cases hl0 : 1048576 < len0
  · clear w0
    go_enter Try.func13, Try.ntmps13
    go_wp2_with fail
    go_ret
    exact ⟨rfl, Below.refl _ _⟩
  · have HC := Lib.hid (code_of w0 (by omega))
    clear w0
    go_enter Try.func13, Try.ntmps13
    go_wp2_with fail
    refine (c_DrawLeftMoves a0 len0 cap0 _ HC.out).mono ?_
    rintro e w1 ⟨vR, rf, s, l, x, rfl, hR, hrf, hs, hx0, hx1, hb1⟩
    obtain ⟨A, cA, hv⟩ := hR.form
    subst hv
    have L1 := Lib.hid (LW.start rf hb1 hR)
    clear hR hb1 HC
    have x0 := L1.out.c0
    have x1 := L1.out.c1
    go_wp2_with fail
    refine (c_LeftMoves _ l rf s x _ L1.out.rot (by omega) (by omega)).mono ?_
    rintro e w2 ⟨rfl, hb2⟩
    have L2 := Lib.hid (L1.out.ext hb2)
    clear hb2 x0 x1 L1
    have x0 := L2.out.c0
    have x1 := L2.out.c1
    rcases manyOk_cases l rf s x with ⟨h1, hr⟩ | ⟨h1, h2, hr⟩ | ⟨h1, h2, h3, hr⟩ | ⟨h1, N, rfl, h2, hr⟩
    case inr.inr.inr =>
      have HE : Hid (leftR l rf s N = (leftN l s N : Int)) := by show leftR l rf s N = _; unfold leftR; rw [if_pos hr, Int.toNat_natCast]
      rw [HE.out]
      have HW := Lib.hid h1
      have hz : (it (stepS l) N s).size ≤ 1001 := by rw [it_size]; exact hs
      have hln := leftN_le l s N
      clear h1 hr
      go_wp2_with fail
      refine (c_sLeftMoves _ l rf s N _ L2.out.rot (by omega) (by omega)).mono ?_
      rintro e w3 ⟨rfl, hb3⟩
      rw [HE.out]
      have L3 := Lib.hid (L2.out.ext hb3)
      clear hb3 x0 x1 L2
      have x0 := L3.out.c0
      have x1 := L3.out.c1
      go_wp2_with fail
      refine (c_rcSteps A cA l rf s _ _ L3.out.rot (by omega) (by omega)).mono ?_
      rintro e w4 ⟨rfl, hb4⟩
      rw [stR_ok HW.out h2]
      have L4 := Lib.hid (L3.out.ext hb4)
      clear hb4 x0 x1 L3
      have x0 := L4.out.c0
      have x1 := L4.out.c1
      obtain ⟨f1, f2, f3, f4⟩ := win_facts HW.out
      have hll := L4.out.rot.len_le
      have z1 : (it (stepS l) N s).size = s.size := it_size l N s
      have q1 : (leftN l s N : Int).tmod 10 = (leftN l s N : Int) % 10 := Int.tmod_eq_emod_of_nonneg (by omega)
      have i1 : (1 : Int) ≤ (s.size : Int) := by omega
      have i2 : (1 : Int) ≤ ((it (stepS l) N s).size : Int) := by omega
      have hL1 : l.length = 1 → leftN l s N = N := fun h => left_one N (by omega)
      clear f4
      have HS : ((((it (stepS l) N s).extract 0 1).toList == (shR (s.extract 0 1) ((leftN l s N : Int) % 10)).toList) = true) := bs_yes (first_law HW.out N)
      have hlt4 := L4.out.lt
      have hle : decide ((leftN l s N : Int) ≤ (N : Int)) = true := by simp; omega
      by_cases hl1 : 1 < l.length
      · have hl2 : decide ((1 : Int) < (l.length : Int)) = true := by simp; omega
        clear hl1
        go_wp2_with fail
        refine wp_region_ext (by kernel_rfl) (by kernel_rfl) ?_
        repeat (go_big_quiet_step ((go_at_call 32; exact Ext.call _ (c_ShiftWord _ _ _ (xle9 _ _ _ hs)))))
        refine wpQuiet_nil ?_
        rintro _ ⟨⟨w5, hb5⟩, rfl⟩
        have L5 := Lib.hid (L4.out.ext hb5)
        clear hb5 HS
        go_wp2_with fail
        go_ret
        exact ⟨rfl, L5.out.bel⟩
      · have hl2 : decide ((1 : Int) < (l.length : Int)) = false := by simp; omega
        have heq : ((leftN l s N : Int) == (N : Int)) = true := by rw [hL1 (by omega)]; simp
        clear hl1
        go_wp2_with fail
        refine wp_region_ext (by kernel_rfl) (by kernel_rfl) ?_
        repeat (go_big_quiet_step ((go_at_call 32; exact Ext.call _ (c_ShiftWord _ _ _ (xle9 _ _ _ hs)))))
        refine wpQuiet_nil ?_
        rintro _ ⟨⟨w5, hb5⟩, rfl⟩
        have L5 := Lib.hid (L4.out.ext hb5)
        clear hb5 HS
        go_wp2_with fail
        go_ret
        exact ⟨rfl, L5.out.bel⟩
    all_goals
      have HE : Hid (leftR l rf s x = -1) := by show leftR l rf s x = _; unfold leftR; rw [if_neg (by rw [hr]; simp)]
      rw [HE.out]
      clear hr h1
      go_wp2_with fail
      refine (c_sLeftMoves _ l rf s x _ L2.out.rot (by omega) (by omega)).mono ?_
      rintro e w3 ⟨rfl, hb3⟩
      rw [HE.out]
      have L3 := Lib.hid (L2.out.ext hb3)
      clear hb3 x0 x1 L2
      have x0 := L3.out.c0
      have x1 := L3.out.c1
      go_wp2_with fail
      refine (c_sLeftMoves _ l rf s x _ L3.out.rot (by omega) (by omega)).mono ?_
      rintro e w4 ⟨rfl, hb4⟩
      rw [HE.out]
      have L4 := Lib.hid (L3.out.ext hb4)
      clear hb4 x0 x1 L3
      have x0 := L4.out.c0
      have x1 := L4.out.c1
      go_wp2_with fail
      go_ret
      exact ⟨rfl, L4.out.bel⟩
end Go.Proofs.Ytbapigekpehkfaa
