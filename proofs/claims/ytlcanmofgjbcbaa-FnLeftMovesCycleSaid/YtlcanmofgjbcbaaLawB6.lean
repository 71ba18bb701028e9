/- The walks of the laws on periods and lead-ins: each returns true. -/
import Derived.Test.YtlcanmofgjbcbaaLawStepsB
namespace Go.Proofs.Ytlcanmofgjbcbaa
set_option linter.unusedVariables false
set_option linter.unusedSimpArgs false
open Go.RowKit
attribute [local go_sem] Ext.cell
open BigFrame

set_option maxHeartbeats 1000000 in
set_option maxRecDepth 100000 in
theorem walk_FnLeftMovesCycle (a0 : Option Addr) (len0 cap0 : Nat) (z0 : List Int) (w : World) (w0 : IsRowB w a0 len0 cap0 z0) :
    Calls Try.prog 8 #[.slice a0 len0 cap0] w fun e w' => e = .returned (.bool true) ∧ Below w.heap.size w w' := by
  by_cases hl0 : 1048576 < len0
  · clear w0
    go_enter Try.func8, Try.ntmps8
    go_wp2_with fail
    go_ret
    exact ⟨rfl, Below.refl _ _⟩
  · have HC := Lib.hid (code_of w0 (by omega))
    clear w0
    go_enter Try.func8, Try.ntmps8
    go_wp2_with fail
    refine (c_DrawLeftMoves a0 len0 cap0 _ HC.out).mono ?_
    rintro e w1 ⟨vR, rf, s, l, x, rfl, hR, hrf, hs, hx0, hx1, hb1⟩
    obtain ⟨A, cA, hv⟩ := hR.form
    subst hv
    have L1 := Lib.hid (LW.start rf hb1 hR)
    clear hR hb1 HC
    have x0 := L1.out.c0
    have x1 := L1.out.c1
    go_wp2_with fail
    refine (c_LeftMoves _ l rf s x _ L1.out.rot (by omega) (by omega)).mono ?_
    rintro e w2 ⟨rfl, hb2⟩
    have L2 := Lib.hid (L1.out.ext hb2)
    clear hb2 x0 x1 L1
    have x0 := L2.out.c0
    have x1 := L2.out.c1
    rcases manyOk_cases l rf s x with ⟨h1, hr⟩ | ⟨h1, h2, hr⟩ | ⟨h1, h2, h3, hr⟩ | ⟨h1, N, rfl, h2, hr⟩
    case inr.inr.inr =>
      have HE : Hid (leftR l rf s N = (leftN l s N : Int)) := by show leftR l rf s N = _; unfold leftR; rw [if_pos hr, Int.toNat_natCast]
      rw [HE.out]
      have HW := Lib.hid h1
      have hln := leftN_le l s N
      have t0 : decide ((leftN l s N : Int) < 0) = false := by simp
      clear h1 hr
      go_wp2_with fail
      refine (c_sLeftMoves _ l rf s N _ L2.out.rot (by omega) (by omega)).mono ?_
      rintro e w3 ⟨rfl, hb3⟩
      rw [HE.out]
      have L3 := Lib.hid (L2.out.ext hb3)
      clear hb3 x0 x1 L2
      have x0 := L3.out.c0
      have x1 := L3.out.c1
      cases hsg : singB l with
      | false =>
        have HS := Lib.hid hsg
        clear hsg
        go_wp2_with fail
        refine (c_rcSingle A cA l rf _ L3.out.rot).mono ?_
        rintro e w4 ⟨rfl, hb4⟩
        rw [HS.out]
        have L4 := Lib.hid (L3.out.ext hb4)
        clear hb4 x0 x1 L3
        have x0 := L4.out.c0
        have x1 := L4.out.c1
        go_wp2_with fail
        refine (c_sLeftMoves _ l rf s N _ L4.out.rot (by omega) (by omega)).mono ?_
        rintro e w5 ⟨rfl, hb5⟩
        rw [HE.out]
        have L5 := Lib.hid (L4.out.ext hb5)
        clear hb5 x0 x1 L4
        have x0 := L5.out.c0
        have x1 := L5.out.c1
        go_wp2_with fail
        go_ret
        exact ⟨rfl, L5.out.bel⟩
      | true =>
        have HS := Lib.hid hsg
        clear hsg
        obtain ⟨f1, f2, f3, f4⟩ := win_facts HW.out
        have hll : l.length ≤ 3 := by omega
        by_cases hl2 : l.length < 2
        · have t1 : decide ((l.length : Int) < 2) = true := by simp; omega
          clear f3 f4
          go_wp2_with fail
          refine (c_rcSingle A cA l rf _ L3.out.rot).mono ?_
          rintro e w4 ⟨rfl, hb4⟩
          rw [HS.out]
          have L4 := Lib.hid (L3.out.ext hb4)
          clear hb4 x0 x1 L3
          have x0 := L4.out.c0
          have x1 := L4.out.c1
          go_wp2_with fail
          refine (c_sLeftMoves _ l rf s N _ L4.out.rot (by omega) (by omega)).mono ?_
          rintro e w5 ⟨rfl, hb5⟩
          rw [HE.out]
          have L5 := Lib.hid (L4.out.ext hb5)
          clear hb5 x0 x1 L4
          have x0 := L5.out.c0
          have x1 := L5.out.c1
          go_wp2_with fail
          go_ret
          exact ⟨rfl, L5.out.bel⟩
        · have t1 : decide ((l.length : Int) < 2) = false := by simp; omega
          obtain ⟨r, hr⟩ : ∃ r, N % 900 = r := ⟨_, rfl⟩
          have hr9 : r < 900 := by omega
          have q1 : (N : Int) % 900 = (r : Int) := by omega
          have q2 : (N : Int).tmod 900 = (r : Int) := by rw [Int.tmod_eq_emod_of_nonneg (by omega)]; exact q1
          have E5 : Hid (stR l rf s 2 = it (stepS l) 2 s) := stR_ok (n := 2) HW.out (by omega)
          have hw2 := it_win (l := l) (rf := rf) 2 HW.out
          obtain ⟨p, hp⟩ : ∃ p, perN' (stepS l) (it (stepS l) 2 s) = p := ⟨_, rfl⟩
          have EP : Hid (perR l rf (it (stepS l) 2 s) = (p : Int)) := by show perR l rf (it (stepS l) 2 s) = _; unfold perR; rw [if_pos hw2, hp]
          have hz : (it (stepS l) 2 s).size = s.size := it_size l 2 s
          have hsg := (Sg.of HW.out HS.out)
          have hcs := single_rho (hsg.it 2) (by omega) (by omega) (win_rho' hw2).1
          rw [hp, hz] at hcs
          have hpp : p = 100 ∧ (it (stepS l) 2 s).size = 2 ∨ p = 900 ∧ (it (stepS l) 2 s).size = 3 ∧ Inv3 l (it (stepS l) 2 s) := by
            rcases hcs with ⟨a, b, c⟩ | ⟨a, b, c⟩ | ⟨a, b, c⟩
            · omega
            · left; exact ⟨b, by omega⟩
            · right; exact ⟨b, by omega, inv3 hsg a⟩
          have hp9 : p ≤ 900 := by omega
          obtain ⟨c1, c2⟩ := left_cycle (hsg.it 2) (by omega) (by omega) hpp r
          have hleft : ∀ n : Nat, n ≤ 2000 → leftR l rf (it (stepS l) 2 s) (n : Int) = (leftN l (it (stepS l) 2 s) n : Int) := fun n hn => by
            unfold leftR manyOk
            rw [hw2, decide_eq_true (show (0 : Int) ≤ n by omega), decide_eq_true (show (n : Int) ≤ 2000 by omega)]
            simp
          have HL1 : Hid (leftR l rf (it (stepS l) 2 s) (p : Int) = 10) := by show leftR l rf (it (stepS l) 2 s) (p : Int) = 10; rw [hleft p (by omega), c1]; rfl
          have HL2 : Hid (leftR l rf (it (stepS l) 2 s) ((p : Int) + (r : Int)) = 10 + (leftN l (it (stepS l) 2 s) r : Int)) := by
            show leftR l rf (it (stepS l) 2 s) ((p : Int) + (r : Int)) = _
            have := hleft (p + r) (by omega)
            rw [c2] at this
            simpa using this
          have HL3 : Hid (leftR l rf (it (stepS l) 2 s) (r : Int) = (leftN l (it (stepS l) 2 s) r : Int)) := hleft r (by omega)
          have hrl := leftN_le l (it (stepS l) 2 s) r
          have e1 : IntKind.i64.wrap ((p : Int) + (r : Int)) = (p : Int) + (r : Int) := IntWalk.i64_in _ (by omega)
          have e2 : IntKind.i64.wrap (10 + (leftN l (it (stepS l) 2 s) r : Int)) = 10 + (leftN l (it (stepS l) 2 s) r : Int) := IntWalk.i64_in _ (by omega)
          have E1 := Lib.hid e1
          have E2 := Lib.hid e2
          clear f3 f4 hr hp hcs hpp c1 c2 hleft e1 e2 hw2 hsg
          go_wp2_with fail
          refine (c_rcSingle A cA l rf _ L3.out.rot).mono ?_
          rintro e w4 ⟨rfl, hb4⟩
          rw [HS.out]
          have L4 := Lib.hid (L3.out.ext hb4)
          clear hb4 x0 x1 L3
          have x0 := L4.out.c0
          have x1 := L4.out.c1
          go_wp2_with fail
          refine (c_rcSteps A cA l rf s 2 _ L4.out.rot (by omega) (by omega)).mono ?_
          rintro e w5 ⟨rfl, hb5⟩
          rw [E5.out]
          have L5 := Lib.hid (L4.out.ext hb5)
          clear hb5 x0 x1 L4
          have x0 := L5.out.c0
          have x1 := L5.out.c1
          go_wp2_with fail
          refine (c_PeriodOf _ l rf _ _ L5.out.rot (by omega) (by omega)).mono ?_
          rintro e w6 ⟨rfl, hb6⟩
          rw [EP.out]
          have L6 := Lib.hid (L5.out.ext hb6)
          clear hb6 x0 x1 L5
          have x0 := L6.out.c0
          have x1 := L6.out.c1
          have hlt6 := L6.out.lt
          go_wp2_with fail
          have e1 := E1.out
          have e2 := E2.out
          have g1 := HL1.out
          have g2 := HL2.out
          have g3 := HL3.out
          refine wp_region_ext (by kernel_rfl) (by kernel_rfl) ?_
          repeat (go_big_quiet_step ((first
            | (go_at_call 26; exact Ext.call _ (c_LeftMoves _ l rf _ _ _ (L6.out.rot.ext (Subtype.property _)) (by omega) (by omega))))))
          refine wpQuiet_nil ?_
          rintro _ ⟨⟨w7, hb7⟩, rfl⟩
          have L7 := Lib.hid (L6.out.ext hb7)
          clear hb7 x0 x1 e1 e2 g1 g2 g3
          go_wp2_with fail
          go_ret
          exact ⟨rfl, L7.out.bel⟩
    all_goals
      have HE : Hid (leftR l rf s x = -1) := by show leftR l rf s x = _; unfold leftR; rw [if_neg (by rw [hr]; simp)]
      rw [HE.out]
      clear hr h1
      go_wp2_with fail
      refine (c_sLeftMoves _ l rf s x _ L2.out.rot (by omega) (by omega)).mono ?_
      rintro e w3 ⟨rfl, hb3⟩
      rw [HE.out]
      have L3 := Lib.hid (L2.out.ext hb3)
      clear hb3 x0 x1 L2
      have x0 := L3.out.c0
      have x1 := L3.out.c1
      go_wp2_with fail
      refine (c_sLeftMoves _ l rf s x _ L3.out.rot (by omega) (by omega)).mono ?_
      rintro e w4 ⟨rfl, hb4⟩
      rw [HE.out]
      have L4 := Lib.hid (L3.out.ext hb4)
      clear hb4 x0 x1 L3
      have x0 := L4.out.c0
      have x1 := L4.out.c1
      go_wp2_with fail
      go_ret
      exact ⟨rfl, L4.out.bel⟩
end Go.Proofs.Ytlcanmofgjbcbaa
