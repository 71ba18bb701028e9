/- The walk of FnDoubleRead. -/
import Derived.Test.YtnjmjgnmbjbfpaaLawMach2
namespace Go.Proofs.Ytnjmjgnmbjbfpaa
set_option linter.unusedVariables false
set_option linter.unusedSimpArgs false
open Go.RowKit
attribute [local go_sem] Ext.cell
open BigFrame

set_option maxHeartbeats 1000000 in
set_option maxRecDepth 100000 in
theorem walk_FnDoubleRead (a0 : Option Addr) (len0 cap0 : Nat) (z0 : List Int) (w : World) (w0 : IsRowB w a0 len0 cap0 z0) :
    Calls Try.prog 3 #[.slice a0 len0 cap0] w fun e w' => e = .returned (.bool true) ∧ Below w.heap.size w w' := by
  by_cases hl0 : 1048576 < len0
  · clear w0
    go_enter Try.func3, Try.ntmps3
    go_wp2_with fail
    go_ret
    exact ⟨rfl, Below.refl _ _⟩
  · have HC := Lib.hid (code_of w0 (by omega))
    clear w0
    go_enter Try.func3, Try.ntmps3
    go_wp2_with fail
    refine (c_DrawDoubleIndicator a0 len0 cap0 _ HC.out).mono ?_
    rintro e w1 ⟨A, cA, M, s, t, rfl, hR, hM, hs, ht, hb1⟩
    have L1 := Lib.hid (MW.start M hb1 hR)
    have HM := Lib.hid hM.sz
    clear hR hb1 HC hM
    have x0 := L1.out.c0
    have x1 := L1.out.c1
    have x2 := L1.out.c2
    have x3 := L1.out.c3
    go_wp2_with fail
    refine (c_DoubleIndicator A cA M s t _ L1.out.rot HM.out (by omega) (by omega)).mono ?_
    rintro e w2 ⟨rfl, hb2⟩
    have L2 := Lib.hid (L1.out.ext hb2)
    clear hb2 x0 x1 x2 x3 L1
    have x0 := L2.out.c0
    have x1 := L2.out.c1
    have x2 := L2.out.c2
    have x3 := L2.out.c3
    rcases dblR_cases M s t with ⟨h1, hr⟩ | ⟨h1, h2, hr⟩
    · rw [hr]
      have HR := Lib.hid hr
      clear hr
      have H1 := Lib.hid h1
      clear h1
      go_wp2_with fail
      refine (c_sDoubleIndicator A cA M s t _ L2.out.rot HM.out (by omega) (by omega)).mono ?_
      rintro e w3 ⟨rfl, hb3⟩
      rw [HR.out]
      have L3 := Lib.hid (L2.out.ext hb3)
      clear hb3 x0 x1 x2 x3 L2
      have x0 := L3.out.c0
      have x1 := L3.out.c1
      have x2 := L3.out.c2
      have x3 := L3.out.c3
      go_wp2_with fail
      refine (c_rcFits A cA M s _ L3.out.rot HM.out (by omega)).mono ?_
      rintro e w4 ⟨rfl, hb4⟩
      have L4 := Lib.hid (L3.out.ext hb4)
      clear hb4 x0 x1 x2 x3 L3
      have x0 := L4.out.c0
      have x1 := L4.out.c1
      have x2 := L4.out.c2
      have x3 := L4.out.c3
      cases h3 : setB M s with
      | false =>
        go_wp2_with fail
        refine (c_rcFits A cA M s _ L4.out.rot HM.out (by omega)).mono ?_
        rintro e w5 ⟨rfl, hb5⟩
        have L5 := Lib.hid (L4.out.ext hb5)
        clear hb5 x0 x1 x2 x3 L4
        rw [h3]
        go_wp2_with fail
        go_ret
        exact ⟨rfl, L5.out.bel⟩
      | true =>
        have H4 : Hid (setB M t = false) := by have := H1.out; rw [h3] at this; exact this
        go_wp2_with fail
        refine (c_rcFits A cA M t _ L4.out.rot HM.out (by omega)).mono ?_
        rintro e w5 ⟨rfl, hb5⟩
        have L5 := Lib.hid (L4.out.ext hb5)
        clear hb5 x0 x1 x2 x3 L4
        have x0 := L5.out.c0
        have x1 := L5.out.c1
        have x2 := L5.out.c2
        have x3 := L5.out.c3
        rw [H4.out]
        go_wp2_with fail
        refine (c_rcFits A cA M s _ L5.out.rot HM.out (by omega)).mono ?_
        rintro e w6 ⟨rfl, hb6⟩
        have L6 := Lib.hid (L5.out.ext hb6)
        clear hb6 x0 x1 x2 x3 L5
        have x0 := L6.out.c0
        have x1 := L6.out.c1
        have x2 := L6.out.c2
        have x3 := L6.out.c3
        rw [h3]
        go_wp2_with fail
        refine (c_rcFits A cA M t _ L6.out.rot HM.out (by omega)).mono ?_
        rintro e w7 ⟨rfl, hb7⟩
        have L7 := Lib.hid (L6.out.ext hb7)
        clear hb7 x0 x1 x2 x3 L6
        rw [H4.out]
        go_wp2_with fail
        go_ret
        exact ⟨rfl, L7.out.bel⟩
    · rw [hr]
      have HR := Lib.hid hr
      have H1 := Lib.hid h1
      have H2 := Lib.hid h2
      have HB := Lib.hid (dbl_back h1 h2)
      have hz := encW_size M s (t ++ t)
      have HZ2 : Hid ((encW M s (t ++ t)).size = 2 * t.size) := by show (encW M s (t ++ t)).size = 2 * t.size; rw [hz, ByteArray.size_append]; omega
      have hz1 : (encW M s (t ++ t)).size ≤ 9223372036854775807 := by rw [HZ2.out]; omega
      clear h1 hr h2 hz
      go_wp2_with fail
      refine (c_sDoubleIndicator A cA M s t _ L2.out.rot HM.out (by omega) (by omega)).mono ?_
      rintro e w3 ⟨rfl, hb3⟩
      rw [HR.out]
      have L3 := Lib.hid (L2.out.ext hb3)
      clear hb3 x0 x1 x2 x3 L2
      have x0 := L3.out.c0
      have x1 := L3.out.c1
      have x2 := L3.out.c2
      have x3 := L3.out.c3
      go_wp2_with fail
      refine (c_rcFits A cA M s _ L3.out.rot HM.out (by omega)).mono ?_
      rintro e w4 ⟨rfl, hb4⟩
      rw [H1.out]
      have L4 := Lib.hid (L3.out.ext hb4)
      clear hb4 x0 x1 x2 x3 L3
      have x0 := L4.out.c0
      have x1 := L4.out.c1
      have x2 := L4.out.c2
      have x3 := L4.out.c3
      go_wp2_with fail
      refine (c_rcFits A cA M t _ L4.out.rot HM.out (by omega)).mono ?_
      rintro e w5 ⟨rfl, hb5⟩
      rw [H2.out]
      have L5 := Lib.hid (L4.out.ext hb5)
      clear hb5 x0 x1 x2 x3 L4
      have x0 := L5.out.c0
      have x1 := L5.out.c1
      have x2 := L5.out.c2
      have x3 := L5.out.c3
      go_wp2_with fail
      refine (c_ReadDouble A cA M s _ _ L5.out.rot HM.out (by omega) hz1).mono ?_
      rintro e w6 ⟨rfl, hb6⟩
      rw [HB.out]
      have L6 := Lib.hid (L5.out.ext hb6)
      clear hb6 x0 x1 x2 x3 L5
      have t0 : ((2 : Int) * (t.size : Int)) = ((encW M s (t ++ t)).size : Int) := by rw [HZ2.out]; omega
      have t1 : (((encW M s (t ++ t)).size : Int) == (2 : Int) * (t.size : Int)) = true := by rw [HZ2.out]; simp
      clear t0
      go_wp2_with fail
      go_ret
      exact ⟨rfl, L6.out.bel⟩
end Go.Proofs.Ytnjmjgnmbjbfpaa
