/- The walk of FnEncipherTwice. -/
import Derived.Test.YtnjmjgnmbjbfpaaLawMach
namespace Go.Proofs.Ytnjmjgnmbjbfpaa
set_option linter.unusedVariables false
set_option linter.unusedSimpArgs false
open Go.RowKit
attribute [local go_sem] Ext.cell
open BigFrame

set_option maxHeartbeats 1000000 in
set_option maxRecDepth 100000 in
theorem walk_FnEncipherTwice (a0 : Option Addr) (len0 cap0 : Nat) (z0 : List Int) (w : World) (w0 : IsRowB w a0 len0 cap0 z0) :
    Calls Try.prog 6 #[.slice a0 len0 cap0] w fun e w' => e = .returned (.bool true) ∧ Below w.heap.size w w' := by
  by_cases hl0 : 1048576 < len0
  · clear w0
    go_enter Try.func6, Try.ntmps6
    go_wp2_with fail
    go_ret
    exact ⟨rfl, Below.refl _ _⟩
  · have HC := Lib.hid (code_of w0 (by omega))
    clear w0
    go_enter Try.func6, Try.ntmps6
    go_wp2_with fail
    refine (c_DrawEncipher a0 len0 cap0 _ HC.out).mono ?_
    rintro e w1 ⟨A, cA, M, s, t, rfl, hR, hM, hs, ht, hb1⟩
    have L1 := Lib.hid (MW.start M hb1 hR)
    have HM := Lib.hid hM.sz
    clear hR hb1 HC hM
    have x0 := L1.out.c0
    have x1 := L1.out.c1
    have x2 := L1.out.c2
    have x3 := L1.out.c3
    go_wp2_with fail
    refine (c_Encipher A cA M s t _ L1.out.rot HM.out (by omega) (by omega)).mono ?_
    rintro e w2 ⟨rfl, hb2⟩
    have L2 := Lib.hid (L1.out.ext hb2)
    clear hb2 x0 x1 x2 x3 L1
    have x0 := L2.out.c0
    have x1 := L2.out.c1
    have x2 := L2.out.c2
    have x3 := L2.out.c3
    rcases encR_cases M s t with ⟨h1, hr⟩ | ⟨h1, h2, hr⟩
    · rw [hr]
      have HR := Lib.hid hr
      clear h1 hr
      go_wp2_with fail
      refine (c_sEncipher A cA M s t _ L2.out.rot HM.out (by omega) (by omega)).mono ?_
      rintro e w3 ⟨rfl, hb3⟩
      rw [HR.out]
      have L3 := Lib.hid (L2.out.ext hb3)
      clear hb3 x0 x1 x2 x3 L2
      go_wp2_with fail
      go_ret
      exact ⟨rfl, L3.out.bel⟩
    · rw [hr]
      have HR := Lib.hid hr
      have H1 := Lib.hid h1
      have H2 := Lib.hid h2
      have HB := Lib.hid ((setB_iff _ _).1 h1).1
      clear h1 hr h2
      go_wp2_with fail
      refine (c_sEncipher A cA M s t _ L2.out.rot HM.out (by omega) (by omega)).mono ?_
      rintro e w3 ⟨rfl, hb3⟩
      rw [HR.out]
      have L3 := Lib.hid (L2.out.ext hb3)
      clear hb3 x0 x1 x2 x3 L2
      have x0 := L3.out.c0
      have x1 := L3.out.c1
      have x2 := L3.out.c2
      have x3 := L3.out.c3
      go_wp2_with fail
      refine (c_Encipher A cA M s (encW M s t) _ L3.out.rot HM.out (by omega) (by rw [encW_size]; omega)).mono ?_
      rintro e w4 ⟨rfl, hb4⟩
      rw [encR_ok H1.out (encW_wv HB.out H2.out), encW_twice HB.out H2.out, encW_size]
      have L4 := Lib.hid (L3.out.ext hb4)
      clear hb4 x0 x1 x2 x3 L3
      have HZ := Lib.hid (encW_size M s t)
      have t0 : (((encW M s t).size : Int) == (t.size : Int)) = true := by rw [encW_size]; simp
      go_wp2_with fail
      go_ret
      exact ⟨rfl, L4.out.bel⟩
end Go.Proofs.Ytnjmjgnmbjbfpaa
