/- The walk of FnEncipherFits. -/
import Derived.Test.YthelcpfcamidiaaGreatLawMa
namespace Go.Proofs.YthelcpfcamidiaaGreat
set_option linter.unusedVariables false
set_option linter.unusedSimpArgs false
open Go.RowKit
attribute [local go_sem] Ext.cell
open BigFrame

set_option maxHeartbeats 1000000 in
set_option maxRecDepth 100000 in
theorem walk_FnEncipherFits (a0 : Option Addr) (len0 cap0 : Nat) (z0 : List Int) (w : World) (w0 : IsRowB w a0 len0 cap0 z0) :
    Calls Tryz.prog 4 #[.slice a0 len0 cap0] w fun e w' => e = .returned (.bool true) ∧ Below w.heap.size w w' := by
  by_cases hl0 : 1048576 < len0
  · clear w0
    go_enter Tryz.func4, Tryz.ntmps4
    go_wp2_with fail
    go_ret
    exact ⟨rfl, Below.refl _ _⟩
  · have HC := Lib.hid (code_of w0 (by omega))
    clear w0
    go_enter Tryz.func4, Tryz.ntmps4
    go_wp2_with fail
    refine (c_DrawEncipher a0 len0 cap0 _ HC.out).mono ?_
    rintro e w1 ⟨A, cA, M, s, t, rfl, hR, hM, hs, ht, hb1⟩
    have L1 := Lib.hid (MW.start M hb1 hR)
    have HM := Lib.hid hM.sz
    clear hR hb1 HC hM
    have x0 := L1.out.c0
    have x1 := L1.out.c1
    have x2 := L1.out.c2
    have x3 := L1.out.c3
    go_wp2_with fail
    refine (c_Encipher A cA M s t _ L1.out.rot HM.out (by omega) (by omega)).mono ?_
    rintro e w2 ⟨rfl, hb2⟩
    have L2 := Lib.hid (L1.out.ext hb2)
    clear hb2 x0 x1 x2 x3 L1
    have x0 := L2.out.c0
    have x1 := L2.out.c1
    have x2 := L2.out.c2
    have x3 := L2.out.c3
    rcases encR_cases M s t with ⟨h1, hr⟩ | ⟨h1, h2, hr⟩
    · rw [hr]
      have HR := Lib.hid hr
      have H1 := Lib.hid h1
      clear h1 hr
      go_wp2_with fail
      refine (c_sEncipher A cA M s t _ L2.out.rot HM.out (by omega) (by omega)).mono ?_
      rintro e w3 ⟨rfl, hb3⟩
      rw [HR.out]
      have L3 := Lib.hid (L2.out.ext hb3)
      clear hb3 x0 x1 x2 x3 L2
      have x0 := L3.out.c0
      have x1 := L3.out.c1
      have x2 := L3.out.c2
      have x3 := L3.out.c3
      go_wp2_with fail
      refine (c_rcFits A cA M s _ L3.out.rot HM.out (by omega)).mono ?_
      rintro e w4 ⟨rfl, hb4⟩
      have L4 := Lib.hid (L3.out.ext hb4)
      clear hb4 x0 x1 x2 x3 L3
      cases h3 : setB M s with
      | false =>
        go_wp2_with fail
        go_ret
        exact ⟨rfl, L4.out.bel⟩
      | true =>
        have h4 : wv t = false := by have := H1.out; rw [h3] at this; simpa using this
        clear h3
        go_wp2_with (go_at_call 18; refine (c_WordValid _ _ (by omega)).mono ?_; rintro e w' ⟨rfl, rfl⟩; rw [h4])
        go_ret
        exact ⟨rfl, L4.out.bel⟩
    · rw [hr]
      have HB := (setB_iff _ _).1 h1
      have hst := stR_ok (setB_win h1) (n := t.size) (by have := ((wv_iff t).1 h2).1; omega)
      have hv1 := encW_wv (s := s) HB.1 h2
      have hz1 := encW_size M s t
      obtain ⟨p, hp⟩ : ∃ p, encW M s t = p := ⟨_, rfl⟩
      obtain ⟨q, hq⟩ : ∃ q, it (stepS M.l) t.size s = q := ⟨_, rfl⟩
      rw [hp, hq] at hr
      rw [hp] at hv1 hz1
      rw [hq] at hst
      rw [hp, hq]
      have HR := Lib.hid hr
      have H1 := Lib.hid h1
      have H2 := Lib.hid h2
      have HST := Lib.hid hst
      have HV1 := Lib.hid hv1
      have hz2 : p.size ≤ 9223372036854775807 := by omega
      clear h1 hr h2 hst hv1 hz1 hp hq HB
      go_wp2_with fail
      refine (c_sEncipher A cA M s t _ L2.out.rot HM.out (by omega) (by omega)).mono ?_
      rintro e w3 ⟨rfl, hb3⟩
      rw [HR.out]
      have L3 := Lib.hid (L2.out.ext hb3)
      clear hb3 x0 x1 x2 x3 L2
      have x0 := L3.out.c0
      have x1 := L3.out.c1
      have x2 := L3.out.c2
      have x3 := L3.out.c3
      go_wp2_with fail
      refine (c_rcFits A cA M s _ L3.out.rot HM.out (by omega)).mono ?_
      rintro e w4 ⟨rfl, hb4⟩
      rw [H1.out]
      have L4 := Lib.hid (L3.out.ext hb4)
      clear hb4 x0 x1 x2 x3 L3
      have x0 := L4.out.c0
      have x1 := L4.out.c1
      have h2 := H2.out
      have hv1 := HV1.out
      have hzt : t.size ≤ 9223372036854775807 := by omega
      go_wp2_with (go_at_call 18; refine (c_WordValid _ _ (by first | exact hzt | exact hz2)).mono ?_; rintro e w' ⟨rfl, rfl⟩; first | rw [h2] | rw [hv1])
      refine (c_rcSteps A cA M.l M.rf s _ _ L4.out.rot HM.out.1 (by omega)).mono ?_
      rintro e w5 ⟨rfl, hb5⟩
      rw [HST.out]
      have L5 := Lib.hid (L4.out.ext hb5)
      clear hb5
      go_wp2_with fail
      go_ret
      exact ⟨rfl, L5.out.bel⟩
end Go.Proofs.YthelcpfcamidiaaGreat
