/- The walk of FnHasRepeatPlugs. -/
import Derived.Test.YthelcpfcamidiaaGreatCloneFns
import Derived.Test.YthelcpfcamidiaaGreatSpecRep
namespace Go.Proofs.YthelcpfcamidiaaGreat
set_option linter.unusedVariables false
set_option linter.unusedSimpArgs false
open Go.RowKit
attribute [local go_sem] Ext.cell
open BigFrame

set_option maxHeartbeats 2000000 in
set_option maxRecDepth 100000 in
theorem walk_FnHasRepeatPlugs (a0 : Option Addr) (len0 cap0 : Nat) (z0 : List Int) (a1 : Option Addr) (len1 cap1 : Nat) (z1 : List Int) (w : World) (w0 : IsRowB w a0 len0 cap0 z0) (w1 : IsRowB w a1 len1 cap1 z1) :
    Calls Tryz.prog 6 #[.slice a0 len0 cap0, .slice a1 len1 cap1] w fun e w' => e = .returned (.bool true) ∧ Below w.heap.size w w' := by
  by_cases hl0 : 1048576 < len0
  · clear w0 w1
    go_enter Tryz.func6, Tryz.ntmps6
    go_wp2_with fail
    go_ret
    exact ⟨rfl, Below.refl _ _⟩
  by_cases hl1 : 1048576 < len1
  · clear w0 w1
    go_enter Tryz.func6, Tryz.ntmps6
    go_wp2_with fail
    go_ret
    exact ⟨rfl, Below.refl _ _⟩
  · have HC := Lib.hid (code_of w0 (by omega))
    have HD := Lib.hid (code_of w1 (by omega))
    clear w0 w1
    go_enter Tryz.func6, Tryz.ntmps6
    go_wp2_with fail
    refine (c_DrawHasRepeat a0 len0 cap0 _ HC.out).mono ?_
    rintro e w1 ⟨A, cA, M, s, x, rfl, hR, _, hM, hs1, hs, hx1, hx2, hb1⟩
    have L1 := Lib.hid (MW.start M hb1 hR)
    have D1 := Lib.hid ((HD.out.ext hb1).ext (ext_alloc w1 (.cells #[.slice A M.l.length cA, .string M.rf, .string M.rg, .string M.pl] 27)))
    have HM := Lib.hid hM.sz
    clear hR hb1 HC HD hM
    have x0 := L1.out.c0
    have x1 := L1.out.c1
    have x2 := L1.out.c2
    have x3 := L1.out.c3
    go_wp2_with fail
    refine (c_HasRepeat A cA M s x _ L1.out.rot HM.out (by omega)).mono ?_
    rintro e w2 ⟨rfl, hb2⟩
    obtain ⟨r, hr⟩ : ∃ r, repB M s x = r := ⟨_, rfl⟩
    rw [hr]
    have HR := Lib.hid hr
    clear hr
    have L2 := Lib.hid (L1.out.ext hb2)
    have D2 := Lib.hid (D1.out.ext hb2)
    clear hb2 x0 x1 x2 x3 L1 D1
    have x0 := L2.out.c0
    have x1 := L2.out.c1
    have x2 := L2.out.c2
    have x3 := L2.out.c3
    go_wp2_with fail
    refine (c_sHasRepeat A cA M s x _ L2.out.rot HM.out (by omega)).mono ?_
    rintro e w3 ⟨rfl, hb3⟩
    rw [HR.out]
    have L3 := Lib.hid (L2.out.ext hb3)
    have D3 := Lib.hid (D2.out.ext hb3)
    clear hb3 x0 x1 x2 x3 L2 D2
    have x0 := L3.out.c0
    have x1 := L3.out.c1
    have x2 := L3.out.c2
    have x3 := L3.out.c3
    go_wp2_with fail
    refine (c_MachineValid A cA M _ L3.out.rot HM.out).mono ?_
    rintro e w4 ⟨rfl, hb4⟩
    have L4 := Lib.hid (L3.out.ext hb4)
    have D4 := Lib.hid (D3.out.ext hb4)
    clear hb4 x0 x1 x2 x3 L3 D3
    have x0 := L4.out.c0
    have x1 := L4.out.c1
    have x2 := L4.out.c2
    have x3 := L4.out.c3
    cases hmb : mB M with
    | false =>
      clear hmb
      go_wp2_with fail
      refine (c_sHasRepeat A cA M s x _ L4.out.rot HM.out (by omega)).mono ?_
      rintro e w5 ⟨rfl, hb5⟩
      rw [HR.out]
      have L5 := Lib.hid (L4.out.ext hb5)
      clear hb5 x0 x1 x2 x3 L4
      go_wp2_with fail
      go_ret
      exact ⟨by simp, L5.out.bel⟩
    | true =>
      have HB := Lib.hid hmb
      clear hmb
      go_wp2_with fail
      refine (c_DrawWithPlugs a1 len1 cap1 _ D4.out).mono ?_
      rintro e w5 ⟨A5, cA5, M5, q, rfl, hR5, hM5, hq, hb5⟩
      have L5 := Lib.hid ((L4.out.ext hb5).ext (ext_alloc w5 (.cells #[.slice A5 M5.l.length cA5, .string M5.rf, .string M5.rg, .string M5.pl] 27)))
      have N5 := Lib.hid (MW.start (w := w) M5 (ext_trans L4.out.bel hb5) hR5)
      have HM5 := Lib.hid hM5.sz
      clear hR5 hM5 hb5 x0 x1 x2 x3 L4 D4
      have y3 := N5.out.c3
      go_wp2_with fail
      refine (c_PlugsValid M5.pl _ HM5.out.2.2).mono ?_
      rintro e w6 ⟨rfl, hb6⟩
      have L6 := Lib.hid (L5.out.ext hb6)
      have N6 := Lib.hid (N5.out.ext hb6)
      clear hb6 y3 L5 N5
      have y3 := N6.out.c3
      have x0 := L6.out.c0
      have x1 := L6.out.c1
      have x2 := L6.out.c2
      have x3 := L6.out.c3
      have hfin : Hid (∀ p : ByteArray, plugB p = true → repB (plM M p) s x = r) := fun p hp => by rw [repB_pl s x HB.out hp]; exact HR.out
      cases hpv : plugB M5.pl with
      | true =>
        clear hpv
        go_wp2_with fail
        refine (c_WithPlugs A cA M M5.pl _ L6.out.rot HM.out HB.out (by first | exact HM5.out.2.2 | omega)).mono ?_
        rintro e w7 ⟨(⟨hp, v, rfl, _⟩ | ⟨hp, A7, c7, rfl, hR7⟩), hb7⟩
        · have L7 := Lib.hid (L6.out.ext hb7)
          clear hb7 x0 x1 x2 x3 y3 hp
          go_wp2_with fail
          go_ret
          exact ⟨rfl, (ext_trans L7.out.bel (ext_alloc _ _))⟩
        · have L7 := Lib.hid (L6.out.ext hb7)
          have N7 := Lib.hid (MW.start (w := w) (plM M M5.pl) L7.out.bel hR7)
          have HMP : Hid (MSz (plM M M5.pl)) := ⟨HM.out.1, HM.out.2.1, by show (M5.pl : ByteArray).size ≤ _; first | exact HM5.out.2.2 | omega⟩
          have HE := Lib.hid (hfin.out M5.pl hp)
          clear hb7 x0 x1 x2 x3 y3 hp hR7 L6 N6
          have z0 := N7.out.c0
          have z1 := N7.out.c1
          have z2 := N7.out.c2
          have z3 := N7.out.c3
          go_wp2_with fail
          refine (c_HasRepeat A7 c7 (plM M M5.pl) s x _ N7.out.rot HMP.out (by omega)).mono ?_
          rintro e w8 ⟨rfl, hb8⟩
          rw [HE.out]
          have N8 := Lib.hid (N7.out.ext hb8)
          clear hb8 z0 z1 z2 z3
          go_wp2_with fail
          go_ret
          exact ⟨by simp, N8.out.bel⟩
      | false =>
        clear hpv
        go_wp2_with fail
        refine (c_WithPlugs A cA M q _ L6.out.rot HM.out HB.out (by first | exact HM5.out.2.2 | omega)).mono ?_
        rintro e w7 ⟨(⟨hp, v, rfl, _⟩ | ⟨hp, A7, c7, rfl, hR7⟩), hb7⟩
        · have L7 := Lib.hid (L6.out.ext hb7)
          clear hb7 x0 x1 x2 x3 y3 hp
          go_wp2_with fail
          go_ret
          exact ⟨rfl, (ext_trans L7.out.bel (ext_alloc _ _))⟩
        · have L7 := Lib.hid (L6.out.ext hb7)
          have N7 := Lib.hid (MW.start (w := w) (plM M q) L7.out.bel hR7)
          have HMP : Hid (MSz (plM M q)) := ⟨HM.out.1, HM.out.2.1, by show (q : ByteArray).size ≤ _; first | exact HM5.out.2.2 | omega⟩
          have HE := Lib.hid (hfin.out q hp)
          clear hb7 x0 x1 x2 x3 y3 hp hR7 L6 N6
          have z0 := N7.out.c0
          have z1 := N7.out.c1
          have z2 := N7.out.c2
          have z3 := N7.out.c3
          go_wp2_with fail
          refine (c_HasRepeat A7 c7 (plM M q) s x _ N7.out.rot HMP.out (by omega)).mono ?_
          rintro e w8 ⟨rfl, hb8⟩
          rw [HE.out]
          have N8 := Lib.hid (N7.out.ext hb8)
          clear hb8 z0 z1 z2 z3
          go_wp2_with fail
          go_ret
          exact ⟨by simp, N8.out.bel⟩
end Go.Proofs.YthelcpfcamidiaaGreat
