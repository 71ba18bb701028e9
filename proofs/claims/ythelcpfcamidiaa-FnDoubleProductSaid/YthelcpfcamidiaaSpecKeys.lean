/- Contracts of DoubleIndicator and ReadDouble (spec). -/
import Derived.Test.YthelcpfcamidiaaKeyFns
import Derived.Test.YthelcpfcamidiaaSpecMach3
namespace Go.Proofs.Ythelcpfcamidiaa
set_option linter.unusedVariables false
set_option linter.unusedSimpArgs false
open Go.RowKit
attribute [local go_sem] Ext.cell
open BigFrame

set_option maxHeartbeats 1000000 in
theorem c_sDoubleIndicator (A : Option Addr) (cA : Nat) (M : Mch) (s t : ByteArray) (w : World) (hR : IsRots w (.slice A M.l.length cA) M.l) (hz : MSz M) (hs : s.size ≤ 9223372036854775807) (ht : t.size ≤ 9223372036854775807) : Calls Try.prog 12 #[mV A cA M, .string s, .string t] w fun e w' => e = .returned (dblR M s t) ∧ Below w.heap.size w w' := by
  have L0 := Lib.hid (MW.start M (Below.refl w.heap.size w) hR)
  have HZ := Lib.hid hz
  clear hR hz
  go_enter Try.func12, Try.ntmps12
  have y0 := L0.out.c0
  have y1 := L0.out.c1
  have y2 := L0.out.c2
  have y3 := L0.out.c3
  go_wp2_with fail
  refine (c_l8Fits A cA M s _ L0.out.rot HZ.out hs).mono ?_
  rintro e w1 ⟨rfl, hb1⟩
  have L1 := Lib.hid (L0.out.ext hb1)
  clear hb1 L0 y0 y1 y2 y3
  cases h1 : setB M s with
  | false =>
    have HE := Lib.hid (dblR_no (M := M) (s := s) (t := t) (by rw [h1]; rfl))
    clear h1
    go_wp2_with fail
    go_ret2
    exact ⟨by rw [HE.out]; rfl, L1.out.bel⟩
  | true =>
    have H1 := Lib.hid h1
    clear h1
    have y0 := L1.out.c0
    have y1 := L1.out.c1
    have y2 := L1.out.c2
    have y3 := L1.out.c3
    go_wp2_with fail
    refine (c_l8Fits A cA M t _ L1.out.rot HZ.out ht).mono ?_
    rintro e w2 ⟨rfl, hb2⟩
    have L2 := Lib.hid (L1.out.ext hb2)
    clear hb2 L1 y0 y1 y2 y3
    cases h2 : setB M t with
    | false =>
      have HE := Lib.hid (dblR_no (M := M) (s := s) (t := t) (by rw [h2]; simp))
      clear h2
      go_wp2_with fail
      go_ret2
      exact ⟨by rw [HE.out]; rfl, L2.out.bel⟩
    | true =>
      have HE := Lib.hid (dblR_ok H1.out h2)
      obtain ⟨z1, z2, z3, z4⟩ := setB_size h2
      have HW := Lib.hid (dbl_wv h2)
      have H2 := Lib.hid h2
      clear h2 z3 z4
      have y0 := L2.out.c0
      have y1 := L2.out.c1
      have y2 := L2.out.c2
      have y3 := L2.out.c3
      go_wp2_with fail
      refine (c_l8Encipher A cA M s (t ++ t) _ L2.out.rot H1.out HW.out).mono ?_
      rintro e w3 ⟨rfl, hb3⟩
      have L3 := Lib.hid (L2.out.ext hb3)
      clear hb3 L2 y0 y1 y2 y3
      go_wp2_with fail
      go_ret2
      exact ⟨by rw [HE.out]; rfl, L3.out.bel⟩
end Go.Proofs.Ythelcpfcamidiaa
