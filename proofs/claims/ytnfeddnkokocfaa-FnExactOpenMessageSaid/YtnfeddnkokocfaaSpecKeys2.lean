/- Contracts of SealMessage, MessageValid, OpenMessage (spec). -/
import Derived.Test.YtnfeddnkokocfaaKeyFns2
import Derived.Test.YtnfeddnkokocfaaSpecKeys
namespace Go.Proofs.Ytnfeddnkokocfaa
set_option linter.unusedVariables false
set_option linter.unusedSimpArgs false
open Go.RowKit
attribute [local go_sem] Ext.cell
open BigFrame

set_option maxHeartbeats 1000000 in
theorem c_sMessageValid (a b c : ByteArray) (w : World) (ha : a.size ≤ 9223372036854775807) (hb : b.size ≤ 9223372036854775807) (hc : c.size ≤ 9223372036854775807) : Calls Try.prog 64 #[msgV a b c] w fun e w' => e = .returned (.bool (msgB a b c)) ∧ Below w.heap.size w w' := by
  have B0 := Lib.hid (ext_alloc w (.cells #[.string a, .string b, .string c] 45))
  have HC1 := Lib.hid (fun w => c_specWordValid a w ha)
  have HC2 := Lib.hid (fun w => c_specWordValid b w hb)
  have HC3 := Lib.hid (fun w => c_specWordValid c w hc)
  have HC4 := Lib.hid (fun w => c_l1In (a.size : Int) 1 3 w)
  cases h3 : wv a with
  | false =>
    have HE := Lib.hid (msgB_no (a := a) (b := b) (c := c) (fun q => by rw [h3] at q; exact absurd q.2.2.1 (by simp)))
    rw [h3] at HC1
    clear h3
    go_enter Try.func64, Try.ntmps64
    go_wp2_with (go_at_call 105; ((with_reducible refine (HC1.out _).mono ?_); rintro e w' ⟨rfl, rfl⟩))
    go_ret
    exact ⟨by rw [HE.out]; rfl, B0.out⟩
  | true =>
    cases h5 : wv b with
    | false =>
      have HE := Lib.hid (msgB_no (a := a) (b := b) (c := c) (fun q => by rw [h5] at q; exact absurd q.2.2.2.2.1 (by simp)))
      rw [h3] at HC1
      rw [h5] at HC2
      clear h3 h5
      go_enter Try.func64, Try.ntmps64
      go_wp2_with (first | (go_at_call 105; ((with_reducible refine (HC1.out _).mono ?_); rintro e w' ⟨rfl, rfl⟩)) | (go_at_call 105; ((with_reducible refine (HC2.out _).mono ?_); rintro e w' ⟨rfl, rfl⟩)))
      go_ret
      exact ⟨by rw [HE.out]; rfl, B0.out⟩
    | true =>
      cases h6 : wv c with
      | false =>
        have HE := Lib.hid (msgB_no (a := a) (b := b) (c := c) (fun q => by rw [h6] at q; exact absurd q.2.2.2.2.2 (by simp)))
        rw [h3] at HC1
        rw [h5] at HC2
        rw [h6] at HC3
        clear h3 h5 h6
        go_enter Try.func64, Try.ntmps64
        go_wp2_with (first | (go_at_call 105; ((with_reducible refine (HC1.out _).mono ?_); rintro e w' ⟨rfl, rfl⟩)) | (go_at_call 105; ((with_reducible refine (HC2.out _).mono ?_); rintro e w' ⟨rfl, rfl⟩)) | (go_at_call 105; ((with_reducible refine (HC3.out _).mono ?_); rintro e w' ⟨rfl, rfl⟩)))
        go_ret
        exact ⟨by rw [HE.out]; rfl, B0.out⟩
      | true =>
        have HQ := Lib.hid (eq_cast b.size a.size)
        by_cases h1 : 1 ≤ a.size ∧ a.size ≤ 3
        · have HE : Hid (msgB a b c = decide (b.size = a.size)) := by show msgB a b c = _; unfold msgB; rw [decide_eq_true h1.1, decide_eq_true h1.2, h3, h5, h6]; simp
          have hi : inB (a.size : Int) 1 3 = true := inB_true (by omega) (by omega)
          rw [hi] at HC4
          rw [h3] at HC1
          rw [h5] at HC2
          rw [h6] at HC3
          clear h3 h5 h6 h1 hi
          go_enter Try.func64, Try.ntmps64
          go_wp2_with (first | (go_at_call 105; ((with_reducible refine (HC1.out _).mono ?_); rintro e w' ⟨rfl, rfl⟩)) | (go_at_call 105; ((with_reducible refine (HC2.out _).mono ?_); rintro e w' ⟨rfl, rfl⟩)) | (go_at_call 105; ((with_reducible refine (HC3.out _).mono ?_); rintro e w' ⟨rfl, rfl⟩)) | (go_at_call 53; refine (HC4.out _).mono ?_; rintro e w' ⟨rfl, rfl⟩))
          go_ret
          exact ⟨by rw [HE.out]; exact ret_bool HQ.out, B0.out⟩
        · have HE := Lib.hid (msgB_no (a := a) (b := b) (c := c) (fun q => h1 ⟨q.1, q.2.1⟩))
          have hi : inB (a.size : Int) 1 3 = false := inB_false (by omega)
          rw [hi] at HC4
          rw [h3] at HC1
          rw [h5] at HC2
          rw [h6] at HC3
          clear h3 h5 h6 h1 hi
          go_enter Try.func64, Try.ntmps64
          go_wp2_with (first | (go_at_call 105; ((with_reducible refine (HC1.out _).mono ?_); rintro e w' ⟨rfl, rfl⟩)) | (go_at_call 105; ((with_reducible refine (HC2.out _).mono ?_); rintro e w' ⟨rfl, rfl⟩)) | (go_at_call 105; ((with_reducible refine (HC3.out _).mono ?_); rintro e w' ⟨rfl, rfl⟩)) | (go_at_call 53; refine (HC4.out _).mono ?_; rintro e w' ⟨rfl, rfl⟩))
          go_ret
          exact ⟨by rw [HE.out]; rfl, B0.out⟩
set_option maxHeartbeats 1000000 in
theorem c_sOpenMessage (A : Option Addr) (cA : Nat) (M : Mch) (a b c : ByteArray) (w : World) (hR : IsRots w (.slice A M.l.length cA) M.l) (hz : MSz M) (ha : a.size ≤ 9223372036854775807) (hb : b.size ≤ 9223372036854775807) (hc : c.size ≤ 9223372036854775807) : Calls Try.prog 23 #[mV A cA M, msgV a b c] w fun e w' => e = .returned (openR M a b c) ∧ Below w.heap.size w w' := by
  have L0 := Lib.hid ((MW.start M (Below.refl w.heap.size w) hR).ext (ext_alloc _ (.cells #[.string a, .string b, .string c] 45)))
  have K0 := Lib.hid (Blk.new (w.alloc (.cells #[.slice A M.l.length cA, .string M.rf, .string M.rg, .string M.pl] 33)) 45 #[.string a, .string b, .string c])
  rw [World.size_alloc] at K0
  have HZ := Lib.hid hz
  clear hR hz
  go_enter Try.func23, Try.ntmps23
  have z0 := K0.out.cell 0
  have z1 := K0.out.cell 1
  have z2 := K0.out.cell 2
  go_wp2_with fail
  refine (c_sMessageValid a b c _ ha hb hc).mono ?_
  rintro e w1 ⟨rfl, hb1⟩
  have L1 := Lib.hid (L0.out.ext hb1)
  have K1 := Lib.hid (K0.out.ext hb1)
  clear hb1 L0 K0 z0 z1 z2
  cases h2 : msgB a b c with
  | false =>
    have HE := Lib.hid (openR_no (M := M) (a := a) (b := b) (c := c) (by rw [h2]; simp))
    clear h2
    go_wp2_with fail
    refine bodyPost_ret (res3 rfl _ _ _) rfl ?_
    exact ⟨by rw [HE.out]; rfl, L1.out.bel⟩
  | true =>
    have H2 := Lib.hid h2
    clear h2
    have y0 := L1.out.c0
    have y1 := L1.out.c1
    have y2 := L1.out.c2
    have y3 := L1.out.c3
    have z0 := K1.out.cell 0
    go_wp2_with fail
    refine (c_l8Fits A cA M a _ L1.out.rot HZ.out ha).mono ?_
    rintro e w2 ⟨rfl, hb2⟩
    have L2 := Lib.hid (L1.out.ext hb2)
    have K2 := Lib.hid (K1.out.ext hb2)
    clear hb2 L1 K1 y0 y1 y2 y3 z0
    cases h1 : setB M a with
    | false =>
      have HE := Lib.hid (openR_no (M := M) (a := a) (b := b) (c := c) (by rw [h1]; rfl))
      clear h1
      go_wp2_with fail
      refine bodyPost_ret (res3 rfl _ _ _) rfl ?_
      exact ⟨by rw [HE.out]; rfl, L2.out.bel⟩
    | true =>
      have HE := Lib.hid (openR_ok h1 H2.out)
      obtain ⟨_, _, m3, m4, m5, m6⟩ := (msgB_iff a b c).1 H2.out
      have H1 := Lib.hid h1
      have H5 := Lib.hid m5
      have H6 := Lib.hid m6
      have HK := Lib.hid (setB_enc h1 m5 m4)
      clear h1 m3 m4 m5 m6
      have y0 := L2.out.c0
      have y1 := L2.out.c1
      have y2 := L2.out.c2
      have y3 := L2.out.c3
      have z0 := K2.out.cell 0
      have z1 := K2.out.cell 1
      go_wp2_with fail
      refine (c_l8Encipher A cA M a b _ L2.out.rot H1.out H5.out).mono ?_
      rintro e w3 ⟨rfl, hb3⟩
      have L3 := Lib.hid (L2.out.ext hb3)
      have K3 := Lib.hid (K2.out.ext hb3)
      clear hb3 L2 K2 y0 y1 y2 y3 z0 z1
      have y0 := L3.out.c0
      have y1 := L3.out.c1
      have y2 := L3.out.c2
      have y3 := L3.out.c3
      have z2 := K3.out.cell 2
      go_wp2_with fail
      refine (c_l8Encipher A cA M (encW M a b) c _ L3.out.rot HK.out H6.out).mono ?_
      rintro e w4 ⟨rfl, hb4⟩
      have L4 := Lib.hid (L3.out.ext hb4)
      clear hb4 L3 K3 y0 y1 y2 y3 z2
      go_wp2_with fail
      refine bodyPost_ret (res3 rfl _ _ _) rfl ?_
      exact ⟨by rw [HE.out]; rfl, L4.out.bel⟩
end Go.Proofs.Ytnfeddnkokocfaa
