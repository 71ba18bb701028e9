/- Contracts of DoubleIndicator and ReadDouble (spec). -/
import Derived.Test.YtnjmjgnmbjbfpaaKeyFns
import Derived.Test.YtnjmjgnmbjbfpaaSpecMach3
namespace Go.Proofs.Ytnjmjgnmbjbfpaa
set_option linter.unusedVariables false
set_option linter.unusedSimpArgs false
open Go.RowKit
attribute [local go_sem] Ext.cell
open BigFrame

set_option maxHeartbeats 1000000 in
theorem c_sDoubleIndicator (A : Option Addr) (cA : Nat) (M : Mch) (s t : ByteArray) (w : World) (hR : IsRots w (.slice A M.l.length cA) M.l) (hz : MSz M) (hs : s.size ≤ 9223372036854775807) (ht : t.size ≤ 9223372036854775807) : Calls Try.prog 14 #[mV A cA M, .string s, .string t] w fun e w' => e = .returned (dblR M s t) ∧ Below w.heap.size w w' := by
  have L0 := Lib.hid (MW.start M (Below.refl w.heap.size w) hR)
  have HZ := Lib.hid hz
  clear hR hz
  go_enter Try.func14, Try.ntmps14
  have y0 := L0.out.c0
  have y1 := L0.out.c1
  have y2 := L0.out.c2
  have y3 := L0.out.c3
  go_wp2_with fail
  refine (c_l8Fits A cA M s _ L0.out.rot HZ.out hs).mono ?_
  rintro e w1 ⟨rfl, hb1⟩
  have L1 := Lib.hid (L0.out.ext hb1)
  clear hb1 L0 y0 y1 y2 y3
  cases h1 : setB M s with
  | false =>
    have HE := Lib.hid (dblR_no (M := M) (s := s) (t := t) (by rw [h1]; rfl))
    clear h1
    go_wp2_with fail
    go_ret2
    exact ⟨by rw [HE.out]; rfl, L1.out.bel⟩
  | true =>
    have H1 := Lib.hid h1
    clear h1
    have y0 := L1.out.c0
    have y1 := L1.out.c1
    have y2 := L1.out.c2
    have y3 := L1.out.c3
    go_wp2_with fail
    refine (c_l8Fits A cA M t _ L1.out.rot HZ.out ht).mono ?_
    rintro e w2 ⟨rfl, hb2⟩
    have L2 := Lib.hid (L1.out.ext hb2)
    clear hb2 L1 y0 y1 y2 y3
    cases h2 : setB M t with
    | false =>
      have HE := Lib.hid (dblR_no (M := M) (s := s) (t := t) (by rw [h2]; simp))
      clear h2
      go_wp2_with fail
      go_ret2
      exact ⟨by rw [HE.out]; rfl, L2.out.bel⟩
    | true =>
      have HE := Lib.hid (dblR_ok H1.out h2)
      obtain ⟨z1, z2, z3, z4⟩ := setB_size h2
      have HW := Lib.hid (dbl_wv h2)
      have H2 := Lib.hid h2
      clear h2 z3 z4
      have y0 := L2.out.c0
      have y1 := L2.out.c1
      have y2 := L2.out.c2
      have y3 := L2.out.c3
      go_wp2_with fail
      refine (c_l8Encipher A cA M s (t ++ t) _ L2.out.rot H1.out HW.out).mono ?_
      rintro e w3 ⟨rfl, hb3⟩
      have L3 := Lib.hid (L2.out.ext hb3)
      clear hb3 L2 y0 y1 y2 y3
      go_wp2_with fail
      go_ret2
      exact ⟨by rw [HE.out]; rfl, L3.out.bel⟩
set_option maxHeartbeats 1000000 in
theorem c_sReadDouble (A : Option Addr) (cA : Nat) (M : Mch) (s t : ByteArray) (w : World) (hR : IsRots w (.slice A M.l.length cA) M.l) (hz : MSz M) (hs : s.size ≤ 4611686018427387903) (ht : t.size ≤ 9223372036854775807) : Calls Try.prog 32 #[mV A cA M, .string s, .string t] w fun e w' => e = .returned (rdR M s t) ∧ Below w.heap.size w w' := by
  have L0 := Lib.hid (MW.start M (Below.refl w.heap.size w) hR)
  have HZ := Lib.hid hz
  clear hR hz
  go_enter Try.func32, Try.ntmps32
  have y0 := L0.out.c0
  have y1 := L0.out.c1
  have y2 := L0.out.c2
  have y3 := L0.out.c3
  go_wp2_with fail
  refine (c_l8Fits A cA M s _ L0.out.rot HZ.out (by omega)).mono ?_
  rintro e w1 ⟨rfl, hb1⟩
  have L1 := Lib.hid (L0.out.ext hb1)
  clear hb1 L0 y0 y1 y2 y3
  cases h1 : setB M s with
  | false =>
    have HE := Lib.hid (rdR_no (M := M) (s := s) (t := t) (by rw [h1]; simp))
    clear h1
    go_wp2_with fail
    go_ret2
    exact ⟨by rw [HE.out]; rfl, L1.out.bel⟩
  | true =>
    have H1 := Lib.hid h1
    obtain ⟨z1, z2, z3, z4⟩ := setB_size h1
    clear h1 z3 z4
    cases h3 : wv t with
    | false =>
      have HE := Lib.hid (rdR_no (M := M) (s := s) (t := t) (by rw [h3]; simp))
      go_wp2_with (go_at_call 56; refine (c_specWordValid _ _ (by omega)).mono ?_; rintro e w' ⟨rfl, rfl⟩; rw [h3])
      go_ret2
      exact ⟨by rw [HE.out]; rfl, L1.out.bel⟩
    | true =>
      have H3 := Lib.hid h3
      by_cases h2 : t.size = 2 * s.size
      · have t1 : ((t.size : Int) == 2 * (s.size : Int)) = true := by rw [beq_iff_eq]; omega
        have t2 : ((t.size : Int) != 2 * (s.size : Int)) = false := by unfold bne; rw [t1]; rfl
        have H2 := Lib.hid h2
        have htz : t.size ≤ 6 := by omega
        clear h2
        have y0 := L1.out.c0
        have y1 := L1.out.c1
        have y2 := L1.out.c2
        have y3 := L1.out.c3
        go_wp2_with (go_at_call 56; refine (c_specWordValid _ _ (by omega)).mono ?_; rintro e w' ⟨rfl, rfl⟩; rw [h3])
        clear h3
        refine (c_l8Encipher A cA M s t _ L1.out.rot H1.out H3.out).mono ?_
        rintro e w2 ⟨rfl, hb2⟩
        have L2 := Lib.hid (L1.out.ext hb2)
        clear hb2 L1 y0 y1 y2 y3 t1 t2
        obtain ⟨b, hb⟩ : ∃ b, encW M s t = b := ⟨_, rfl⟩
        have hbz : b.size = t.size := by rw [← hb]; exact encW_size _ _ _
        have hbz2 : b.size = 2 * s.size := hbz.trans H2.out
        have hle : s.size ≤ b.size := by omega
        have hb6 : b.size ≤ 6 := by omega
        have HB := Lib.hid hb
        have hfz : (fstS b s.size).size ≤ 6 := by rw [fstS_size b hle]; omega
        have HH := Lib.hid (half_iff b hbz2)
        have hx1 : b.extract 0 s.size = fstS b s.size := rfl
        rw [hb]
        clear hb hbz hbz2
        by_cases h4 : fstS b s.size = sndS b s.size
        · have t3 := bs_nyes (HH.out.2 h4)
          have t4 := bs_yes (HH.out.2 h4)
          have HE := Lib.hid (rdR_ok H1.out H3.out H2.out (by rw [HB.out]; exact h4))
          clear h4
          go_wp2_with fail
          go_ret2
          exact ⟨by rw [HE.out, HB.out]; rfl, L2.out.bel⟩
        · have t3 := bs_nno (fun q => h4 (HH.out.1 q))
          have t4 := bs_no (fun q => h4 (HH.out.1 q))
          have HE := Lib.hid (rdR_no (M := M) (s := s) (t := t) (fun q => by rw [HB.out] at q; exact h4 q.2.2.2))
          clear h4
          go_wp2_with fail
          go_ret2
          exact ⟨by rw [HE.out]; rfl, L2.out.bel⟩
      · have t1 : ((t.size : Int) == 2 * (s.size : Int)) = false := by rw [beq_eq_false_iff_ne]; omega
        have t2 : ((t.size : Int) != 2 * (s.size : Int)) = true := by unfold bne; rw [t1]; rfl
        have HE := Lib.hid (rdR_no (M := M) (s := s) (t := t) (fun q => h2 q.2.2.1))
        clear h2
        go_wp2_with (go_at_call 56; refine (c_specWordValid _ _ (by omega)).mono ?_; rintro e w' ⟨rfl, rfl⟩; rw [h3])
        go_ret2
        exact ⟨by rw [HE.out]; rfl, L1.out.bel⟩
end Go.Proofs.Ytnjmjgnmbjbfpaa
