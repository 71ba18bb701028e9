/- Contracts of the reference's FixedLetters (at plugboards), PlugCount, ReflectorValid, WheelsValid. -/
import Derived.Test.YtlcanmofgjbcbaaSpecWheels
namespace Go.Proofs.Ytlcanmofgjbcbaa
set_option linter.unusedVariables false
set_option linter.unusedSimpArgs false
open Go.RowKit

theorem take_count (L : List ByteArray) (f : ByteArray → Bool) {k : Nat} (hk : k < L.length) : (L.take (k + 1)).countP f = (L.take k).countP f + (if f (gS L k) = true then 1 else 0) := by
  have : gS L k = L[k] := by unfold gS; rw [List.getD_eq_getElem?_getD, List.getElem?_eq_getElem hk]; rfl
  rw [List.take_add_one, List.getElem?_eq_getElem hk, List.countP_append, this]
  simp [List.countP_cons]
set_option maxHeartbeats 800000 in
theorem c_FixedLetters (p : ByteArray) (w : World) (h : plugB p = true) : Calls Try.prog 114 #[.string p] w fun e w' => ∃ s : ByteArray, e = .returned (.string s) ∧ s.size + moved p 10 = 10 ∧ Below w.heap.size w w' := by
  have H := Lib.hid h
  clear h
  go_enter Try.func114, Try.ntmps114
  go_wp2_with fail
  refine (c_CyclesOf p _ H.out).mono ?_
  rintro e w1 ⟨v, L, rfl, hi, hl, ha, hc, hb1⟩
  obtain ⟨A, c, rfl⟩ := hi.form
  have HI := Lib.hid hi
  have HA := Lib.hid ha
  have HC := Lib.hid hc
  have HB := Lib.hid hb1
  clear hi ha hc hb1
  go_wp2_with fail
  go_loopg [3, 5] L.length (fun gk o i wr => ∃ (k : Nat) (s : ByteArray), k + gk = L.length ∧ i = .int .i64 k ∧ o = .string s ∧ s.size = (L.take k).countP (fun x => decide (x.size = 1)) ∧ wr = w1)
  case atStart => exact ⟨0, ⟨#[]⟩, by omega, rfl, rfl, rfl, rfl⟩
  case round =>
    obtain ⟨k, s, hk, rfl, rfl, hs, rfl⟩ := hrel
    have HS := Lib.hid hs
    have hle : s.size ≤ 10 := by
      rw [hs]
      have := List.countP_le_length (l := L.take k) (p := fun x => decide (x.size = 1))
      have h2 := List.length_take_le k L
      have h3 : (L.take k).length ≤ L.length := by rw [List.length_take]; omega
      omega
    clear hs
    by_cases hlt : k < L.length
    · obtain ⟨b, o, rfl, hb, hcell⟩ := HI.out.at_ hlt
      have hsz := HA.out _ (gS_mem hlt)
      have HT := Lib.hid (take_count L (fun x => decide (x.size = 1)) hlt)
      by_cases he : (gS L k).size = 1
      · have t1 : (((gS L k).size : Int) == 1) = true := by rw [he]; rfl
        have HE := Lib.hid he
        clear he
        go_wp2_with fail
        go_roundg (L.length - (k + 1))
        case measure => omega
        case rel => exact ⟨k + 1, _, by omega, by go_num, rfl, by rw [ByteArray.size_append, HT.out, if_pos (decide_eq_true HE.out), HS.out, HE.out], rfl⟩
      · have t1 : (((gS L k).size : Int) == 1) = false := by rw [beq_eq_false_iff_ne]; omega
        have HE := Lib.hid he
        clear he
        go_wp2_with fail
        go_roundg (L.length - (k + 1))
        case measure => omega
        case rel => exact ⟨k + 1, _, by omega, by go_num, rfl, by rw [HT.out, if_neg (by simp [HE.out]), HS.out]; rfl, rfl⟩
    · have e : k = L.length := by omega
      subst e
      go_wp2_with fail
      go_ret
      refine ⟨s, rfl, ?_, HB.out⟩
      have h1 := HS.out
      rw [List.take_length] at h1
      rw [h1]; exact HC.out
theorem c_sPlugCount (p : ByteArray) (w : World) (hs : p.size ≤ 9223372036854775807) : Calls Try.prog 104 #[.string p] w fun e w' => e = .returned (.int .i64 (if plugB p = true then ((moved p 10 / 2 : Nat) : Int) else -1)) ∧ Below w.heap.size w w' := by
  cases h : plugB p
  all_goals
    have H := Lib.hid h
    go_enter Try.func104, Try.ntmps104
    go_wp2_with fail
    refine (c_sPlugsValid p _ hs).mono ?_
    rintro e w1 ⟨rfl, hb1⟩
    rw [h]
    have B1 := Lib.hid hb1
    clear h hb1
  · go_wp2_with fail
    go_ret
    exact ⟨rfl, B1.out⟩
  · go_wp2_with fail
    refine (c_FixedLetters p _ H.out).mono ?_
    rintro e w2 ⟨s, rfl, hz, hb2⟩
    have B2 := Lib.hid (ext_trans B1.out hb2)
    clear hb2
    have hle : s.size ≤ 10 := by omega
    have hm : (10 : Int) - (s.size : Int) = ((moved p 10 : Nat) : Int) := by omega
    have HM := Lib.hid hm
    clear hm
    go_wp2_with fail
    go_ret
    refine ⟨ret_int ?_, B2.out⟩
    have := HM.out
    rw [this]
theorem c_sReflectorValid (p : ByteArray) (w : World) (hs : p.size ≤ 9223372036854775807) : Calls Try.prog 88 #[.string p] w fun e w' => e = .returned (.bool (reflB p)) ∧ Below w.heap.size w w' := by
  have HR := Lib.hid (show ((if plugB p = true then ((moved p 10 / 2 : Nat) : Int) else -1) == (5 : Int)) = reflB p by
    unfold reflB
    cases plugB p
    · rfl
    · rw [if_pos rfl, Bool.true_and, Bool.eq_iff_iff, decide_eq_true_eq, beq_iff_eq]; omega)
  go_enter Try.func88, Try.ntmps88
  go_wp2_with fail
  refine (c_sPlugCount p _ hs).mono ?_
  rintro e w1 ⟨rfl, hb1⟩
  generalize (if plugB p = true then ((moved p 10 / 2 : Nat) : Int) else -1) = x at *
  go_wp2_with fail
  go_ret
  exact ⟨ret_bool HR.out, hb1⟩
theorem wheelsB_or (l : List Rot) (rf : ByteArray) : wheelsB l rf = (allB l.length (fun i => rotB (gR l i)) && (inB (l.length : Int) 1 3 && reflB rf)) := by
  unfold wheelsB inB
  rw [Bool.eq_iff_iff]
  simp only [Bool.and_eq_true, decide_eq_true_eq]
  constructor
  · rintro ⟨⟨a, b⟩, c, d⟩; exact ⟨d, ⟨by omega, by omega⟩, c⟩
  · rintro ⟨d, ⟨a, b⟩, c⟩; exact ⟨⟨by omega, by omega⟩, c, d⟩
set_option maxHeartbeats 800000 in
theorem c_sWheelsValid (vR : Value) (l : List Rot) (rf : ByteArray) (w : World) (hR : IsRots w vR l) (hf : rf.size ≤ 9223372036854775807) : Calls Try.prog 65 #[.agg #[vR, .string rf]] w fun e w' => e = .returned (.bool (wheelsB l rf)) ∧ Below w.heap.size w w' := by
  have B := Lib.hid (ext_alloc w (.cells #[vR, .string rf] 25))
  have K := Lib.hid (Blk.new w 25 #[vR, .string rf])
  have HR0 := Lib.hid (hR.ext B.out)
  have hll := hR.len_le
  obtain ⟨A, cA, rfl⟩ := hR.form
  clear hR
  have HW := Lib.hid (wheelsB_or l rf)
  go_enter Try.func65, Try.ntmps65
  go_wp2_with fail
  go_loopg [3] l.length (fun gk i wr => ∃ k : Nat, k + gk = l.length ∧ i = .int .i64 k ∧ allB k (fun i => rotB (gR l i)) = true ∧ IsRots wr (.slice A l.length cA) l ∧ Blk wr w.heap.size 25 #[.slice A l.length cA, .string rf] ∧ Below w.heap.size w wr)
  case atStart => exact ⟨0, by omega, rfl, rfl, HR0.out, K.out, B.out⟩
  case round =>
    obtain ⟨k, hk, rfl, ha, hrot, hblk, hbel⟩ := hrel
    have HA := Lib.hid ha
    have HRT := Lib.hid hrot
    have HBK := Lib.hid hblk
    have HBL := Lib.hid hbel
    have y0 : wr.cell? ⟨w.heap.size, 0, none⟩ = some (.slice A l.length cA) := hblk.cell 0
    have y1 : wr.cell? ⟨w.heap.size, 1, none⟩ = some (.string rf) := hblk.cell 1
    clear ha hbel hblk
    by_cases hlt : k < l.length
    · obtain ⟨b, o, rfl, hb, hc0, hc1⟩ := hrot.at_ hlt
      have hsz := hrot.size_le hlt
      clear hrot
      generalize hg : gR l k = rk at hc0 hc1 hsz
      obtain ⟨wi, no⟩ := rk
      have HG := Lib.hid hg
      clear hg
      go_wp2_with fail
      refine (c_sRotorValid wi no _ (by have := hsz.1; omega) (by have := hsz.2; omega)).mono ?_
      rintro e w3 ⟨rfl, hb3⟩
      have HB3 := Lib.hid hb3
      clear hb3 y0 y1 hc0 hc1
      cases hrb : rotB (wi, no) with
      | true =>
        have HRB := Lib.hid hrb
        clear hrb
        go_wp2_with fail
        go_roundg (l.length - (k + 1))
        case measure => omega
        case rel => exact ⟨k + 1, by omega, by go_num, allB_step HA.out (by rw [HG.out]; exact HRB.out), HRT.out.ext HB3.out, HBK.out.ext HB3.out, ext_trans HBL.out HB3.out⟩
      | false =>
        have HRB := Lib.hid hrb
        clear hrb
        go_wp2_with fail
        go_ret
        refine ⟨?_, ext_trans HBL.out HB3.out⟩
        rw [HW.out]
        exact ret_bool (by rw [allB_false hlt (by rw [HG.out]; exact HRB.out)]; rfl)
    · clear hrot
      have e : k = l.length := by omega
      subst e
      cases hin : inB (l.length : Int) 1 3 with
      | false =>
        go_wp2_with (go_at_call 50; refine (c_l1In _ _ _ _).mono ?_; rintro e w' ⟨rfl, rfl⟩; rw [hin])
        go_ret
        exact ⟨by rw [HW.out, HA.out, hin]; rfl, HBL.out⟩
      | true =>
        have HIN := Lib.hid hin
        go_wp2_with (go_at_call 50; refine (c_l1In _ _ _ _).mono ?_; rintro e w' ⟨rfl, rfl⟩; rw [hin])
        refine (c_sReflectorValid rf _ (by omega)).mono ?_
        rintro e w3 ⟨rfl, hb3⟩
        have HB3 := Lib.hid (ext_trans HBL.out hb3)
        clear hb3 y0 y1 hin
        go_wp2_with fail
        go_ret
        exact ⟨by rw [HW.out, HA.out, HIN.out]; rfl, HB3.out⟩
end Go.Proofs.Ytlcanmofgjbcbaa
