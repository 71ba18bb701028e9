/- Contracts of the draws of rotors. -/
import Derived.Test.YtlcanmofgjbcbaaDrawPerm
namespace Go.Proofs.Ytlcanmofgjbcbaa
set_option linter.unusedVariables false
set_option linter.unusedSimpArgs false
open Go.RowKit

set_option maxHeartbeats 400000 in
theorem c_sReverseWord (s : ByteArray) (w : World) (h : wv s = true) : Calls Try.prog 81 #[.string s] w fun e w' => ∃ t : ByteArray, e = .returned (.string t) ∧ t.size = s.size ∧ ltr t ∧ Below w.heap.size w w' := by
  have HV := Lib.hid ((wv_iff s).1 h)
  have hle : s.size ≤ 200 := HV.out.1
  go_enter Try.func81, Try.ntmps81
  go_wp2_with (go_at_call 66; refine (c_specWordValid _ _ (by omega)).mono ?_; rintro e w' ⟨rfl, rfl⟩; rw [h])
  clear h
  go_loopw [3, 4] (fun o i wr => ∃ (k : Nat) (t : ByteArray), k ≤ s.size ∧ i = .int .i64 ((k : Int) - 1) ∧ o = .string t ∧ t.size + k = s.size ∧ ltr t ∧ Below w.heap.size w wr) (fun _ i _ => (intOf i + 1).toNat)
  case atStart => exact ⟨s.size, ByteArray.empty, Nat.le_refl _, rfl, rfl, by show 0 + _ = _; omega, ltr_empty, Below.refl _ _⟩
  case round =>
    obtain ⟨k, t, hk, rfl, rfl, ht, lt, hb⟩ := hrel
    have LT := Lib.hid lt
    have HB := Lib.hid hb
    clear lt hb
    by_cases hlt : 0 < k
    · obtain ⟨j, rfl⟩ : ∃ j, k = j + 1 := ⟨k - 1, by omega⟩
      have ej : ((j + 1 : Nat) : Int) - 1 = (j : Int) := by omega
      rw [ej]
      have z1 := xsize s (a := j) (b := j + 1) (by omega)
      go_wp2_with fail
      refine ⟨⟨j, _, by omega, rfl, rfl, by rw [ByteArray.size_append, z1]; omega, ltr_append LT.out (ltr_cut HV.out.2 (by omega)), HB.out⟩, by simp [intOf]⟩
    · go_wp2_with fail
      go_ret
      exact ⟨t, rfl, by omega, LT.out, HB.out⟩

set_option maxHeartbeats 400000 in
theorem c_sShiftWord' (s : ByteArray) (n : Nat) (w : World) (h : wv s = true) (hn : n < 10) : Calls Try.prog 98 #[.string s, .int .i64 n] w fun e w' => ∃ t : ByteArray, e = .returned (.string t) ∧ t.size = s.size ∧ ltr t ∧ Below w.heap.size w w' := by
  have HV := Lib.hid ((wv_iff s).1 h)
  have hle : s.size ≤ 200 := HV.out.1
  have hi : inB (n : Int) 0 9 = true := inB_true (by omega) (by omega)
  go_enter Try.func98, Try.ntmps98
  go_wp2_with (first | (go_at_call 66; refine (c_specWordValid _ _ (by omega)).mono ?_; rintro e w' ⟨rfl, rfl⟩; rw [h]) | (go_at_call 50; refine (c_l1In _ _ _ _).mono ?_; rintro e w' ⟨rfl, rfl⟩; rw [hi]))
  clear h hi
  go_loopw [5, 6] (fun o i wr => ∃ (k : Nat) (t : ByteArray), k ≤ s.size ∧ i = .int .i64 k ∧ o = .string t ∧ t.size = k ∧ ltr t ∧ Below w.heap.size w wr) (fun _ i _ => s.size - (intOf i).toNat)
  case atStart => exact ⟨0, ByteArray.empty, Nat.zero_le _, rfl, rfl, rfl, ltr_empty, Below.refl _ _⟩
  case round =>
    obtain ⟨k, t, hk, rfl, rfl, ht, lt, hb⟩ := hrel
    have LT := Lib.hid lt
    have HB := Lib.hid hb
    clear lt hb
    by_cases hlt : k < s.size
    · have b := HV.out.2 k hlt
      go_wp2_with (go_at_call 68; refine (c_l1Digit s k _ hlt (by omega)).mono ?_; rintro e w' ⟨rfl, rfl⟩)
      refine (c_l1Letter _ _ (by omega) (by omega)).mono ?_
      rintro e w2 ⟨rfl, hb2⟩
      have HB2 := Lib.hid (ext_trans HB.out hb2)
      have z1 : (strOfNums [97 + (bt s k - 97 + (n : Int)) % 10]).size = 1 := by rw [strOfNums_size]; rfl
      clear hb2
      go_wp2_with fail
      exact ⟨⟨k + 1, _, by omega, by go_num, rfl, by rw [ByteArray.size_append, z1]; omega, ltr_append LT.out (ltr_one _), HB2.out⟩, by simp [intOf]; omega⟩
    · go_wp2_with fail
      go_ret
      exact ⟨t, rfl, by omega, LT.out, HB.out⟩

theorem c_l2Turn (n : Nat) (w : World) (hn : n < 10) : Calls Try.prog 80 #[.int .i64 n] w fun e w' => ∃ t : ByteArray, e = .returned (.string t) ∧ t.size = 10 ∧ ltr t ∧ Below w.heap.size w w' := by
  go_enter Try.func80, Try.ntmps80
  go_wp2_with fail
  refine (c_sIdentityPerm _).mono ?_
  rintro e w1 ⟨rfl, hb1⟩
  have HB1 := Lib.hid hb1
  clear hb1
  go_wp2_with fail
  refine (c_sShiftWord' idS n _ (ltr_wv idS_ltr (by rw [idS_size]; omega)) hn).mono ?_
  rintro e w2 ⟨t, rfl, ht, lt, hb2⟩
  have HT := Lib.hid ht
  have LT := Lib.hid lt
  have HB2 := Lib.hid (ext_trans HB1.out hb2)
  clear ht lt hb2
  go_wp2_with fail
  go_ret
  exact ⟨t, rfl, HT.out.trans idS_size, LT.out, HB2.out⟩

set_option maxHeartbeats 400000 in
theorem c_l2Any (g P : Nat) (w : World) (hr : Rd w g P) (hP : P + 30 ≤ 1000000) :
    Calls Try.prog 57 #[.pointer (some ⟨g, 0, none⟩)] w fun e w' => ∃ s : ByteArray, e = .returned (.string s) ∧ s.size = 10 ∧ ltr s ∧ Rd w' g (P + 11) ∧ w.grownBy w' (some g) := by
  have HR := Lib.hid hr
  clear hr
  go_enter Try.func57, Try.ntmps57
  go_wp2_with fail
  refine (c_pick g P _ _ HR.out (by omega) (by omega) (by omega)).mono ?_
  rintro e w1 ⟨m, rfl, hm, hr1, hg1⟩
  have HR1 := Lib.hid hr1
  have HG1 := Lib.hid hg1
  clear hr1 hg1
  by_cases m0 : m = 0
  · have t0 : ((m : Int) == 0) = true := by simp [m0]
    clear m0
    go_wp2_with fail
    refine (c_sIdentityPerm _).mono ?_
    rintro e w2 ⟨rfl, hb2⟩
    have HB2 := Lib.hid hb2
    clear hb2
    go_wp2_with fail
    go_ret
    exact ⟨idS, rfl, idS_size, idS_ltr, (HR1.out.ext HB2.out).more (by omega), grow_ext2 HG1.out HB2.out⟩
  · have t0 : ((m : Int) == 0) = false := by simp [m0]
    by_cases m1 : m = 1
    · have t1 : ((m : Int) == 1) = true := by simp [m1]
      clear m0 m1
      go_wp2_with fail
      refine (c_pick g (P + 1) _ _ HR1.out (by omega) (by omega) (by omega)).mono ?_
      rintro e w2 ⟨q, rfl, hq, hr2, hg2⟩
      have HR2 := Lib.hid hr2
      have HG2 := Lib.hid (HG1.out.trans hg2)
      clear hr2 hg2
      go_wp2_with fail
      refine (c_l2Turn q _ (by omega)).mono ?_
      rintro e w3 ⟨t, rfl, ht, lt, hb3⟩
      have HT := Lib.hid ht
      have LT := Lib.hid lt
      have HB3 := Lib.hid hb3
      clear ht lt hb3
      go_wp2_with fail
      go_ret
      exact ⟨t, rfl, HT.out, LT.out, (HR2.out.ext HB3.out).more (by omega), grow_ext2 HG2.out HB3.out⟩
    · have t1 : ((m : Int) == 1) = false := by rw [beq_eq_false_iff_ne]; omega
      by_cases m2 : m = 2
      · have t2 : ((m : Int) == 2) = true := by simp [m2]
        clear m0 m1 m2
        go_wp2_with fail
        refine (c_sIdentityPerm _).mono ?_
        rintro e w2 ⟨rfl, hb2⟩
        have HB2 := Lib.hid hb2
        clear hb2
        go_wp2_with fail
        refine (c_sReverseWord idS _ (ltr_wv idS_ltr (by rw [idS_size]; omega))).mono ?_
        rintro e w3 ⟨t, rfl, ht, lt, hb3⟩
        have HT := Lib.hid ht
        have LT := Lib.hid lt
        have HB3 := Lib.hid (ext_trans HB2.out hb3)
        clear ht lt hb3
        go_wp2_with fail
        go_ret
        exact ⟨t, rfl, HT.out.trans idS_size, LT.out, (HR1.out.ext HB3.out).more (by omega), grow_ext2 HG1.out HB3.out⟩
      · have t2 : ((m : Int) == 2) = false := by rw [beq_eq_false_iff_ne]; omega
        clear m0 m1 m2
        go_wp2_with fail
        refine (c_l2Some g (P + 1) _ HR1.out (by omega)).mono ?_
        rintro e w2 ⟨s, rfl, hs, ls, hr2, hg2⟩
        have HS := Lib.hid hs
        have LS := Lib.hid ls
        have HR2 := Lib.hid hr2
        have HG2 := Lib.hid (HG1.out.trans hg2)
        clear hs ls hr2 hg2
        go_wp2_with fail
        go_ret
        exact ⟨s, rfl, HS.out, LS.out, HR2.out, HG2.out⟩
end Go.Proofs.Ytlcanmofgjbcbaa
