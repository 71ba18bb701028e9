/- Contracts of the draws of rotors that are sometimes not valid, of boards and notches. -/
import Derived.Test.YtlcanmofgjbcbaaDrawRotor
namespace Go.Proofs.Ytlcanmofgjbcbaa
set_option linter.unusedVariables false
set_option linter.unusedSimpArgs false
open Go.RowKit

set_option maxHeartbeats 400000 in
theorem c_l2Bad (g P : Nat) (p : ByteArray) (w : World) (hr : Rd w g P) (hP : P + 30 ≤ 1000000) (h1 : 1 ≤ p.size) (hp : p.size ≤ 1000) :
    Calls Try.prog 56 #[.pointer (some ⟨g, 0, none⟩), .string p] w fun e w' => ∃ s : ByteArray, e = .returned (.string s) ∧ s.size ≤ p.size + 1 ∧ Rd w' g (P + 3) ∧ w.grownBy w' (some g) := by
  have HR := Lib.hid hr
  clear hr
  go_enter Try.func56, Try.ntmps56
  go_wp2_with fail
  refine (c_pick g P _ _ HR.out (by omega) (by omega) (by omega)).mono ?_
  rintro e w0 ⟨k, rfl, hk, hr1, hg1⟩
  have HR0 := Lib.hid hr1
  have HG0 := Lib.hid hg1
  clear hr1 hg1
  go_wp2_with fail
  refine (c_pick g (P + 1) _ _ HR0.out (by omega) (by omega) (by omega)).mono ?_
  rintro e w1 ⟨m, rfl, hm, hr1, hg1⟩
  have HR1 := Lib.hid hr1
  have HG1 := Lib.hid (HG0.out.trans hg1)
  clear hr1 hg1
  have z2 := xsize p (a := 0) (b := k) (by omega)
  have z3 := xsize p (a := k + 1) (b := p.size) (by omega)
  by_cases m0 : m = 0
  · have t0 : ((m : Int) == 0) = true := by simp [m0]
    clear m0
    go_wp2_with fail
    have e1 : IntKind.i64.wrap ((k : Int) + 1) = (k : Int) + 1 := IntWalk.i64_in _ (by omega)
    have i1 : (0 : Int) ≤ (k : Int) := by omega
    have i2 : (k : Int) ≤ (p.size : Int) := by omega
    have i3 : (0 : Int) ≤ (k : Int) + 1 := by omega
    have i4 : (k : Int) + 1 ≤ (p.size : Int) := by omega
    have h6 : ¬ 9223372036854775807 < k + 1 := by omega
    have h11 : ¬ 9223372036854775807 < k + 1 + (p.size - (k + 1)) := by omega
    go_region_held3 (fun _ => True) (trivial) (first
      | (go_at_call 54; refine (c_pick g (P + 2) _ _ HR1.out.drew (by omega) (by omega) (by omega)).mono ?_; rintro e w2 ⟨q, rfl, hq, hr2, hg2⟩)
      | (go_at_call 67; refine (c_l1Letter _ _ (by omega) (by omega)).mono ?_; rintro e w3 ⟨rfl, hb3⟩; have z4 : (strOfNums [97 + (q : Int) % 10]).size = 1 := (by rw [strOfNums_size]; rfl); have z5 : (p.extract 0 k ++ strOfNums [97 + (q : Int) % 10]).size = k + 1 := (by rw [ByteArray.size_append, z2, z4]; rfl)))
    all_goals
      have HR3 := Lib.hid (hr2.ext hb3)
      have HG3 := Lib.hid (grow_ext2 (grow_then (grow_drew HG1.out) hg2) hb3)
      clear hr2 hg2 hb3
      go_wp2_with fail
      go_ret
      exact ⟨_, rfl, by rw [ByteArray.size_append, z5, z3]; omega, HR3.out, HG3.out⟩
  · have t0 : ((m : Int) == 0) = false := by simp [m0]
    by_cases m1 : m = 1
    · have t1 : ((m : Int) == 1) = true := by simp [m1]
      clear m0 m1
      go_wp2_with fail
      go_quiet (fail)
      go_wp2_with fail
      go_ret
      exact ⟨_, rfl, by rw [ByteArray.size_append, z2, z3]; omega, HR1.out.more (by omega), grow_drewN HG1.out _⟩
    · have t1 : ((m : Int) == 1) = false := by rw [beq_eq_false_iff_ne]; omega
      by_cases m2 : m = 2
      · have t2 : ((m : Int) == 2) = true := by simp [m2]
        clear m0 m1 m2
        go_wp2_with fail
        refine (c_ofL g (P + 2) [⟨#[97]⟩, ⟨#[107]⟩, ⟨#[32]⟩] _ _ _ _ rfl rfl HR1.out (by omega) (by decide) (by decide) (by decide)).mono ?_
        rintro e w2 ⟨t, rfl, ht, hr2, hg2⟩
        have ht' : t.size ≤ 1 := by
          have : ∀ t ∈ [(⟨#[97]⟩ : ByteArray), ⟨#[107]⟩, ⟨#[32]⟩], t.size ≤ 1 := by decide
          exact this t ht
        have HR2 := Lib.hid hr2
        have HG2 := Lib.hid hg2
        clear hr2 hg2 ht
        go_wp2_with fail
        go_ret
        exact ⟨_, rfl, by rw [ByteArray.size_append]; omega, HR2.out, HG1.out.trans HG2.out⟩
      · have t2 : ((m : Int) == 2) = false := by rw [beq_eq_false_iff_ne]; omega
        clear m0 m1 m2
        go_wp2_with fail
        go_ret
        exact ⟨_, rfl, by omega, HR1.out.more (by omega), HG1.out⟩

theorem c_l4Any (g P : Nat) (w : World) (hr : Rd w g P) (hP : P + 30 ≤ 1000000) :
    Calls Try.prog 93 #[.pointer (some ⟨g, 0, none⟩)] w fun e w' => ∃ s : ByteArray, e = .returned (.string s) ∧ s.size = 10 ∧ ltr s ∧ Rd w' g (P + 11) ∧ w.grownBy w' (some g) := by
  have HR := Lib.hid hr
  clear hr
  go_enter Try.func93, Try.ntmps93
  go_wp2_with fail
  refine (c_pick g P _ _ HR.out (by omega) (by omega) (by omega)).mono ?_
  rintro e w1 ⟨m, rfl, hm, hr1, hg1⟩
  have HR1 := Lib.hid hr1
  have HG1 := Lib.hid hg1
  clear hr1 hg1
  go_wp2_with fail
  refine (c_l4Board g (P + 1) m _ HR1.out (by omega) (by omega)).mono ?_
  rintro e w2 ⟨s, rfl, hs, ls, hr2, hg2⟩
  have HS := Lib.hid hs
  have LS := Lib.hid ls
  have HR2 := Lib.hid hr2
  have HG2 := Lib.hid (HG1.out.trans hg2)
  clear hs ls hr2 hg2
  go_wp2_with fail
  go_ret
  exact ⟨s, rfl, HS.out, LS.out, HR2.out, HG2.out⟩

set_option maxHeartbeats 400000 in
theorem c_l5Notches (g P : Nat) (n : Nat) (w : World) (hr : Rd w g P) (hP : P + 30 ≤ 1000000) (hn : n ≤ 3) :
    Calls Try.prog 106 #[.pointer (some ⟨g, 0, none⟩), .int .i64 n] w fun e w' => ∃ s : ByteArray, e = .returned (.string s) ∧ s.size ≤ n ∧ ltr s ∧ Rd w' g (P + 20) ∧ w.grownBy w' (some g) := by
  have HR := Lib.hid hr
  clear hr
  go_enter Try.func106, Try.ntmps106
  go_wp2_with fail
  refine (c_pick g P _ _ HR.out (by omega) (by omega) (by omega)).mono ?_
  rintro e w1 ⟨m, rfl, hm, hr1, hg1⟩
  have HR1 := Lib.hid hr1
  have HG1 := Lib.hid hg1
  clear hr1 hg1
  go_wp2_with fail
  refine (c_pick g (P + 1) _ _ HR1.out (by omega) (by omega) (by omega)).mono ?_
  rintro e w2 ⟨q, rfl, hq, hr2, hg2⟩
  have HR2 := Lib.hid hr2
  have HG2 := Lib.hid (HG1.out.trans hg2)
  clear hr2 hg2
  go_wp2_with fail
  go_loopw [5, 7] (fun o i wr => ∃ (x : Nat) (t : ByteArray), x ≤ 13 ∧ i = .int .i64 x ∧ o = .string t ∧ t.size ≤ m ∧ ltr t ∧ Rd wr g (P + 2 + x) ∧ w.grownBy wr (some g)) (fun _ i _ => 20 - (intOf i).toNat)
  case atStart => exact ⟨q, ByteArray.empty, by omega, rfl, rfl, Nat.zero_le _, ltr_empty, HR2.out.more (by omega), HG2.out⟩
  case round =>
    obtain ⟨x, t, hx, rfl, rfl, ht, lt, hrd, hgr⟩ := hrel
    have LT := Lib.hid lt
    have HRD := Lib.hid hrd
    have HGR := Lib.hid hgr
    clear lt hrd hgr
    by_cases hx2 : x < 10
    · by_cases ht2 : t.size < m
      · go_wp2_with fail
        refine (c_l1Letter _ _ (by omega) (by omega)).mono ?_
        rintro e w3 ⟨rfl, hb3⟩
        have HR3 := Lib.hid (HRD.out.ext hb3)
        have HG3 := Lib.hid (grow_ext2 HGR.out hb3)
        have z1 : (strOfNums [97 + (x : Int) % 10]).size = 1 := by rw [strOfNums_size]; rfl
        clear hb3
        go_wp2_with fail
        refine (c_pick g (P + 2 + x) _ _ HR3.out (by omega) (by omega) (by omega)).mono ?_
        rintro e w4 ⟨y, rfl, hy, hr4, hg4⟩
        have HR4 := Lib.hid hr4
        have HG4 := Lib.hid (HG3.out.trans hg4)
        clear hr4 hg4
        go_wp2_with fail
        exact ⟨⟨x + 1 + y, _, by omega, by go_num, rfl, by rw [ByteArray.size_append, z1]; omega, ltr_append LT.out (ltr_one _), HR4.out.more (by omega), HG4.out⟩, by simp [intOf]; omega⟩
      · go_wp2_with fail
        go_ret
        exact ⟨t, rfl, by omega, LT.out, HRD.out.more (by omega), HGR.out⟩
    · go_wp2_with fail
      go_ret
      exact ⟨t, rfl, by omega, LT.out, HRD.out.more (by omega), HGR.out⟩
end Go.Proofs.Ytlcanmofgjbcbaa
