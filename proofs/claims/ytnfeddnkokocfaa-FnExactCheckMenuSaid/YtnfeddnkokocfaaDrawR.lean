/- DrawRotor, DrawRotor2, DrawRotor3, in one text. -/
import Derived.Test.YtnfeddnkokocfaaDrawPerm
import Derived.Test.YtnfeddnkokocfaaOwnRot
namespace Go.Proofs.Ytnfeddnkokocfaa
set_option linter.unusedVariables false
set_option linter.unusedSimpArgs false
/-! DrawRotor -/
section
open Go.RowKit

set_option maxHeartbeats 400000 in
theorem c_sReverseWord (s : ByteArray) (w : World) (h : wv s = true) : Calls Try.prog 129 #[.string s] w fun e w' => ∃ t : ByteArray, e = .returned (.string t) ∧ t.size = s.size ∧ ltr t ∧ Below w.heap.size w w' := by
  have HV := Lib.hid ((wv_iff s).1 h)
  have hle : s.size ≤ 200 := HV.out.1
  go_enter Try.func129, Try.ntmps129
  go_wp2_with (go_at_call 105; refine (c_specWordValid _ _ (by omega)).mono ?_; rintro e w' ⟨rfl, rfl⟩; rw [h])
  clear h
  go_loopw [3, 4] (fun o i wr => ∃ (k : Nat) (t : ByteArray), k ≤ s.size ∧ i = .int .i64 ((k : Int) - 1) ∧ o = .string t ∧ t.size + k = s.size ∧ ltr t ∧ Below w.heap.size w wr) (fun _ i _ => (intOf i + 1).toNat)
  case atStart => exact ⟨s.size, ByteArray.empty, Nat.le_refl _, rfl, rfl, by show 0 + _ = _; omega, ltr_empty, Below.refl _ _⟩
  case round =>
    obtain ⟨k, t, hk, rfl, rfl, ht, lt, hb⟩ := hrel
    have LT := Lib.hid lt
    have HB := Lib.hid hb
    clear lt hb
    by_cases hlt : 0 < k
    · obtain ⟨j, rfl⟩ : ∃ j, k = j + 1 := ⟨k - 1, by omega⟩
      have ej : ((j + 1 : Nat) : Int) - 1 = (j : Int) := by omega
      rw [ej]
      have z1 := xsize s (a := j) (b := j + 1) (by omega)
      go_wp2_with fail
      refine ⟨⟨j, _, by omega, rfl, rfl, by rw [ByteArray.size_append, z1]; omega, ltr_append LT.out (ltr_cut HV.out.2 (by omega)), HB.out⟩, by simp [intOf]⟩
    · go_wp2_with fail
      go_ret
      exact ⟨t, rfl, by omega, LT.out, HB.out⟩

set_option maxHeartbeats 400000 in
theorem c_sShiftWord' (s : ByteArray) (n : Nat) (w : World) (h : wv s = true) (hn : n < 10) : Calls Try.prog 159 #[.string s, .int .i64 n] w fun e w' => ∃ t : ByteArray, e = .returned (.string t) ∧ t.size = s.size ∧ ltr t ∧ Below w.heap.size w w' := by
  have HV := Lib.hid ((wv_iff s).1 h)
  have hle : s.size ≤ 200 := HV.out.1
  have hi : inB (n : Int) 0 9 = true := inB_true (by omega) (by omega)
  go_enter Try.func159, Try.ntmps159
  go_wp2_with (first | (go_at_call 105; refine (c_specWordValid _ _ (by omega)).mono ?_; rintro e w' ⟨rfl, rfl⟩; rw [h]) | (go_at_call 53; refine (c_l1In _ _ _ _).mono ?_; rintro e w' ⟨rfl, rfl⟩; rw [hi]))
  clear h hi
  go_loopw [5, 6] (fun o i wr => ∃ (k : Nat) (t : ByteArray), k ≤ s.size ∧ i = .int .i64 k ∧ o = .string t ∧ t.size = k ∧ ltr t ∧ Below w.heap.size w wr) (fun _ i _ => s.size - (intOf i).toNat)
  case atStart => exact ⟨0, ByteArray.empty, Nat.zero_le _, rfl, rfl, rfl, ltr_empty, Below.refl _ _⟩
  case round =>
    obtain ⟨k, t, hk, rfl, rfl, ht, lt, hb⟩ := hrel
    have LT := Lib.hid lt
    have HB := Lib.hid hb
    clear lt hb
    by_cases hlt : k < s.size
    · have b := HV.out.2 k hlt
      go_wp2_with (go_at_call 79; refine (c_l1Digit s k _ hlt (by omega)).mono ?_; rintro e w' ⟨rfl, rfl⟩)
      refine (c_l1Letter _ _ (by omega) (by omega)).mono ?_
      rintro e w2 ⟨rfl, hb2⟩
      have HB2 := Lib.hid (ext_trans HB.out hb2)
      have z1 : (strOfNums [97 + (bt s k - 97 + (n : Int)) % 10]).size = 1 := by rw [strOfNums_size]; rfl
      clear hb2
      go_wp2_with fail
      exact ⟨⟨k + 1, _, by omega, by go_num, rfl, by rw [ByteArray.size_append, z1]; omega, ltr_append LT.out (ltr_one _), HB2.out⟩, by simp [intOf]; omega⟩
    · go_wp2_with fail
      go_ret
      exact ⟨t, rfl, by omega, LT.out, HB.out⟩

theorem c_l2Turn (n : Nat) (w : World) (hn : n < 10) : Calls Try.prog 128 #[.int .i64 n] w fun e w' => ∃ t : ByteArray, e = .returned (.string t) ∧ t.size = 10 ∧ ltr t ∧ Below w.heap.size w w' := by
  go_enter Try.func128, Try.ntmps128
  go_wp2_with fail
  refine (c_sIdentityPerm _).mono ?_
  rintro e w1 ⟨rfl, hb1⟩
  have HB1 := Lib.hid hb1
  clear hb1
  go_wp2_with fail
  refine (c_sShiftWord' idS n _ (ltr_wv idS_ltr (by rw [idS_size]; omega)) hn).mono ?_
  rintro e w2 ⟨t, rfl, ht, lt, hb2⟩
  have HT := Lib.hid ht
  have LT := Lib.hid lt
  have HB2 := Lib.hid (ext_trans HB1.out hb2)
  clear ht lt hb2
  go_wp2_with fail
  go_ret
  exact ⟨t, rfl, HT.out.trans idS_size, LT.out, HB2.out⟩

set_option maxHeartbeats 400000 in
theorem c_l2Any (g P : Nat) (w : World) (hr : Rd w g P) (hP : P + 30 ≤ 1000000) :
    Calls Try.prog 91 #[.pointer (some ⟨g, 0, none⟩)] w fun e w' => ∃ s : ByteArray, e = .returned (.string s) ∧ s.size = 10 ∧ ltr s ∧ Rd w' g (P + 11) ∧ w.grownBy w' (some g) := by
  have HR := Lib.hid hr
  clear hr
  go_enter Try.func91, Try.ntmps91
  go_wp2_with fail
  refine (c_pick g P _ _ HR.out (by omega) (by omega) (by omega)).mono ?_
  rintro e w1 ⟨m, rfl, hm, hr1, hg1⟩
  have HR1 := Lib.hid hr1
  have HG1 := Lib.hid hg1
  clear hr1 hg1
  by_cases m0 : m = 0
  · have t0 : ((m : Int) == 0) = true := by simp [m0]
    clear m0
    go_wp2_with fail
    refine (c_sIdentityPerm _).mono ?_
    rintro e w2 ⟨rfl, hb2⟩
    have HB2 := Lib.hid hb2
    clear hb2
    go_wp2_with fail
    go_ret
    exact ⟨idS, rfl, idS_size, idS_ltr, (HR1.out.ext HB2.out).more (by omega), grow_ext2 HG1.out HB2.out⟩
  · have t0 : ((m : Int) == 0) = false := by simp [m0]
    by_cases m1 : m = 1
    · have t1 : ((m : Int) == 1) = true := by simp [m1]
      clear m0 m1
      go_wp2_with fail
      refine (c_pick g (P + 1) _ _ HR1.out (by omega) (by omega) (by omega)).mono ?_
      rintro e w2 ⟨q, rfl, hq, hr2, hg2⟩
      have HR2 := Lib.hid hr2
      have HG2 := Lib.hid (HG1.out.trans hg2)
      clear hr2 hg2
      go_wp2_with fail
      refine (c_l2Turn q _ (by omega)).mono ?_
      rintro e w3 ⟨t, rfl, ht, lt, hb3⟩
      have HT := Lib.hid ht
      have LT := Lib.hid lt
      have HB3 := Lib.hid hb3
      clear ht lt hb3
      go_wp2_with fail
      go_ret
      exact ⟨t, rfl, HT.out, LT.out, (HR2.out.ext HB3.out).more (by omega), grow_ext2 HG2.out HB3.out⟩
    · have t1 : ((m : Int) == 1) = false := by rw [beq_eq_false_iff_ne]; omega
      by_cases m2 : m = 2
      · have t2 : ((m : Int) == 2) = true := by simp [m2]
        clear m0 m1 m2
        go_wp2_with fail
        refine (c_sIdentityPerm _).mono ?_
        rintro e w2 ⟨rfl, hb2⟩
        have HB2 := Lib.hid hb2
        clear hb2
        go_wp2_with fail
        refine (c_sReverseWord idS _ (ltr_wv idS_ltr (by rw [idS_size]; omega))).mono ?_
        rintro e w3 ⟨t, rfl, ht, lt, hb3⟩
        have HT := Lib.hid ht
        have LT := Lib.hid lt
        have HB3 := Lib.hid (ext_trans HB2.out hb3)
        clear ht lt hb3
        go_wp2_with fail
        go_ret
        exact ⟨t, rfl, HT.out.trans idS_size, LT.out, (HR1.out.ext HB3.out).more (by omega), grow_ext2 HG1.out HB3.out⟩
      · have t2 : ((m : Int) == 2) = false := by rw [beq_eq_false_iff_ne]; omega
        clear m0 m1 m2
        go_wp2_with fail
        refine (c_l2Some g (P + 1) _ HR1.out (by omega)).mono ?_
        rintro e w2 ⟨s, rfl, hs, ls, hr2, hg2⟩
        have HS := Lib.hid hs
        have LS := Lib.hid ls
        have HR2 := Lib.hid hr2
        have HG2 := Lib.hid (HG1.out.trans hg2)
        clear hs ls hr2 hg2
        go_wp2_with fail
        go_ret
        exact ⟨s, rfl, HS.out, LS.out, HR2.out, HG2.out⟩
end
/-! DrawRotor2 -/
section
open Go.RowKit

set_option maxHeartbeats 400000 in
theorem c_l2Bad (g P : Nat) (p : ByteArray) (w : World) (hr : Rd w g P) (hP : P + 30 ≤ 1000000) (h1 : 1 ≤ p.size) (hp : p.size ≤ 1000) :
    Calls Try.prog 90 #[.pointer (some ⟨g, 0, none⟩), .string p] w fun e w' => ∃ s : ByteArray, e = .returned (.string s) ∧ s.size ≤ p.size + 1 ∧ Rd w' g (P + 3) ∧ w.grownBy w' (some g) := by
  have HR := Lib.hid hr
  clear hr
  go_enter Try.func90, Try.ntmps90
  go_wp2_with fail
  refine (c_pick g P _ _ HR.out (by omega) (by omega) (by omega)).mono ?_
  rintro e w0 ⟨k, rfl, hk, hr1, hg1⟩
  have HR0 := Lib.hid hr1
  have HG0 := Lib.hid hg1
  clear hr1 hg1
  go_wp2_with fail
  refine (c_pick g (P + 1) _ _ HR0.out (by omega) (by omega) (by omega)).mono ?_
  rintro e w1 ⟨m, rfl, hm, hr1, hg1⟩
  have HR1 := Lib.hid hr1
  have HG1 := Lib.hid (HG0.out.trans hg1)
  clear hr1 hg1
  have z2 := xsize p (a := 0) (b := k) (by omega)
  have z3 := xsize p (a := k + 1) (b := p.size) (by omega)
  by_cases m0 : m = 0
  · have t0 : ((m : Int) == 0) = true := by simp [m0]
    clear m0
    go_wp2_with fail
    have e1 : IntKind.i64.wrap ((k : Int) + 1) = (k : Int) + 1 := IntWalk.i64_in _ (by omega)
    have i1 : (0 : Int) ≤ (k : Int) := by omega
    have i2 : (k : Int) ≤ (p.size : Int) := by omega
    have i3 : (0 : Int) ≤ (k : Int) + 1 := by omega
    have i4 : (k : Int) + 1 ≤ (p.size : Int) := by omega
    have h6 : ¬ 9223372036854775807 < k + 1 := by omega
    have h11 : ¬ 9223372036854775807 < k + 1 + (p.size - (k + 1)) := by omega
    go_region_held3 (fun _ => True) (trivial) (first
      | (go_at_call 98; refine (c_pick g (P + 2) _ _ HR1.out.drew (by omega) (by omega) (by omega)).mono ?_; rintro e w2 ⟨q, rfl, hq, hr2, hg2⟩)
      | (go_at_call 60; refine (c_l1Letter _ _ (by omega) (by omega)).mono ?_; rintro e w3 ⟨rfl, hb3⟩; have z4 : (strOfNums [97 + (q : Int) % 10]).size = 1 := (by rw [strOfNums_size]; rfl); have z5 : (p.extract 0 k ++ strOfNums [97 + (q : Int) % 10]).size = k + 1 := (by rw [ByteArray.size_append, z2, z4]; rfl)))
    all_goals
      have HR3 := Lib.hid (hr2.ext hb3)
      have HG3 := Lib.hid (grow_ext2 (grow_then (grow_drew HG1.out) hg2) hb3)
      clear hr2 hg2 hb3
      go_wp2_with fail
      go_ret
      exact ⟨_, rfl, by rw [ByteArray.size_append, z5, z3]; omega, HR3.out, HG3.out⟩
  · have t0 : ((m : Int) == 0) = false := by simp [m0]
    by_cases m1 : m = 1
    · have t1 : ((m : Int) == 1) = true := by simp [m1]
      clear m0 m1
      go_wp2_with fail
      go_quiet (fail)
      go_wp2_with fail
      go_ret
      exact ⟨_, rfl, by rw [ByteArray.size_append, z2, z3]; omega, HR1.out.more (by omega), grow_drewN HG1.out _⟩
    · have t1 : ((m : Int) == 1) = false := by rw [beq_eq_false_iff_ne]; omega
      by_cases m2 : m = 2
      · have t2 : ((m : Int) == 2) = true := by simp [m2]
        clear m0 m1 m2
        go_wp2_with fail
        refine (c_ofL g (P + 2) [⟨#[97]⟩, ⟨#[107]⟩, ⟨#[32]⟩] _ _ _ _ rfl rfl HR1.out (by omega) (by decide) (by decide) (by decide)).mono ?_
        rintro e w2 ⟨t, rfl, ht, hr2, hg2⟩
        have ht' : t.size ≤ 1 := by
          have : ∀ t ∈ [(⟨#[97]⟩ : ByteArray), ⟨#[107]⟩, ⟨#[32]⟩], t.size ≤ 1 := by decide
          exact this t ht
        have HR2 := Lib.hid hr2
        have HG2 := Lib.hid hg2
        clear hr2 hg2 ht
        go_wp2_with fail
        go_ret
        exact ⟨_, rfl, by rw [ByteArray.size_append]; omega, HR2.out, HG1.out.trans HG2.out⟩
      · have t2 : ((m : Int) == 2) = false := by rw [beq_eq_false_iff_ne]; omega
        clear m0 m1 m2
        go_wp2_with fail
        go_ret
        exact ⟨_, rfl, by omega, HR1.out.more (by omega), HG1.out⟩

theorem c_l4Any (g P : Nat) (w : World) (hr : Rd w g P) (hP : P + 30 ≤ 1000000) :
    Calls Try.prog 135 #[.pointer (some ⟨g, 0, none⟩)] w fun e w' => ∃ s : ByteArray, e = .returned (.string s) ∧ s.size = 10 ∧ ltr s ∧ Rd w' g (P + 11) ∧ w.grownBy w' (some g) := by
  have HR := Lib.hid hr
  clear hr
  go_enter Try.func135, Try.ntmps135
  go_wp2_with fail
  refine (c_pick g P _ _ HR.out (by omega) (by omega) (by omega)).mono ?_
  rintro e w1 ⟨m, rfl, hm, hr1, hg1⟩
  have HR1 := Lib.hid hr1
  have HG1 := Lib.hid hg1
  clear hr1 hg1
  go_wp2_with fail
  refine (c_l4Board g (P + 1) m _ HR1.out (by omega) (by omega)).mono ?_
  rintro e w2 ⟨s, rfl, hs, ls, hr2, hg2⟩
  have HS := Lib.hid hs
  have LS := Lib.hid ls
  have HR2 := Lib.hid hr2
  have HG2 := Lib.hid (HG1.out.trans hg2)
  clear hs ls hr2 hg2
  go_wp2_with fail
  go_ret
  exact ⟨s, rfl, HS.out, LS.out, HR2.out, HG2.out⟩

set_option maxHeartbeats 400000 in
theorem c_l5Notches (g P : Nat) (n : Nat) (w : World) (hr : Rd w g P) (hP : P + 30 ≤ 1000000) (hn : n ≤ 3) :
    Calls Try.prog 180 #[.pointer (some ⟨g, 0, none⟩), .int .i64 n] w fun e w' => ∃ s : ByteArray, e = .returned (.string s) ∧ s.size ≤ n ∧ ltr s ∧ Rd w' g (P + 20) ∧ w.grownBy w' (some g) := by
  have HR := Lib.hid hr
  clear hr
  go_enter Try.func180, Try.ntmps180
  go_wp2_with fail
  refine (c_pick g P _ _ HR.out (by omega) (by omega) (by omega)).mono ?_
  rintro e w1 ⟨m, rfl, hm, hr1, hg1⟩
  have HR1 := Lib.hid hr1
  have HG1 := Lib.hid hg1
  clear hr1 hg1
  go_wp2_with fail
  refine (c_pick g (P + 1) _ _ HR1.out (by omega) (by omega) (by omega)).mono ?_
  rintro e w2 ⟨q, rfl, hq, hr2, hg2⟩
  have HR2 := Lib.hid hr2
  have HG2 := Lib.hid (HG1.out.trans hg2)
  clear hr2 hg2
  go_wp2_with fail
  go_loopw [5, 7] (fun o i wr => ∃ (x : Nat) (t : ByteArray), x ≤ 13 ∧ i = .int .i64 x ∧ o = .string t ∧ t.size ≤ m ∧ ltr t ∧ Rd wr g (P + 2 + x) ∧ w.grownBy wr (some g)) (fun _ i _ => 20 - (intOf i).toNat)
  case atStart => exact ⟨q, ByteArray.empty, by omega, rfl, rfl, Nat.zero_le _, ltr_empty, HR2.out.more (by omega), HG2.out⟩
  case round =>
    obtain ⟨x, t, hx, rfl, rfl, ht, lt, hrd, hgr⟩ := hrel
    have LT := Lib.hid lt
    have HRD := Lib.hid hrd
    have HGR := Lib.hid hgr
    clear lt hrd hgr
    by_cases hx2 : x < 10
    · by_cases ht2 : t.size < m
      · go_wp2_with fail
        refine (c_l1Letter _ _ (by omega) (by omega)).mono ?_
        rintro e w3 ⟨rfl, hb3⟩
        have HR3 := Lib.hid (HRD.out.ext hb3)
        have HG3 := Lib.hid (grow_ext2 HGR.out hb3)
        have z1 : (strOfNums [97 + (x : Int) % 10]).size = 1 := by rw [strOfNums_size]; rfl
        clear hb3
        go_wp2_with fail
        refine (c_pick g (P + 2 + x) _ _ HR3.out (by omega) (by omega) (by omega)).mono ?_
        rintro e w4 ⟨y, rfl, hy, hr4, hg4⟩
        have HR4 := Lib.hid hr4
        have HG4 := Lib.hid (HG3.out.trans hg4)
        clear hr4 hg4
        go_wp2_with fail
        exact ⟨⟨x + 1 + y, _, by omega, by go_num, rfl, by rw [ByteArray.size_append, z1]; omega, ltr_append LT.out (ltr_one _), HR4.out.more (by omega), HG4.out⟩, by simp [intOf]; omega⟩
      · go_wp2_with fail
        go_ret
        exact ⟨t, rfl, by omega, LT.out, HRD.out.more (by omega), HGR.out⟩
    · go_wp2_with fail
      go_ret
      exact ⟨t, rfl, by omega, LT.out, HRD.out.more (by omega), HGR.out⟩
end
/-! DrawRotor3 -/
section
open Go.RowKit

/-- two stores into a block of two cells -/
theorem res2 {w W : World} {g P b : Nat} {t : TypeId} {x y : Value} (u v : Value) (hk : Blk W b t #[x, y]) (hr : Rd W g P) (hg : w.grownBy W (some g)) (h1 : g < b) (h2 : w.heap.size ≤ b) :
    ((W.setCell ⟨b, 0, none⟩ u).setCell ⟨b, 1, none⟩ v).cell? ⟨b, 0, none⟩ = some u ∧ ((W.setCell ⟨b, 0, none⟩ u).setCell ⟨b, 1, none⟩ v).cell? ⟨b, 1, none⟩ = some v ∧
    Rd ((W.setCell ⟨b, 0, none⟩ u).setCell ⟨b, 1, none⟩ v) g P ∧ w.grownBy ((W.setCell ⟨b, 0, none⟩ u).setCell ⟨b, 1, none⟩ v) (some g) ∧ Blk ((W.setCell ⟨b, 0, none⟩ u).setCell ⟨b, 1, none⟩ v) b t #[u, v] := by
  have k2 := (hk.set 0 u).set 1 v
  exact ⟨k2.cell 0, k2.cell 1, (hr.setFar h1 u).setFar h1 v, grow_new (grow_new hg h2 u) h2 v, k2⟩

set_option maxHeartbeats 400000 in
theorem c_l5Some (g P : Nat) (w : World) (hr : Rd w g P) (hP : P + 30 ≤ 1000000) :
    Calls Try.prog 172 #[.pointer (some ⟨g, 0, none⟩)] w fun e w' => ∃ wi no : ByteArray, e = .returned (.agg #[.string wi, .string no]) ∧ wi.size = 10 ∧ no.size = 1 ∧ ltr no ∧ Rd w' g (P + 11) ∧ w.grownBy w' (some g) := by
  have HR := Lib.hid (hr.ext (ext_alloc w (.cells #[.string ByteArray.empty, .string ByteArray.empty] 144)))
  have hgl := hr.1
  clear hr
  go_enter Try.func172, Try.ntmps172
  go_wp2_with fail
  refine (c_l2Some g P _ HR.out (by omega)).mono ?_
  rintro e w1 ⟨wi, rfl, hwi, _, hr1, hg1⟩
  have K1 := Lib.hid ((Blk.new w 144 #[.string ByteArray.empty, .string ByteArray.empty]).grown hg1 (by simp; omega))
  have R1 := Lib.hid hr1
  have G1 := Lib.hid ((grow_alloc (World.grownBy.refl w (some g)) (.cells #[.string ByteArray.empty, .string ByteArray.empty] 144)).trans hg1)
  have HWI := Lib.hid hwi
  clear hr1 hg1 hwi
  go_wp2_with fail
  refine (c_l1Some g (P + 10) 1 _ R1.out (by omega) (by omega)).mono ?_
  rintro e w2 ⟨no, rfl, hno, hlno, hr2, hg2⟩
  have LNO : Hid (ltr no) := fun k hk => hlno k (by omega)
  have K2 := Lib.hid (K1.out.grown hg2 (by simp; omega))
  have x0 : w2.cell? ⟨w.heap.size, 0, none⟩ = some (.string ByteArray.empty) := K2.out.cell 0
  have x1 : w2.cell? ⟨w.heap.size, 1, none⟩ = some (.string ByteArray.empty) := K2.out.cell 1
  have y0 := K2.out.free 0
  have y1 := K2.out.free 1
  have HF := Lib.hid (res2 (.string wi) (.string no) K2.out hr2 (G1.out.trans hg2) hgl (Nat.le_refl _))
  have HNO := Lib.hid hno
  clear hr2 hg2 hno hlno
  go_wp2_with fail
  obtain ⟨f0, f1, f2, f3, _⟩ := HF.out
  exact bodyPost_ret (v := .agg #[.string wi, .string no]) (by simp [results, Try.results172, go_sem, f0, f1]) rfl ⟨wi, no, rfl, HWI.out, HNO.out, LNO.out, f2, f3⟩

set_option maxHeartbeats 1000000 in
theorem c_l5Any (g P : Nat) (w : World) (hr : Rd w g P) (hP : P + 60 ≤ 1000000) :
    Calls Try.prog 173 #[.pointer (some ⟨g, 0, none⟩)] w fun e w' => ∃ wi no : ByteArray, e = .returned (.agg #[.string wi, .string no]) ∧ wi.size = 10 ∧ no.size ≤ 3 ∧ ltr no ∧ Rd w' g (P + 33) ∧ w.grownBy w' (some g) := by
  have HR := Lib.hid (hr.ext (ext_alloc w (.cells #[.string ByteArray.empty, .string ByteArray.empty] 144)))
  have hgl := hr.1
  clear hr
  go_enter Try.func173, Try.ntmps173
  go_wp2_with fail
  refine (c_l2Any g P _ HR.out (by omega)).mono ?_
  rintro e w1 ⟨wi, rfl, hwi, _, hr1, hg1⟩
  have K1 := Lib.hid ((Blk.new w 144 #[.string ByteArray.empty, .string ByteArray.empty]).grown hg1 (by simp; omega))
  have R1 := Lib.hid hr1
  have G1 := Lib.hid ((grow_alloc (World.grownBy.refl w (some g)) (.cells #[.string ByteArray.empty, .string ByteArray.empty] 144)).trans hg1)
  have HWI := Lib.hid hwi
  clear hr1 hg1 hwi
  go_wp2_with fail
  refine (c_l5Notches g (P + 11) 3 _ R1.out (by omega) (by omega)).mono ?_
  rintro e w2 ⟨no, rfl, hno, hlno, hr2, hg2⟩
  have LNO := Lib.hid hlno
  clear hlno
  have K2 := Lib.hid ((K1.out.grown hg2 (by simp; omega)).alloc (.cells #[.string wi, .string no] 144))
  have N2 := Lib.hid (Blk.new w2 144 #[.string wi, .string no])
  have R2 := Lib.hid (hr2.ext (ext_alloc w2 (.cells #[.string wi, .string no] 144)))
  have G2 := Lib.hid (grow_alloc (G1.out.trans hg2) (.cells #[.string wi, .string no] 144))
  have HNO := Lib.hid hno
  have hlt2 : w.heap.size < w2.heap.size := (K1.out.grown hg2 (by simp; omega)).lt
  have hgl2 := hr2.1
  clear hr2 hg2 hno K1 R1 G1
  go_wp2_with fail
  refine (c_pick g (P + 31) _ _ R2.out (by omega) (by omega) (by omega)).mono ?_
  rintro e w3 ⟨m, rfl, hm, hr3, hg3⟩
  have K3 := Lib.hid (K2.out.grown hg3 (by simp; omega))
  have N3 := Lib.hid (N2.out.grown hg3 (by simp; omega))
  have R3 := Lib.hid hr3
  have G3 := Lib.hid (G2.out.trans hg3)
  clear hr3 hg3 K2 N2 R2 G2
  by_cases m0 : m = 0
  · have t0 : ((m : Int) == 0) = true := by simp [m0]
    clear m0
    go_wp2_with fail
    refine (c_ofL g (P + 32) [⟨#[98, 97, 100, 99, 102, 101, 104, 103, 106, 105]⟩, ⟨#[99, 98, 101, 100, 103, 102, 105, 104, 97, 106]⟩, ⟨#[102, 103, 104, 105, 106, 97, 98, 99, 100, 101]⟩, ⟨#[97, 100, 99, 102, 101, 104, 103, 106, 105, 98]⟩] _ _ _ _ rfl rfl R3.out (by omega) (by decide) (by decide) (by decide)).mono ?_
    rintro e w4 ⟨t, rfl, ht, hr4, hg4⟩
    have HT : Hid (t.size = 10) := by
      have : ∀ t ∈ [(⟨#[98, 97, 100, 99, 102, 101, 104, 103, 106, 105]⟩ : ByteArray), ⟨#[99, 98, 101, 100, 103, 102, 105, 104, 97, 106]⟩, ⟨#[102, 103, 104, 105, 106, 97, 98, 99, 100, 101]⟩, ⟨#[97, 100, 99, 102, 101, 104, 103, 106, 105, 98]⟩], t.size = 10 := by decide
      exact this t ht
    have N4 := Lib.hid (N3.out.grown hg4 (by simp; omega))
    have K4 := Lib.hid ((K3.out.grown hg4 (by simp; omega)).far (p := ⟨w2.heap.size, 0, none⟩) (by simp; omega) (.string t))
    have x0 : w4.cell? ⟨w2.heap.size, 0, none⟩ = some (.string wi) := N4.out.cell 0
    have y0 := N4.out.free 0
    have N5 := Lib.hid (N4.out.set 0 (.string t))
    have R5 := Lib.hid (hr4.setFar (p := ⟨w2.heap.size, 0, none⟩) hgl2 (.string t))
    have G5 := Lib.hid (grow_new (p := ⟨w2.heap.size, 0, none⟩) (G3.out.trans hg4) (by simp; omega) (.string t))
    clear hr4 hg4 ht K3 N3 R3 G3 N4
    go_upto_region 8 with (fail)
    have q0 := N5.out.cell 0
    have q1 := N5.out.cell 1
    have q2 := K4.out.cell 0
    have q3 := K4.out.cell 1
    have u0 := K4.out.free 0
    have u1 := K4.out.free 1
    have HF := Lib.hid (res2 (.string t) (.string no) K4.out R5.out G5.out hgl (Nat.le_refl _))
    go_wp2_with fail
    obtain ⟨f0, f1, f2, f3, _⟩ := HF.out
    exact bodyPost_ret (v := .agg #[.string t, .string no]) (by simp [results, Try.results173, go_sem, f0, f1]) rfl ⟨t, no, rfl, HT.out, HNO.out, LNO.out, f2, f3⟩
  · have t0 : ((m : Int) == 0) = false := by simp [m0]
    by_cases m1 : m = 1
    · have t1 : ((m : Int) == 1) = true := by simp [m1]
      clear m0 m1
      go_wp2_with fail
      refine (c_ofL g (P + 32) [⟨#[97, 98, 99, 100, 101]⟩, ⟨#[98, 97, 99, 100, 101]⟩, ⟨#[98, 99, 100, 101, 97]⟩, ⟨#[101, 100, 99, 98, 97]⟩] _ _ _ _ rfl rfl R3.out (by omega) (by decide) (by decide) (by decide)).mono ?_
      rintro e w4 ⟨s, rfl, hs, hr4, hg4⟩
      have hs5 : s.size = 5 ∧ wv s = true := by
        have : ∀ t ∈ [(⟨#[97, 98, 99, 100, 101]⟩ : ByteArray), ⟨#[98, 97, 99, 100, 101]⟩, ⟨#[98, 99, 100, 101, 97]⟩, ⟨#[101, 100, 99, 98, 97]⟩], t.size = 5 ∧ wv t = true := by decide
        exact this s hs
      have HS := Lib.hid hs5
      have hsz : s.size ≤ 5 := by omega
      have N4 := Lib.hid (N3.out.grown hg4 (by simp; omega))
      have K4 := Lib.hid (K3.out.grown hg4 (by simp; omega))
      have R4 := Lib.hid hr4
      have G4 := Lib.hid (G3.out.trans hg4)
      clear hr4 hg4 hs hs5 K3 N3 R3 G3
      go_wp2_with fail
      refine (c_sShiftWord' s 5 _ HS.out.2 (by omega)).mono ?_
      rintro e w5 ⟨t, rfl, ht, _, hb5⟩
      have HT := Lib.hid ht
      have htz : t.size ≤ 5 := by omega
      have N5 := Lib.hid (N4.out.ext hb5)
      have x0 : w5.cell? ⟨w2.heap.size, 0, none⟩ = some (.string wi) := N5.out.cell 0
      have y0 := N5.out.free 0
      have N6 := Lib.hid (N5.out.set 0 (.string (s ++ t)))
      have K6 := Lib.hid ((K4.out.ext hb5).far (p := ⟨w2.heap.size, 0, none⟩) (by simp; omega) (.string (s ++ t)))
      have R6 := Lib.hid ((R4.out.ext hb5).setFar (p := ⟨w2.heap.size, 0, none⟩) hgl2 (.string (s ++ t)))
      have G6 := Lib.hid (grow_new (p := ⟨w2.heap.size, 0, none⟩) (grow_ext2 G4.out hb5) (by simp; omega) (.string (s ++ t)))
      clear ht hb5 K4 R4 G4 N4 N5
      go_upto_region 8 with (fail)
      have q0 := N6.out.cell 0
      have q1 := N6.out.cell 1
      have q2 := K6.out.cell 0
      have q3 := K6.out.cell 1
      have u0 := K6.out.free 0
      have u1 := K6.out.free 1
      have HF := Lib.hid (res2 (.string (s ++ t)) (.string no) K6.out R6.out G6.out hgl (Nat.le_refl _))
      go_wp2_with fail
      obtain ⟨f0, f1, f2, f3, _⟩ := HF.out
      exact bodyPost_ret (v := .agg #[.string (s ++ t), .string no]) (by simp [results, Try.results173, go_sem, f0, f1]) rfl ⟨s ++ t, no, rfl, by rw [ByteArray.size_append, HT.out, HS.out.1], HNO.out, LNO.out, f2, f3⟩
    · have t1 : ((m : Int) == 1) = false := by rw [beq_eq_false_iff_ne]; omega
      clear m0 m1
      go_upto_region 8 with (fail)
      have q0 := N3.out.cell 0
      have q1 := N3.out.cell 1
      have q2 := K3.out.cell 0
      have q3 := K3.out.cell 1
      have u0 := K3.out.free 0
      have u1 := K3.out.free 1
      have HF := Lib.hid (res2 (.string wi) (.string no) K3.out R3.out G3.out hgl (Nat.le_refl _))
      go_wp2_with fail
      obtain ⟨f0, f1, f2, f3, _⟩ := HF.out
      exact bodyPost_ret (v := .agg #[.string wi, .string no]) (by simp [results, Try.results173, go_sem, f0, f1]) rfl ⟨wi, no, rfl, HWI.out, HNO.out, LNO.out, f2.more (by omega), f3⟩

set_option maxHeartbeats 1000000 in
theorem c_l5Bad (g P : Nat) (wi no : ByteArray) (w : World) (hr : Rd w g P) (hP : P + 60 ≤ 1000000) (h1 : 1 ≤ wi.size) (hw : wi.size ≤ 1000) (hn : no.size ≤ 1000) :
    Calls Try.prog 163 #[.pointer (some ⟨g, 0, none⟩), .agg #[.string wi, .string no]] w fun e w' => ∃ wi' no' : ByteArray, e = .returned (.agg #[.string wi', .string no']) ∧ wi'.size ≤ 1001 ∧ no'.size ≤ 1000 ∧ Rd w' g (P + 5) ∧ w.grownBy w' (some g) := by
  have HR := Lib.hid ((hr.ext (ext_alloc w (.cells #[.string wi, .string no] 144))).ext (ext_alloc _ (.cells #[.string ByteArray.empty, .string ByteArray.empty] 144)))
  have hgl := hr.1
  clear hr
  go_enter Try.func163, Try.ntmps163
  go_wp2_with fail
  refine (c_pick g P _ _ HR.out (by omega) (by omega) (by omega)).mono ?_
  rintro e w1 ⟨m, rfl, hm, hr1, hg1⟩
  have k0 := ((Blk.new w 144 #[.string wi, .string no]).alloc (.cells #[.string ByteArray.empty, .string ByteArray.empty] 144)).grown hg1 (by simp; omega)
  have k1 : Blk w1 (w.heap.size + 1) 144 #[.string ByteArray.empty, .string ByteArray.empty] := by
    have h1 := Blk.new (w.alloc (.cells #[.string wi, .string no] 144)) 144 #[.string ByteArray.empty, .string ByteArray.empty]
    simp only [World.size_alloc] at h1
    exact h1.grown hg1 (by simp; omega)
  have K0 := Lib.hid k0
  have K1 := Lib.hid k1
  have R1 := Lib.hid hr1
  have G1 := Lib.hid ((grow_alloc (grow_alloc (World.grownBy.refl w (some g)) (.cells #[.string wi, .string no] 144)) (.cells #[.string ByteArray.empty, .string ByteArray.empty] 144)).trans hg1)
  clear k0 k1 hr1 hg1 HR
  by_cases m0 : m = 0
  · have t0 : ((m : Int) == 0) = true := by simp [m0]
    clear m0
    go_wp2_with fail
    refine (c_ofL g (P + 1) [⟨#[98, 97]⟩, ⟨#[97, 97]⟩, ⟨#[107]⟩, ⟨#[97, 98, 99, 100]⟩, ⟨#[45]⟩] _ _ _ _ rfl rfl R1.out (by omega) (by decide) (by decide) (by decide)).mono ?_
    rintro e w2 ⟨t, rfl, ht, hr2, hg2⟩
    have HT : Hid (t.size ≤ 1000) := by
      have : ∀ t ∈ [(⟨#[98, 97]⟩ : ByteArray), ⟨#[97, 97]⟩, ⟨#[107]⟩, ⟨#[97, 98, 99, 100]⟩, ⟨#[45]⟩], t.size ≤ 1000 := by decide
      exact this t ht
    have k2 := K0.out.grown hg2 (by simp; omega)
    have x1 : w2.cell? ⟨w.heap.size, 1, none⟩ = some (.string no) := k2.cell 1
    have y1 := k2.free 1
    have K02 := Lib.hid (k2.set 1 (.string t))
    have K12 := Lib.hid ((K1.out.grown hg2 (by simp; omega)).far (p := ⟨w.heap.size, 1, none⟩) (by simp) (.string t))
    have R2 := Lib.hid (hr2.setFar (p := ⟨w.heap.size, 1, none⟩) hgl (.string t))
    have G2 := Lib.hid (grow_new (p := ⟨w.heap.size, 1, none⟩) (G1.out.trans hg2) (by simp) (.string t))
    clear hr2 hg2 ht k2 K0 K1 R1 G1
    go_upto_region 3 with (fail)
    have z0 : (w2.setCell ⟨w.heap.size, 1, none⟩ (.string t)).cell? ⟨w.heap.size, 0, none⟩ = some (.string wi) := K02.out.cell 0
    go_wp2_with fail
    refine (c_l2Bad g (P + 2) wi _ R2.out (by omega) (by omega) (by omega)).mono ?_
    rintro e w3 ⟨s, rfl, hs, hr3, hg3⟩
    have k3 := K02.out.grown hg3 (by simp; omega)
    have v0 : w3.cell? ⟨w.heap.size, 0, none⟩ = some (.string wi) := k3.cell 0
    have v1 := k3.free 0
    have K03 := Lib.hid (k3.set 0 (.string s))
    have K13 := Lib.hid ((K12.out.grown hg3 (by simp; omega)).far (p := ⟨w.heap.size, 0, none⟩) (by simp) (.string s))
    have R3 := Lib.hid (hr3.setFar (p := ⟨w.heap.size, 0, none⟩) hgl (.string s))
    have G3 := Lib.hid (grow_new (p := ⟨w.heap.size, 0, none⟩) (G2.out.trans hg3) (by simp) (.string s))
    clear hr3 hg3 k3 K02 K12 R2 G2
    go_upto_region 4 with (fail)
    have q0 := K03.out.cell 0
    have q1 := K03.out.cell 1
    have q2 := K13.out.cell 0
    have q3 := K13.out.cell 1
    have u0 := K13.out.free 0
    have u1 := K13.out.free 1
    have HF := Lib.hid (res2 (.string s) (.string t) K13.out R3.out G3.out (by omega) (by omega))
    go_wp2_with fail
    obtain ⟨f0, f1, f2, f3, _⟩ := HF.out
    exact bodyPost_ret (v := .agg #[.string s, .string t]) (by simp [results, Try.results163, go_sem, f0, f1]) rfl ⟨s, t, rfl, by omega, HT.out, f2, f3⟩
  · have t0 : ((m : Int) == 0) = false := by simp [m0]
    clear m0
    go_upto_region 3 with (fail)
    have z0 : w1.cell? ⟨w.heap.size, 0, none⟩ = some (.string wi) := K0.out.cell 0
    go_wp2_with fail
    refine (c_l2Bad g (P + 1) wi _ R1.out (by omega) (by omega) (by omega)).mono ?_
    rintro e w3 ⟨s, rfl, hs, hr3, hg3⟩
    have k3 := K0.out.grown hg3 (by simp; omega)
    have v0 : w3.cell? ⟨w.heap.size, 0, none⟩ = some (.string wi) := k3.cell 0
    have v1 := k3.free 0
    have K03 := Lib.hid (k3.set 0 (.string s))
    have K13 := Lib.hid ((K1.out.grown hg3 (by simp; omega)).far (p := ⟨w.heap.size, 0, none⟩) (by simp) (.string s))
    have R3 := Lib.hid (hr3.setFar (p := ⟨w.heap.size, 0, none⟩) hgl (.string s))
    have G3 := Lib.hid (grow_new (p := ⟨w.heap.size, 0, none⟩) (G1.out.trans hg3) (by simp) (.string s))
    clear hr3 hg3 k3 K0 K1 R1 G1
    go_upto_region 4 with (fail)
    have q0 := K03.out.cell 0
    have q1 := K03.out.cell 1
    have q2 := K13.out.cell 0
    have q3 := K13.out.cell 1
    have u0 := K13.out.free 0
    have u1 := K13.out.free 1
    have HF := Lib.hid (res2 (.string s) (.string no) K13.out R3.out G3.out (by omega) (by omega))
    go_wp2_with fail
    obtain ⟨f0, f1, f2, f3, _⟩ := HF.out
    exact bodyPost_ret (v := .agg #[.string s, .string no]) (by simp [results, Try.results163, go_sem, f0, f1]) rfl ⟨s, no, rfl, by omega, by omega, f2.more (by omega), f3⟩
end
end Go.Proofs.Ytnfeddnkokocfaa
