/- Contracts of the draws of permutations, plugboards and notches: all are strings of letters. -/
import Derived.Test.YtnfeddnkokocfaaDraw
import Derived.Test.YtnfeddnkokocfaaSpecPerm
namespace Go.Proofs.Ytnfeddnkokocfaa
set_option linter.unusedVariables false
set_option linter.unusedSimpArgs false
open Go.RowKit

def szOf : Value → Nat
  | .string s => s.size
  | _ => 0
/-- a string of letters -/
def ltr (s : ByteArray) : Prop := ∀ k, k < s.size → 97 ≤ bt s k ∧ bt s k < 107
theorem xsize (s : ByteArray) {a b : Nat} (h : b ≤ s.size) : (s.extract a b).size = b - a := by rw [ByteArray.size_extract]; omega
theorem xbt (s : ByteArray) {a b k : Nat} (h : b ≤ s.size) (hk : k < b - a) : bt (s.extract a b) k = bt s (a + k) := by
  have h1 : k < (s.extract a b).size := by rw [xsize s h]; exact hk
  have h2 : a + k < s.size := by omega
  rw [← bt_get _ k h1, ← bt_get _ (a + k) h2]
  rw [ByteArray.getElem_extract]
theorem ltr_empty : ltr ByteArray.empty := fun k hk => absurd hk (by simp)
theorem ltr_append {a b : ByteArray} (ha : ltr a) (hb : ltr b) : ltr (a ++ b) := by
  intro k hk
  rw [bt_append]
  rw [ByteArray.size_append] at hk
  split
  · exact ha k (by omega)
  · exact hb _ (by omega)
theorem ltr_cut {s : ByteArray} (hs : ltr s) {a b : Nat} (h : b ≤ s.size) : ltr (s.extract a b) := by
  intro k hk
  rw [xsize s h] at hk
  rw [xbt s h hk]
  exact hs _ (by omega)
theorem ltr_one (n : Int) : ltr (strOfNums [97 + n % 10]) := by
  intro k hk
  have e : k = 0 := by rw [strOfNums_size] at hk; simp at hk; omega
  subst e
  rw [bt_strOfNums _ _ (by simp) (by simp; omega) (by simp; omega)]
  simp; omega
theorem ltr_wv {s : ByteArray} (h : ltr s) (hs : s.size ≤ 200) : wv s = true := (wv_iff s).2 ⟨hs, h⟩
theorem ltr_mkS {n : Nat} {f : Nat → Int} (h : ∀ k, k < n → 97 ≤ f k ∧ f k < 107) : ltr (mkS n f) := by
  intro k hk
  rw [mkS_size] at hk
  rw [bt_mkS _ _ _ hk (by have := h k hk; omega) (by have := h k hk; omega)]
  exact h k hk
def idS : ByteArray := mkS 10 (fun k => 97 + (k : Int) % 10)
theorem idS_size : idS.size = 10 := mkS_size _ _
theorem idS_ltr : ltr idS := ltr_mkS fun k hk => by omega

theorem c_sIdentityPerm (w : World) : Calls Try.prog 122 #[] w fun e w' => e = .returned (.string idS) ∧ Below w.heap.size w w' := by
  go_enter Try.func122, Try.ntmps122
  go_wp2_with fail
  go_loopw [1, 2] (fun o i wr => ∃ k : Nat, k ≤ 10 ∧ i = .int .i64 k ∧ o = .string (mkS k (fun k => 97 + (k : Int) % 10)) ∧ Below w.heap.size w wr) (fun _ i _ => 10 - (intOf i).toNat)
  case atStart => exact ⟨0, Nat.zero_le _, rfl, rfl, Below.refl _ _⟩
  case round =>
    obtain ⟨k, hk, rfl, rfl, hb⟩ := hrel
    have HB := Lib.hid hb
    have hz : (mkS k (fun k => 97 + (k : Int) % 10)).size ≤ 10 := by rw [mkS_size]; exact hk
    have hz1 : (strOfNums [97 + (k : Int) % 10]).size ≤ 1 := by rw [strOfNums_size]; simp
    clear hb
    by_cases hlt : k < 10
    · go_wp2_with fail
      refine (c_l1Letter _ _ (by omega) (by omega)).mono ?_
      rintro e w2 ⟨rfl, hb2⟩
      have HB2 := Lib.hid (ext_trans HB.out hb2)
      clear hb2
      go_wp2_with fail
      exact ⟨⟨k + 1, by omega, by go_num, by rw [mkS_succ], HB2.out⟩, by simp [intOf]; omega⟩
    · go_wp2_with fail
      go_ret
      have e : k = 10 := by omega
      subst e
      exact ⟨rfl, HB.out⟩

theorem c_l2Some (g P : Nat) (w : World) (hr : Rd w g P) (hP : P + 20 ≤ 1000000) :
    Calls Try.prog 130 #[.pointer (some ⟨g, 0, none⟩)] w fun e w' => ∃ s : ByteArray, e = .returned (.string s) ∧ s.size = 10 ∧ ltr s ∧ Rd w' g (P + 10) ∧ w.grownBy w' (some g) := by
  have HR := Lib.hid hr
  clear hr
  go_enter Try.func130, Try.ntmps130
  go_wp2_with fail
  refine (c_sIdentityPerm _).mono ?_
  rintro e w1 ⟨rfl, hb1⟩
  have HB1 := Lib.hid hb1
  have HI := Lib.hid idS_size
  clear hb1
  go_wp2_with fail
  go_loopw [3, 4] (fun l o wr => ∃ (x s : ByteArray), l = .string x ∧ o = .string s ∧ x.size + s.size = 10 ∧ ltr x ∧ ltr s ∧ Rd wr g (P + s.size) ∧ w.grownBy wr (some g)) (fun l _ _ => szOf l)
  case atStart => exact ⟨idS, ByteArray.empty, rfl, rfl, by rw [HI.out]; rfl, idS_ltr, ltr_empty, HR.out.ext HB1.out, grow_ext HB1.out _⟩
  case round =>
    obtain ⟨x, s, rfl, rfl, hs, hx, hl, hrd, hgr⟩ := hrel
    have HX := Lib.hid hx
    have HL := Lib.hid hl
    have HRD := Lib.hid hrd
    have HGR := Lib.hid hgr
    clear hx hl hrd hgr
    by_cases hlt : 0 < x.size
    · go_wp2_with fail
      refine (c_pick g (P + s.size) _ _ HRD.out (by omega) (by omega) (by omega)).mono ?_
      rintro e w2 ⟨m, rfl, hm, hr2, hg2⟩
      have HR2 := Lib.hid hr2
      have HG2 := Lib.hid hg2
      clear hr2 hg2
      have m1 : (m : Int) ≤ x.size := by omega
      have m2 : (m : Int) + 1 ≤ x.size := by omega
      have z1 := xsize x (a := m) (b := m + 1) (by omega)
      have z2 := xsize x (a := 0) (b := m) (by omega)
      have z3 := xsize x (a := m + 1) (b := x.size) (by omega)
      go_wp2_with fail
      go_quiet (fail)
      go_wp2_with fail
      refine ⟨⟨_, _, rfl, rfl, ?_, ltr_append (ltr_cut HX.out (by omega)) (ltr_cut HX.out (Nat.le_refl _)), ltr_append HL.out (ltr_cut HX.out (by omega)), ?_, grow_drewN (HGR.out.trans HG2.out) _⟩, ?_⟩
      · rw [ByteArray.size_append, ByteArray.size_append, z1, z2, z3]; omega
      · rw [ByteArray.size_append, z1, Nat.add_sub_cancel_left, ← Nat.add_assoc]; exact HR2.out
      · show (x.extract 0 m ++ x.extract (m + 1) x.size).size < x.size
        rw [ByteArray.size_append, z2, z3]; omega
    · go_wp2_with fail
      go_ret
      exact ⟨s, rfl, by omega, HL.out, HRD.out.more (by omega), HGR.out⟩

theorem c_l4Swap (p : ByteArray) (x y : Nat) (w : World) (hx : x < p.size) (hy : y < p.size) (hp : p.size ≤ 1000) (hl : ltr p) :
    Calls Try.prog 175 #[.string p, .int .i64 x, .int .i64 y] w fun e w' => ∃ s : ByteArray, e = .returned (.string s) ∧ s.size = p.size ∧ ltr s ∧ Below w.heap.size w w' := by
  have HL := Lib.hid hl
  clear hl
  go_enter Try.func175, Try.ntmps175
  go_wp2_with (refine wpList_bytes _ rfl 9 61 5 _ rfl Try.underlying9 Try.underlying61 Try.underlying5 _ rfl ?_
               intro cap w1 hrow hbw
               have HB := Lib.hid hbw
               have c1 := hrow.cell hx
               have c2 := hrow.cell hy
               have f1 := hrow.free hx
               have HR2 := Lib.hid (hrow.set hx (bt p y))
               have f2 := HR2.out.free hy
               have c3 := HR2.out.cell hy
               have HR3 := Lib.hid (HR2.out.set hy (bt p x))
               have HB3 := Lib.hid ((HB.out.setCell (p := ⟨w.heap.size, x, none⟩) (Nat.le_refl _) (.int .u8 (bt p y))).setCell (p := ⟨w.heap.size, y, none⟩) (Nat.le_refl _) (.int .u8 (bt p x)))
               have hcv := conv_row (P := Try.prog) HR3.out 61 9 5 cap Try.underlying61 Try.underlying5 Try.underlying9
               clear hrow hbw)
  go_ret
  refine ⟨_, rfl, mkS_size _ _, ltr_mkS fun k hk => ?_, HB3.out⟩
  have b1 := HL.out x hx
  have b2 := HL.out y hy
  have b3 := HL.out k hk
  split
  · exact b1
  · split
    · exact b2
    · exact b3

set_option maxHeartbeats 400000 in
theorem c_l4Board (g P : Nat) (n : Nat) (w : World) (hr : Rd w g P) (hP : P + 20 ≤ 1000000) (hn : n ≤ 5) :
    Calls Try.prog 162 #[.pointer (some ⟨g, 0, none⟩), .int .i64 n] w fun e w' => ∃ s : ByteArray, e = .returned (.string s) ∧ s.size = 10 ∧ ltr s ∧ Rd w' g (P + 10) ∧ w.grownBy w' (some g) := by
  have HR := Lib.hid hr
  clear hr
  go_enter Try.func162, Try.ntmps162
  go_wp2_with fail
  refine (c_sIdentityPerm _).mono ?_
  rintro e w1 ⟨rfl, hb1⟩
  have HB1 := Lib.hid hb1
  have HI := Lib.hid idS_size
  clear hb1
  go_wp2_with fail
  go_loopw [1, 5, 6] (fun i p l wr => ∃ (k : Nat) (x s : ByteArray), k ≤ n ∧ i = .int .i64 k ∧ p = .string s ∧ l = .string x ∧ s.size = 10 ∧ x.size + 2 * n = 10 + 2 * k ∧ ltr x ∧ ltr s ∧ Rd wr g (P + 2 * (n - k)) ∧ w.grownBy wr (some g)) (fun i _ _ _ => (intOf i).toNat)
  case atStart => exact ⟨n, idS, idS, Nat.le_refl _, rfl, rfl, rfl, HI.out, by rw [HI.out], idS_ltr, idS_ltr, (HR.out.ext HB1.out).more (by omega), grow_ext HB1.out _⟩
  case round =>
    obtain ⟨k, x, s, hk, rfl, rfl, rfl, hs, hx, lx, ls, hrd, hgr⟩ := hrel
    have LX := Lib.hid lx
    have LS := Lib.hid ls
    have HRD := Lib.hid hrd
    have HGR := Lib.hid hgr
    clear lx ls hrd hgr
    by_cases hlt : 0 < k
    · go_wp2_with fail
      go_loopw [7, 6] (fun j l wq => ∃ (q : Nat) (y : ByteArray), q ≤ 2 ∧ j = .int .i64 q ∧ l = .string y ∧ y.size = x.size ∧ ltr y ∧ Rd wq g (P + 2 * (n - k) + q) ∧ w.grownBy wq (some g)) (fun j _ _ => 2 - (intOf j).toNat)
      case atStart => exact ⟨0, x, by omega, rfl, rfl, rfl, LX.out, HRD.out, HGR.out⟩
      case round =>
        obtain ⟨q, y, hq, rfl, rfl, hy, ly, hrd, hgr⟩ := hrel
        have LY := Lib.hid ly
        have HRQ := Lib.hid hrd
        have HGQ := Lib.hid hgr
        clear ly hrd hgr
        by_cases hlq : q < 2
        · go_wp2_with fail
          refine (c_pick g (P + 2 * (n - k) + q) _ _ HRQ.out (by omega) (by omega) (by omega)).mono ?_
          rintro e w2 ⟨m, rfl, hm, hr2, hg2⟩
          have HR2 := Lib.hid hr2
          have HG2 := Lib.hid hg2
          clear hr2 hg2
          have z1 := xsize y (a := m) (b := m + 1) (by omega)
          have z2 := xsize y (a := 0) (b := m) (by omega)
          have z3 := xsize y (a := m + 1) (b := x.size) (by omega)
          have z4 : (y.extract m (m + 1) ++ y.extract 0 m).size = 1 + m := by rw [ByteArray.size_append, z1, z2]; omega
          go_wp2_with fail
          go_quiet (fail)
          go_wp2_with fail
          refine ⟨⟨q + 1, _, by omega, by go_num, rfl, ?_, ltr_append (ltr_append (ltr_cut LY.out (by omega)) (ltr_cut LY.out (by omega))) (ltr_cut LY.out (by omega)), HR2.out, grow_drewN (HGQ.out.trans HG2.out) _⟩, by simp [intOf]; omega⟩
          rw [ByteArray.size_append, z4, z3]; omega
        · have e : q = 2 := by omega
          subst e
          have b0 := LY.out 0 (by omega)
          have b1 := LY.out 1 (by omega)
          have d0 : ((bt y 0 - 97).toNat : Int) = bt y 0 - 97 := by omega
          have d1 : ((bt y 1 - 97).toNat : Int) = bt y 1 - 97 := by omega
          go_wp2_with fail
          refine (c_l1Digit y 0 _ (by omega) (by omega)).mono ?_
          rintro e w' ⟨rfl, rfl⟩
          go_wp2_with fail
          refine (c_l1Digit y 1 _ (by omega) (by omega)).mono ?_
          rintro e w' ⟨rfl, rfl⟩
          generalize hA0 : (bt y 0 - 97).toNat = a0 at d0
          generalize hA1 : (bt y 1 - 97).toNat = a1 at d1
          rw [← d0, ← d1]
          have HD0 := Lib.hid d0
          have HD1 := Lib.hid d1
          have l0 : a0 < 10 := by omega
          have l1 : a1 < 10 := by omega
          clear d0 d1 hA0 hA1
          go_wp2_with fail
          refine (c_l4Swap s a0 a1 _ (by omega) (by omega) (by omega) LS.out).mono ?_
          rintro e w3 ⟨t, rfl, ht, lt, hb3⟩
          have LT := Lib.hid lt
          have HB3 := Lib.hid hb3
          have z1 := xsize y (a := 2) (b := x.size) (by omega)
          clear lt hb3
          go_wp2_with fail
          exact ⟨⟨k - 1, y.extract 2 x.size, t, by omega, by congr 1; omega, rfl, rfl, by omega, by omega, ltr_cut LY.out (by omega), LT.out, (HRQ.out.ext HB3.out).more (by omega), grow_ext2 HGQ.out HB3.out⟩, by simp [intOf]; omega⟩
    · go_wp2_with fail
      go_ret
      exact ⟨s, rfl, hs, LS.out, HRD.out.more (by omega), HGR.out⟩
end Go.Proofs.Ytnfeddnkokocfaa
