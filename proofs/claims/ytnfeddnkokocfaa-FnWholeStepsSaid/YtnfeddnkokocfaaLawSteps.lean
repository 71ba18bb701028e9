/- The walks of the laws on steps: each returns true. -/
import Derived.Test.YtnfeddnkokocfaaSpecS
import Derived.Test.YtnfeddnkokocfaaShift
import Derived.Test.YtnfeddnkokocfaaKitA
import Derived.Test.YtnfeddnkokocfaaCoded
import Derived.Test.YtnfeddnkokocfaaDrawS
namespace Go.Proofs.Ytnfeddnkokocfaa
set_option linter.unusedVariables false
set_option linter.unusedSimpArgs false
open Go.RowKit

/-- the wheels of a law lie in block b -/
structure LW (w : World) (b : Nat) (A : Option Addr) (cA : Nat) (l : List Rot) (rf : ByteArray) (W : World) : Prop where
  c0 : W.cell? ⟨b, 0, none⟩ = some (.slice A l.length cA)
  c1 : W.cell? ⟨b, 1, none⟩ = some (.string rf)
  lt : b < W.heap.size
  rot : IsRots W (.slice A l.length cA) l
  bel : Below w.heap.size w W
theorem LW.start {w w1 : World} {A : Option Addr} {cA : Nat} {l : List Rot} (rf : ByteArray) (hb : Below w.heap.size w w1) (hR : IsRots w1 (.slice A l.length cA) l) :
    LW w w1.heap.size A cA l rf (w1.alloc (.cells #[.slice A l.length cA, .string rf] 31)) :=
  ⟨(Blk.new w1 _ _).cell 0, (Blk.new w1 _ _).cell 1, by simp, hR.ext (ext_alloc _ _), ext_trans hb (ext_alloc _ _)⟩
theorem LW.ext {w W W' : World} {b : Nat} {A : Option Addr} {cA : Nat} {l : List Rot} {rf : ByteArray} (h : LW w b A cA l rf W) (hb : Below W.heap.size W W') : LW w b A cA l rf W' :=
  ⟨(hb.cell (p := ⟨b, 0, none⟩) h.lt).trans h.c0, (hb.cell (p := ⟨b, 1, none⟩) h.lt).trans h.c1, Nat.lt_of_lt_of_le h.lt hb.size, h.rot.ext hb, ext_trans h.bel hb⟩
theorem LW.drew {w W : World} {b : Nat} {A : Option Addr} {cA : Nat} {l : List Rot} {rf : ByteArray} (h : LW w b A cA l rf W) : LW w b A cA l rf W.drew := h.ext (Below.refl _ _).drew
theorem LW.drewN {w W : World} {b : Nat} {A : Option Addr} {cA : Nat} {l : List Rot} {rf : ByteArray} (h : LW w b A cA l rf W) (n : Nat) : LW w b A cA l rf (W.drewN n) := h.ext (below_drewN (Below.refl _ _) n)
/-- the same, with the cells in sight -/
def LH (w : World) (b : Nat) (A : Option Addr) (cA : Nat) (l : List Rot) (rf : ByteArray) (W : World) : Prop :=
  W.cell? ⟨b, 0, none⟩ = some (.slice A l.length cA) ∧ W.cell? ⟨b, 1, none⟩ = some (.string rf) ∧ LW w b A cA l rf W
theorem LW.lh {w W : World} {b : Nat} {A : Option Addr} {cA : Nat} {l : List Rot} {rf : ByteArray} (h : LW w b A cA l rf W) : LH w b A cA l rf W := ⟨h.c0, h.c1, h⟩

def stR (l : List Rot) (rf s : ByteArray) (n : Int) : ByteArray := if manyOk l rf s n = true then it (stepS l) n.toNat s else ByteArray.empty
theorem stR_ok {l : List Rot} {rf s : ByteArray} (h : winB l rf s = true) {n : Nat} (hn : n ≤ 2000) : stR l rf s n = it (stepS l) n s := by
  unfold stR manyOk; rw [h, decide_eq_true (show (0 : Int) ≤ n by omega), decide_eq_true (show (n : Int) ≤ 2000 by omega)]; simp
theorem stR_size (l : List Rot) (rf s : ByteArray) (n : Int) : (stR l rf s n).size ≤ s.size := by
  unfold stR; split
  · rw [it_size]; exact Nat.le_refl _
  · exact Nat.zero_le _
theorem manyR_st (l : List Rot) (rf s : ByteArray) (n : Int) : manyR l rf s n = .tuple #[.string (stR l rf s n), .bool (manyOk l rf s n)] := rfl
theorem c_rcSteps (A : Option Addr) (cA : Nat) (l : List Rot) (rf s : ByteArray) (n : Int) (w : World) (hR : IsRots w (.slice A l.length cA) l) (hf : rf.size ≤ 9223372036854775807) (hs : s.size ≤ 9223372036854775807) :
    Calls Try.prog 47 #[.agg #[.slice A l.length cA, .string rf], .string s, .int .i64 n] w fun e w' => e = .returned (.string (stR l rf s n)) ∧ Below w.heap.size w w' := by
  have L0 := Lib.hid (LW.start rf (Below.refl _ _) hR)
  clear hR
  go_enter Try.func47, Try.ntmps47
  go_wp2_with fail
  refine (c_StepMany _ l rf s n _ L0.out.rot hf hs).mono ?_
  rintro e w1 ⟨rfl, hb1⟩
  have L1 := Lib.hid (L0.out.ext hb1)
  rw [manyR_st]
  clear hb1
  go_wp2_with fail
  go_ret
  exact ⟨rfl, L1.out.bel⟩
theorem c_rcStepsH (w W : World) (b : Nat) (A : Option Addr) (cA : Nat) (l : List Rot) (rf s : ByteArray) (n : Int) (h : LH w b A cA l rf W) (hf : rf.size ≤ 9223372036854775807) (hs : s.size ≤ 9223372036854775807) :
    Calls Try.prog 47 #[.agg #[.slice A l.length cA, .string rf], .string s, .int .i64 n] W fun e w' => e = .returned (.string (stR l rf s n)) ∧ LH w b A cA l rf w' := by
  refine (c_rcSteps A cA l rf s n W h.2.2.rot hf hs).mono ?_
  rintro e w' ⟨rfl, hb⟩
  exact ⟨rfl, (h.2.2.ext hb).lh⟩

theorem many1 (l : List Rot) (rf s : ByteArray) : manyOk l rf s 1 = winB l rf s := by unfold manyOk; cases winB l rf s <;> rfl
theorem manyR_one {l : List Rot} {rf s : ByteArray} (h : winB l rf s = true) : manyR l rf s 1 = .tuple #[.string (stepS l s), .bool true] := manyR_ok (by rw [many1]; exact h)
theorem manyR_one_no {l : List Rot} {rf s : ByteArray} (h : winB l rf s = false) : manyR l rf s 1 = .tuple #[.string ByteArray.empty, .bool false] := manyR_no (by rw [many1]; exact h)
theorem xle (s : ByteArray) (a b : Nat) : (s.extract a b).size ≤ s.size := by rw [ByteArray.size_extract]; omega
theorem xle9 (s : ByteArray) (a b : Nat) {n : Nat} (h : s.size ≤ n) (hn : n ≤ 9223372036854775807 := by decide) : (s.extract a b).size ≤ 9223372036854775807 := Nat.le_trans (xle s a b) (Nat.le_trans h hn)
theorem x1bt (s : ByteArray) {a b k : Nat} (h : b ≤ s.size) (hk : k < b - a) : bt (s.extract a b) k = bt s (a + k) := by
  have h1 : k < (s.extract a b).size := by rw [ByteArray.size_extract]; omega
  have h2 : a + k < s.size := by omega
  rw [← bt_get _ k h1, ← bt_get _ (a + k) h2, ByteArray.getElem_extract]
theorem x1size (s : ByteArray) {a b : Nat} (h : b ≤ s.size) : (s.extract a b).size = b - a := by rw [ByteArray.size_extract]; omega
theorem x1wv {s : ByteArray} (h : wv s = true) (a b : Nat) (hb : b ≤ s.size) : wv (s.extract a b) = true := by
  rw [wv_iff] at h ⊢
  refine ⟨Nat.le_trans (xle s a b) h.1, fun k hk => ?_⟩
  rw [x1size s hb] at hk
  rw [x1bt s hb hk]
  exact h.2 _ (by omega)
/-- a letter of one word is a letter of another one, shifted -/
theorem cut_shift {s t : ByteArray} (hs : wv s = true) {j : Nat} (h1 : j < s.size) (h2 : j < t.size) {n : Int} (h0 : 0 ≤ n) (h9 : n < 10) (e : bt t j = 97 + (bt s j - 97 + n) % 10) : t.extract j (j + 1) = shR (s.extract j (j + 1)) n := by
  rw [shR_ok (x1wv hs _ _ (by omega)) h0 h9]
  have z1 := x1size s (a := j) (b := j + 1) (by omega)
  have z2 := x1size t (a := j) (b := j + 1) (by omega)
  apply bt_ext (by rw [shS_size, z1, z2])
  intro k hk
  have ek : k = 0 := by omega
  subst ek
  rw [shS_bt _ _ (by omega), x1bt t (by omega) (by omega), x1bt s (by omega) (by omega)]
  exact e
theorem last_law {l : List Rot} {rf s : ByteArray} (h : winB l rf s = true) {j N : Nat} (hj : s.size = j + 1) : (it (stepS l) N s).extract j (j + 1) = shR (s.extract j (j + 1)) ((N % 10 : Nat) : Int) := by
  obtain ⟨f1, f2, f3, f4⟩ := win_facts h
  have hb := last_bt (l := l) f4 N f1
  rw [show s.size - 1 = j by omega] at hb
  refine cut_shift f4 (by omega) (by rw [it_size]; omega) (by omega) (by omega) ?_
  rw [hb]; omega
theorem sum_law {l : List Rot} {rf s : ByteArray} (h : winB l rf s = true) {N k : Nat} (hk : N + k ≤ 2000) : stR l rf (it (stepS l) N s) (k : Int) = stR l rf s ((N : Int) + (k : Int)) := by
  have e1 := stR_ok (n := k) (it_win N h) (by omega)
  have e2 := stR_ok (n := N + k) h hk
  rw [e1, ← Int.natCast_add, e2, Nat.add_comm N k, it_add]
theorem movS_bt (l : List Rot) (s : ByteArray) {i : Nat} (hi : i < s.size) : bt (movS l s) i = if mvB l s i = true then 49 else 48 := by
  unfold movS; rw [bt_mkS _ _ _ hi (by split <;> omega) (by split <;> omega)]
theorem moves_law {l : List Rot} {s : ByteArray} (h : wv s = true) {i : Nat} (hi : i < s.size) : (stepS l s).extract i (i + 1) = shR (s.extract i (i + 1)) (bt (movS l s) i - 48) := by
  have hm := movS_bt l s hi
  refine cut_shift h hi (by rw [stepS_size]; exact hi) (by rw [hm]; split <;> omega) (by rw [hm]; split <;> omega) ?_
  rw [stepS_bt l s hi, hm]
  have := ((wv_iff s).1 h).2 i hi
  split <;> omega
theorem first_law {l : List Rot} {rf s : ByteArray} (h : winB l rf s = true) (N : Nat) : (it (stepS l) N s).extract 0 1 = shR (s.extract 0 1) ((leftN l s N : Int) % 10) := by
  obtain ⟨f1, f2, f3, f4⟩ := win_facts h
  have hb := first_bt (l := l) f4 N f1
  refine cut_shift (j := 0) f4 (by omega) (by rw [it_size]; omega) (by omega) (by omega) ?_
  rw [hb]; omega
theorem twice_law {l : List Rot} {rf s : ByteArray} (h : winB l rf s = true) (h3 : s.size = 3) (ha : hasB (gR l 1).2 (bt s 1) = true) : stepS l s = shR s 1 := by
  obtain ⟨f1, f2, f3, f4⟩ := win_facts h
  rw [shR_ok f4 (by omega) (by omega)]
  apply bt_ext (by rw [stepS_size, shS_size])
  intro k hk
  rw [stepS_size] at hk
  rw [stepS_bt l s hk, shS_bt s 1 hk, if_pos]
  unfold mvB atN
  have hk3 : k = 0 ∨ k = 1 ∨ k = 2 := by omega
  rcases hk3 with rfl | rfl | rfl
  · simp [ha]
  · simp [ha]
  · simp [h3]
end Go.Proofs.Ytnfeddnkokocfaa
