/- Plain facts: permutations of ten letters as strings. -/
import Derived.Test.YtlcanmofgjbcbaaWords
namespace Go.Proofs.Ytlcanmofgjbcbaa
set_option linter.unusedVariables false
set_option linter.unusedSimpArgs false

/-- the number of the letter at i -/
def pn (p : ByteArray) (i : Nat) : Nat := (bt p i - 97).toNat
def permB (p : ByteArray) : Bool := decide (p.size = 10) && (allB 10 (fun i => isL (bt p i)) && allB 10 (fun i => allB i (fun j => decide (bt p i ≠ bt p j))))
theorem permB_iff (p : ByteArray) : permB p = true ↔ p.size = 10 ∧ (∀ i, i < 10 → 97 ≤ bt p i ∧ bt p i < 107) ∧ ∀ i, i < 10 → ∀ j, j < i → bt p i ≠ bt p j := by
  unfold permB
  simp only [Bool.and_eq_true, decide_eq_true_eq, allB_iff, isL_iff]
theorem permB_size {p : ByteArray} (h : permB p = true) : p.size = 10 := ((permB_iff p).1 h).1
theorem permB_bt {p : ByteArray} (h : permB p = true) {i : Nat} (hi : i < 10) : 97 ≤ bt p i ∧ bt p i < 107 := ((permB_iff p).1 h).2.1 i hi
theorem pn_lt {p : ByteArray} (h : permB p = true) {i : Nat} (hi : i < 10) : pn p i < 10 := by
  have := permB_bt h hi; unfold pn; omega
theorem pn_bt {p : ByteArray} (h : permB p = true) {i : Nat} (hi : i < 10) : bt p i = 97 + (pn p i : Int) := by
  have := permB_bt h hi; unfold pn; omega
theorem pn_inj {p : ByteArray} (h : permB p = true) {i j : Nat} (hi : i < 10) (hj : j < 10) (e : pn p i = pn p j) : i = j := by
  have e' : bt p i = bt p j := by rw [pn_bt h hi, pn_bt h hj, e]
  have hd := ((permB_iff p).1 h).2.2
  rcases Nat.lt_trichotomy i j with hl | hl | hl
  · exact absurd e'.symm (hd j hj i hl)
  · exact hl
  · exact absurd e' (hd i hi j hl)

/-- how many of the first n letters have the number m -/
def cnt (p : ByteArray) : Nat → Nat → Nat
  | 0, _ => 0
  | n + 1, m => cnt p n m + (if bt p n = 97 + (m : Int) then 1 else 0)
def sumTo (f : Nat → Nat) : Nat → Nat
  | 0 => 0
  | n + 1 => sumTo f n + f n
theorem sumTo_add (f g : Nat → Nat) (n : Nat) : sumTo (fun m => f m + g m) n = sumTo f n + sumTo g n := by
  induction n with
  | zero => rfl
  | succ n ih => simp only [sumTo, ih]; omega
theorem sumTo_zero (n : Nat) : sumTo (fun _ => 0) n = 0 := by
  induction n with
  | zero => rfl
  | succ n ih => simp only [sumTo, ih]
theorem sumTo_congr {f g : Nat → Nat} {n : Nat} (h : ∀ k, k < n → f k = g k) : sumTo f n = sumTo g n := by
  induction n with
  | zero => rfl
  | succ n ih => simp only [sumTo]; rw [ih fun k hk => h k (by omega), h n (by omega)]
theorem sumTo_one (x : Int) (n : Nat) : sumTo (fun m => if x = 97 + (m : Int) then 1 else 0) n = if 97 ≤ x ∧ x < 97 + n then 1 else 0 := by
  induction n with
  | zero => simp only [sumTo]; rw [if_neg (by omega)]
  | succ n ih =>
    simp only [sumTo, ih]
    split <;> split <;> split <;> omega
theorem cnt_sum (p : ByteArray) (n : Nat) (h : ∀ j, j < n → 97 ≤ bt p j ∧ bt p j < 107) : sumTo (cnt p n) 10 = n := by
  induction n with
  | zero => exact sumTo_zero 10
  | succ n ih =>
    have e : sumTo (cnt p (n + 1)) 10 = sumTo (fun m => cnt p n m + (if bt p n = 97 + (m : Int) then 1 else 0)) 10 := sumTo_congr fun _ _ => rfl
    rw [e, sumTo_add, ih fun j hj => h j (by omega), sumTo_one, if_pos (by have := h n (by omega); omega)]
theorem cnt_zero (p : ByteArray) (n m : Nat) (h : ∀ j, j < n → bt p j ≠ 97 + (m : Int)) : cnt p n m = 0 := by
  induction n with
  | zero => rfl
  | succ n ih => simp only [cnt]; rw [ih fun j hj => h j (by omega), if_neg (h n (by omega))]
theorem cnt_mono (p : ByteArray) (m : Nat) {a b : Nat} (h : a ≤ b) : cnt p a m ≤ cnt p b m := by
  induction b with
  | zero => rw [Nat.le_zero.1 h]; exact Nat.le_refl _
  | succ b ih =>
    rcases Nat.lt_or_eq_of_le h with hl | rfl
    · have := ih (by omega)
      simp only [cnt]; omega
    · exact Nat.le_refl _
theorem cnt_hit {p : ByteArray} {n m j : Nat} (hj : j < n) (e : bt p j = 97 + (m : Int)) : cnt p j m + 1 ≤ cnt p n m := by
  have : cnt p (j + 1) m = cnt p j m + 1 := by simp only [cnt]; rw [if_pos e]
  rw [← this]
  exact cnt_mono p m hj
theorem cnt_le1 {p : ByteArray} {n : Nat} (h : ∀ i, i < n → ∀ j, j < i → bt p i ≠ bt p j) (m : Nat) : cnt p n m ≤ 1 := by
  induction n with
  | zero => exact Nat.zero_le _
  | succ n ih =>
    simp only [cnt]
    split
    · rename_i e
      rw [cnt_zero p n m fun j hj he => h n (by omega) j hj (by rw [e, he])]
      exact Nat.le_refl _
    · have := ih fun i hi j hj => h i (by omega) j hj
      omega
theorem sumTo_le {f : Nat → Nat} {n : Nat} (h : ∀ k, k < n → f k ≤ 1) : sumTo f n ≤ n := by
  induction n with
  | zero => exact Nat.le_refl _
  | succ n ih =>
    simp only [sumTo]
    have := ih fun k hk => h k (by omega)
    have := h n (by omega)
    omega
theorem sumTo_full {f : Nat → Nat} {n : Nat} (h : ∀ k, k < n → f k ≤ 1) (hs : sumTo f n = n) : ∀ k, k < n → f k = 1 := by
  induction n with
  | zero => intro k hk; omega
  | succ n ih =>
    simp only [sumTo] at hs
    have h1 := sumTo_le (f := f) (n := n) fun k hk => h k (by omega)
    have h2 := h n (by omega)
    intro k hk
    by_cases e : k = n
    · subst e; omega
    · exact ih (fun k hk => h k (by omega)) (by omega) k (by omega)
theorem permB_cnt {p : ByteArray} (hs : p.size = 10) (hl : ∀ j, j < 10 → 97 ≤ bt p j ∧ bt p j < 107) : permB p = true ↔ ∀ m, m < 10 → cnt p 10 m = 1 := by
  rw [permB_iff]
  constructor
  · rintro ⟨_, _, h⟩
    exact sumTo_full (fun k _ => cnt_le1 h k) (cnt_sum p 10 hl)
  · intro h
    refine ⟨hs, hl, fun i hi j hj e => ?_⟩
    have hb := hl i hi
    have e1 : bt p i = 97 + ((bt p i - 97).toNat : Int) := by omega
    generalize (bt p i - 97).toNat = M at e1
    have c1 := cnt_hit (n := i) hj (m := M) (by rw [← e]; exact e1)
    have c2 := cnt_hit (n := 10) hi e1
    have := h M (by omega)
    omega
theorem pn_surj {p : ByteArray} (h : permB p = true) {m : Nat} (hm : m < 10) : ∃ j, j < 10 ∧ pn p j = m := by
  have hc := (permB_cnt (permB_size h) (fun j hj => permB_bt h hj)).1 h m hm
  apply Classical.byContradiction
  intro hn
  have := cnt_zero p 10 m fun j hj e => hn ⟨j, hj, by unfold pn; omega⟩
  omega

/-- a permutation that is its own inverse -/
def plugB (p : ByteArray) : Bool := permB p && allB 10 (fun i => decide (pn p (pn p i) = i))
theorem plugB_iff (p : ByteArray) : plugB p = true ↔ permB p = true ∧ ∀ i, i < 10 → pn p (pn p i) = i := by
  unfold plugB; simp only [Bool.and_eq_true, decide_eq_true_eq, allB_iff]
/-- how many of the first n letters are moved -/
def moved (p : ByteArray) : Nat → Nat
  | 0 => 0
  | n + 1 => moved p n + (if pn p n = n then 0 else 1)
theorem moved_le (p : ByteArray) (n : Nat) : moved p n ≤ n := by
  induction n with
  | zero => exact Nat.le_refl _
  | succ n ih => simp only [moved]; split <;> omega
def reflB (p : ByteArray) : Bool := plugB p && decide (moved p 10 / 2 = 5)
open Classical in
/-- the inverse of a permutation -/
noncomputable def bk (p : ByteArray) (m : Nat) : Nat := if h : ∃ j, j < 10 ∧ pn p j = m then h.choose else 0
theorem bk_of {p : ByteArray} (h : permB p = true) {j : Nat} (hj : j < 10) : bk p (pn p j) = j := by
  have hx : ∃ i, i < 10 ∧ pn p i = pn p j := ⟨j, hj, rfl⟩
  unfold bk
  rw [dif_pos hx]
  exact pn_inj h hx.choose_spec.1 hj hx.choose_spec.2
theorem bk_lt {p : ByteArray} (h : permB p = true) {m : Nat} (hm : m < 10) : bk p m < 10 := by
  obtain ⟨j, hj, rfl⟩ := pn_surj h hm
  rw [bk_of h hj]; exact hj
theorem pn_bk {p : ByteArray} (h : permB p = true) {m : Nat} (hm : m < 10) : pn p (bk p m) = m := by
  obtain ⟨j, hj, rfl⟩ := pn_surj h hm
  rw [bk_of h hj]
noncomputable def backS (p : ByteArray) : ByteArray := mkS 10 (fun m => 97 + (bk p m : Int))
theorem plug_back {p : ByteArray} (h : permB p = true) : backS p = p ↔ plugB p = true := by
  rw [plugB_iff]
  constructor
  · intro e
    refine ⟨h, fun i hi => ?_⟩
    have h1 := pn_lt h hi
    have e1 : bt (backS p) (pn p i) = bt p (pn p i) := by rw [e]
    unfold backS at e1
    rw [bt_mkS 10 _ _ h1 (by omega) (by have := bk_lt h h1; omega), bk_of h hi, pn_bt h h1] at e1
    omega
  · rintro ⟨_, hp⟩
    apply bt_ext
    · rw [permB_size h]; exact mkS_size _ _
    · intro k hk
      unfold backS at hk ⊢
      rw [mkS_size] at hk
      obtain ⟨j, hj, rfl⟩ := pn_surj h hk
      rw [bt_mkS 10 _ _ hk (by omega) (by have := bk_lt h hk; omega), bk_of h hj, pn_bt h hk, hp j hj]
end Go.Proofs.Ytlcanmofgjbcbaa
