/- Plain facts: rotors, wheels, windows and steps. -/
import Derived.Test.YtlcanmofgjbcbaaOrbit
import Derived.Test.YtlcanmofgjbcbaaPerms
namespace Go.Proofs.Ytlcanmofgjbcbaa
set_option linter.unusedVariables false
set_option linter.unusedSimpArgs false

abbrev Rot := ByteArray × ByteArray
def gR (l : List Rot) (k : Nat) : Rot := l.getD k (ByteArray.empty, ByteArray.empty)
def rotB (r : Rot) : Bool := permB r.1 && (decide (r.2.size ≤ 3) && (wv r.2 && allB r.2.size (fun i => decide (i = 0) || decide (bt r.2 (i - 1) < bt r.2 i))))
def wheelsB (l : List Rot) (rf : ByteArray) : Bool := (decide (1 ≤ l.length) && decide (l.length ≤ 3)) && (reflB rf && allB l.length (fun i => rotB (gR l i)))
def winB (l : List Rot) (rf s : ByteArray) : Bool := wheelsB l rf && (wv s && decide (s.size = l.length))
theorem wheelsB_len {l : List Rot} {rf : ByteArray} (h : wheelsB l rf = true) : 1 ≤ l.length ∧ l.length ≤ 3 := by
  unfold wheelsB at h; simp only [Bool.and_eq_true, decide_eq_true_eq] at h; exact h.1
theorem wheelsB_rot {l : List Rot} {rf : ByteArray} (h : wheelsB l rf = true) {i : Nat} (hi : i < l.length) : rotB (gR l i) = true := by
  unfold wheelsB at h; simp only [Bool.and_eq_true, decide_eq_true_eq, allB_iff] at h; exact h.2.2 i hi
theorem rotB_notch {r : Rot} (h : rotB r = true) : r.2.size ≤ 3 ∧ wv r.2 = true := by
  unfold rotB at h; simp only [Bool.and_eq_true, decide_eq_true_eq] at h; exact ⟨h.2.1, h.2.2.1⟩
theorem winB_iff (l : List Rot) (rf s : ByteArray) : winB l rf s = true ↔ wheelsB l rf = true ∧ wv s = true ∧ s.size = l.length := by
  unfold winB; simp only [Bool.and_eq_true, decide_eq_true_eq]

/-- a letter is among others -/
def hasB (n : ByteArray) (x : Int) : Bool := !(allB n.size (fun j => decide (bt n j ≠ x)))
theorem hasB_iff (n : ByteArray) (x : Int) : hasB n x = true ↔ ∃ j, j < n.size ∧ bt n j = x := by
  unfold hasB
  cases h : allB n.size (fun j => decide (bt n j ≠ x)) with
  | true =>
    rw [allB_iff] at h
    simp only [decide_eq_true_eq] at h
    constructor
    · intro h'; cases h'
    · rintro ⟨j, hj, e⟩; exact absurd e (h j hj)
  | false =>
    constructor
    · intro _
      apply Classical.byContradiction
      intro hn
      have : allB n.size (fun j => decide (bt n j ≠ x)) = true := by
        rw [allB_iff]; intro j hj; simp only [decide_eq_true_eq]; exact fun e => hn ⟨j, hj, e⟩
      rw [h] at this; cases this
    · intro _; rfl
def atN (l : List Rot) (s : ByteArray) (i : Nat) : Bool := hasB (gR l i).2 (bt s i)
def mvB (l : List Rot) (s : ByteArray) (i : Nat) : Bool := decide (i + 1 = s.size) || (atN l s (i + 1) || (decide (0 < i) && atN l s i))
/-- the windows after a step -/
def stepS (l : List Rot) (s : ByteArray) : ByteArray := mkS s.size (fun i => if mvB l s i = true then 97 + (bt s i - 97 + 1) % 10 else bt s i)
theorem stepS_size (l : List Rot) (s : ByteArray) : (stepS l s).size = s.size := mkS_size _ _
theorem stepS_bt (l : List Rot) (s : ByteArray) {i : Nat} (hi : i < s.size) : bt (stepS l s) i = if mvB l s i = true then 97 + (bt s i - 97 + 1) % 10 else bt s i := by
  have hr := bt_range s i
  unfold stepS
  rw [bt_mkS _ _ _ hi]
  · split <;> omega
  · split <;> omega
theorem stepS_wv (l : List Rot) {s : ByteArray} (h : wv s = true) : wv (stepS l s) = true := by
  rw [wv_iff] at h ⊢
  rw [stepS_size]
  refine ⟨h.1, fun k hk => ?_⟩
  rw [stepS_bt l s hk]
  have := h.2 k hk
  split <;> omega
theorem it_size (l : List Rot) (n : Nat) (s : ByteArray) : (it (stepS l) n s).size = s.size :=
  it_inv (stepS l) (fun x => x.size = s.size) (fun x hx => (stepS_size l x).trans hx) n rfl
theorem it_wv (l : List Rot) (n : Nat) {s : ByteArray} (h : wv s = true) : wv (it (stepS l) n s) = true :=
  it_inv (stepS l) (fun x => wv x = true) (fun _ hx => stepS_wv l hx) n h
theorem it_win {l : List Rot} {rf s : ByteArray} (n : Nat) (h : winB l rf s = true) : winB l rf (it (stepS l) n s) = true := by
  rw [winB_iff] at h ⊢
  exact ⟨h.1, it_wv l n h.2.1, by rw [it_size]; exact h.2.2⟩
/-- which rotors move -/
def movS (l : List Rot) (s : ByteArray) : ByteArray := mkS s.size (fun i => if mvB l s i = true then 49 else 48)
/-- how often the first rotor moves in n steps -/
def leftN (l : List Rot) (s : ByteArray) : Nat → Nat
  | 0 => 0
  | n + 1 => leftN l s n + (if mvB l (it (stepS l) n s) 0 = true then 1 else 0)
theorem leftN_le (l : List Rot) (s : ByteArray) (n : Nat) : leftN l s n ≤ n := by
  induction n with
  | zero => exact Nat.le_refl _
  | succ n ih => simp only [leftN]; split <;> omega
/-- a rotor that moves shows another letter -/
theorem step_ne {l : List Rot} {s : ByteArray} (h : wv s = true) {i : Nat} (hi : i < s.size) : bt (stepS l s) i = bt s i ↔ mvB l s i = false := by
  rw [stepS_bt l s hi]
  have := (wv_iff s).1 h
  have := this.2 i hi
  cases mvB l s i <;> simp <;> omega
theorem last_bt {l : List Rot} {s : ByteArray} (h : wv s = true) (n : Nat) (h1 : 1 ≤ s.size) : bt (it (stepS l) n s) (s.size - 1) = 97 + (bt s (s.size - 1) - 97 + n) % 10 := by
  induction n with
  | zero => rw [it_zero]; have := ((wv_iff s).1 h).2 (s.size - 1) (by omega); omega
  | succ n ih =>
    have hs := it_size l n s
    rw [it_succ, stepS_bt l _ (by omega), if_pos (by unfold mvB; rw [hs]; simp; omega), ih]
    omega
theorem first_bt {l : List Rot} {s : ByteArray} (h : wv s = true) (n : Nat) (h1 : 1 ≤ s.size) : bt (it (stepS l) n s) 0 = 97 + (bt s 0 - 97 + leftN l s n) % 10 := by
  induction n with
  | zero => rw [it_zero]; have := ((wv_iff s).1 h).2 0 (by omega); simp only [leftN]; omega
  | succ n ih =>
    have hs := it_size l n s
    have hw := ((wv_iff _).1 (it_wv l n h)).2 0 (by omega)
    rw [it_succ, stepS_bt l _ (by omega)]
    simp only [leftN]
    split <;> omega
theorem left_one {l : List Rot} {s : ByteArray} (n : Nat) (h1 : s.size = 1) : leftN l s n = n := by
  induction n with
  | zero => rfl
  | succ n ih =>
    simp only [leftN]
    rw [ih, if_pos (by unfold mvB; rw [it_size]; simp; omega)]

/-- the number of windows, as digits -/
def wval (s : ByteArray) : Nat := (if 0 < s.size then (bt s 0 - 97).toNat else 0) + (if 1 < s.size then 10 * (bt s 1 - 97).toNat else 0) + (if 2 < s.size then 100 * (bt s 2 - 97).toNat else 0)
theorem wval_lt {s : ByteArray} (h : wv s = true) (h1 : 1 ≤ s.size) (h3 : s.size ≤ 3) : wval s < 10 ^ s.size := by
  have hb := ((wv_iff s).1 h).2
  unfold wval
  have hc : s.size = 1 ∨ s.size = 2 ∨ s.size = 3 := by omega
  rcases hc with e | e | e <;> rw [e] at hb ⊢ <;> simp
  · have := hb 0 (by omega); omega
  · have := hb 0 (by omega); have := hb 1 (by omega); omega
  · have := hb 0 (by omega); have := hb 1 (by omega); have := hb 2 (by omega); omega
theorem wval_inj {s t : ByteArray} (hs : wv s = true) (ht : wv t = true) (he : s.size = t.size) (h1 : 1 ≤ s.size) (h3 : s.size ≤ 3) (e : wval s = wval t) : s = t := by
  have hb := ((wv_iff s).1 hs).2
  have hc := ((wv_iff t).1 ht).2
  refine bt_ext he fun k hk => ?_
  unfold wval at e
  rw [← he] at e hc
  have hd : s.size = 1 ∨ s.size = 2 ∨ s.size = 3 := by omega
  rcases hd with ee | ee | ee <;> rw [ee] at e hb hc hk <;> simp at e
  · have a0 := hb 0 (by omega); have b0 := hc 0 (by omega)
    have : k = 0 := by omega
    subst this; omega
  · have a0 := hb 0 (by omega); have b0 := hc 0 (by omega)
    have a1 := hb 1 (by omega); have b1 := hc 1 (by omega)
    have : k = 0 ∨ k = 1 := by omega
    rcases this with rfl | rfl <;> omega
  · have a0 := hb 0 (by omega); have b0 := hc 0 (by omega)
    have a1 := hb 1 (by omega); have b1 := hc 1 (by omega)
    have a2 := hb 2 (by omega); have b2 := hc 2 (by omega)
    have : k = 0 ∨ k = 1 ∨ k = 2 := by omega
    rcases this with rfl | rfl | rfl <;> omega
theorem win_rho (l : List Rot) {s : ByteArray} (h : wv s = true) (h1 : 1 ≤ s.size) (h3 : s.size ≤ 3) : ∃ m p, Rho (stepS l) s m p ∧ m + p ≤ 10 ^ s.size := by
  apply rho_exists
  obtain ⟨i, j, hij, hj, e⟩ := pigeon (10 ^ s.size) (fun k => wval (it (stepS l) k s)) (fun k _ => by
    have := wval_lt (it_wv l k h) (by rw [it_size]; exact h1) (by rw [it_size]; exact h3)
    rw [it_size] at this; exact this)
  exact ⟨i, j, hij, hj, wval_inj (it_wv l i h) (it_wv l j h) (by rw [it_size, it_size]) (by rw [it_size]; exact h1) (by rw [it_size]; exact h3) e⟩
theorem pow10 {n : Nat} (h1 : 1 ≤ n) (h3 : n ≤ 3) : 10 ^ n ≤ 1000 ∧ 10 ≤ 10 ^ n := by
  have : n = 1 ∨ n = 2 ∨ n = 3 := by omega
  rcases this with rfl | rfl | rfl <;> decide
end Go.Proofs.Ytlcanmofgjbcbaa
