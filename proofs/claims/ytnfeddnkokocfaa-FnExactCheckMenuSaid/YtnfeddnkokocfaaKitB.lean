/- Orbit, Perms, Steps, in one text. -/
import Derived.Test.YtnfeddnkokocfaaKitA
namespace Go.Proofs.Ytnfeddnkokocfaa
set_option linter.unusedVariables false
set_option linter.unusedSimpArgs false
/-! Orbit -/
section

section
variable {α : Type}
/-- f taken n times -/
def it (f : α → α) : Nat → α → α
  | 0, x => x
  | n + 1, x => f (it f n x)
theorem it_zero (f : α → α) (x : α) : it f 0 x = x := rfl
theorem it_succ (f : α → α) (n : Nat) (x : α) : it f (n + 1) x = f (it f n x) := rfl
theorem it_add (f : α → α) (m n : Nat) (x : α) : it f (m + n) x = it f m (it f n x) := by
  induction m with
  | zero => rw [Nat.zero_add, it_zero]
  | succ m ih => rw [Nat.succ_add, it_succ, it_succ, ih]
theorem it_head (f : α → α) (n : Nat) (x : α) : it f n (f x) = it f (n + 1) x := by rw [it_add f n 1]; rfl
theorem it_inv (f : α → α) (P : α → Prop) (hf : ∀ x, P x → P (f x)) (n : Nat) {x : α} (hx : P x) : P (it f n x) := by
  induction n with
  | zero => exact hx
  | succ n ih => exact hf _ ih

theorem pigeon (N : Nat) : ∀ g : Nat → Nat, (∀ k, k ≤ N → g k < N) → ∃ i j, i < j ∧ j ≤ N ∧ g i = g j := by
  induction N with
  | zero => intro g h; exact absurd (h 0 (Nat.le_refl _)) (by omega)
  | succ N ih =>
    intro g h
    by_cases he : ∃ i, i ≤ N ∧ g i = g (N + 1)
    · obtain ⟨i, hi, e⟩ := he
      exact ⟨i, N + 1, by omega, Nat.le_refl _, e⟩
    · have hne : ∀ i, i ≤ N → g i ≠ g (N + 1) := fun i hi e => he ⟨i, hi, e⟩
      have hv := h (N + 1) (Nat.le_refl _)
      obtain ⟨i, j, hij, hj, e⟩ := ih (fun k => if g (N + 1) < g k then g k - 1 else g k) (fun k hk => by
        have h1 := h k (by omega)
        have h2 := hne k hk
        by_cases hlt : g (N + 1) < g k
        · rw [if_pos hlt]; omega
        · rw [if_neg hlt]; omega)
      refine ⟨i, j, hij, by omega, ?_⟩
      have h1 := hne i (by omega)
      have h2 := hne j hj
      by_cases ha : g (N + 1) < g i <;> by_cases hb : g (N + 1) < g j <;> simp only [ha, hb, if_true, if_false] at e <;> omega

/-- from x on, f runs m steps into a cycle of length p -/
def Rho (f : α → α) (x : α) (m p : Nat) : Prop := 1 ≤ p ∧ ∀ i j, i < j → (it f i x = it f j x ↔ m ≤ i ∧ p ∣ (j - i))

theorem least {P : Nat → Prop} (h : ∃ n, P n) : ∃ n, P n ∧ ∀ k, k < n → ¬ P k := by
  obtain ⟨n, hn⟩ := h
  induction n using Nat.strongRecOn with
  | _ n ih =>
    by_cases hk : ∃ k, k < n ∧ P k
    · obtain ⟨k, hk, hp⟩ := hk; exact ih k hk hp
    · exact ⟨n, hn, fun k hk' hp => hk ⟨k, hk', hp⟩⟩

theorem it_mul {f : α → α} {p : Nat} {y : α} (h : it f p y = y) (k : Nat) : it f (p * k) y = y := by
  induction k with
  | zero => rw [Nat.mul_zero]; rfl
  | succ k ih => rw [Nat.mul_succ, Nat.add_comm, it_add, ih, h]

theorem rho_exists {f : α → α} {x : α} {N : Nat} (h : ∃ i j, i < j ∧ j ≤ N ∧ it f i x = it f j x) : ∃ m p, Rho f x m p ∧ m + p ≤ N := by
  obtain ⟨i0, j0, hij0, hj0, e0⟩ := h
  obtain ⟨m, ⟨p0, hp0, hmp0⟩, hm⟩ := least (P := fun m => ∃ p, 1 ≤ p ∧ it f (m + p) x = it f m x) ⟨i0, j0 - i0, by omega, by rw [Nat.add_sub_cancel' (by omega)]; exact e0.symm⟩
  obtain ⟨p, ⟨hp1, hpe⟩, hp⟩ := least (P := fun p => 1 ≤ p ∧ it f (m + p) x = it f m x) ⟨p0, hp0, hmp0⟩
  have hy : it f p (it f m x) = it f m x := by rw [← it_add, Nat.add_comm]; exact hpe
  have key : ∀ i j, i < j → (it f i x = it f j x ↔ m ≤ i ∧ p ∣ (j - i)) := by
    intro i j hij
    constructor
    · intro e
      have hmi : m ≤ i := by
        apply Nat.le_of_not_lt
        intro hlt
        exact hm i hlt ⟨j - i, by omega, by rw [Nat.add_sub_cancel' (by omega)]; exact e.symm⟩
      refine ⟨hmi, ?_⟩
      have e1 : it f (i - m) (it f m x) = it f (j - m) (it f m x) := by
        rw [← it_add, ← it_add, Nat.sub_add_cancel hmi, Nat.sub_add_cancel (by omega)]; exact e
      -- go on until the first is back at the start
      have hc : ∃ c k, (i - m) + c = p * k := by
        refine ⟨p * (i - m) - (i - m), i - m, ?_⟩
        have : i - m ≤ p * (i - m) := Nat.le_mul_of_pos_left _ hp1
        omega
      obtain ⟨c, k, hck⟩ := hc
      have e2 : it f (c + (i - m)) (it f m x) = it f (c + (j - m)) (it f m x) := by rw [it_add, it_add, e1]
      have e3 : c + (j - m) = (j - i) + p * k := by omega
      rw [Nat.add_comm c (i - m), hck, it_mul hy, e3, it_add, it_mul hy] at e2
      -- the rest of j - i by p is a period less than p
      have e4 : it f ((j - i) % p) (it f m x) = it f m x := by
        have := e2
        rw [← Nat.mod_add_div (j - i) p, it_add, it_mul hy] at this
        exact this.symm
      by_cases hr : (j - i) % p = 0
      · exact Nat.dvd_of_mod_eq_zero hr
      · exact absurd ⟨Nat.one_le_iff_ne_zero.2 hr, by rw [Nat.add_comm, it_add]; exact e4⟩ (hp ((j - i) % p) (Nat.mod_lt _ hp1))
    · rintro ⟨hmi, k, hk⟩
      have e1 : j = (i - m) + (p * k + m) := by
        generalize p * k = q at hk ⊢
        omega
      rw [e1, it_add f (i - m), it_add f (p * k), it_mul hy, ← it_add, Nat.sub_add_cancel hmi]
  refine ⟨m, p, ⟨hp1, key⟩, ?_⟩
  have := (key i0 j0 hij0).1 e0
  have := Nat.le_of_dvd (by omega) this.2
  omega

theorem rho_unique {f : α → α} {x : α} {m p m' p' : Nat} (h : Rho f x m p) (h' : Rho f x m' p') : m = m' ∧ p = p' := by
  obtain ⟨h1, h2⟩ := h
  obtain ⟨h1', h2'⟩ := h'
  have a := (h2' m (m + p) (by omega)).1 ((h2 m (m + p) (by omega)).2 ⟨Nat.le_refl _, by simp⟩)
  have b := (h2 m' (m' + p') (by omega)).1 ((h2' m' (m' + p') (by omega)).2 ⟨Nat.le_refl _, by simp⟩)
  have a2 := a.2; have b2 := b.2
  rw [Nat.add_sub_cancel_left] at a2 b2
  exact ⟨Nat.le_antisymm b.1 a.1, Nat.dvd_antisymm b2 a2⟩

open Classical in
/-- the lead-in of f from x on -/
noncomputable def leadN (f : α → α) (x : α) : Nat := if h : ∃ m p, Rho f x m p then h.choose else 0
open Classical in
/-- the period of f from x on -/
noncomputable def perN' (f : α → α) (x : α) : Nat := if h : ∃ p, Rho f x (leadN f x) p then h.choose else 0
theorem rho_spec {f : α → α} {x : α} {m p : Nat} (h : Rho f x m p) : leadN f x = m ∧ perN' f x = p := by
  have h1 : ∃ m p, Rho f x m p := ⟨m, p, h⟩
  have e1 : leadN f x = m := by
    unfold leadN
    rw [dif_pos h1]
    obtain ⟨p', hp'⟩ := h1.choose_spec
    exact (rho_unique hp' h).1
  refine ⟨e1, ?_⟩
  have h2 : ∃ p, Rho f x (leadN f x) p := ⟨p, e1 ▸ h⟩
  unfold perN'
  rw [dif_pos h2]
  exact (rho_unique h2.choose_spec (e1 ▸ h)).2
theorem rho_of {f : α → α} {x : α} (h : ∃ m p, Rho f x m p) : Rho f x (leadN f x) (perN' f x) := by
  obtain ⟨m, p, h⟩ := h
  obtain ⟨e1, e2⟩ := rho_spec h
  rw [e1, e2]; exact h

/-- the first n below N with f^n x = y, or -1 -/
def findTo [DecidableEq α] (f : α → α) (x y : α) : Nat → Int
  | 0 => -1
  | n + 1 => if findTo f x y n = -1 then (if it f n x = y then (n : Int) else -1) else findTo f x y n
theorem findTo_none [DecidableEq α] {f : α → α} {x y : α} {N : Nat} (h : ∀ k, k < N → it f k x ≠ y) : findTo f x y N = -1 := by
  induction N with
  | zero => rfl
  | succ N ih =>
    unfold findTo
    rw [if_pos (ih fun k hk => h k (by omega)), if_neg (h N (by omega))]
theorem findTo_some [DecidableEq α] {f : α → α} {x y : α} {N n : Nat} (hn : n < N) (e : it f n x = y) (h : ∀ k, k < n → it f k x ≠ y) : findTo f x y N = n := by
  induction N with
  | zero => omega
  | succ N ih =>
    unfold findTo
    by_cases hN : n = N
    · subst hN
      rw [if_pos (findTo_none h), if_pos e]
    · rw [ih (by omega), if_neg (by omega)]
theorem findTo_cases [DecidableEq α] (f : α → α) (x y : α) (N : Nat) : (findTo f x y N = -1 ∧ ∀ k, k < N → it f k x ≠ y) ∨ ∃ n, n < N ∧ findTo f x y N = n ∧ it f n x = y ∧ ∀ k, k < n → it f k x ≠ y := by
  by_cases h : ∃ k, k < N ∧ it f k x = y
  · obtain ⟨n, ⟨hn, e⟩, hl⟩ := least h
    have hl' : ∀ k, k < n → it f k x ≠ y := fun k hk he => hl k hk ⟨by omega, he⟩
    exact .inr ⟨n, hn, findTo_some hn e hl', e, hl'⟩
  · have h' : ∀ k, k < N → it f k x ≠ y := fun k hk he => h ⟨k, hk, he⟩
    exact .inl ⟨findTo_none h', h'⟩
/-- past the cycle nothing new is found -/
theorem findTo_rho [DecidableEq α] {f : α → α} {x : α} {m p : Nat} (h : Rho f x m p) (y : α) {N : Nat} (hN : m + p ≤ N) : findTo f x y N = findTo f x y (m + p) := by
  rcases findTo_cases f x y (m + p) with ⟨e, hne⟩ | ⟨n, hn, e, he, hl⟩
  · rw [e]
    apply findTo_none
    intro k _ he
    -- the first such k lies below m + p
    obtain ⟨n, hn, hl⟩ := least (P := fun k => it f k x = y) ⟨k, he⟩
    by_cases hlt : n < m + p
    · exact hne n hlt hn
    · have := (h.2 (n - p) n (by have := h.1; omega)).2 ⟨by omega, by rw [Nat.sub_sub_self (by omega)]; exact Nat.dvd_refl _⟩
      exact hl (n - p) (by have := h.1; omega) (this.trans hn)
  · rw [e]; exact findTo_some (by omega) he hl
end
end
/-! Perms -/
section

/-- the number of the letter at i -/
def pn (p : ByteArray) (i : Nat) : Nat := (bt p i - 97).toNat
def permB (p : ByteArray) : Bool := decide (p.size = 10) && (allB 10 (fun i => isL (bt p i)) && allB 10 (fun i => allB i (fun j => decide (bt p i ≠ bt p j))))
theorem permB_iff (p : ByteArray) : permB p = true ↔ p.size = 10 ∧ (∀ i, i < 10 → 97 ≤ bt p i ∧ bt p i < 107) ∧ ∀ i, i < 10 → ∀ j, j < i → bt p i ≠ bt p j := by
  unfold permB
  simp only [Bool.and_eq_true, decide_eq_true_eq, allB_iff, isL_iff]
theorem permB_size {p : ByteArray} (h : permB p = true) : p.size = 10 := ((permB_iff p).1 h).1
theorem permB_bt {p : ByteArray} (h : permB p = true) {i : Nat} (hi : i < 10) : 97 ≤ bt p i ∧ bt p i < 107 := ((permB_iff p).1 h).2.1 i hi
theorem pn_lt {p : ByteArray} (h : permB p = true) {i : Nat} (hi : i < 10) : pn p i < 10 := by
  have := permB_bt h hi; unfold pn; omega
theorem pn_bt {p : ByteArray} (h : permB p = true) {i : Nat} (hi : i < 10) : bt p i = 97 + (pn p i : Int) := by
  have := permB_bt h hi; unfold pn; omega
theorem pn_inj {p : ByteArray} (h : permB p = true) {i j : Nat} (hi : i < 10) (hj : j < 10) (e : pn p i = pn p j) : i = j := by
  have e' : bt p i = bt p j := by rw [pn_bt h hi, pn_bt h hj, e]
  have hd := ((permB_iff p).1 h).2.2
  rcases Nat.lt_trichotomy i j with hl | hl | hl
  · exact absurd e'.symm (hd j hj i hl)
  · exact hl
  · exact absurd e' (hd i hi j hl)

/-- how many of the first n letters have the number m -/
def cnt (p : ByteArray) : Nat → Nat → Nat
  | 0, _ => 0
  | n + 1, m => cnt p n m + (if bt p n = 97 + (m : Int) then 1 else 0)
def sumTo (f : Nat → Nat) : Nat → Nat
  | 0 => 0
  | n + 1 => sumTo f n + f n
theorem sumTo_add (f g : Nat → Nat) (n : Nat) : sumTo (fun m => f m + g m) n = sumTo f n + sumTo g n := by
  induction n with
  | zero => rfl
  | succ n ih => simp only [sumTo, ih]; omega
theorem sumTo_zero (n : Nat) : sumTo (fun _ => 0) n = 0 := by
  induction n with
  | zero => rfl
  | succ n ih => simp only [sumTo, ih]
theorem sumTo_congr {f g : Nat → Nat} {n : Nat} (h : ∀ k, k < n → f k = g k) : sumTo f n = sumTo g n := by
  induction n with
  | zero => rfl
  | succ n ih => simp only [sumTo]; rw [ih fun k hk => h k (by omega), h n (by omega)]
theorem sumTo_one (x : Int) (n : Nat) : sumTo (fun m => if x = 97 + (m : Int) then 1 else 0) n = if 97 ≤ x ∧ x < 97 + n then 1 else 0 := by
  induction n with
  | zero => simp only [sumTo]; rw [if_neg (by omega)]
  | succ n ih =>
    simp only [sumTo, ih]
    split <;> split <;> split <;> omega
theorem cnt_sum (p : ByteArray) (n : Nat) (h : ∀ j, j < n → 97 ≤ bt p j ∧ bt p j < 107) : sumTo (cnt p n) 10 = n := by
  induction n with
  | zero => exact sumTo_zero 10
  | succ n ih =>
    have e : sumTo (cnt p (n + 1)) 10 = sumTo (fun m => cnt p n m + (if bt p n = 97 + (m : Int) then 1 else 0)) 10 := sumTo_congr fun _ _ => rfl
    rw [e, sumTo_add, ih fun j hj => h j (by omega), sumTo_one, if_pos (by have := h n (by omega); omega)]
theorem cnt_zero (p : ByteArray) (n m : Nat) (h : ∀ j, j < n → bt p j ≠ 97 + (m : Int)) : cnt p n m = 0 := by
  induction n with
  | zero => rfl
  | succ n ih => simp only [cnt]; rw [ih fun j hj => h j (by omega), if_neg (h n (by omega))]
theorem cnt_mono (p : ByteArray) (m : Nat) {a b : Nat} (h : a ≤ b) : cnt p a m ≤ cnt p b m := by
  induction b with
  | zero => rw [Nat.le_zero.1 h]; exact Nat.le_refl _
  | succ b ih =>
    rcases Nat.lt_or_eq_of_le h with hl | rfl
    · have := ih (by omega)
      simp only [cnt]; omega
    · exact Nat.le_refl _
theorem cnt_hit {p : ByteArray} {n m j : Nat} (hj : j < n) (e : bt p j = 97 + (m : Int)) : cnt p j m + 1 ≤ cnt p n m := by
  have : cnt p (j + 1) m = cnt p j m + 1 := by simp only [cnt]; rw [if_pos e]
  rw [← this]
  exact cnt_mono p m hj
theorem cnt_le1 {p : ByteArray} {n : Nat} (h : ∀ i, i < n → ∀ j, j < i → bt p i ≠ bt p j) (m : Nat) : cnt p n m ≤ 1 := by
  induction n with
  | zero => exact Nat.zero_le _
  | succ n ih =>
    simp only [cnt]
    split
    · rename_i e
      rw [cnt_zero p n m fun j hj he => h n (by omega) j hj (by rw [e, he])]
      exact Nat.le_refl _
    · have := ih fun i hi j hj => h i (by omega) j hj
      omega
theorem sumTo_le {f : Nat → Nat} {n : Nat} (h : ∀ k, k < n → f k ≤ 1) : sumTo f n ≤ n := by
  induction n with
  | zero => exact Nat.le_refl _
  | succ n ih =>
    simp only [sumTo]
    have := ih fun k hk => h k (by omega)
    have := h n (by omega)
    omega
theorem sumTo_full {f : Nat → Nat} {n : Nat} (h : ∀ k, k < n → f k ≤ 1) (hs : sumTo f n = n) : ∀ k, k < n → f k = 1 := by
  induction n with
  | zero => intro k hk; omega
  | succ n ih =>
    simp only [sumTo] at hs
    have h1 := sumTo_le (f := f) (n := n) fun k hk => h k (by omega)
    have h2 := h n (by omega)
    intro k hk
    by_cases e : k = n
    · subst e; omega
    · exact ih (fun k hk => h k (by omega)) (by omega) k (by omega)
theorem permB_cnt {p : ByteArray} (hs : p.size = 10) (hl : ∀ j, j < 10 → 97 ≤ bt p j ∧ bt p j < 107) : permB p = true ↔ ∀ m, m < 10 → cnt p 10 m = 1 := by
  rw [permB_iff]
  constructor
  · rintro ⟨_, _, h⟩
    exact sumTo_full (fun k _ => cnt_le1 h k) (cnt_sum p 10 hl)
  · intro h
    refine ⟨hs, hl, fun i hi j hj e => ?_⟩
    have hb := hl i hi
    have e1 : bt p i = 97 + ((bt p i - 97).toNat : Int) := by omega
    generalize (bt p i - 97).toNat = M at e1
    have c1 := cnt_hit (n := i) hj (m := M) (by rw [← e]; exact e1)
    have c2 := cnt_hit (n := 10) hi e1
    have := h M (by omega)
    omega
theorem pn_surj {p : ByteArray} (h : permB p = true) {m : Nat} (hm : m < 10) : ∃ j, j < 10 ∧ pn p j = m := by
  have hc := (permB_cnt (permB_size h) (fun j hj => permB_bt h hj)).1 h m hm
  apply Classical.byContradiction
  intro hn
  have := cnt_zero p 10 m fun j hj e => hn ⟨j, hj, by unfold pn; omega⟩
  omega

/-- a permutation that is its own inverse -/
def plugB (p : ByteArray) : Bool := permB p && allB 10 (fun i => decide (pn p (pn p i) = i))
theorem plugB_iff (p : ByteArray) : plugB p = true ↔ permB p = true ∧ ∀ i, i < 10 → pn p (pn p i) = i := by
  unfold plugB; simp only [Bool.and_eq_true, decide_eq_true_eq, allB_iff]
/-- how many of the first n letters are moved -/
def moved (p : ByteArray) : Nat → Nat
  | 0 => 0
  | n + 1 => moved p n + (if pn p n = n then 0 else 1)
theorem moved_le (p : ByteArray) (n : Nat) : moved p n ≤ n := by
  induction n with
  | zero => exact Nat.le_refl _
  | succ n ih => simp only [moved]; split <;> omega
def reflB (p : ByteArray) : Bool := plugB p && decide (moved p 10 / 2 = 5)
open Classical in
/-- the inverse of a permutation -/
noncomputable def bk (p : ByteArray) (m : Nat) : Nat := if h : ∃ j, j < 10 ∧ pn p j = m then h.choose else 0
theorem bk_of {p : ByteArray} (h : permB p = true) {j : Nat} (hj : j < 10) : bk p (pn p j) = j := by
  have hx : ∃ i, i < 10 ∧ pn p i = pn p j := ⟨j, hj, rfl⟩
  unfold bk
  rw [dif_pos hx]
  exact pn_inj h hx.choose_spec.1 hj hx.choose_spec.2
theorem bk_lt {p : ByteArray} (h : permB p = true) {m : Nat} (hm : m < 10) : bk p m < 10 := by
  obtain ⟨j, hj, rfl⟩ := pn_surj h hm
  rw [bk_of h hj]; exact hj
theorem pn_bk {p : ByteArray} (h : permB p = true) {m : Nat} (hm : m < 10) : pn p (bk p m) = m := by
  obtain ⟨j, hj, rfl⟩ := pn_surj h hm
  rw [bk_of h hj]
noncomputable def backS (p : ByteArray) : ByteArray := mkS 10 (fun m => 97 + (bk p m : Int))
theorem plug_back {p : ByteArray} (h : permB p = true) : backS p = p ↔ plugB p = true := by
  rw [plugB_iff]
  constructor
  · intro e
    refine ⟨h, fun i hi => ?_⟩
    have h1 := pn_lt h hi
    have e1 : bt (backS p) (pn p i) = bt p (pn p i) := by rw [e]
    unfold backS at e1
    rw [bt_mkS 10 _ _ h1 (by omega) (by have := bk_lt h h1; omega), bk_of h hi, pn_bt h h1] at e1
    omega
  · rintro ⟨_, hp⟩
    apply bt_ext
    · rw [permB_size h]; exact mkS_size _ _
    · intro k hk
      unfold backS at hk ⊢
      rw [mkS_size] at hk
      obtain ⟨j, hj, rfl⟩ := pn_surj h hk
      rw [bt_mkS 10 _ _ hk (by omega) (by have := bk_lt h hk; omega), bk_of h hj, pn_bt h hk, hp j hj]
end
/-! Steps -/
section

abbrev Rot := ByteArray × ByteArray
def gR (l : List Rot) (k : Nat) : Rot := l.getD k (ByteArray.empty, ByteArray.empty)
def rotB (r : Rot) : Bool := permB r.1 && (decide (r.2.size ≤ 3) && (wv r.2 && allB r.2.size (fun i => decide (i = 0) || decide (bt r.2 (i - 1) < bt r.2 i))))
def wheelsB (l : List Rot) (rf : ByteArray) : Bool := (decide (1 ≤ l.length) && decide (l.length ≤ 3)) && (reflB rf && allB l.length (fun i => rotB (gR l i)))
def winB (l : List Rot) (rf s : ByteArray) : Bool := wheelsB l rf && (wv s && decide (s.size = l.length))
theorem wheelsB_len {l : List Rot} {rf : ByteArray} (h : wheelsB l rf = true) : 1 ≤ l.length ∧ l.length ≤ 3 := by
  unfold wheelsB at h; simp only [Bool.and_eq_true, decide_eq_true_eq] at h; exact h.1
theorem wheelsB_rot {l : List Rot} {rf : ByteArray} (h : wheelsB l rf = true) {i : Nat} (hi : i < l.length) : rotB (gR l i) = true := by
  unfold wheelsB at h; simp only [Bool.and_eq_true, decide_eq_true_eq, allB_iff] at h; exact h.2.2 i hi
theorem rotB_notch {r : Rot} (h : rotB r = true) : r.2.size ≤ 3 ∧ wv r.2 = true := by
  unfold rotB at h; simp only [Bool.and_eq_true, decide_eq_true_eq] at h; exact ⟨h.2.1, h.2.2.1⟩
theorem winB_iff (l : List Rot) (rf s : ByteArray) : winB l rf s = true ↔ wheelsB l rf = true ∧ wv s = true ∧ s.size = l.length := by
  unfold winB; simp only [Bool.and_eq_true, decide_eq_true_eq]

/-- a letter is among others -/
def hasB (n : ByteArray) (x : Int) : Bool := !(allB n.size (fun j => decide (bt n j ≠ x)))
theorem hasB_iff (n : ByteArray) (x : Int) : hasB n x = true ↔ ∃ j, j < n.size ∧ bt n j = x := by
  unfold hasB
  cases h : allB n.size (fun j => decide (bt n j ≠ x)) with
  | true =>
    rw [allB_iff] at h
    simp only [decide_eq_true_eq] at h
    constructor
    · intro h'; cases h'
    · rintro ⟨j, hj, e⟩; exact absurd e (h j hj)
  | false =>
    constructor
    · intro _
      apply Classical.byContradiction
      intro hn
      have : allB n.size (fun j => decide (bt n j ≠ x)) = true := by
        rw [allB_iff]; intro j hj; simp only [decide_eq_true_eq]; exact fun e => hn ⟨j, hj, e⟩
      rw [h] at this; cases this
    · intro _; rfl
def atN (l : List Rot) (s : ByteArray) (i : Nat) : Bool := hasB (gR l i).2 (bt s i)
def mvB (l : List Rot) (s : ByteArray) (i : Nat) : Bool := decide (i + 1 = s.size) || (atN l s (i + 1) || (decide (0 < i) && atN l s i))
/-- the windows after a step -/
def stepS (l : List Rot) (s : ByteArray) : ByteArray := mkS s.size (fun i => if mvB l s i = true then 97 + (bt s i - 97 + 1) % 10 else bt s i)
theorem stepS_size (l : List Rot) (s : ByteArray) : (stepS l s).size = s.size := mkS_size _ _
theorem stepS_bt (l : List Rot) (s : ByteArray) {i : Nat} (hi : i < s.size) : bt (stepS l s) i = if mvB l s i = true then 97 + (bt s i - 97 + 1) % 10 else bt s i := by
  have hr := bt_range s i
  unfold stepS
  rw [bt_mkS _ _ _ hi]
  · split <;> omega
  · split <;> omega
theorem stepS_wv (l : List Rot) {s : ByteArray} (h : wv s = true) : wv (stepS l s) = true := by
  rw [wv_iff] at h ⊢
  rw [stepS_size]
  refine ⟨h.1, fun k hk => ?_⟩
  rw [stepS_bt l s hk]
  have := h.2 k hk
  split <;> omega
theorem it_size (l : List Rot) (n : Nat) (s : ByteArray) : (it (stepS l) n s).size = s.size :=
  it_inv (stepS l) (fun x => x.size = s.size) (fun x hx => (stepS_size l x).trans hx) n rfl
theorem it_wv (l : List Rot) (n : Nat) {s : ByteArray} (h : wv s = true) : wv (it (stepS l) n s) = true :=
  it_inv (stepS l) (fun x => wv x = true) (fun _ hx => stepS_wv l hx) n h
theorem it_win {l : List Rot} {rf s : ByteArray} (n : Nat) (h : winB l rf s = true) : winB l rf (it (stepS l) n s) = true := by
  rw [winB_iff] at h ⊢
  exact ⟨h.1, it_wv l n h.2.1, by rw [it_size]; exact h.2.2⟩
/-- which rotors move -/
def movS (l : List Rot) (s : ByteArray) : ByteArray := mkS s.size (fun i => if mvB l s i = true then 49 else 48)
/-- how often the first rotor moves in n steps -/
def leftN (l : List Rot) (s : ByteArray) : Nat → Nat
  | 0 => 0
  | n + 1 => leftN l s n + (if mvB l (it (stepS l) n s) 0 = true then 1 else 0)
theorem leftN_le (l : List Rot) (s : ByteArray) (n : Nat) : leftN l s n ≤ n := by
  induction n with
  | zero => exact Nat.le_refl _
  | succ n ih => simp only [leftN]; split <;> omega
/-- a rotor that moves shows another letter -/
theorem step_ne {l : List Rot} {s : ByteArray} (h : wv s = true) {i : Nat} (hi : i < s.size) : bt (stepS l s) i = bt s i ↔ mvB l s i = false := by
  rw [stepS_bt l s hi]
  have := (wv_iff s).1 h
  have := this.2 i hi
  cases mvB l s i <;> simp <;> omega
theorem last_bt {l : List Rot} {s : ByteArray} (h : wv s = true) (n : Nat) (h1 : 1 ≤ s.size) : bt (it (stepS l) n s) (s.size - 1) = 97 + (bt s (s.size - 1) - 97 + n) % 10 := by
  induction n with
  | zero => rw [it_zero]; have := ((wv_iff s).1 h).2 (s.size - 1) (by omega); omega
  | succ n ih =>
    have hs := it_size l n s
    rw [it_succ, stepS_bt l _ (by omega), if_pos (by unfold mvB; rw [hs]; simp; omega), ih]
    omega
theorem first_bt {l : List Rot} {s : ByteArray} (h : wv s = true) (n : Nat) (h1 : 1 ≤ s.size) : bt (it (stepS l) n s) 0 = 97 + (bt s 0 - 97 + leftN l s n) % 10 := by
  induction n with
  | zero => rw [it_zero]; have := ((wv_iff s).1 h).2 0 (by omega); simp only [leftN]; omega
  | succ n ih =>
    have hs := it_size l n s
    have hw := ((wv_iff _).1 (it_wv l n h)).2 0 (by omega)
    rw [it_succ, stepS_bt l _ (by omega)]
    simp only [leftN]
    split <;> omega
theorem left_one {l : List Rot} {s : ByteArray} (n : Nat) (h1 : s.size = 1) : leftN l s n = n := by
  induction n with
  | zero => rfl
  | succ n ih =>
    simp only [leftN]
    rw [ih, if_pos (by unfold mvB; rw [it_size]; simp; omega)]

/-- the number of windows, as digits -/
def wval (s : ByteArray) : Nat := (if 0 < s.size then (bt s 0 - 97).toNat else 0) + (if 1 < s.size then 10 * (bt s 1 - 97).toNat else 0) + (if 2 < s.size then 100 * (bt s 2 - 97).toNat else 0)
theorem wval_lt {s : ByteArray} (h : wv s = true) (h1 : 1 ≤ s.size) (h3 : s.size ≤ 3) : wval s < 10 ^ s.size := by
  have hb := ((wv_iff s).1 h).2
  unfold wval
  have hc : s.size = 1 ∨ s.size = 2 ∨ s.size = 3 := by omega
  rcases hc with e | e | e <;> rw [e] at hb ⊢ <;> simp
  · have := hb 0 (by omega); omega
  · have := hb 0 (by omega); have := hb 1 (by omega); omega
  · have := hb 0 (by omega); have := hb 1 (by omega); have := hb 2 (by omega); omega
theorem wval_inj {s t : ByteArray} (hs : wv s = true) (ht : wv t = true) (he : s.size = t.size) (h1 : 1 ≤ s.size) (h3 : s.size ≤ 3) (e : wval s = wval t) : s = t := by
  have hb := ((wv_iff s).1 hs).2
  have hc := ((wv_iff t).1 ht).2
  refine bt_ext he fun k hk => ?_
  unfold wval at e
  rw [← he] at e hc
  have hd : s.size = 1 ∨ s.size = 2 ∨ s.size = 3 := by omega
  rcases hd with ee | ee | ee <;> rw [ee] at e hb hc hk <;> simp at e
  · have a0 := hb 0 (by omega); have b0 := hc 0 (by omega)
    have : k = 0 := by omega
    subst this; omega
  · have a0 := hb 0 (by omega); have b0 := hc 0 (by omega)
    have a1 := hb 1 (by omega); have b1 := hc 1 (by omega)
    have : k = 0 ∨ k = 1 := by omega
    rcases this with rfl | rfl <;> omega
  · have a0 := hb 0 (by omega); have b0 := hc 0 (by omega)
    have a1 := hb 1 (by omega); have b1 := hc 1 (by omega)
    have a2 := hb 2 (by omega); have b2 := hc 2 (by omega)
    have : k = 0 ∨ k = 1 ∨ k = 2 := by omega
    rcases this with rfl | rfl | rfl <;> omega
theorem win_rho (l : List Rot) {s : ByteArray} (h : wv s = true) (h1 : 1 ≤ s.size) (h3 : s.size ≤ 3) : ∃ m p, Rho (stepS l) s m p ∧ m + p ≤ 10 ^ s.size := by
  apply rho_exists
  obtain ⟨i, j, hij, hj, e⟩ := pigeon (10 ^ s.size) (fun k => wval (it (stepS l) k s)) (fun k _ => by
    have := wval_lt (it_wv l k h) (by rw [it_size]; exact h1) (by rw [it_size]; exact h3)
    rw [it_size] at this; exact this)
  exact ⟨i, j, hij, hj, wval_inj (it_wv l i h) (it_wv l j h) (by rw [it_size, it_size]) (by rw [it_size]; exact h1) (by rw [it_size]; exact h3) e⟩
theorem pow10 {n : Nat} (h1 : 1 ≤ n) (h3 : n ≤ 3) : 10 ^ n ≤ 1000 ∧ 10 ≤ 10 ^ n := by
  have : n = 1 ∨ n = 2 ∨ n = 3 := by omega
  rcases this with rfl | rfl | rfl <;> decide
end
end Go.Proofs.Ytnfeddnkokocfaa
