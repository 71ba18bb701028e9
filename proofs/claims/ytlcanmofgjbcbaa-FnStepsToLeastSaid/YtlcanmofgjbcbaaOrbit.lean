/- Plain facts: a function taken again and again, its lead-in and its period. -/
import Derived.Test.YtlcanmofgjbcbaaWords
namespace Go.Proofs.Ytlcanmofgjbcbaa
set_option linter.unusedVariables false
set_option linter.unusedSimpArgs false

section
variable {α : Type}
/-- f taken n times -/
def it (f : α → α) : Nat → α → α
  | 0, x => x
  | n + 1, x => f (it f n x)
theorem it_zero (f : α → α) (x : α) : it f 0 x = x := rfl
theorem it_succ (f : α → α) (n : Nat) (x : α) : it f (n + 1) x = f (it f n x) := rfl
theorem it_add (f : α → α) (m n : Nat) (x : α) : it f (m + n) x = it f m (it f n x) := by
  induction m with
  | zero => rw [Nat.zero_add, it_zero]
  | succ m ih => rw [Nat.succ_add, it_succ, it_succ, ih]
theorem it_head (f : α → α) (n : Nat) (x : α) : it f n (f x) = it f (n + 1) x := by rw [it_add f n 1]; rfl
theorem it_inv (f : α → α) (P : α → Prop) (hf : ∀ x, P x → P (f x)) (n : Nat) {x : α} (hx : P x) : P (it f n x) := by
  induction n with
  | zero => exact hx
  | succ n ih => exact hf _ ih

theorem pigeon (N : Nat) : ∀ g : Nat → Nat, (∀ k, k ≤ N → g k < N) → ∃ i j, i < j ∧ j ≤ N ∧ g i = g j := by
  induction N with
  | zero => intro g h; exact absurd (h 0 (Nat.le_refl _)) (by omega)
  | succ N ih =>
    intro g h
    by_cases he : ∃ i, i ≤ N ∧ g i = g (N + 1)
    · obtain ⟨i, hi, e⟩ := he
      exact ⟨i, N + 1, by omega, Nat.le_refl _, e⟩
    · have hne : ∀ i, i ≤ N → g i ≠ g (N + 1) := fun i hi e => he ⟨i, hi, e⟩
      have hv := h (N + 1) (Nat.le_refl _)
      obtain ⟨i, j, hij, hj, e⟩ := ih (fun k => if g (N + 1) < g k then g k - 1 else g k) (fun k hk => by
        have h1 := h k (by omega)
        have h2 := hne k hk
        by_cases hlt : g (N + 1) < g k
        · rw [if_pos hlt]; omega
        · rw [if_neg hlt]; omega)
      refine ⟨i, j, hij, by omega, ?_⟩
      have h1 := hne i (by omega)
      have h2 := hne j hj
      by_cases ha : g (N + 1) < g i <;> by_cases hb : g (N + 1) < g j <;> simp only [ha, hb, if_true, if_false] at e <;> omega

/-- from x on, f runs m steps into a cycle of length p -/
def Rho (f : α → α) (x : α) (m p : Nat) : Prop := 1 ≤ p ∧ ∀ i j, i < j → (it f i x = it f j x ↔ m ≤ i ∧ p ∣ (j - i))

theorem least {P : Nat → Prop} (h : ∃ n, P n) : ∃ n, P n ∧ ∀ k, k < n → ¬ P k := by
  obtain ⟨n, hn⟩ := h
  induction n using Nat.strongRecOn with
  | _ n ih =>
    by_cases hk : ∃ k, k < n ∧ P k
    · obtain ⟨k, hk, hp⟩ := hk; exact ih k hk hp
    · exact ⟨n, hn, fun k hk' hp => hk ⟨k, hk', hp⟩⟩

theorem it_mul {f : α → α} {p : Nat} {y : α} (h : it f p y = y) (k : Nat) : it f (p * k) y = y := by
  induction k with
  | zero => rw [Nat.mul_zero]; rfl
  | succ k ih => rw [Nat.mul_succ, Nat.add_comm, it_add, ih, h]

theorem rho_exists {f : α → α} {x : α} {N : Nat} (h : ∃ i j, i < j ∧ j ≤ N ∧ it f i x = it f j x) : ∃ m p, Rho f x m p ∧ m + p ≤ N := by
  obtain ⟨i0, j0, hij0, hj0, e0⟩ := h
  obtain ⟨m, ⟨p0, hp0, hmp0⟩, hm⟩ := least (P := fun m => ∃ p, 1 ≤ p ∧ it f (m + p) x = it f m x) ⟨i0, j0 - i0, by omega, by rw [Nat.add_sub_cancel' (by omega)]; exact e0.symm⟩
  obtain ⟨p, ⟨hp1, hpe⟩, hp⟩ := least (P := fun p => 1 ≤ p ∧ it f (m + p) x = it f m x) ⟨p0, hp0, hmp0⟩
  have hy : it f p (it f m x) = it f m x := by rw [← it_add, Nat.add_comm]; exact hpe
  have key : ∀ i j, i < j → (it f i x = it f j x ↔ m ≤ i ∧ p ∣ (j - i)) := by
    intro i j hij
    constructor
    · intro e
      have hmi : m ≤ i := by
        apply Nat.le_of_not_lt
        intro hlt
        exact hm i hlt ⟨j - i, by omega, by rw [Nat.add_sub_cancel' (by omega)]; exact e.symm⟩
      refine ⟨hmi, ?_⟩
      have e1 : it f (i - m) (it f m x) = it f (j - m) (it f m x) := by
        rw [← it_add, ← it_add, Nat.sub_add_cancel hmi, Nat.sub_add_cancel (by omega)]; exact e
      -- go on until the first is back at the start
      have hc : ∃ c k, (i - m) + c = p * k := by
        refine ⟨p * (i - m) - (i - m), i - m, ?_⟩
        have : i - m ≤ p * (i - m) := Nat.le_mul_of_pos_left _ hp1
        omega
      obtain ⟨c, k, hck⟩ := hc
      have e2 : it f (c + (i - m)) (it f m x) = it f (c + (j - m)) (it f m x) := by rw [it_add, it_add, e1]
      have e3 : c + (j - m) = (j - i) + p * k := by omega
      rw [Nat.add_comm c (i - m), hck, it_mul hy, e3, it_add, it_mul hy] at e2
      -- the rest of j - i by p is a period less than p
      have e4 : it f ((j - i) % p) (it f m x) = it f m x := by
        have := e2
        rw [← Nat.mod_add_div (j - i) p, it_add, it_mul hy] at this
        exact this.symm
      by_cases hr : (j - i) % p = 0
      · exact Nat.dvd_of_mod_eq_zero hr
      · exact absurd ⟨Nat.one_le_iff_ne_zero.2 hr, by rw [Nat.add_comm, it_add]; exact e4⟩ (hp ((j - i) % p) (Nat.mod_lt _ hp1))
    · rintro ⟨hmi, k, hk⟩
      have e1 : j = (i - m) + (p * k + m) := by
        generalize p * k = q at hk ⊢
        omega
      rw [e1, it_add f (i - m), it_add f (p * k), it_mul hy, ← it_add, Nat.sub_add_cancel hmi]
  refine ⟨m, p, ⟨hp1, key⟩, ?_⟩
  have := (key i0 j0 hij0).1 e0
  have := Nat.le_of_dvd (by omega) this.2
  omega

theorem rho_unique {f : α → α} {x : α} {m p m' p' : Nat} (h : Rho f x m p) (h' : Rho f x m' p') : m = m' ∧ p = p' := by
  obtain ⟨h1, h2⟩ := h
  obtain ⟨h1', h2'⟩ := h'
  have a := (h2' m (m + p) (by omega)).1 ((h2 m (m + p) (by omega)).2 ⟨Nat.le_refl _, by simp⟩)
  have b := (h2 m' (m' + p') (by omega)).1 ((h2' m' (m' + p') (by omega)).2 ⟨Nat.le_refl _, by simp⟩)
  have a2 := a.2; have b2 := b.2
  rw [Nat.add_sub_cancel_left] at a2 b2
  exact ⟨Nat.le_antisymm b.1 a.1, Nat.dvd_antisymm b2 a2⟩

open Classical in
/-- the lead-in of f from x on -/
noncomputable def leadN (f : α → α) (x : α) : Nat := if h : ∃ m p, Rho f x m p then h.choose else 0
open Classical in
/-- the period of f from x on -/
noncomputable def perN' (f : α → α) (x : α) : Nat := if h : ∃ p, Rho f x (leadN f x) p then h.choose else 0
theorem rho_spec {f : α → α} {x : α} {m p : Nat} (h : Rho f x m p) : leadN f x = m ∧ perN' f x = p := by
  have h1 : ∃ m p, Rho f x m p := ⟨m, p, h⟩
  have e1 : leadN f x = m := by
    unfold leadN
    rw [dif_pos h1]
    obtain ⟨p', hp'⟩ := h1.choose_spec
    exact (rho_unique hp' h).1
  refine ⟨e1, ?_⟩
  have h2 : ∃ p, Rho f x (leadN f x) p := ⟨p, e1 ▸ h⟩
  unfold perN'
  rw [dif_pos h2]
  exact (rho_unique h2.choose_spec (e1 ▸ h)).2
theorem rho_of {f : α → α} {x : α} (h : ∃ m p, Rho f x m p) : Rho f x (leadN f x) (perN' f x) := by
  obtain ⟨m, p, h⟩ := h
  obtain ⟨e1, e2⟩ := rho_spec h
  rw [e1, e2]; exact h

/-- the first n below N with f^n x = y, or -1 -/
def findTo [DecidableEq α] (f : α → α) (x y : α) : Nat → Int
  | 0 => -1
  | n + 1 => if findTo f x y n = -1 then (if it f n x = y then (n : Int) else -1) else findTo f x y n
theorem findTo_none [DecidableEq α] {f : α → α} {x y : α} {N : Nat} (h : ∀ k, k < N → it f k x ≠ y) : findTo f x y N = -1 := by
  induction N with
  | zero => rfl
  | succ N ih =>
    unfold findTo
    rw [if_pos (ih fun k hk => h k (by omega)), if_neg (h N (by omega))]
theorem findTo_some [DecidableEq α] {f : α → α} {x y : α} {N n : Nat} (hn : n < N) (e : it f n x = y) (h : ∀ k, k < n → it f k x ≠ y) : findTo f x y N = n := by
  induction N with
  | zero => omega
  | succ N ih =>
    unfold findTo
    by_cases hN : n = N
    · subst hN
      rw [if_pos (findTo_none h), if_pos e]
    · rw [ih (by omega), if_neg (by omega)]
theorem findTo_cases [DecidableEq α] (f : α → α) (x y : α) (N : Nat) : (findTo f x y N = -1 ∧ ∀ k, k < N → it f k x ≠ y) ∨ ∃ n, n < N ∧ findTo f x y N = n ∧ it f n x = y ∧ ∀ k, k < n → it f k x ≠ y := by
  by_cases h : ∃ k, k < N ∧ it f k x = y
  · obtain ⟨n, ⟨hn, e⟩, hl⟩ := least h
    have hl' : ∀ k, k < n → it f k x ≠ y := fun k hk he => hl k hk ⟨by omega, he⟩
    exact .inr ⟨n, hn, findTo_some hn e hl', e, hl'⟩
  · have h' : ∀ k, k < N → it f k x ≠ y := fun k hk he => h ⟨k, hk, he⟩
    exact .inl ⟨findTo_none h', h'⟩
/-- past the cycle nothing new is found -/
theorem findTo_rho [DecidableEq α] {f : α → α} {x : α} {m p : Nat} (h : Rho f x m p) (y : α) {N : Nat} (hN : m + p ≤ N) : findTo f x y N = findTo f x y (m + p) := by
  rcases findTo_cases f x y (m + p) with ⟨e, hne⟩ | ⟨n, hn, e, he, hl⟩
  · rw [e]
    apply findTo_none
    intro k _ he
    -- the first such k lies below m + p
    obtain ⟨n, hn, hl⟩ := least (P := fun k => it f k x = y) ⟨k, he⟩
    by_cases hlt : n < m + p
    · exact hne n hlt hn
    · have := (h.2 (n - p) n (by have := h.1; omega)).2 ⟨by omega, by rw [Nat.sub_sub_self (by omega)]; exact Nat.dvd_refl _⟩
      exact hl (n - p) (by have := h.1; omega) (this.trans hn)
  · rw [e]; exact findTo_some (by omega) he hl
end
end Go.Proofs.Ytlcanmofgjbcbaa
