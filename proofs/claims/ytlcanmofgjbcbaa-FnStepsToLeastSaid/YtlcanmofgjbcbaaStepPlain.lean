/- Plain facts on steps: what the laws on periods, lead-ins and numbers of steps say. -/
import Derived.Test.YtlcanmofgjbcbaaSingle
import Derived.Test.YtlcanmofgjbcbaaPeriod
namespace Go.Proofs.Ytlcanmofgjbcbaa
set_option linter.unusedVariables false
set_option linter.unusedSimpArgs false

section
variable {α : Type}
theorem rho_shift {f : α → α} {x : α} {m p : Nat} (h : Rho f x m p) (t : Nat) : Rho f (it f t x) (m - t) p := by
  refine ⟨h.1, fun i j hij => ?_⟩
  rw [← it_add, ← it_add, h.2 (i + t) (j + t) (by omega), show j + t - (i + t) = j - i by omega]
  constructor
  · rintro ⟨a, b⟩; exact ⟨by omega, b⟩
  · rintro ⟨a, b⟩; exact ⟨by omega, b⟩
theorem rho_back {f : α → α} {x : α} {m p : Nat} (h : Rho f x m p) {k : Nat} (hk : 0 < k) : it f k (it f m x) = it f m x ↔ p ∣ k := by
  rw [← it_add]
  have := h.2 m (k + m) (by omega)
  rw [show k + m - m = k by omega] at this
  constructor
  · intro e; exact (this.1 e.symm).2
  · intro e; exact (this.2 ⟨Nat.le_refl _, e⟩).symm
theorem rho_at {f : α → α} {x : α} {m p : Nat} (h : Rho f x m p) (k : Nat) : it f p (it f k x) = it f k x ↔ m ≤ k := by
  rw [← it_add]
  have hp := h.1
  have := h.2 k (p + k) (by omega)
  rw [show p + k - k = p by omega] at this
  constructor
  · intro e; exact (this.1 e.symm).1
  · intro e; exact (this.2 ⟨e, Nat.dvd_refl _⟩).symm
end

theorem per_shift {l : List Rot} {rf s : ByteArray} (h : winB l rf s = true) (t : Nat) : perN' (stepS l) (it (stepS l) t s) = perN' (stepS l) s ∧ leadN (stepS l) (it (stepS l) t s) = leadN (stepS l) s - t := by
  obtain ⟨h1, _, _⟩ := win_rho' h
  obtain ⟨a, b⟩ := rho_spec (rho_shift h1 t)
  exact ⟨b, a⟩
theorem per_ten {l : List Rot} {rf s : ByteArray} (h : winB l rf s = true) : 10 ∣ perN' (stepS l) s := by
  obtain ⟨h1, _, _⟩ := win_rho' h
  obtain ⟨f1, f2, f3, f4⟩ := win_facts h
  have e := (rho_back h1 (k := perN' (stepS l) s) (by have := h1.1; omega)).2 (Nat.dvd_refl _)
  have a := last_bt (l := l) f4 (perN' (stepS l) s + leadN (stepS l) s) f1
  have b := last_bt (l := l) f4 (leadN (stepS l) s) f1
  rw [it_add, e, b] at a
  generalize perN' (stepS l) s = p at *
  generalize leadN (stepS l) s = m at *
  omega
/-- StepsTo finds what is reached -/
theorem to_it {l : List Rot} {rf s : ByteArray} (h : winB l rf s = true) (N : Nat) : ∃ k : Nat, toR l rf s (it (stepS l) N s) = k ∧ k ≤ N ∧ k < leadN (stepS l) s + perN' (stepS l) s ∧ it (stepS l) k s = it (stepS l) N s ∧ perN' (stepS l) s ∣ (N - k) ∧ (∀ j, j < k → it (stepS l) j s ≠ it (stepS l) N s) := by
  obtain ⟨h1, h2, _⟩ := win_rho' h
  obtain ⟨k, hk, hl⟩ := least (P := fun k => it (stepS l) k s = it (stepS l) N s) ⟨N, rfl⟩
  have hkN : k ≤ N := Nat.le_of_not_lt fun hlt => hl N hlt rfl
  have hkm : k < leadN (stepS l) s + perN' (stepS l) s := by
    apply Nat.lt_of_not_le
    intro hge
    have hp := h1.1
    have := (h1.2 (k - perN' (stepS l) s) k (by omega)).2 ⟨by omega, by rw [Nat.sub_sub_self (by omega)]; exact Nat.dvd_refl _⟩
    exact hl (k - perN' (stepS l) s) (by omega) (this.trans hk)
  refine ⟨k, ?_, hkN, hkm, hk, ?_, hl⟩
  · unfold toR
    rw [if_pos ⟨h, it_win N h⟩]
    exact findTo_some (by omega) hk hl
  · by_cases e : k = N
    · subst e; simp
    · exact ((h1.2 k N (by omega)).1 hk).2
theorem to_back {l : List Rot} {rf s : ByteArray} (h : winB l rf s = true) : toR l rf (it (stepS l) 1 (it (stepS l) (leadN (stepS l) s) s)) (it (stepS l) (leadN (stepS l) s) s) = (perN' (stepS l) s : Int) - 1 := by
  obtain ⟨h1, h2, _⟩ := win_rho' h
  have hp := h1.1
  generalize hm : leadN (stepS l) s = m at *
  generalize hpp : perN' (stepS l) s = p at *
  have e : ∀ k, it (stepS l) k (it (stepS l) 1 (it (stepS l) m s)) = it (stepS l) m s ↔ p ∣ k + 1 := fun k => by
    rw [← it_add]; exact rho_back h1 (by omega)
  have hz : (it (stepS l) 1 (it (stepS l) m s)).size = s.size := by rw [it_size, it_size]
  unfold toR
  rw [if_pos ⟨it_win 1 (it_win m h), it_win m h⟩, hz, findTo_some (n := p - 1) (by omega) ((e _).2 (by rw [Nat.sub_add_cancel hp]; exact Nat.dvd_refl _))]
  · omega
  · intro k hk he
    have := Nat.le_of_dvd (by omega) ((e k).1 he)
    omega
/-- StepsTo, for given windows -/
theorem to_cases (l : List Rot) (rf s t : ByteArray) : toR l rf s t = -1 ∨ (winB l rf s = true ∧ ∃ k : Nat, toR l rf s t = k ∧ it (stepS l) k s = t ∧ (∀ j, j < k → it (stepS l) j s ≠ t) ∧ k < leadN (stepS l) s + perN' (stepS l) s) := by
  by_cases h : winB l rf s = true ∧ winB l rf t = true
  · obtain ⟨h1, h2, _⟩ := win_rho' h.1
    unfold toR
    rw [if_pos h, findTo_rho h1 t h2]
    rcases findTo_cases (stepS l) s t (leadN (stepS l) s + perN' (stepS l) s) with ⟨e, _⟩ | ⟨k, hk, e, he, hl⟩
    · left; exact e
    · right; exact ⟨h.1, k, e, he, hl, hk⟩
  · left; unfold toR; rw [if_neg h]
end Go.Proofs.Ytlcanmofgjbcbaa
