/- Contracts of cycleFrom, PeriodOf, LeadIn, StepsTo (impl). -/
import Derived.Test.YtnfeddnkokocfaaStepMany
import Derived.Test.YtnfeddnkokocfaaKitA
namespace Go.Proofs.Ytnfeddnkokocfaa
set_option linter.unusedVariables false
set_option linter.unusedSimpArgs false
open Go.RowKit

section
variable {α : Type}
/-- where the two walkers meet first -/
theorem rho_meet {f : α → α} {x : α} {m p : Nat} (h : Rho f x m p) : ∃ K, 1 ≤ K ∧ K ≤ m + p ∧ it f K x = it f (2 * K) x := by
  obtain ⟨h1, h2⟩ := h
  have hex : ∃ K, 1 ≤ K ∧ m ≤ K ∧ K ≤ m + p ∧ p ∣ K := by
    by_cases hm : m = 0
    · exact ⟨p, h1, by omega, by omega, Nat.dvd_refl _⟩
    · have hd := Nat.mod_add_div (m + p - 1) p
      have hl := Nat.mod_lt (m + p - 1) (show 0 < p by omega)
      refine ⟨p * ((m + p - 1) / p), by omega, by omega, by omega, Nat.dvd_mul_right _ _⟩
  obtain ⟨K, a, b, c, d⟩ := hex
  exact ⟨K, a, c, (h2 K (2 * K) (by omega)).2 ⟨b, by rw [show 2 * K - K = K by omega]; exact d⟩⟩
theorem rho_meet_at {f : α → α} {x : α} {m p k : Nat} (h : Rho f x m p) (hk : 1 ≤ k) (e : it f k x = it f (2 * k) x) : m ≤ k ∧ p ∣ k := by
  have := (h.2 k (2 * k) (by omega)).1 e
  rw [show 2 * k - k = k by omega] at this
  exact this
/-- from a meeting on, the walkers from the start and from there meet at the lead-in first -/
theorem rho_lead {f : α → α} {x : α} {m p c : Nat} (h : Rho f x m p) (hc : 1 ≤ c) (hp : p ∣ c) (i : Nat) : it f i x = it f (c + i) x ↔ m ≤ i := by
  rw [h.2 i (c + i) (by omega)]
  rw [show c + i - i = c by omega]
  exact ⟨fun h => h.1, fun h => ⟨h, hp⟩⟩
theorem rho_round {f : α → α} {x : α} {m p : Nat} (h : Rho f x m p) {j : Nat} (hj : 1 ≤ j) : it f (m + j) x = it f m x ↔ p ∣ j := by
  rw [eq_comm, h.2 m (m + j) (by omega), show m + j - m = j by omega]
  exact ⟨fun h => h.2, fun h => ⟨Nat.le_refl _, h⟩⟩
end
end Go.Proofs.Ytnfeddnkokocfaa
