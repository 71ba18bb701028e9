/- Contracts of PeriodOf, LeadIn, StepsTo (impl). -/
import Derived.Test.YtnfeddnkokocfaaCycle
namespace Go.Proofs.Ytnfeddnkokocfaa
set_option linter.unusedVariables false
set_option linter.unusedSimpArgs false
open Go.RowKit

theorem win_rho' {l : List Rot} {rf s : ByteArray} (h : winB l rf s = true) : Rho (stepS l) s (leadN (stepS l) s) (perN' (stepS l) s) ∧ leadN (stepS l) s + perN' (stepS l) s ≤ 10 ^ s.size ∧ leadN (stepS l) s + perN' (stepS l) s ≤ 1000 := by
  obtain ⟨h1, h2, h3, h4⟩ := win_facts h
  obtain ⟨m, p, hr, hle⟩ := win_rho l h4 h1 h2
  obtain ⟨e1, e2⟩ := rho_spec hr
  have := (pow10 h1 h2).1
  rw [e1, e2]
  exact ⟨hr, hle, by omega⟩
noncomputable def perR (l : List Rot) (rf s : ByteArray) : Int := if winB l rf s = true then (perN' (stepS l) s : Int) else 0
noncomputable def leadR (l : List Rot) (rf s : ByteArray) : Int := if winB l rf s = true then (leadN (stepS l) s : Int) else -1
def toR (l : List Rot) (rf a b : ByteArray) : Int := if winB l rf a = true ∧ winB l rf b = true then findTo (stepS l) a b (10 ^ a.size) else -1
end Go.Proofs.Ytnfeddnkokocfaa
