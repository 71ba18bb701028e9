/- Contracts of the reference's StepWindows, StepMany, LeftMoves, StepsTo, PeriodOf, LeadIn. -/
import Derived.Test.YtnjmjgnmbjbfpaaGreatSpecSteps
namespace Go.Proofs.YtnjmjgnmbjbfpaaGreat
set_option linter.unusedVariables false
set_option linter.unusedSimpArgs false
open Go.RowKit

theorem manyOk_in (l : List Rot) (rf s : ByteArray) (n : Int) : (winB l rf s = false ∧ manyOk l rf s n = false) ∨ (winB l rf s = true ∧ inB n 0 2000 = false ∧ manyOk l rf s n = false) ∨ (winB l rf s = true ∧ inB n 0 2000 = true ∧ ∃ N : Nat, n = N ∧ N ≤ 2000 ∧ manyOk l rf s n = true) := by
  rcases manyOk_cases l rf s n with ⟨h1, hr⟩ | ⟨h1, h2, hr⟩ | ⟨h1, h2, h3, hr⟩ | ⟨h1, N, rfl, h2, hr⟩
  · exact .inl ⟨h1, hr⟩
  · exact .inr (.inl ⟨h1, inB_false (by omega), hr⟩)
  · exact .inr (.inl ⟨h1, inB_false (by omega), hr⟩)
  · exact .inr (.inr ⟨h1, inB_true (by omega) (by omega), N, rfl, h2, hr⟩)
end Go.Proofs.YtnjmjgnmbjbfpaaGreat
