/- Comparison of strings, as the walk spells it. -/
import Derived.Test.YtlcanmofgjbcbaaWords
namespace Go.Proofs.Ytlcanmofgjbcbaa
set_option linter.unusedVariables false
set_option linter.unusedSimpArgs false
open Go.RowKit
theorem bs_eq (a b : ByteArray) : (a.toList == b.toList) = decide (a = b) := by
  rw [ByteArray.toList_eq, ByteArray.toList_eq, Bool.eq_iff_iff]
  simp only [beq_iff_eq, decide_eq_true_eq]
  constructor
  · intro h
    cases a; cases b
    simp only [ByteArray.mk.injEq]
    exact Array.toList_inj.1 h
  · rintro rfl; rfl
theorem bs_yes {a b : ByteArray} (h : a = b) : (a.toList == b.toList) = true := by rw [bs_eq, decide_eq_true h]
theorem bs_no {a b : ByteArray} (h : a ≠ b) : (a.toList == b.toList) = false := by rw [bs_eq, decide_eq_false h]
theorem bs_nyes {a b : ByteArray} (h : a = b) : (a.toList != b.toList) = false := by unfold bne; rw [bs_yes h]; rfl
theorem bs_nno {a b : ByteArray} (h : a ≠ b) : (a.toList != b.toList) = true := by unfold bne; rw [bs_no h]; rfl
end Go.Proofs.Ytlcanmofgjbcbaa
