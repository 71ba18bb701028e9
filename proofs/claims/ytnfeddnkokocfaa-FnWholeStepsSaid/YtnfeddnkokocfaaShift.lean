/- Contracts of ShiftWord, StepMoves (impl). -/
import Derived.Test.YtnfeddnkokocfaaKitS
import Derived.Test.YtnfeddnkokocfaaExact
namespace Go.Proofs.Ytnfeddnkokocfaa
set_option linter.unusedVariables false
set_option linter.unusedSimpArgs false
open Go.RowKit

def shOk (s : ByteArray) (n : Int) : Bool := wv s && (decide (0 ≤ n) && decide (n < 10))
def shS (s : ByteArray) (n : Int) : ByteArray := mkS s.size (fun k => 97 + (bt s k - 97 + n) % 10)
def shR (s : ByteArray) (n : Int) : ByteArray := if shOk s n = true then shS s n else ByteArray.empty
theorem shOk_cases (s : ByteArray) (n : Int) : (wv s = false ∧ shOk s n = false) ∨ (wv s = true ∧ n < 0 ∧ shOk s n = false) ∨ (wv s = true ∧ 0 ≤ n ∧ 10 ≤ n ∧ shOk s n = false) ∨ (wv s = true ∧ 0 ≤ n ∧ n < 10 ∧ shOk s n = true) := by
  unfold shOk
  cases h1 : wv s
  · left; exact ⟨rfl, rfl⟩
  · right
    by_cases h2 : n < 0
    · left; exact ⟨rfl, h2, by rw [decide_eq_false (by omega)]; rfl⟩
    · right
      by_cases h3 : 10 ≤ n
      · left; exact ⟨rfl, by omega, h3, by rw [decide_eq_false (show ¬ n < 10 by omega)]; simp⟩
      · right; exact ⟨rfl, by omega, by omega, by rw [decide_eq_true (show n < 10 by omega), decide_eq_true (show 0 ≤ n by omega)]; rfl⟩
theorem shR_ok {s : ByteArray} {n : Int} (h : wv s = true) (h0 : 0 ≤ n) (h1 : n < 10) : shR s n = shS s n := by
  unfold shR; rw [if_pos]; unfold shOk; rw [h, decide_eq_true h0, decide_eq_true h1]; rfl
theorem shS_size (s : ByteArray) (n : Int) : (shS s n).size = s.size := mkS_size _ _
theorem shS_bt (s : ByteArray) (n : Int) {k : Nat} (hk : k < s.size) : bt (shS s n) k = 97 + (bt s k - 97 + n) % 10 := by
  unfold shS; rw [bt_mkS _ _ _ hk (by omega) (by omega)]
theorem shR_size_le (s : ByteArray) (n : Int) : (shR s n).size ≤ s.size := by
  unfold shR
  by_cases h : shOk s n = true
  · rw [if_pos h, shS_size]; exact Nat.le_refl _
  · rw [if_neg h]; exact Nat.zero_le _
def movR (l : List Rot) (rf s : ByteArray) : ByteArray := if winB l rf s = true then movS l s else ByteArray.empty
end Go.Proofs.Ytnfeddnkokocfaa
