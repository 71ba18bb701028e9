/- Contracts of StepMoves, StepMany, StepWindows, LeftMoves (impl). -/
import Derived.Test.YtnjmjgnmbjbfpaaGreatStep
namespace Go.Proofs.YtnjmjgnmbjbfpaaGreat
set_option linter.unusedVariables false
set_option linter.unusedSimpArgs false
open Go.RowKit

theorem win_facts {l : List Rot} {rf s : ByteArray} (h : winB l rf s = true) : 1 ≤ s.size ∧ s.size ≤ 3 ∧ s.size = l.length ∧ wv s = true := by
  obtain ⟨h1, h2, h3⟩ := (winB_iff l rf s).1 h
  have := wheelsB_len h1
  exact ⟨by omega, by omega, h3, h2⟩
theorem c_stepIt (vR : Value) (l : List Rot) (rf s : ByteArray) (n : Nat) (w : World) (hR : IsRots w vR l) (h : winB l rf s = true) : Calls Tryz.prog 49 #[.agg #[vR, .string rf], .string (it (stepS l) n s)] w fun e w' => e = .returned (.string (it (stepS l) (n + 1) s)) ∧ Below w.heap.size w w' := by
  obtain ⟨h1, h2, h3, h4⟩ := win_facts (it_win n h)
  exact c_step vR l rf _ w hR h1 h2 h3 h4
/-- a box of wheels at the head of a call, and what came behind it -/
structure WInv (w wr : World) (A : Option Addr) (cA : Nat) (l : List Rot) (rf : ByteArray) : Prop where
  box : Blk wr w.heap.size 25 #[.slice A l.length cA, .string rf]
  rot : IsRots wr (.slice A l.length cA) l
  bel : Below w.heap.size w wr
theorem WInv.start {w : World} {A : Option Addr} {cA : Nat} {l : List Rot} (rf : ByteArray) (hR : IsRots w (.slice A l.length cA) l) : WInv w (w.alloc (.cells #[.slice A l.length cA, .string rf] 25)) A cA l rf :=
  ⟨Blk.new _ _ _, hR.ext (ext_alloc _ _), ext_alloc _ _⟩
theorem WInv.ext {w wr w2 : World} {A : Option Addr} {cA : Nat} {l : List Rot} {rf : ByteArray} (h : WInv w wr A cA l rf) (hb : Below wr.heap.size wr w2) : WInv w w2 A cA l rf :=
  ⟨h.box.ext hb, h.rot.ext hb, ext_trans h.bel hb⟩
theorem WInv.drew {w wr : World} {A : Option Addr} {cA : Nat} {l : List Rot} {rf : ByteArray} (h : WInv w wr A cA l rf) : WInv w wr.drew A cA l rf :=
  h.ext (Below.refl _ _).drew
theorem WInv.c0 {w wr : World} {A : Option Addr} {cA : Nat} {l : List Rot} {rf : ByteArray} (h : WInv w wr A cA l rf) : wr.cell? ⟨w.heap.size, 0, none⟩ = some (.slice A l.length cA) := h.box.cell 0
theorem WInv.c1 {w wr : World} {A : Option Addr} {cA : Nat} {l : List Rot} {rf : ByteArray} (h : WInv w wr A cA l rf) : wr.cell? ⟨w.heap.size, 1, none⟩ = some (.string rf) := h.box.cell 1

def manyOk (l : List Rot) (rf s : ByteArray) (n : Int) : Bool := winB l rf s && (decide (0 ≤ n) && decide (n ≤ 2000))
def manyR (l : List Rot) (rf s : ByteArray) (n : Int) : Value := .tuple #[.string (if manyOk l rf s n = true then it (stepS l) n.toNat s else ByteArray.empty), .bool (manyOk l rf s n)]
theorem manyR_ok {l : List Rot} {rf s : ByteArray} {n : Int} (h : manyOk l rf s n = true) : manyR l rf s n = .tuple #[.string (it (stepS l) n.toNat s), .bool true] := by unfold manyR; rw [if_pos h, h]
theorem manyR_no {l : List Rot} {rf s : ByteArray} {n : Int} (h : manyOk l rf s n = false) : manyR l rf s n = .tuple #[.string ByteArray.empty, .bool false] := by unfold manyR; rw [if_neg (by rw [h]; simp), h]
theorem manyOk_cases (l : List Rot) (rf s : ByteArray) (n : Int) : (winB l rf s = false ∧ manyOk l rf s n = false) ∨ (winB l rf s = true ∧ n < 0 ∧ manyOk l rf s n = false) ∨ (winB l rf s = true ∧ 0 ≤ n ∧ 2000 < n ∧ manyOk l rf s n = false) ∨ (winB l rf s = true ∧ ∃ N : Nat, n = N ∧ N ≤ 2000 ∧ manyOk l rf s n = true) := by
  unfold manyOk
  cases h1 : winB l rf s
  · left; exact ⟨rfl, rfl⟩
  · right
    by_cases h2 : n < 0
    · left; exact ⟨rfl, h2, by rw [decide_eq_false (by omega)]; rfl⟩
    · right
      by_cases h3 : 2000 < n
      · left; exact ⟨rfl, by omega, h3, by rw [decide_eq_false (show ¬ n ≤ 2000 by omega)]; simp⟩
      · right; exact ⟨rfl, n.toNat, by omega, by omega, by rw [decide_eq_true (show n ≤ 2000 by omega), decide_eq_true (show 0 ≤ n by omega)]; rfl⟩
def leftOk := manyOk
def leftR (l : List Rot) (rf s : ByteArray) (n : Int) : Int := if manyOk l rf s n = true then (leftN l s n.toNat : Int) else -1
end Go.Proofs.YtnjmjgnmbjbfpaaGreat
