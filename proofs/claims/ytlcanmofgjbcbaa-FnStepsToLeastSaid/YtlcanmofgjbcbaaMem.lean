/- Slices of strings and of integers that read as lists. -/
import Derived.Test.YtlcanmofgjbcbaaWords
namespace Go.Proofs.Ytlcanmofgjbcbaa
set_option linter.unusedVariables false
set_option linter.unusedSimpArgs false
open Go.RowKit

/-- a slice that reads as a list of strings -/
def IsStrs (w : World) (v : Value) (l : List ByteArray) : Prop :=
  ∃ A c, v = .slice A l.length c ∧ l.length ≤ 9223372036854775807 ∧ (∀ k, k < l.length → (gS l k).size ≤ 9223372036854775807) ∧
    ∀ k, k < l.length → ∃ b o, A = some ⟨b, o, none⟩ ∧ b < w.heap.size ∧ w.cell? ⟨b, o + k, none⟩ = some (.string (gS l k))
/-- a slice that reads as a list of integers -/
def IsInts (w : World) (v : Value) (l : List Int) : Prop :=
  ∃ A c, v = .slice A l.length c ∧ l.length ≤ 9223372036854775807 ∧
    ∀ k, k < l.length → ∃ b o, A = some ⟨b, o, none⟩ ∧ b < w.heap.size ∧ w.cell? ⟨b, o + k, none⟩ = some (.int .i64 (gI l k))
theorem IsStrs.ext {w w' : World} {v : Value} {l : List ByteArray} (h : IsStrs w v l) (hb : Below w.heap.size w w') : IsStrs w' v l := by
  obtain ⟨A, c, rfl, h1, h2, h3⟩ := h
  refine ⟨A, c, rfl, h1, h2, fun k hk => ?_⟩
  obtain ⟨b, o, e, hlt, hc⟩ := h3 k hk
  exact ⟨b, o, e, Nat.lt_of_lt_of_le hlt hb.size, (hb.cell (p := ⟨b, o + k, none⟩) hlt).trans hc⟩
theorem IsInts.ext {w w' : World} {v : Value} {l : List Int} (h : IsInts w v l) (hb : Below w.heap.size w w') : IsInts w' v l := by
  obtain ⟨A, c, rfl, h1, h3⟩ := h
  refine ⟨A, c, rfl, h1, fun k hk => ?_⟩
  obtain ⟨b, o, e, hlt, hc⟩ := h3 k hk
  exact ⟨b, o, e, Nat.lt_of_lt_of_le hlt hb.size, (hb.cell (p := ⟨b, o + k, none⟩) hlt).trans hc⟩
theorem IsStrs.at_ {w : World} {A : Option Addr} {n c : Nat} {l : List ByteArray} (h : IsStrs w (.slice A n c) l) {k : Nat} (hk : k < l.length) :
    ∃ b o, A = some ⟨b, o, none⟩ ∧ b < w.heap.size ∧ w.cell? ⟨b, o + k, none⟩ = some (.string (gS l k)) := by
  obtain ⟨A', c', e, h1, h2, h3⟩ := h
  injection e with e1 e2 e3
  subst e1
  exact h3 k hk
theorem IsInts.at_ {w : World} {A : Option Addr} {n c : Nat} {l : List Int} (h : IsInts w (.slice A n c) l) {k : Nat} (hk : k < l.length) :
    ∃ b o, A = some ⟨b, o, none⟩ ∧ b < w.heap.size ∧ w.cell? ⟨b, o + k, none⟩ = some (.int .i64 (gI l k)) := by
  obtain ⟨A', c', e, h1, h3⟩ := h
  injection e with e1 e2 e3
  subst e1
  exact h3 k hk
theorem IsStrs.len_le {w : World} {v : Value} {l : List ByteArray} (h : IsStrs w v l) : l.length ≤ 9223372036854775807 := by
  obtain ⟨A', c', e, h1, h2, h3⟩ := h; exact h1
theorem IsInts.len_le {w : World} {v : Value} {l : List Int} (h : IsInts w v l) : l.length ≤ 9223372036854775807 := by
  obtain ⟨A', c', e, h1, h3⟩ := h; exact h1
theorem IsStrs.size_le {w : World} {v : Value} {l : List ByteArray} (h : IsStrs w v l) {k : Nat} (hk : k < l.length) : (gS l k).size ≤ 9223372036854775807 := by
  obtain ⟨A', c', e, h1, h2, h3⟩ := h; exact h2 k hk
theorem IsStrs.form {w : World} {v : Value} {l : List ByteArray} (h : IsStrs w v l) : ∃ A c, v = .slice A l.length c := by
  obtain ⟨A', c', e, h1, h2, h3⟩ := h; exact ⟨A', c', e⟩
theorem IsInts.form {w : World} {v : Value} {l : List Int} (h : IsInts w v l) : ∃ A c, v = .slice A l.length c := by
  obtain ⟨A', c', e, h1, h3⟩ := h; exact ⟨A', c', e⟩

/-- a box of two cells, laid at the head of a call, and what came behind it -/
theorem box2 {w wr : World} {x y : Value} {t : TypeId} (h : Below (w.heap.size + 1) (w.alloc (.cells #[x, y] t)) wr) :
    wr.cell? ⟨w.heap.size, 0, none⟩ = some x ∧ wr.cell? ⟨w.heap.size, 1, none⟩ = some y ∧ Below w.heap.size w wr ∧ w.heap.size < wr.heap.size := by
  refine ⟨?_, ?_, (ext_alloc w _).trans (h.mono (by omega)), ?_⟩
  · rw [h.cell (p := ⟨w.heap.size, 0, none⟩) (by simp), World.cell?_alloc_at _ _ _ _ rfl]; rfl
  · rw [h.cell (p := ⟨w.heap.size, 1, none⟩) (by simp), World.cell?_alloc_at _ _ _ _ rfl]; rfl
  · have := h.size; simp at this; omega

end Go.Proofs.Ytlcanmofgjbcbaa
