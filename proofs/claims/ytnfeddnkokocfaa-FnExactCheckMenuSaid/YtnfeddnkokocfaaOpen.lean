/- Arguments that came in, opened: slices of strings and of integers read as lists. -/
import Derived.Test.YtnfeddnkokocfaaKitA
import Derived.ProofKit
import Derived.SliceStrings
import Derived.Lib.SmallJoins
namespace Go.Proofs.Ytnfeddnkokocfaa
set_option linter.unusedVariables false
set_option linter.unusedSimpArgs false
open Go.RowKit Go.ChangeShapes Go.WideShapes Go.Joins

section
variable {H : Type} {enc : TypeId × Value → H} {P : Program} {w : World} {base : Nat} {spare : Nat → Bool} {held : Bool}
theorem addr_plain {w : World} {a : Addr} {v : Value} (h : w.cell? a = some v) : a = ⟨a.block, a.off, none⟩ := by
  obtain ⟨b, o, sp⟩ := a
  unfold World.cell? at h
  split at h
  · cases sp with
    | none => rfl
    | some _ => simp at h
  · cases h
theorem add_plain (b o k : Nat) : (⟨b, o, none⟩ : Addr).add k = ⟨b, o + k, none⟩ := by unfold Addr.add; split <;> simp_all
theorem open_strsA {t e : TypeId} {fuel : Nat} {v : Value} {x : DataW H × List MemPlace} (ht : P.underlying t = some (.slice e)) (he : P.underlying e = some .string) (hc : P.cellsOf e = 1)
    (h : DataW.trod enc P w base spare held fuel t [v] = some x) : ∃ l, IsStrs w v l := by
  rcases open_strings ht he hc h with ⟨hcs, _⟩ | ⟨a, len, cap, ss, hcs, _, hl, hm, hz, _, hcell, hwz⟩
  · injection hcs with hcs
    subst hcs
    exact ⟨[], none, 0, rfl, by simp, fun k hk => by simp at hk, fun k hk => by simp at hk⟩
  · injection hcs with hcs
    subst hcs
    have hlen : len ≤ ss.length := by rw [hz]; split <;> omega
    have e1 : (ss.take len).length = len := by rw [List.length_take]; omega
    have hg : ∀ k, k < len → gS (ss.take len) k = ss.getD k ByteArray.empty := by
      intro k hk
      unfold gS
      rw [List.getD_eq_getElem?_getD, List.getElem?_take, if_pos hk, List.getD_eq_getElem?_getD]
    refine ⟨ss.take len, some a, cap, by rw [e1], by rw [e1]; unfold maxLen at hm; omega, fun k hk => ?_, fun k hk => ?_⟩
    · rw [e1] at hk
      rw [hg k hk]
      have hmem : ss.getD k ByteArray.empty ∈ ss := by
        rw [List.getD_eq_getElem?_getD, List.getElem?_eq_getElem (by omega)]; exact List.getElem_mem _
      have := hwz _ hmem
      unfold maxLen at this; omega
    · rw [e1] at hk
      have h0 := hcell 0 (by omega)
      have hk' := hcell k (by omega)
      have ea : a = ⟨a.block, a.off, none⟩ := addr_plain (show w.cell? a = _ from h0)
      rw [ea, add_plain] at hk'
      rw [hg k hk]
      exact ⟨a.block, a.off, by rw [← ea], World.block_lt_of_cell? w _ h0, hk'⟩
theorem open_intsA {t e : TypeId} {fuel : Nat} {v : Value} {x : DataW H × List MemPlace} (ht : P.underlying t = some (.slice e)) (he : P.underlying e = some (.int .i64)) (hc : P.cellsOf e = 1)
    (h : DataW.trod enc P w base spare held fuel t [v] = some x) : ∃ l, IsInts w v l := by
  rcases open_ints ht he hc h with ⟨hcs, _⟩ | ⟨a, len, cap, ss, hcs, _, hl, hm, hz, _, hcell, hwz⟩
  · injection hcs with hcs
    subst hcs
    exact ⟨[], none, 0, rfl, by simp, fun k hk => by simp at hk⟩
  · injection hcs with hcs
    subst hcs
    have hlen : len ≤ ss.length := by rw [hz]; split <;> omega
    have e1 : (ss.take len).length = len := by rw [List.length_take]; omega
    have hg : ∀ k, k < len → gI (ss.take len) k = ss.getD k 0 := by
      intro k hk
      unfold gI
      rw [List.getD_eq_getElem?_getD, List.getElem?_take, if_pos hk, List.getD_eq_getElem?_getD]
    refine ⟨ss.take len, some a, cap, by rw [e1], by rw [e1]; unfold maxLen at hm; omega, fun k hk => ?_⟩
    rw [e1] at hk
    have h0 := hcell 0 (by omega)
    have hk' := hcell k (by omega)
    have ea : a = ⟨a.block, a.off, none⟩ := addr_plain (show w.cell? a = _ from h0)
    rw [ea, add_plain] at hk'
    rw [hg k hk]
    exact ⟨a.block, a.off, by rw [← ea], World.block_lt_of_cell? w _ h0, hk'⟩
end
end Go.Proofs.Ytnfeddnkokocfaa
