/- Arguments that came in, opened: wheels. -/
import Derived.Test.YtnfeddnkokocfaaOpen
import Derived.Test.YtnfeddnkokocfaaRotors
import Derived.Deep.SlicePairs
namespace Go.Proofs.Ytnfeddnkokocfaa
set_option linter.unusedVariables false
set_option linter.unusedSimpArgs false
open Go.RowKit Go.ChangeShapes Go.WideShapes Go.Joins

section
variable {H : Type} {enc : TypeId × Value → H} {P : Program} {w : World} {base : Nat} {spare : Nat → Bool} {held : Bool}
theorem open_rotsA {t e : TypeId} {f0 f1 : Field} {fuel : Nat} {v : Value} {x : DataW H × List MemPlace} (ht : P.underlying t = some (.slice e)) (he : P.underlying e = some (.struct #[f0, f1]))
    (ce : P.cellsOf e = 2) (o0 : f0.offset = 0) (o1 : f1.offset = 1) (c0 : P.cellsOf f0.type = 1) (c1 : P.cellsOf f1.type = 1) (s0 : P.underlying f0.type = some .string) (s1 : P.underlying f1.type = some .string)
    (h : DataW.trod enc P w base spare held fuel t [v] = some x) : ∃ l A c, v = .slice A l.length c ∧ IsRots w v l := by
  rcases Go.Deep.open_slice_pairs ht he ce o0 o1 c0 c1 h with ⟨hcs, _⟩ | ⟨a, len, cap, m, n, V0, V1, D0, D1, P0, P1, hcs, _, hl, hm, hmm, _, hx⟩
  · injection hcs with hcs
    subst hcs
    exact ⟨[], none, 0, rfl, none, 0, rfl, by simp, fun k hk => by simp at hk, fun k hk => by simp at hk⟩
  · injection hcs with hcs
    subst hcs
    have hlm : len ≤ m := by rw [hmm]; split <;> omega
    have hs0 : ∀ i, i < m → ∃ s : ByteArray, V0 i = .string s ∧ s.size ≤ maxLen := fun i hi => by
      obtain ⟨s, hs, _, hz⟩ := DataW.trod_string s0 (hx i hi).2.2.1
      exact ⟨s, by injection hs, hz⟩
    have hs1 : ∀ i, i < m → ∃ s : ByteArray, V1 i = .string s ∧ s.size ≤ maxLen := fun i hi => by
      obtain ⟨s, hs, _, hz⟩ := DataW.trod_string s1 (hx i hi).2.2.2
      exact ⟨s, by injection hs, hz⟩
    generalize hF : (fun i => (match V0 i with | .string s => s | _ => ByteArray.empty, match V1 i with | .string s => s | _ => ByteArray.empty) : Nat → Rot) = F
    have hF0 : ∀ i, i < m → V0 i = .string (F i).1 ∧ (F i).1.size ≤ maxLen := fun i hi => by
      obtain ⟨s, hs, hz⟩ := hs0 i hi
      subst hF; simp only [hs]; exact ⟨trivial, hz⟩
    have hF1 : ∀ i, i < m → V1 i = .string (F i).2 ∧ (F i).2.size ≤ maxLen := fun i hi => by
      obtain ⟨s, hs, hz⟩ := hs1 i hi
      subst hF; simp only [hs]; exact ⟨trivial, hz⟩
    have e1 : ((List.range len).map F).length = len := by simp
    have hg : ∀ k, k < len → gR ((List.range len).map F) k = F k := by
      intro k hk
      unfold gR
      rw [List.getD_eq_getElem?_getD, List.getElem?_map, List.getElem?_range hk]; rfl
    refine ⟨(List.range len).map F, some a, cap, by rw [e1], some a, cap, by rw [e1], by rw [e1]; unfold maxLen at hm; omega, fun k hk => ?_, fun k hk => ?_⟩
    · rw [e1] at hk
      rw [hg k hk]
      have h0 := (hF0 k (by omega)).2
      have h1 := (hF1 k (by omega)).2
      unfold maxLen at h0 h1; omega
    · rw [e1] at hk
      have h0 := (hx 0 (by omega)).1
      have hk' := hx k (by omega)
      have ea : a = ⟨a.block, a.off, none⟩ := by
        rw [Nat.zero_mul] at h0
        exact addr_plain (show w.cell? a = _ from h0)
      have hk0 := hk'.1
      have hk1 := hk'.2.1
      rw [ea, add_plain] at hk0 hk1
      rw [hg k hk]
      refine ⟨a.block, a.off, by rw [← ea], World.block_lt_of_cell? w ⟨a.block, a.off + k * 2, none⟩ hk0, ?_, ?_⟩
      · rw [hk0, (hF0 k (by omega)).1]
      · rw [Nat.add_assoc, hk1, (hF1 k (by omega)).1]
/-- wheels that came in -/
def IsWheels (w : World) (v : Value) (x : List Rot × ByteArray) : Prop := ∃ A c, v = .agg #[.slice A x.1.length c, .string x.2] ∧ IsRots w (.slice A x.1.length c) x.1 ∧ x.2.size ≤ 9223372036854775807
set_option maxRecDepth 100000 in
theorem openK_wheels {r : Reach} {b0 : Nat} {v : Value} {d : DataW H} {p : List MemPlace} (hv : Value.okWide Try.prog w r b0 24 v) (h : DataW.Trod enc Try.prog w base spare held 24 v d p) :
    ∃ x, IsWheels w v x := by
  obtain ⟨c0, c1, y0, y1, m, rfl, rfl, rfl, hy0, hy1⟩ := open_agg2 Try.underlying24 (by kernel_rfl) (by kernel_rfl) hv h
  obtain ⟨l, A, c, rfl, hl⟩ := open_rotsA Try.underlying22 Try.underlying161 (by kernel_rfl) rfl rfl (by kernel_rfl) (by kernel_rfl) Try.underlying9 Try.underlying9 hy0
  obtain ⟨s, hs, _, hz⟩ := DataW.trod_string Try.underlying9 hy1
  injection hs with hs
  subst hs
  exact ⟨(l, s), A, c, rfl, hl, by unfold maxLen at hz; omega⟩
end
end Go.Proofs.Ytnfeddnkokocfaa
