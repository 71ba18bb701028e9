/- Arguments that came in, opened: links. -/
import Derived.Test.YtnfeddnkokocfaaOpen
import Derived.Test.YtnfeddnkokocfaaLinks
import Derived.Deep.SlicePairs
namespace Go.Proofs.Ytnfeddnkokocfaa
set_option linter.unusedVariables false
set_option linter.unusedSimpArgs false
open Go.RowKit Go.ChangeShapes Go.WideShapes Go.Joins Go.Deep

section
variable {H : Type} {enc : TypeId × Value → H} {P : Program} {w : World} {base : Nat} {spare : Nat → Bool} {held : Bool}
theorem open_linksA {t e : TypeId} {f0 f1 f2 : Field} {fuel : Nat} {v : Value} {x : DataW H × List MemPlace} (ht : P.underlying t = some (.slice e)) (he : P.underlying e = some (.struct #[f0, f1, f2]))
    (ce : P.cellsOf e = 3) (o0 : f0.offset = 0) (o1 : f1.offset = 1) (o2 : f2.offset = 2) (c0 : P.cellsOf f0.type = 1) (c1 : P.cellsOf f1.type = 1) (c2 : P.cellsOf f2.type = 1)
    (s0 : P.underlying f0.type = some .string) (s1 : P.underlying f1.type = some .string) (s2 : P.underlying f2.type = some (.int .i64))
    (h : DataW.trod enc P w base spare held fuel t [v] = some x) : ∃ l, IsLinks w v l := by
  rcases open_slice ht h with ⟨hcs, _⟩ | ⟨a, len, cap, m, n, D, Pl, hcs, _, hl, hm, hmm, _, hx⟩
  · injection hcs with hcs
    subst hcs
    exact ⟨[], none, 0, rfl, by simp, fun k hk => by simp at hk, fun k hk => by simp at hk⟩
  · injection hcs with hcs
    subst hcs
    have hlm : len ≤ m := by rw [hmm]; split <;> omega
    have each : ∀ i, i < m → ∃ q : Lnk, q.1.size ≤ maxLen ∧ q.2.1.size ≤ maxLen ∧ w.cell? (a.add (i * 3)) = some (.string q.1) ∧ w.cell? (a.add (i * 3 + 1)) = some (.string q.2.1) ∧ w.cell? (a.add (i * 3 + 2)) = some (.int .i64 q.2.2) := by
      intro i hi
      obtain ⟨cs', h1, h2⟩ := hx i hi
      rw [ce] at h1
      obtain ⟨_, hlen, hcell⟩ := World.cells?_some h1
      obtain ⟨xs, k, hk, hxy, _, hxl, hf⟩ := DataW.trod_struct he h2
      match xs, hxl, cs', hlen with
      | [y0, y1, y2], _, [v0, v1, v2], _ =>
        have g0 := hf 0 f0 rfl
        have g1 := hf 1 f1 rfl
        have g2 := hf 2 f2 rfl
        simp [o0, o1, o2, c0, c1, c2] at g0 g1 g2
        have e0 := hcell 0 (by omega)
        have e1 := hcell 1 (by omega)
        have e2 := hcell 2 (by omega)
        rw [add_add] at e0 e1 e2
        obtain ⟨t0, ht0, _, hz0⟩ := DataW.trod_string s0 g0
        obtain ⟨t1, ht1, _, hz1⟩ := DataW.trod_string s1 g1
        obtain ⟨t2, ht2, _, _⟩ := DataW.trod_int s2 g2
        injection ht0 with ht0
        injection ht1 with ht1
        injection ht2 with ht2
        subst ht0 ht1 ht2
        exact ⟨(t0, t1, t2), hz0, hz1, by simpa using e0, by simpa using e1, by simpa using e2⟩
    obtain ⟨F, hF⟩ : ∃ F : Nat → Lnk, ∀ i, i < m → (F i).1.size ≤ maxLen ∧ (F i).2.1.size ≤ maxLen ∧ w.cell? (a.add (i * 3)) = some (.string (F i).1) ∧ w.cell? (a.add (i * 3 + 1)) = some (.string (F i).2.1) ∧ w.cell? (a.add (i * 3 + 2)) = some (.int .i64 (F i).2.2) := by
      refine ⟨fun i => if h : i < m then Classical.choose (each i h) else (ByteArray.empty, ByteArray.empty, 0), fun i hi => ?_⟩
      simp only [dif_pos hi]
      exact Classical.choose_spec (each i hi)
    have e1 : ((List.range len).map F).length = len := by simp
    have hg : ∀ k, k < len → gL ((List.range len).map F) k = F k := by
      intro k hk
      unfold gL
      rw [List.getD_eq_getElem?_getD, List.getElem?_map, List.getElem?_range hk]; rfl
    refine ⟨(List.range len).map F, some a, cap, by rw [e1], by rw [e1]; unfold maxLen at hm; omega, fun k hk => ?_, fun k hk => ?_⟩
    · rw [e1] at hk
      rw [hg k hk]
      have h0 := (hF k (by omega)).1
      have h1 := (hF k (by omega)).2.1
      unfold maxLen at h0 h1; omega
    · rw [e1] at hk
      have h0 := (hF 0 (by omega)).2.2.1
      have hk' := (hF k (by omega)).2.2
      have ea : a = ⟨a.block, a.off, none⟩ := by
        rw [Nat.zero_mul] at h0
        exact addr_plain (show w.cell? a = _ from h0)
      obtain ⟨hk0, hk1, hk2⟩ := hk'
      rw [ea, add_plain] at hk0 hk1 hk2
      rw [hg k hk]
      exact ⟨a.block, a.off, by rw [← ea], World.block_lt_of_cell? w ⟨a.block, a.off + k * 3, none⟩ hk0, hk0, hk1, hk2⟩
set_option maxRecDepth 100000 in
theorem openK_links {r : Reach} {b0 : Nat} {v : Value} {d : DataW H} {p : List MemPlace} (hv : Value.okWide Try.prog w r b0 54 v) (h : DataW.Trod enc Try.prog w base spare held 54 v d p) :
    ∃ x, IsLinks w v x := by
  obtain ⟨A, l, c, rfl⟩ := okWide_slice Try.underlying54 hv
  obtain ⟨n, hn⟩ := field_of_Trod h rfl
  exact open_linksA Try.underlying54 Try.underlying107 (by kernel_rfl) rfl rfl rfl (by kernel_rfl) (by kernel_rfl) (by kernel_rfl) Try.underlying9 Try.underlying9 Try.underlying3 hn
end
end Go.Proofs.Ytnfeddnkokocfaa
