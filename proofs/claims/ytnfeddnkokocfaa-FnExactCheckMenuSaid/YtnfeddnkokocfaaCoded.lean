/- The byte slices that come in, as sources of draws. -/
import Derived.Test.YtnfeddnkokocfaaDraw
namespace Go.Proofs.Ytnfeddnkokocfaa
set_option linter.unusedVariables false
set_option linter.unusedSimpArgs false
open Go.RowKit

/-- the bytes of an argument -/
def Code_ (w : World) (A : Option Addr) (n c : Nat) : Prop := n ≤ 140737488355328 ∧ n ≤ c ∧ ∀ k, k < n → ∃ b o x, A = some ⟨b, o, none⟩ ∧ b < w.heap.size ∧ w.cell? ⟨b, o + k, none⟩ = some (.int .u8 x) ∧ 0 ≤ x ∧ x ≤ 255
theorem Code_.ext {w w' : World} {A : Option Addr} {n c : Nat} (h : Code_ w A n c) (hb : Below w.heap.size w w') : Code_ w' A n c := by
  refine ⟨h.1, h.2.1, fun k hk => ?_⟩
  obtain ⟨b, o, x, e, hlt, hc, hx⟩ := h.2.2 k hk
  exact ⟨b, o, x, e, Nat.lt_of_lt_of_le hlt hb.size, (hb.cell (p := ⟨b, o + k, none⟩) hlt).trans hc, hx⟩
/-- what was there before the source is as it was -/
theorem below_of_grown {w a w' : World} {g : Nat} (hb : Below w.heap.size w a) (hg : a.grownBy w' (some g)) (hw : w.heap.size ≤ g) : Below w.heap.size w w' :=
  hb.grown hg hb.size (fun k hk => by injection hk with hk; omega)

/-- what is older than block b is kept by a store into b -/
theorem below_set {a w : World} {b j : Nat} (h : Below b a w) (u : Value) : Below b a (w.setCell ⟨b, j, none⟩ u) := h.setCell (p := ⟨b, j, none⟩) (Nat.le_refl _) u
/-- a slice of bytes that came in -/
def IsRowB (w : World) (a : Option Addr) (len cap : Nat) (zs : List Int) : Prop :=
  (a = none ∧ len = 0 ∧ cap = 0 ∧ zs = []) ∨
  ∃ x, a = some x ∧ len ≤ cap ∧ cap ≤ maxLen ∧ zs.length = cap ∧ (∀ i, i < zs.length → w.cell? (x.add i) = some (.int .u8 (zs.getD i 0))) ∧ ∀ n ∈ zs, (Lit.int .u8 n).wf = true
theorem code_of {w : World} {a : Option Addr} {len cap : Nat} {zs : List Int} (h : IsRowB w a len cap zs) (hl : len ≤ 1048576) : Code_ w a len cap := by
  rcases h with ⟨rfl, rfl, rfl, rfl⟩ | ⟨x, rfl, h1, h2, h3, h4, h5⟩
  · exact ⟨by omega, by omega, fun k hk => by omega⟩
  · refine ⟨by omega, h1, fun k hk => ?_⟩
    have h0 := h4 0 (by omega)
    have hk' := h4 k (by omega)
    obtain ⟨b, o, sp⟩ := x
    have e0 : (⟨b, o, sp⟩ : Addr).add 0 = ⟨b, o, sp⟩ := rfl
    rw [e0] at h0
    have hsp : sp = none := by
      unfold World.cell? at h0
      split at h0
      · cases sp with
        | none => rfl
        | some _ => simp at h0
      · cases h0
    subst hsp
    have e1 : (⟨b, o, none⟩ : Addr).add k = ⟨b, o + k, none⟩ := by unfold Addr.add; split <;> simp_all
    rw [e1] at hk'
    have hm : zs.getD k 0 ∈ zs := by
      rw [List.getD_eq_getElem?_getD, List.getElem?_eq_getElem (by omega)]; exact List.getElem_mem _
    have hw := h5 _ hm
    have hr := bounds_u8 hw
    exact ⟨b, o, zs.getD k 0, rfl, World.block_lt_of_cell? w _ h0, hk', hr.1, hr.2⟩
end Go.Proofs.Ytnfeddnkokocfaa
