/- Slices of permutations (ten cells each) that a call makes itself. -/
import Derived.Test.YtnfeddnkokocfaaKeyList
namespace Go.Proofs.Ytnfeddnkokocfaa
set_option linter.unusedVariables false
set_option linter.unusedSimpArgs false
open Go.RowKit

/-- cell j of a row of permutations -/
def cellP (f : Nat → Nat → Nat) (j : Nat) : Value := .int .u8 (f (j / 10) (j % 10) : Int)
/-- n permutations, as cells -/
def rowP (f : Nat → Nat → Nat) (n : Nat) : List Value := rngV (cellP f) (n * 10)
theorem rowP_congr {f g : Nat → Nat → Nat} {n : Nat} (h : ∀ i, i < n → ∀ x, x < 10 → f i x = g i x) : rowP f n = rowP g n :=
  rngV_congr fun j hj => by unfold cellP; rw [h _ (by omega) _ (by omega)]
theorem rowP_succ (f : Nat → Nat → Nat) (n : Nat) : rowP f (n + 1) = rowP f n ++ (permA fun x => (f n x : Int)).toList := by
  unfold rowP rngV permA
  rw [Nat.add_mul, Nat.one_mul, List.range_add, List.map_append]
  congr 1
  rw [List.map_map]
  show List.map (cellP f ∘ fun x => n * 10 + x) (List.range 10) = List.map (fun i => Value.int IntKind.u8 ((f n i : Nat) : Int)) (List.range 10)
  refine List.map_congr_left fun x hx => ?_
  have hx10 := List.mem_range.1 hx
  show cellP f (n * 10 + x) = _
  unfold cellP
  rw [show (n * 10 + x) / 10 = n by omega, show (n * 10 + x) % 10 = x by omega]
theorem rowP_zero (f : Nat → Nat → Nat) : rowP f 0 = [] := rfl
theorem permA_list (f : Nat → Int) : (permA f).toList.length = 10 := by simp [permA]
theorem permA_cell {f : Nat → Int} {j : Nat} {u : Value} (h : (permA f).toList[j]? = some u) : j < 10 ∧ u = .int .u8 (f j) := by
  have hj : j < 10 := by have := (List.getElem?_eq_some_iff.1 h).1; rwa [permA_list] at this
  refine ⟨hj, ?_⟩
  have := permA_at f hj
  rw [← Array.getElem?_toList, h] at this
  injection this
theorem permA_ones (f : Nat → Int) : ∀ u ∈ (permA f).toList, u.oneCell' = true := by
  intro u hu
  unfold permA at hu
  obtain ⟨i, _, rfl⟩ := List.mem_map.1 hu
  rfl
/-- v is a slice of n permutations -/
def IsPs (w : World) (v : Value) (n : Nat) (f : Nat → Nat → Nat) : Prop := ∃ A c, v = .slice A n c ∧ n ≤ 1000000 ∧ ∀ k, k < n → ∃ g, A = some ⟨g, 0, none⟩ ∧ PermAt w g (k * 10) (fun x => (f k x : Int))
theorem IsPs.ext {w w' : World} {v : Value} {n : Nat} {f : Nat → Nat → Nat} (h : IsPs w v n f) (hb : Below w.heap.size w w') : IsPs w' v n f := by
  obtain ⟨A, c, rfl, h1, h2⟩ := h
  exact ⟨A, c, rfl, h1, fun k hk => by obtain ⟨g, e, hp⟩ := h2 k hk; exact ⟨g, e, hp.ext hb⟩⟩
theorem IsPs.form {w : World} {v : Value} {n : Nat} {f : Nat → Nat → Nat} (h : IsPs w v n f) : ∃ A c, v = .slice A n c := by
  obtain ⟨A, c, rfl, h1, h2⟩ := h; exact ⟨A, c, rfl⟩
theorem IsPs.at_ {w : World} {A : Option Addr} {n n' c : Nat} {f : Nat → Nat → Nat} (h : IsPs w (.slice A n' c) n f) {k : Nat} (hk : k < n) : ∃ g, A = some ⟨g, 0, none⟩ ∧ g < w.heap.size ∧ PermAt w g (k * 10) (fun x => (f k x : Int)) := by
  obtain ⟨A', c', e, h1, h2⟩ := h
  injection e with e1 e2 e3
  subst e1
  obtain ⟨g, e, hp⟩ := h2 k hk
  exact ⟨g, e, hp.1, hp⟩
theorem ownP_is {w : World} {B n : Nat} {v : Value} {f : Nat → Nat → Nat} (h : w.ownsRow B 85 10 v n (rowP f n)) (hn : n ≤ 1000000) : IsPs w v n f := by
  rcases h.2 with ⟨rfl, rfl⟩ | ⟨g, cap, cur, rfl, hb, hg, _⟩
  · exact ⟨none, 0, rfl, hn, fun k hk => by omega⟩
  · refine ⟨_, cap, rfl, hn, fun k hk => ⟨g, rfl, (Array.getElem?_eq_some_iff.1 hg).1, fun j v hv => ?_⟩⟩
    have hj : j < 10 := by have := (List.getElem?_eq_some_iff.1 hv).1; simpa using this
    rw [World.ownsRow.cellAt h (k * 10 + j) (by omega)]
    unfold rowP
    rw [rngV_at _ (by omega)]
    rw [List.getElem?_map, List.getElem?_range hj] at hv
    rw [← hv]
    unfold cellP
    rw [show (k * 10 + j) / 10 = k by omega, show (k * 10 + j) % 10 = j by omega]
    rfl
end Go.Proofs.Ytnfeddnkokocfaa
