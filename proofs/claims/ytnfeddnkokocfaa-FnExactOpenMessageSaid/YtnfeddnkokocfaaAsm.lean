/- The assembly: one block of 324 cells; contract of newAssembly. -/
import Derived.Test.YtnfeddnkokocfaaMachOff
import Derived.Test.YtnfeddnkokocfaaRefl
namespace Go.Proofs.Ytnfeddnkokocfaa
set_option linter.unusedVariables false
set_option linter.unusedSimpArgs false
open Go.RowKit
attribute [local go_sem] Ext.cell
open BigFrame

/-- block b has n cells, given by f, which may be written -/
def Fn (w : World) (b n : Nat) (t : TypeId) (f : Nat → Value) : Prop := ∃ cs : Array Value, Blk w b t cs ∧ cs.size = n ∧ ∀ j, j < n → cs[j]? = some (f j)
theorem Fn.lt {w : World} {b n : Nat} {t : TypeId} {f : Nat → Value} (h : Fn w b n t f) : b < w.heap.size := by obtain ⟨cs, h1, _⟩ := h; exact h1.lt
theorem Fn.cell {w : World} {b n : Nat} {t : TypeId} {f : Nat → Value} (h : Fn w b n t f) {j : Nat} (hj : j < n) : w.cell? ⟨b, j, none⟩ = some (f j) := by
  obtain ⟨cs, h1, h2, h3⟩ := h; rw [h1.cell]; exact h3 j hj
theorem Fn.free {w : World} {b n : Nat} {t : TypeId} {f : Nat → Value} (h : Fn w b n t f) (j : Nat) : w.frozen? ⟨b, j, none⟩ = false := by
  obtain ⟨cs, h1, _⟩ := h; exact h1.free j
theorem Fn.ext {w w' : World} {b n : Nat} {t : TypeId} {f : Nat → Value} (h : Fn w b n t f) (hb : Below w.heap.size w w') : Fn w' b n t f := by
  obtain ⟨cs, h1, h2, h3⟩ := h; exact ⟨cs, h1.ext hb, h2, h3⟩
theorem Fn.set {w : World} {b n : Nat} {t : TypeId} {f : Nat → Value} (h : Fn w b n t f) (i : Nat) (u : Value) : Fn (w.setCell ⟨b, i, none⟩ u) b n t (fun j => if j = i then u else f j) := by
  obtain ⟨cs, h1, h2, h3⟩ := h
  refine ⟨_, h1.set i u, by rw [Array.size_setIfInBounds]; exact h2, fun j hj => ?_⟩
  show _ = some (if j = i then u else f j)
  rw [Array.getElem?_setIfInBounds]
  by_cases e : i = j
  · subst e; rw [if_pos rfl, if_pos (by omega), if_pos rfl]
  · rw [if_neg e, if_neg (fun q : j = i => e q.symm)]; exact h3 j hj
theorem Fn.congr {w : World} {b n : Nat} {t : TypeId} {f g : Nat → Value} (h : Fn w b n t f) (e : ∀ j, j < n → f j = g j) : Fn w b n t g := by
  obtain ⟨cs, h1, h2, h3⟩ := h; exact ⟨cs, h1, h2, fun j hj => by rw [← e j hj]; exact h3 j hj⟩
/-- a run of cells laid over others -/
def ovr (f : Nat → Value) (o : Nat) (vs : List Value) (j : Nat) : Value := if o ≤ j ∧ j < o + vs.length then vs.getD (j - o) (.bool false) else f j
theorem Fn.setCells {b n : Nat} {t : TypeId} : ∀ (vs : List Value) (o : Nat) {w : World} {f : Nat → Value}, Fn w b n t f → Fn (w.setCells b o vs) b n t (ovr f o vs) := by
  intro vs
  induction vs with
  | nil => intro o w f h; exact h.congr (fun j _ => by unfold ovr; rw [if_neg (by simp only [List.length_nil]; omega)])
  | cons v vs ih =>
    intro o w f h
    refine (ih (o + 1) (h.set o v)).congr (fun j _ => ?_)
    unfold ovr
    simp only [List.length_cons]
    by_cases e : j = o
    · subst e
      rw [if_neg (by omega), if_pos rfl, if_pos (by omega), Nat.sub_self]
      rfl
    · by_cases e2 : o + 1 ≤ j ∧ j < o + 1 + vs.length
      · rw [if_pos e2, if_pos (by omega), show j - o = (j - (o + 1)) + 1 by omega]
        rfl
      · rw [if_neg e2, if_neg e, if_neg (by omega)]
theorem Fn.there {w : World} {b n : Nat} {t : TypeId} {f : Nat → Value} (h : Fn w b n t f) {o k : Nat} (hk : o + k ≤ n) : w.there b o k := fun j hj => ⟨by rw [h.cell (by omega)]; rfl, h.free _⟩
theorem Fn.permAt {w : World} {b n : Nat} {t : TypeId} {f : Nat → Value} (h : Fn w b n t f) {o : Nat} {g : Nat → Int} (ho : o + 10 ≤ n) (hg : ∀ x, x < 10 → f (o + x) = .int .u8 (g x)) : PermAt w b o g := by
  refine ⟨h.lt, fun j v hv => ?_⟩
  have hj : j < 10 := by have := (List.getElem?_eq_some_iff.1 hv).1; simpa using this
  rw [h.cell (by omega), hg j hj]
  rw [List.getElem?_map, List.getElem?_range hj] at hv
  exact hv
theorem ovr_in (f : Nat → Value) (o : Nat) (g : Nat → Int) {x : Nat} (hx : x < 10) : ovr f o (permA g).toList (o + x) = .int .u8 (g x) := by
  unfold ovr permA
  simp only [List.length_map, List.length_range]
  rw [if_pos (by omega), Nat.add_sub_cancel_left, List.getD_eq_getElem?_getD, List.getElem?_map, List.getElem?_range hx]
  rfl
theorem ovr_out (f : Nat → Value) (o : Nat) (g : Nat → Int) {j : Nat} (hj : j < o ∨ o + 10 ≤ j) : ovr f o (permA g).toList j = f j := by
  unfold ovr permA
  simp only [List.length_map, List.length_range]
  rw [if_neg (by omega)]
theorem setCells_below {a w : World} {B b : Nat} (hb : B ≤ b) : ∀ (vs : List Value) (o : Nat) {w : World}, Below B a w → Below B a (w.setCells b o vs) := by
  intro vs
  induction vs with
  | nil => intro o w h; exact h
  | cons v vs ih => intro o w h; exact ih (o + 1) (h.setCell (p := ⟨b, o, none⟩) hb v)

/-- the cells of an assembly, the rotors below i (and rotor i below o) turned -/
def AsmF (A : Option Addr) (cA : Nat) (M : Mch) (i o : Nat) (f : Nat → Value) : Prop :=
  f 0 = .slice A M.l.length cA ∧ f 1 = .string M.rf ∧ f 2 = .string M.rg ∧ f 3 = .string M.pl ∧ (∀ x, x < 10 → f (4 + x) = .int .u8 (pn M.pl x : Int)) ∧ (∀ x, x < 10 → f (14 + x) = .int .u8 (pn M.rf x : Int)) ∧
  ∀ i' o' x, (i' < i ∨ i' = i ∧ o' < o) → i' < 3 → o' < 10 → x < 10 → f (24 + i' * 100 + o' * 10 + x) = .int .u8 (rotF (gR M.l i').1 o' x : Int)
/-- the assembly of a machine lies in block b -/
structure Asm (w : World) (b : Nat) (A : Option Addr) (cA : Nat) (M : Mch) : Prop where
  c0 : w.cell? ⟨b, 0, none⟩ = some (.slice A M.l.length cA)
  c1 : w.cell? ⟨b, 1, none⟩ = some (.string M.rf)
  c2 : w.cell? ⟨b, 2, none⟩ = some (.string M.rg)
  c3 : w.cell? ⟨b, 3, none⟩ = some (.string M.pl)
  lt : b < w.heap.size
  rot : IsRots w (.slice A M.l.length cA) M.l
  pl : PermAt w b 4 (fun x => (pn M.pl x : Int))
  rf : PermAt w b 14 (fun x => (pn M.rf x : Int))
  tu : ∀ i o, i < M.l.length → o < 10 → PermAt w b (24 + i * 100 + o * 10) (fun x => (rotF (gR M.l i).1 o x : Int))
theorem Asm.ext {w w' : World} {b : Nat} {A : Option Addr} {cA : Nat} {M : Mch} (h : Asm w b A cA M) (hb : Below w.heap.size w w') : Asm w' b A cA M :=
  ⟨(hb.cell (p := ⟨b, 0, none⟩) h.lt).trans h.c0, (hb.cell (p := ⟨b, 1, none⟩) h.lt).trans h.c1, (hb.cell (p := ⟨b, 2, none⟩) h.lt).trans h.c2, (hb.cell (p := ⟨b, 3, none⟩) h.lt).trans h.c3, Nat.lt_of_lt_of_le h.lt hb.size, h.rot.ext hb, h.pl.ext hb, h.rf.ext hb, fun i o hi ho => (h.tu i o hi ho).ext hb⟩
theorem Asm.of {w : World} {b : Nat} {t : TypeId} {A : Option Addr} {cA : Nat} {M : Mch} {f : Nat → Value} (h : Fn w b 324 t f) (hf : AsmF A cA M M.l.length 0 f) (hl : M.l.length ≤ 3) (hR : IsRots w (.slice A M.l.length cA) M.l) : Asm w b A cA M := by
  obtain ⟨a0, a1, a2, a3, a4, a5, a6⟩ := hf
  exact ⟨by rw [h.cell (by omega), a0], by rw [h.cell (by omega), a1], by rw [h.cell (by omega), a2], by rw [h.cell (by omega), a3], h.lt, hR, h.permAt (by omega) a4, h.permAt (by omega) a5,
    fun i o hi ho => h.permAt (by omega) (fun x hx => a6 i o x (.inl hi) (by omega) ho hx)⟩
theorem AsmF.step {A : Option Addr} {cA : Nat} {M : Mch} {i o : Nat} {f : Nat → Value} (h : AsmF A cA M i o f) (hi : i < 3) (ho : o < 10) : AsmF A cA M i (o + 1) (ovr f (24 + i * 100 + o * 10) (permA fun x => (rotF (gR M.l i).1 o x : Int)).toList) := by
  obtain ⟨a0, a1, a2, a3, a4, a5, a6⟩ := h
  refine ⟨by rw [ovr_out _ _ _ (by omega), a0], by rw [ovr_out _ _ _ (by omega), a1], by rw [ovr_out _ _ _ (by omega), a2], by rw [ovr_out _ _ _ (by omega), a3], fun x hx => by rw [ovr_out _ _ _ (by omega), a4 x hx], fun x hx => by rw [ovr_out _ _ _ (by omega), a5 x hx], fun i' o' x hio h3 h10 hx => ?_⟩
  by_cases e : i' = i ∧ o' = o
  · obtain ⟨rfl, rfl⟩ := e
    exact ovr_in _ _ _ hx
  · rw [ovr_out _ _ _ (by omega)]
    exact a6 i' o' x (by omega) h3 h10 hx
theorem AsmF.next {A : Option Addr} {cA : Nat} {M : Mch} {i : Nat} {f : Nat → Value} (h : AsmF A cA M i 10 f) : AsmF A cA M (i + 1) 0 f := by
  obtain ⟨a0, a1, a2, a3, a4, a5, a6⟩ := h
  exact ⟨a0, a1, a2, a3, a4, a5, fun i' o' x hio h3 h10 hx => a6 i' o' x (by omega) h3 h10 hx⟩
/-- the cells of a new assembly -/
def asm0 (v0 v1 v2 v3 : Value) (j : Nat) : Value := match j with | 0 => v0 | 1 => v1 | 2 => v2 | 3 => v3 | _ => .int .u8 0
end Go.Proofs.Ytnfeddnkokocfaa
