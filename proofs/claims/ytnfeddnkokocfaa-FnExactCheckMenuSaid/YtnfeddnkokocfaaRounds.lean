/- What the ranges over the keys' function share: entry and return of such functions; what stays when another block is written. -/
import Derived.Test.YtnfeddnkokocfaaAsm4
import Derived.Sort.CutIn
namespace Go.Proofs.Ytnfeddnkokocfaa
set_option linter.unusedVariables false
set_option linter.unusedSimpArgs false
open Go.RowKit

theorem calls_marks {P : Program} {f : FuncId} {fn : Func} {c : Code} {args : Array Value} {w : World} {R : Ending → World → Prop} (hf : P.funcs[f]? = some fn) (hb : fn.body = some c)
    (h : c.wp P (bodyPostM Fence.wide 6 P fn R) { tmps := args ++ Array.replicate (fn.ntmps - args.size) undef, defers := [] } w) : Calls P f args w R :=
  callsIn_wide.1 (callsIn_of_wp_marks (n := 6) hf hb trivial (wpIn_wide.2 h) rfl)
theorem marks_ret {P : Program} {fn : Func} {R : Ending → World → Prop} {a : Act} {w : World} (v : Value) (hr : (results fn a.tmps).run P w = .ok v w) (hd : a.defers = []) (h : R (.returned v) w) : bodyPostM Fence.wide 6 P fn R .ret a w := by
  show LeavesInM Fence.wide 6 P fn a.tmps R a.defers .returning w
  rw [hd]
  exact ⟨v, hr, h⟩
theorem marks_ret1 {P : Program} {fn : Func} {R : Ending → World → Prop} {a : Act} {w : World} (v : Value) (D : Nat) (hd : a.defers = [{ target := .collected D, args := #[] }]) (hD : w.heap[D]? = some (.deferred (some [])))
    (hr : (results fn a.tmps).run P (w.putObj D (.deferred none)) = .ok v (w.putObj D (.deferred none))) (h : R (.returned v) (w.putObj D (.deferred none))) : bodyPostM Fence.wide 6 P fn R .ret a w := by
  show LeavesInM Fence.wide 6 P fn a.tmps R a.defers .returning w
  rw [hd]
  exact ⟨by simp, .inl ⟨_, _, rfl, run_takeDeferred hD, v, hr, h⟩⟩
theorem meet {G : Prop} {K : Act → World → Prop} (F : Nat → Nat → World → Prop) (f : Nat → Nat → Act) (h1 : (∀ x y w, F x y w → K (f x y) w) → G) (h2 : ∀ x y w, F x y w → K (f x y) w) : G := h1 h2
/-- an assembly at b, boxed at Bx, and the windows boxed behind it -/
def kReady (A : Option Addr) (cA : Nat) (M : Mch) (s : ByteArray) (W : World) (b Bx : Nat) (W' : World) : Prop :=
  kSt A cA M b Bx (Bx + 1) W' ∧ W'.cell? ⟨Bx + 1, 0, none⟩ = some (.string s) ∧ W'.frozen? ⟨Bx + 1, 0, none⟩ = false ∧ Below W.heap.size W W' ∧ W.heap.size ≤ b ∧ b < Bx ∧ W'.heap.size = Bx + 2
theorem kReady.of {A : Option Addr} {cA : Nat} {M : Mch} {s : ByteArray} {W W1 : World} {b : Nat} (hb : Below W.heap.size W W1) (hge : W.heap.size ≤ b) (hA : Asm W1 b A cA M) : kReady A cA M s W b W1.heap.size (kW W1 b s) := by
  have k1 := kW_a W1 b s
  have k2 := kW_s W1 b s
  exact ⟨⟨k1.cell 0, k1.lt, k2.lt, hA.ext (kW_below W1 b s)⟩, k2.cell 0, k2.free 0, ext_trans hb (kW_below W1 b s), hge, hA.lt, kW_size _ _ _⟩
theorem Row.grown {w w' : World} {g n r : Nat} {f : Nat → Int} (h : Row w g n f) (hg : w.grownBy w' (some r)) (hne : g ≠ r) : Row w' g n f :=
  ⟨Nat.lt_of_lt_of_le h.1 hg.size, fun i hi => ⟨(hg.cell_far ⟨g, i, none⟩ h.1 (by simpa using hne)).trans (h.2 i hi).1, (hg.frozen_far ⟨g, i, none⟩ h.1 (by simpa using hne)).trans (h.2 i hi).2⟩⟩
theorem Blk.grownR {w w' : World} {b r : Nat} {t : TypeId} {cs : Array Value} (h : Blk w b t cs) (hg : w.grownBy w' (some r)) (hne : b ≠ r) : Blk w' b t cs := h.grown hg (by simpa using hne)
theorem IsRots.grownR {w w' : World} {A : Option Addr} {n c r : Nat} {l : List Rot} (h : IsRots w (.slice A n c) l) (hg : w.grownBy w' (some r)) (hA : ∀ b o, A = some ⟨b, o, none⟩ → b ≠ r) : IsRots w' (.slice A n c) l := by
  obtain ⟨A', c', e, h1, h2, h3⟩ := h
  refine ⟨A', c', e, h1, h2, fun k hk => ?_⟩
  obtain ⟨b', o, e', hlt, hc, hd⟩ := h3 k hk
  have e1 : A = A' := by injection e
  have hb' : b' ≠ r := hA b' o (e1.trans e')
  exact ⟨b', o, e', Nat.lt_of_lt_of_le hlt hg.size, (hg.cell_far ⟨b', o + k * 2, none⟩ hlt (by simpa using hb')).trans hc, (hg.cell_far ⟨b', o + k * 2 + 1, none⟩ hlt (by simpa using hb')).trans hd⟩
theorem PermAt.grownR {w w' : World} {b o r : Nat} {f : Nat → Int} (h : PermAt w b o f) (hg : w.grownBy w' (some r)) (hne : b ≠ r) : PermAt w' b o f :=
  ⟨Nat.lt_of_lt_of_le h.1 hg.size, fun j v hv => (hg.cell_far ⟨b, o + j, none⟩ h.1 (by simpa using hne)).trans (h.2 j v hv)⟩
theorem Asm.grownR {w w' : World} {b r : Nat} {A : Option Addr} {cA : Nat} {M : Mch} (h : Asm w b A cA M) (hg : w.grownBy w' (some r)) (hne : b ≠ r) (hA : ∀ b o, A = some ⟨b, o, none⟩ → b ≠ r) : Asm w' b A cA M :=
  ⟨(hg.cell_far ⟨b, 0, none⟩ h.lt (by simpa using hne)).trans h.c0, (hg.cell_far ⟨b, 1, none⟩ h.lt (by simpa using hne)).trans h.c1, (hg.cell_far ⟨b, 2, none⟩ h.lt (by simpa using hne)).trans h.c2, (hg.cell_far ⟨b, 3, none⟩ h.lt (by simpa using hne)).trans h.c3,
    Nat.lt_of_lt_of_le h.lt hg.size, h.rot.grownR hg hA, h.pl.grownR hg hne, h.rf.grownR hg hne, fun i o hi ho => (h.tu i o hi ho).grownR hg hne⟩
theorem kSt.grownR {w w' : World} {b r Bx Bw : Nat} {A : Option Addr} {cA : Nat} {M : Mch} (h : kSt A cA M b Bx Bw w) (hg : w.grownBy w' (some r)) (hx : Bx ≠ r) (hne : b ≠ r) (hA : ∀ b o, A = some ⟨b, o, none⟩ → b ≠ r) : kSt A cA M b Bx Bw w' :=
  ⟨(hg.cell_far ⟨Bx, 0, none⟩ h.2.1 (by simpa using hx)).trans h.1, Nat.lt_of_lt_of_le h.2.1 hg.size, Nat.lt_of_lt_of_le h.2.2.1 hg.size, h.2.2.2.grownR hg hne hA⟩
theorem kSt.ext {w w' : World} {b Bx Bw : Nat} {A : Option Addr} {cA : Nat} {M : Mch} (h : kSt A cA M b Bx Bw w) (hb : Below w.heap.size w w') : kSt A cA M b Bx Bw w' :=
  ⟨(hb.cell (p := ⟨Bx, 0, none⟩) h.2.1).trans h.1, Nat.lt_of_lt_of_le h.2.1 hb.size, Nat.lt_of_lt_of_le h.2.2.1 hb.size, h.2.2.2.ext hb⟩
theorem below_grown {a w w' : World} {B r : Nat} (h : Below B a w) (hg : w.grownBy w' (some r)) (hB : B ≤ a.heap.size) (hr : B ≤ r) : Below B a w' :=
  h.grown hg (Nat.le_trans hB h.size) (fun k e => by injection e with e; omega)
theorem keeps_ext {w w' : World} (h : Below w.heap.size w w') : KeepsOthers w w' := ⟨h.size, fun b _ hb _ => (h.block b (Array.getElem?_eq_some_iff.1 hb).1).trans hb⟩
theorem grow_cell (w : World) (p : Addr) (u : Value) : w.grownBy (w.setCell p u) (some p.block) := grow_set (World.grownBy.refl _ _) (.inl rfl) u
end Go.Proofs.Ytnfeddnkokocfaa
