/- A region that draws its order, whose operations read and whose callees make new memory alone: one walk, over all worlds that extend the one at hand. -/
import Derived.Test.YtlcanmofgjbcbaaBase
namespace Go.Proofs.Ytlcanmofgjbcbaa
set_option linter.unusedVariables false
set_option linter.unusedSimpArgs false
open Go.RowKit

/-- the worlds in which all is as it was, but for new memory -/
def Ext (W : World) := { w' : World // Below W.heap.size W w' }
instance (W : World) : Nonempty (Ext W) := ⟨⟨W, Below.refl _ _⟩⟩
theorem Ext.cell {W : World} (x : Ext W) (b o : Nat) (h : b < W.heap.size) : x.1.cell? ⟨b, o, none⟩ = W.cell? ⟨b, o, none⟩ := x.2.cell (p := ⟨b, o, none⟩) h
theorem Ext.call {W : World} {P : Program} {f : FuncId} {args : Array Value} {v : Value} (x : Ext W) (h : Calls P f args x.1 fun e w' => e = .returned v ∧ Below x.1.heap.size x.1 w') :
    Calls P f args x.1 fun e w'' => e = .returned v ∧ ∃ y : Ext W, w'' = y.1 := h.mono fun _ _ ⟨he, hb⟩ => ⟨he, ⟨_, ext_trans x.2 hb⟩, rfl⟩
theorem Ext.callv {W : World} {P : Program} {f : FuncId} {args : Array Value} {u v : Value} (x : Ext W) (h : Calls P f args x.1 fun e w' => e = .returned u ∧ Below x.1.heap.size x.1 w') (e : u = v) :
    Calls P f args x.1 fun e w'' => e = .returned v ∧ ∃ y : Ext W, w'' = y.1 := e ▸ Ext.call x h
theorem Ext.same {W : World} {P : Program} {f : FuncId} {args : Array Value} {v : Value} (x : Ext W) (h : Calls P f args x.1 fun e w' => e = .returned v ∧ x.1 = w') :
    Calls P f args x.1 fun e w'' => e = .returned v ∧ ∃ y : Ext W, w'' = y.1 := h.mono fun _ _ ⟨he, hb⟩ => ⟨he, x, hb.symm⟩
theorem wp_region_ext {P : Program} {id : Nat} {Q : Exit → Act → World → Prop} {a : Act} {w : World} {l : List Oper} (hm : P.follows .mixedOrders = true) (hB : Region.lexB .any l.toArray = true)
    (h : wpQuiet P l.toArray (fun w' => ∃ x : Ext w, w' = x.1) (fun a' => ∀ w', (∃ x : Ext w, w' = x.1) → Q .normal a' w') l a) : (Code.region id l.toArray true).wp P Q a w :=
  wp_region_quiet (C := fun w' => ∃ x : Ext w, w' = x.1) hm hB ⟨⟨_, (Below.refl _ _).drew⟩, rfl⟩ (by simpa using h)
end Go.Proofs.Ytlcanmofgjbcbaa
