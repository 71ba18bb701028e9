/- IdentityPerm, ConjugatePerm, rcRenamed, rcBare, rcProducts; a machine without pairs. -/
import Derived.Test.YtnfeddnkokocfaaRepFns
import Derived.Test.YtnfeddnkokocfaaDrawM
import Derived.Test.YtnfeddnkokocfaaQT
namespace Go.Proofs.Ytnfeddnkokocfaa
set_option linter.unusedVariables false
set_option linter.unusedSimpArgs false
open Go.RowKit
attribute [local go_sem] Ext.cell
open BigFrame

/-- the machine with other pairs -/
def plM (M : Mch) (p : ByteArray) : Mch := { M with pl := p }
def bareM (M : Mch) : Mch := plM M (pS (fun i => i))
theorem plugB_id : plugB (pS (fun i => i)) = true := by
  rw [plugB_iff]
  refine ⟨pS_perm IsP.id, fun i hi => ?_⟩
  rw [pn_pS IsP.id hi, pn_pS IsP.id hi]
theorem mB_pl {M : Mch} {p : ByteArray} (h : mB M = true) (hp : plugB p = true) : mB (plM M p) = true := (mB_iff _).2 ⟨((mB_iff M).1 h).1, hp⟩
theorem setB_pl {M : Mch} {p s : ByteArray} (h : mB M = true) (hp : plugB p = true) : setB (plM M p) s = setB M s := by
  unfold setB; rw [h, mB_pl h hp]; rfl
theorem fix_pl {M : Mch} {p : ByteArray} (s : ByteArray) (h : mB M = true) (hp : plugB p = true) (i : Nat) : fixB (prF (plM M p) s i) = fixB (prF M s i) := by
  rw [fix_bare s h i, fix_bare s (mB_pl h hp) i]; rfl
theorem repB_pl {M : Mch} {p : ByteArray} (s : ByteArray) (n : Int) (h : mB M = true) (hp : plugB p = true) : repB (plM M p) s n = repB M s n := by
  unfold repB; rw [setB_pl h hp, fix_pl s h hp]
theorem ren_bare {M : Mch} (s : ByteArray) (h : mB M = true) (i : Nat) : pS (fun x => pn M.pl (prF (bareM M) s i (invF (pn M.pl) x))) = pS (prF M s i) := by
  obtain ⟨p, q⟩ := plug_facts h
  refine pS_congr fun x hx => ?_
  rw [invF_invol p q hx, prF_bare s h i hx]
  show pn M.pl (prF (plM M (pS fun i => i)) s i (pn M.pl x)) = _
  rw [prF_bare s (mB_pl h plugB_id) i (p.1 x hx)]
  show pn M.pl (pn (pS fun i => i) (bareF M s i (pn (pS fun i => i) (pn M.pl x)))) = _
  rw [pn_pS IsP.id (p.1 x hx)]
  have hb : bareF M s i (pn M.pl x) < 10 := (turnT_P _ h).1 _ ((turnT_P _ h).1 _ (p.1 x hx))
  rw [pn_pS IsP.id hb]
/-- a word renamed by a permutation -/
noncomputable def renS (a p : ByteArray) : ByteArray := pS (fun x => pn p (pn a (invF (pn p) x)))
theorem renS_of {f : Nat → Nat} (hf : IsP f) {p : ByteArray} (hp : permB p = true) : renS (pS f) p = pS (fun x => pn p (f (invF (pn p) x))) :=
  pS_congr fun x hx => by rw [pn_pS hf ((isP_pn hp).inv.1 x hx)]
end Go.Proofs.Ytnfeddnkokocfaa
