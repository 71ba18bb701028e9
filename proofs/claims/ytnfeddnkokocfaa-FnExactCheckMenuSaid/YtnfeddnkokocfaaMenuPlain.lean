/- Plain facts: what CheckMenu tells. -/
import Derived.Test.YtnfeddnkokocfaaLinks4
namespace Go.Proofs.Ytnfeddnkokocfaa
set_option linter.unusedVariables false
set_option linter.unusedSimpArgs false

/-- the permutation of the key of link i -/
noncomputable def mkF (M : Mch) (s : ByteArray) (l : List Lnk) (i : Nat) : Nat → Nat := kF M (it (stepS M.l) (gL l i).2.2.toNat s)
/-- link i is kept -/
noncomputable def keptB (M : Mch) (s : ByteArray) (l : List Lnk) (i : Nat) : Bool := decide (mkF M s l i (dn (gL l i).1 0) = dn (gL l i).2.1 0)
/-- what CheckMenu returns -/
noncomputable def chkB (M : Mch) (s : ByteArray) (l : List Lnk) : Bool := (setB M s && menuB l) && allB l.length (keptB M s l)
theorem chkB_no {M : Mch} {s : ByteArray} {l : List Lnk} (h : (setB M s && menuB l) = false) : chkB M s l = false := by unfold chkB; rw [h]; rfl
theorem chkB_ok {M : Mch} {s : ByteArray} {l : List Lnk} (h : setB M s = true) (hm : menuB l = true) : chkB M s l = allB l.length (keptB M s l) := by unfold chkB; rw [h, hm]; rfl
theorem wv_left {a b : ByteArray} (h : wv (a ++ b) = true) : wv a = true := by
  rw [wv_iff, ByteArray.size_append] at h
  rw [wv_iff]
  refine ⟨by omega, fun k hk => ?_⟩
  have := h.2 k (by omega)
  rwa [bt_append, if_pos hk] at this
theorem wv_right {a b : ByteArray} (h : wv (a ++ b) = true) : wv b = true := by
  rw [wv_iff, ByteArray.size_append] at h
  rw [wv_iff]
  refine ⟨by omega, fun k hk => ?_⟩
  have := h.2 (k + a.size) (by omega)
  rwa [bt_append, if_neg (by omega), show k + a.size - a.size = k by omega] at this
theorem link_letters {l : List Lnk} (h : menuB l = true) {k : Nat} (hk : k < l.length) : (wv (gL l k).1 = true ∧ (gL l k).1.size = 1) ∧ wv (gL l k).2.1 = true ∧ (gL l k).2.1.size = 1 := by
  obtain ⟨h1, h2, h3, _⟩ := (linkB_iff _ _).1 ((menuB_facts h).2.2 k hk)
  exact ⟨⟨wv_left h3, h1⟩, wv_right h3, h2⟩
theorem mkF_P {M : Mch} (s : ByteArray) (l : List Lnk) (h : mB M = true) (i : Nat) : IsP (mkF M s l i) := kF_P _ h
theorem kF_bareM {M : Mch} (s : ByteArray) (h : mB M = true) {z : Nat} (hz : z < 10) : kF (bareM M) s z = turnF (thrF M s) (pn M.rf) z := by
  show kF (plM M (pS fun i => i)) s z = _
  rw [kF_spec s (mB_pl h plugB_id) hz]
  show pn (pS fun i => i) (turnF (thrF M s) (pn M.rf) (pn (pS fun i => i) z)) = _
  rw [pn_pS IsP.id hz, pn_pS IsP.id ((turnT_P s h).1 _ hz)]
/-- with the letters renamed by the pairs, the bare permutation tells the same -/
theorem kept_bare {M : Mch} (s : ByteArray) (h : mB M = true) {x y : Nat} (hx : x < 10) (hy : y < 10) : kF (bareM M) s (pn M.pl x) = pn M.pl y ↔ kF M s x = y := by
  obtain ⟨p, q⟩ := plug_facts h
  rw [kF_bareM s h (p.1 x hx), kF_spec s h hx]
  show turnF (thrF M s) (pn M.rf) (pn M.pl x) = pn M.pl y ↔ pn M.pl (turnF (thrF M s) (pn M.rf) (pn M.pl x)) = y
  have hb := (turnT_P s h).1 _ (p.1 x hx)
  constructor
  · intro e; rw [e, q y hy]
  · intro e; rw [← e, q _ hb]
theorem bare_P {M : Mch} (s : ByteArray) (l : List Lnk) (h : mB M = true) (i : Nat) : IsP (kF (bareM M) (it (stepS M.l) (gL l i).2.2.toNat s)) := kF_P _ (mB_pl h plugB_id)
theorem bar_perm {M : Mch} (s : ByteArray) (l : List Lnk) (h : mB M = true) (i : Nat) : permB (barF M s l i) = true := pS_perm (bare_P s l h i)
theorem bar_pn {M : Mch} (s : ByteArray) (l : List Lnk) (h : mB M = true) (i : Nat) {x : Nat} (hx : x < 10) : pn (barF M s l i) x = kF (bareM M) (it (stepS M.l) (gL l i).2.2.toNat s) x := pn_pS (bare_P s l h i) hx
theorem barL_at (M : Mch) (s : ByteArray) (l : List Lnk) {n i : Nat} (hi : i < n) : gS (barL M s l n) i = barF M s l i := by
  unfold gS barL; rw [List.getD_eq_getElem?_getD, List.getElem?_map, List.getElem?_range hi]; rfl
/-- the reference's question at link i -/
theorem keptB_spec {M : Mch} {s : ByteArray} {l : List Lnk} (h : mB M = true) {i : Nat} (hx : dn (gL l i).1 0 < 10) (hy : dn (gL l i).2.1 0 < 10) : pn (barF M s l i) (pn M.pl (dn (gL l i).1 0)) = pn M.pl (dn (gL l i).2.1 0) ↔ keptB M s l i = true := by
  rw [bar_pn s l h i ((plug_facts h).1.1 _ hx), kept_bare _ h hx hy]
  unfold keptB mkF
  rw [decide_eq_true_eq]
/-- the number of keys that the links need -/
theorem menu_lt {l : List Lnk} (h : menuB l = true) {i j : Nat} (hij : i < j) (hj : j < l.length) : (gL l i).2.2 < (gL l j).2.2 := by
  have a := menu_mono h (i := i + 1) (j := j) (by omega) hj
  have b := menu_step h (k := i) (by omega)
  omega
end Go.Proofs.Ytnfeddnkokocfaa
