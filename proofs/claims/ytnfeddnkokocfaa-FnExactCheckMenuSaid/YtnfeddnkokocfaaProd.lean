/- Plain facts: the products of the keys a key apart; repeats; rows of sheets. -/
import Derived.Test.YtnfeddnkokocfaaSpecFix
namespace Go.Proofs.Ytnfeddnkokocfaa
set_option linter.unusedVariables false
set_option linter.unusedSimpArgs false

theorem it_P {M : Mch} (s : ByteArray) (h : mB M = true) (n : Nat) : IsP (kF M (it (stepS M.l) n s)) := kF_P _ h
/-- the product of place i -/
noncomputable def prF (M : Mch) (s : ByteArray) (i : Nat) : Nat → Nat := fun x => kF M (it (stepS M.l) (i + s.size + 1) s) (kF M (it (stepS M.l) (i + 1) s) x)
theorem prF_P {M : Mch} (s : ByteArray) (h : mB M = true) (i : Nat) : IsP (prF M s i) := (kF_P _ h).comp (kF_P _ h)
/-- all products, as words -/
noncomputable def prL (M : Mch) (s : ByteArray) (n : Nat) : List ByteArray := (List.range n).map (fun i => pS (prF M s i))
theorem prL_len (M : Mch) (s : ByteArray) (n : Nat) : (prL M s n).length = n := by simp [prL]
theorem prL_at (M : Mch) (s : ByteArray) {n i : Nat} (hi : i < n) : gS (prL M s n) i = pS (prF M s i) := by
  unfold gS prL; rw [List.getD_eq_getElem?_getD, List.getElem?_map, List.getElem?_range hi]; rfl
theorem prL_succ (M : Mch) (s : ByteArray) (n : Nat) : (prL M s (n + 1)).map Value.string = (prL M s n).map Value.string ++ [.string (pS (prF M s n))] := by
  unfold prL; rw [List.range_succ, List.map_append, List.map_append]; rfl
theorem prL_small (M : Mch) (s : ByteArray) (n k : Nat) (hk : k < (prL M s n).length) : (gS (prL M s n) k).size ≤ 9223372036854775807 := by
  rw [prL_at M s (by rwa [prL_len] at hk), pS_size]; omega
/-- the permutations of no or n keys -/
noncomputable def kpR (M : Mch) (s : ByteArray) (n : Int) : List ByteArray := if (setB M s && inB n 0 60) = true then kpL M s n.toNat else []
noncomputable def prR (M : Mch) (s : ByteArray) : List ByteArray := if setB M s = true then prL M s s.size else []
theorem prR_ok {M : Mch} {s : ByteArray} (h : setB M s = true) : prR M s = prL M s s.size := if_pos h
theorem prR_no {M : Mch} {s : ByteArray} (h : setB M s = false) : prR M s = [] := if_neg (by rw [h]; simp)
theorem kpR_ok {M : Mch} {s : ByteArray} (h : setB M s = true) {n : Nat} (hn : n ≤ 60) : kpR M s n = kpL M s n := by
  unfold kpR; rw [h, inB_true (by omega) (by omega)]; rfl
theorem kpR_no {M : Mch} {s : ByteArray} {n : Int} (h : (setB M s && inB n 0 60) = false) : kpR M s n = [] := if_neg (by rw [h]; simp)
/-- there is a repeat in a place -/
noncomputable def repB (M : Mch) (s : ByteArray) (n : Int) : Bool := setB M s && (inB n 0 ((s.size : Int) - 1) && fixB (prF M s n.toNat))
theorem repB_at {M : Mch} {s : ByteArray} (h : setB M s = true) {n : Nat} (hn : n < s.size) : repB M s n = fixB (prF M s n) := by
  unfold repB; rw [h, inB_true (by omega) (by omega)]; rfl
theorem repB_no {M : Mch} {s : ByteArray} {n : Int} (h : setB M s = false) : repB M s n = false := by unfold repB; rw [h]; rfl
theorem repB_out {M : Mch} {s : ByteArray} {n : Int} (h : ¬ (0 ≤ n ∧ n < s.size)) : repB M s n = false := by unfold repB; rw [inB_false (by omega)]; simp
/-- the number of repeats below place k -/
noncomputable def cntF (M : Mch) (s : ByteArray) : Nat → Nat
  | 0 => 0
  | k + 1 => cntF M s k + (if fixB (prF M s k) = true then 1 else 0)
theorem cntF_le (M : Mch) (s : ByteArray) (k : Nat) : cntF M s k ≤ k := by
  induction k with
  | zero => exact Nat.le_refl _
  | succ k ih => unfold cntF; split <;> omega
noncomputable def cntI (M : Mch) (s : ByteArray) : Int := if setB M s = true then (cntF M s s.size : Int) else -1
theorem cntI_ok {M : Mch} {s : ByteArray} (h : setB M s = true) : cntI M s = (cntF M s s.size : Int) := if_pos h
theorem cntI_no {M : Mch} {s : ByteArray} (h : setB M s = false) : cntI M s = -1 := if_neg (by rw [h]; simp)
/-- a ground with another last letter -/
def grd (s : ByteArray) (i : Nat) : ByteArray := s ++ strOfNums [97 + (i : Int)]
theorem grd_size (s : ByteArray) (i : Nat) : (grd s i).size = s.size + 1 := by unfold grd; rw [ByteArray.size_append, strOfNums_size]; rfl
theorem grd_wv {s : ByteArray} {i : Nat} (hi : i < 10) (h : wv s = true) (hs : s.size < 200) : wv (grd s i) = true := by
  rw [wv_iff, grd_size]
  refine ⟨by omega, fun k hk => ?_⟩
  unfold grd
  rw [bt_append]
  by_cases hk2 : k < s.size
  · rw [if_pos hk2]; exact ((wv_iff s).1 h).2 k hk2
  · rw [if_neg hk2, show k - s.size = 0 by omega, bt_one (by omega) (by omega)]; omega
theorem grd_back {s : ByteArray} {i : Nat} (h : wv (grd s i) = true) : wv s = true := by
  rw [wv_iff, grd_size] at h
  rw [wv_iff]
  refine ⟨by omega, fun k hk => ?_⟩
  have := h.2 k (by omega)
  unfold grd at this
  rw [bt_append, if_pos hk] at this
  exact this
/-- the prefix of a ground fits -/
def preB (M : Mch) (s : ByteArray) : Bool := mB M && (decide (s.size + 1 = M.rg.size) && wv s)
theorem preB_iff (M : Mch) (s : ByteArray) : preB M s = true ↔ mB M = true ∧ s.size + 1 = M.rg.size ∧ wv s = true := by
  unfold preB; simp only [Bool.and_eq_true, decide_eq_true_eq]
theorem rg_small {M : Mch} (h : mB M = true) : 1 ≤ M.rg.size ∧ M.rg.size ≤ 3 := by
  obtain ⟨f1, f2, f3, f4⟩ := win_facts ((mB_iff M).1 h).1
  omega
theorem grd_set (M : Mch) (s : ByteArray) {i : Nat} (hi : i < 10) : setB M (grd s i) = preB M s := by
  rw [Bool.eq_iff_iff, setB_iff, preB_iff, grd_size]
  constructor
  · rintro ⟨a, b, c⟩; exact ⟨a, c, grd_back b⟩
  · rintro ⟨a, b, c⟩
    have := rg_small a
    exact ⟨a, grd_wv hi c (by omega), b⟩
noncomputable def rowS (M : Mch) (s : ByteArray) (n k : Nat) : ByteArray := mkS k (fun i => if fixB (prF M (grd s i) n) = true then 49 else 48)
theorem rowS_size (M : Mch) (s : ByteArray) (n k : Nat) : (rowS M s n k).size = k := mkS_size _ _
theorem rowS_bt (M : Mch) (s : ByteArray) (n : Nat) {k i : Nat} (hi : i < k) : bt (rowS M s n k) i = if fixB (prF M (grd s i) n) = true then 49 else 48 := by
  unfold rowS
  rw [bt_mkS _ _ _ hi (by split <;> omega) (by split <;> omega)]
theorem rowS_succ (M : Mch) (s : ByteArray) (n k : Nat) : rowS M s n (k + 1) = rowS M s n k ++ strOfNums [if fixB (prF M (grd s k) n) = true then 49 else 48] := mkS_succ _ _
/-- the row of a sheet -/
noncomputable def rowR (M : Mch) (s : ByteArray) (n : Int) : ByteArray := if (preB M s && inB n 0 s.size) = true then rowS M s n.toNat 10 else ByteArray.empty
theorem rowR_ok {M : Mch} {s : ByteArray} (h : preB M s = true) {n : Nat} (hn : n ≤ s.size) : rowR M s n = rowS M s n 10 := by
  unfold rowR; rw [h, inB_true (by omega) (by omega)]; rfl
theorem rowR_no {M : Mch} {s : ByteArray} {n : Int} (h : (preB M s && inB n 0 s.size) = false) : rowR M s n = ByteArray.empty := if_neg (by rw [h]; simp)
theorem rowR_size (M : Mch) (s : ByteArray) (n : Int) : (rowR M s n).size ≤ 10 := by
  unfold rowR; split
  · rw [rowS_size]; omega
  · exact Nat.zero_le _
/-- the products without the pairs -/
noncomputable def bareF (M : Mch) (s : ByteArray) (i : Nat) : Nat → Nat := fun x => turnF (thrF M (it (stepS M.l) (i + s.size + 1) s)) (pn M.rf) (turnF (thrF M (it (stepS M.l) (i + 1) s)) (pn M.rf) x)
theorem plug_facts {M : Mch} (h : mB M = true) : IsP (pn M.pl) ∧ ∀ i, i < 10 → pn M.pl (pn M.pl i) = i := by
  obtain ⟨a, b⟩ := (plugB_iff _).1 ((mB_iff M).1 h).2
  exact ⟨isP_pn a, b⟩
theorem turnT_P {M : Mch} (s : ByteArray) (h : mB M = true) : IsP (turnF (thrF M s) (pn M.rf)) := (thrF_P s h).turn (refl_facts (mB_refl h)).1
theorem prF_bare {M : Mch} (s : ByteArray) (h : mB M = true) (i : Nat) {x : Nat} (hx : x < 10) : prF M s i x = pn M.pl (bareF M s i (pn M.pl x)) := by
  obtain ⟨p, q⟩ := plug_facts h
  unfold prF bareF
  rw [kF_spec _ h hx]
  have h1 := (turnT_P (it (stepS M.l) (i + 1) s) h).1 _ (p.1 x hx)
  show kF M _ (pn M.pl (turnF (thrF M (it (stepS M.l) (i + 1) s)) (pn M.rf) (pn M.pl x))) = _
  rw [kF_spec _ h (p.1 _ h1), q _ h1]
  rfl
theorem fix_bare {M : Mch} (s : ByteArray) (h : mB M = true) (i : Nat) : fixB (prF M s i) = fixB (bareF M s i) := by
  obtain ⟨p, q⟩ := plug_facts h
  rw [Bool.eq_iff_iff, fixB_iff, fixB_iff]
  constructor
  · rintro ⟨x, hx, e⟩
    rw [prF_bare s h i hx] at e
    refine ⟨pn M.pl x, p.1 x hx, ?_⟩
    have hb : bareF M s i (pn M.pl x) < 10 := (turnT_P _ h).1 _ ((turnT_P _ h).1 _ (p.1 x hx))
    have := congrArg (pn M.pl) e
    rw [q _ hb] at this
    exact this
  · rintro ⟨y, hy, e⟩
    refine ⟨pn M.pl y, p.1 y hy, ?_⟩
    rw [prF_bare s h i (p.1 y hy), q y hy, e]
/-- a repeat is a letter that both keys make the same of -/
theorem fix_same {M : Mch} (s : ByteArray) (h : mB M = true) (i : Nat) : fixB (prF M s i) = true ↔ ∃ x, x < 10 ∧ kF M (it (stepS M.l) (i + 1) s) x = kF M (it (stepS M.l) (i + s.size + 1) s) x := by
  rw [fixB_iff]
  constructor
  · rintro ⟨x, hx, e⟩
    refine ⟨x, hx, ?_⟩
    unfold prF at e
    have h1 := (kF_P (it (stepS M.l) (i + 1) s) h).1 x hx
    have := congrArg (kF M (it (stepS M.l) (i + s.size + 1) s)) e
    rw [kF_invol _ h h1] at this
    exact this
  · rintro ⟨x, hx, e⟩
    refine ⟨x, hx, ?_⟩
    unfold prF
    rw [e, kF_invol _ h hx]
end Go.Proofs.Ytnfeddnkokocfaa
