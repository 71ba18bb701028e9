/- Contracts of DoubleIndicator and ReadDouble (impl). -/
import Derived.Test.YtnfeddnkokocfaaEnc
import Derived.Test.YtnfeddnkokocfaaKitA
namespace Go.Proofs.Ytnfeddnkokocfaa
set_option linter.unusedVariables false
set_option linter.unusedSimpArgs false
open Go.RowKit
attribute [local go_sem] Ext.cell
open BigFrame

theorem wv_app {a b : ByteArray} (ha : wv a = true) (hb : wv b = true) (hs : a.size + b.size ≤ 200) : wv (a ++ b) = true := by
  rw [wv_iff] at ha hb ⊢
  rw [ByteArray.size_append]
  refine ⟨hs, fun k hk => ?_⟩
  rw [bt_append]
  split
  · exact ha.2 k (by omega)
  · exact hb.2 _ (by omega)
theorem setB_size {M : Mch} {s : ByteArray} (h : setB M s = true) : 1 ≤ s.size ∧ s.size ≤ 3 ∧ s.size = M.rg.size ∧ wv s = true := by
  obtain ⟨a, b, c⟩ := (setB_iff M s).1 h
  obtain ⟨f1, f2, _, _⟩ := win_facts (setB_win h)
  exact ⟨f1, f2, c, b⟩
/-- what DoubleIndicator returns -/
noncomputable def dblR (M : Mch) (s t : ByteArray) : Value := if (setB M s && setB M t) = true then .tuple #[.string (encW M s (t ++ t)), .bool true] else .tuple #[.string ByteArray.empty, .bool false]
theorem dblR_ok {M : Mch} {s t : ByteArray} (h : setB M s = true) (ht : setB M t = true) : dblR M s t = .tuple #[.string (encW M s (t ++ t)), .bool true] := by unfold dblR; rw [h, ht]; rfl
theorem dblR_no {M : Mch} {s t : ByteArray} (h : (setB M s && setB M t) = false) : dblR M s t = .tuple #[.string ByteArray.empty, .bool false] := by unfold dblR; rw [h]; rfl
theorem dbl_wv {M : Mch} {t : ByteArray} (h : setB M t = true) : wv (t ++ t) = true := by
  obtain ⟨a, b, c, d⟩ := setB_size h
  exact wv_app d d (by omega)
/-- the first n letters; the others -/
def fstS (b : ByteArray) (n : Nat) : ByteArray := b.extract 0 n
def sndS (b : ByteArray) (n : Nat) : ByteArray := b.extract n b.size
theorem fstS_size (b : ByteArray) {n : Nat} (h : n ≤ b.size) : (fstS b n).size = n := by unfold fstS; rw [ByteArray.size_extract]; omega
theorem sndS_size (b : ByteArray) (n : Nat) : (sndS b n).size = b.size - n := by unfold sndS; rw [ByteArray.size_extract]; omega
theorem bt_extract (b : ByteArray) (i j k : Nat) (hk : i + k < j) (hj : j ≤ b.size) : bt (b.extract i j) k = bt b (i + k) := by
  unfold bt
  have e : (b.extract i j).data.toList = (b.data.toList.drop i).take (j - i) := by
    simp [ByteArray.data_extract, Array.toList_extract, List.extract_eq_take_drop]
  rw [e, List.getD_eq_getElem?_getD, List.getD_eq_getElem?_getD, List.getElem?_take_of_lt (by omega), List.getElem?_drop]
theorem fst_snd (b : ByteArray) {n : Nat} (h : n ≤ b.size) : fstS b n ++ sndS b n = b := by
  apply bt_ext
  · rw [ByteArray.size_append, fstS_size b h, sndS_size]; omega
  · intro k hk
    rw [ByteArray.size_append, fstS_size b h, sndS_size] at hk
    rw [bt_append, fstS_size b h]
    unfold fstS sndS
    split
    · rw [bt_extract _ _ _ _ (by omega) h, Nat.zero_add]
    · rw [bt_extract _ _ _ _ (by omega) (Nat.le_refl _)]
      congr 1; omega
theorem app_inj {a b c d : ByteArray} (hs : a.size = c.size) (h : a ++ b = c ++ d) : a = c ∧ b = d := by
  have hz : a.size + b.size = c.size + d.size := by rw [← ByteArray.size_append, h, ByteArray.size_append]
  have hb : ∀ k, bt (a ++ b) k = bt (c ++ d) k := fun k => by rw [h]
  refine ⟨bt_ext hs fun k hk => ?_, bt_ext (by omega) fun k hk => ?_⟩
  · have := hb k
    rw [bt_append, bt_append, if_pos hk, if_pos (by omega)] at this
    exact this
  · have := hb (a.size + k)
    rw [bt_append, bt_append, if_neg (by omega), if_neg (by omega)] at this
    rw [show a.size + k - a.size = k by omega, show a.size + k - c.size = k by omega] at this
    exact this
theorem half_iff (b : ByteArray) {n : Nat} (h : b.size = 2 * n) : b = fstS b n ++ fstS b n ↔ fstS b n = sndS b n := by
  have hn : n ≤ b.size := by omega
  constructor
  · intro e
    have : fstS b n ++ sndS b n = fstS b n ++ fstS b n := (fst_snd b hn).trans e
    exact (app_inj rfl this).2.symm
  · intro e
    conv => lhs; rw [← fst_snd b hn]
    rw [← e]
/-- what ReadDouble returns -/
noncomputable def rdR (M : Mch) (s t : ByteArray) : Value :=
  if ((setB M s && (wv t && decide (t.size = 2 * s.size))) && decide (fstS (encW M s t) s.size = sndS (encW M s t) s.size)) = true then .tuple #[.string (fstS (encW M s t) s.size), .bool true] else .tuple #[.string ByteArray.empty, .bool false]
theorem rdR_ok {M : Mch} {s t : ByteArray} (h : setB M s = true) (ht : wv t = true) (hz : t.size = 2 * s.size) (he : fstS (encW M s t) s.size = sndS (encW M s t) s.size) : rdR M s t = .tuple #[.string (fstS (encW M s t) s.size), .bool true] := by
  unfold rdR; rw [h, ht, decide_eq_true hz, decide_eq_true he]; rfl
theorem rdR_no {M : Mch} {s t : ByteArray} (h : ¬ (setB M s = true ∧ wv t = true ∧ t.size = 2 * s.size ∧ fstS (encW M s t) s.size = sndS (encW M s t) s.size)) : rdR M s t = .tuple #[.string ByteArray.empty, .bool false] := by
  unfold rdR
  rw [if_neg]
  simp only [Bool.and_eq_true, decide_eq_true_eq]
  rintro ⟨⟨h1, h2, h3⟩, h4⟩
  exact h ⟨h1, h2, h3, h4⟩
end Go.Proofs.Ytnfeddnkokocfaa
