/- LawMach, LawMach2, in one text. -/
import Derived.Test.YtnfeddnkokocfaaLawSteps
import Derived.Test.YtnfeddnkokocfaaDrawM
import Derived.Test.YtnfeddnkokocfaaSpecMach3
import Derived.Test.YtnfeddnkokocfaaSpecKeys
namespace Go.Proofs.Ytnfeddnkokocfaa
set_option linter.unusedVariables false
set_option linter.unusedSimpArgs false
/-! LawMach -/
section
open Go.RowKit
attribute [local go_sem] Ext.cell
open BigFrame

noncomputable def encT (M : Mch) (s t : ByteArray) : ByteArray := if (setB M s && wv t) = true then encW M s t else ByteArray.empty
noncomputable def encE (M : Mch) (s t : ByteArray) : ByteArray := if (setB M s && wv t) = true then it (stepS M.l) t.size s else ByteArray.empty
theorem encR_form (M : Mch) (s t : ByteArray) : encR M s t = .tuple #[.string (encT M s t), .string (encE M s t), .bool (setB M s && wv t)] := by
  unfold encR encT encE; cases (setB M s && wv t) <;> rfl
theorem encT_ok {M : Mch} {s t : ByteArray} (h : setB M s = true) (ht : wv t = true) : encT M s t = encW M s t := by unfold encT; rw [h, ht]; rfl
theorem encT_size (M : Mch) (s t : ByteArray) : (encT M s t).size ≤ t.size := by
  unfold encT; split
  · rw [encW_size]; exact Nat.le_refl _
  · exact Nat.zero_le _
theorem encR_cases (M : Mch) (s t : ByteArray) : ((setB M s && wv t) = false ∧ encR M s t = .tuple #[.string ByteArray.empty, .string ByteArray.empty, .bool false]) ∨ (setB M s = true ∧ wv t = true ∧ encR M s t = .tuple #[.string (encW M s t), .string (it (stepS M.l) t.size s), .bool true]) := by
  cases h : (setB M s && wv t)
  · exact .inl ⟨rfl, encR_no h⟩
  · rw [Bool.and_eq_true] at h
    exact .inr ⟨h.1, h.2, encR_ok h.1 h.2⟩
/-- a letter of what is enciphered further on -/
theorem dn_extract {t : ByteArray} {a b i : Nat} (hb : b ≤ t.size) (hi : i < b - a) : dn (t.extract a b) i = dn t (a + i) := by
  unfold dn; rw [x1bt t hb hi]
theorem encW_parts (M : Mch) (s t : ByteArray) (h : mB M = true) (ht : wv t = true) {k : Nat} (hk : k ≤ t.size) :
    encW M s (t.extract 0 k) ++ encW M (it (stepS M.l) k s) (t.extract k t.size) = encW M s t := by
  have z1 := x1size t (a := 0) (b := k) hk
  have z2 := x1size t (a := k) (b := t.size) (Nat.le_refl _)
  have v1 := x1wv ht 0 k hk
  have v2 := x1wv ht k t.size (Nat.le_refl _)
  apply bt_ext (by rw [ByteArray.size_append, encW_size, encW_size, encW_size, z1, z2]; omega)
  intro i hi
  rw [ByteArray.size_append, encW_size, encW_size, z1, z2] at hi
  rw [(encW_bt h ht (by omega)).1]
  by_cases hik : i < k
  · rw [bt_append, if_pos (by rw [encW_size, z1]; omega), (encW_bt h v1 (by rw [z1]; omega)).1, dn_extract hk (by omega), Nat.zero_add]
  · rw [bt_append, if_neg (by rw [encW_size, z1]; omega), encW_size, z1, show i - (k - 0) = i - k by omega, (encW_bt h v2 (by rw [z2]; omega)).1, dn_extract (Nat.le_refl _) (by omega), show k + (i - k) = i by omega, ← it_add, show i - k + 1 + k = i + 1 by omega]
end
/-! LawMach2 -/
section
open Go.RowKit
attribute [local go_sem] Ext.cell
open BigFrame

theorem setB_winB {M : Mch} (h : mB M = true) (s : ByteArray) : winB M.l M.rf s = setB M s := by
  have h1 := ((mB_iff M).1 h).1
  rw [Bool.eq_iff_iff, setB_iff, winB_iff]
  rw [winB_iff] at h1
  constructor
  · rintro ⟨a, b, c⟩; exact ⟨h, b, c.trans h1.2.2.symm⟩
  · rintro ⟨a, b, c⟩; exact ⟨h1.1, b, c.trans h1.2.2⟩
theorem fst_app (a b : ByteArray) : fstS (a ++ b) a.size = a := by
  have h : a.size ≤ (a ++ b).size := by rw [ByteArray.size_append]; omega
  exact (app_inj (fstS_size _ h) (fst_snd (a ++ b) h)).1
theorem snd_app (a b : ByteArray) : sndS (a ++ b) a.size = b := by
  have h : a.size ≤ (a ++ b).size := by rw [ByteArray.size_append]; omega
  exact (app_inj (fstS_size _ h) (fst_snd (a ++ b) h)).2
theorem dbl_back {M : Mch} {s t : ByteArray} (h : setB M s = true) (ht : setB M t = true) : rdR M s (encW M s (t ++ t)) = .tuple #[.string t, .bool true] := by
  have hb := ((setB_iff _ _).1 h).1
  have hv := dbl_wv ht
  have hz : s.size = t.size := (setB_size h).2.2.1.trans (setB_size ht).2.2.1.symm
  have e := encW_twice (s := s) hb hv
  rw [rdR_ok h (encW_wv hb hv) (by rw [encW_size, ByteArray.size_append]; omega) (by rw [e, hz, fst_app, snd_app]), e, hz, fst_app]
theorem dblR_cases (M : Mch) (s t : ByteArray) : ((setB M s && setB M t) = false ∧ dblR M s t = .tuple #[.string ByteArray.empty, .bool false]) ∨ (setB M s = true ∧ setB M t = true ∧ dblR M s t = .tuple #[.string (encW M s (t ++ t)), .bool true]) := by
  cases h : (setB M s && setB M t)
  · exact .inl ⟨rfl, dblR_no h⟩
  · rw [Bool.and_eq_true] at h
    exact .inr ⟨h.1, h.2, dblR_ok h.1 h.2⟩
end
end Go.Proofs.Ytnfeddnkokocfaa
