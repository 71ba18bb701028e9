/- rcFits, rcText; what the key laws say. -/
import Derived.Test.YtnjmjgnmbjbfpaaGreatLawMach
namespace Go.Proofs.YtnjmjgnmbjbfpaaGreat
set_option linter.unusedVariables false
set_option linter.unusedSimpArgs false
open Go.RowKit
attribute [local go_sem] Ext.cell
open BigFrame

theorem setB_winB {M : Mch} (h : mB M = true) (s : ByteArray) : winB M.l M.rf s = setB M s := by
  have h1 := ((mB_iff M).1 h).1
  rw [Bool.eq_iff_iff, setB_iff, winB_iff]
  rw [winB_iff] at h1
  constructor
  · rintro ⟨a, b, c⟩; exact ⟨h, b, c.trans h1.2.2.symm⟩
  · rintro ⟨a, b, c⟩; exact ⟨h1.1, b, c.trans h1.2.2⟩
theorem c_rcText (A : Option Addr) (cA : Nat) (M : Mch) (s t : ByteArray) (w : World) (hR : IsRots w (.slice A M.l.length cA) M.l) (hz : MSz M) (hs : s.size ≤ 9223372036854775807) (ht : t.size ≤ 9223372036854775807) : Calls Tryz.prog 14 #[mV A cA M, .string s, .string t] w fun e w' => e = .returned (.string (encT M s t)) ∧ Below w.heap.size w w' := by
  have L0 := Lib.hid (MW.start M (Below.refl _ _) hR)
  have HZ := Lib.hid hz
  clear hR hz
  go_enter Tryz.func14, Tryz.ntmps14
  go_wp2_with fail
  refine (c_Encipher A cA M s t _ L0.out.rot HZ.out hs ht).mono ?_
  rintro e w1 ⟨rfl, hb1⟩
  have L1 := Lib.hid (L0.out.ext hb1)
  clear hb1
  rw [encR_form]
  go_wp2_with fail
  go_ret
  exact ⟨rfl, L1.out.bel⟩
theorem fst_app (a b : ByteArray) : fstS (a ++ b) a.size = a := by
  have h : a.size ≤ (a ++ b).size := by rw [ByteArray.size_append]; omega
  exact (app_inj (fstS_size _ h) (fst_snd (a ++ b) h)).1
theorem snd_app (a b : ByteArray) : sndS (a ++ b) a.size = b := by
  have h : a.size ≤ (a ++ b).size := by rw [ByteArray.size_append]; omega
  exact (app_inj (fstS_size _ h) (fst_snd (a ++ b) h)).2
theorem dbl_back {M : Mch} {s t : ByteArray} (h : setB M s = true) (ht : setB M t = true) : rdR M s (encW M s (t ++ t)) = .tuple #[.string t, .bool true] := by
  have hb := ((setB_iff _ _).1 h).1
  have hv := dbl_wv ht
  have hz : s.size = t.size := (setB_size h).2.2.1.trans (setB_size ht).2.2.1.symm
  have e := encW_twice (s := s) hb hv
  rw [rdR_ok h (encW_wv hb hv) (by rw [encW_size, ByteArray.size_append]; omega) (by rw [e, hz, fst_app, snd_app]), e, hz, fst_app]
theorem dblR_cases (M : Mch) (s t : ByteArray) : ((setB M s && setB M t) = false ∧ dblR M s t = .tuple #[.string ByteArray.empty, .bool false]) ∨ (setB M s = true ∧ setB M t = true ∧ dblR M s t = .tuple #[.string (encW M s (t ++ t)), .bool true]) := by
  cases h : (setB M s && setB M t)
  · exact .inl ⟨rfl, dblR_no h⟩
  · rw [Bool.and_eq_true] at h
    exact .inr ⟨h.1, h.2, dblR_ok h.1 h.2⟩
end Go.Proofs.YtnjmjgnmbjbfpaaGreat
