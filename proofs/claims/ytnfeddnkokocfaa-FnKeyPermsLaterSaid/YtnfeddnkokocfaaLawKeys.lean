/- rcTexts, KeyPerm, rcKey; parts of a list of words. -/
import Derived.Test.YtnfeddnkokocfaaKeyPermsFn
import Derived.Test.YtnfeddnkokocfaaSpecRep
namespace Go.Proofs.Ytnfeddnkokocfaa
set_option linter.unusedVariables false
set_option linter.unusedSimpArgs false
open Go.RowKit
attribute [local go_sem] Ext.cell
open BigFrame

theorem kpL_drop (M : Mch) (s : ByteArray) (N k : Nat) : (kpL M s N).drop k = kpL M (it (stepS M.l) k s) (N - k) := by
  apply List.ext_getElem
  · simp [kpL]
  · intro i h1 h2
    simp only [kpL, List.getElem_drop, List.getElem_map, List.getElem_range]
    rw [← it_add, show k + i + 1 = i + 1 + k by omega]
theorem kpL_take (M : Mch) (s : ByteArray) (N k : Nat) (hk : k ≤ N) : (kpL M s N).take k = kpL M s k := by
  apply List.ext_getElem
  · simp [kpL]; omega
  · intro i h1 h2
    simp only [kpL, List.getElem_take, List.getElem_map, List.getElem_range]
theorem IsStrs.from {w : World} {g n c : Nat} {l : List ByteArray} (h : IsStrs w (.slice (some ⟨g, 0, none⟩) n c) l) (k : Nat) (hk : k < n) : IsStrs w (.slice (some ⟨g, k, none⟩) (n - k) (c - k)) (l.drop k) := by
  obtain ⟨A, c', e, h1, h2, h3⟩ := h
  injection e with e1 e2 e3
  subst e1 e2 e3
  refine ⟨_, _, by rw [List.length_drop], by rw [List.length_drop]; omega, fun j hj => ?_, fun j hj => ?_⟩
  · rw [List.length_drop] at hj
    have := h2 (k + j) (by omega)
    unfold gS at this ⊢
    simpa [List.getD_eq_getElem?_getD, List.getElem?_drop] using this
  · rw [List.length_drop] at hj
    obtain ⟨b, o, e4, h5, h6⟩ := h3 (k + j) (by omega)
    injection e4 with e4
    injection e4 with e4 e5
    subst e4 e5
    refine ⟨_, _, rfl, h5, ?_⟩
    rw [Nat.zero_add] at h6
    rw [h6]
    unfold gS
    simp [List.getD_eq_getElem?_getD, List.getElem?_drop]
theorem IsStrs.to {w : World} {g n c : Nat} {l : List ByteArray} (h : IsStrs w (.slice (some ⟨g, 0, none⟩) n c) l) (k : Nat) (hk : k ≤ n) : IsStrs w (.slice (some ⟨g, 0, none⟩) k c) (l.take k) := by
  obtain ⟨A, c', e, h1, h2, h3⟩ := h
  injection e with e1 e2 e3
  subst e1 e2 e3
  have hl : (l.take k).length = k := by simp; omega
  refine ⟨_, _, by rw [hl], by omega, fun j hj => ?_, fun j hj => ?_⟩
  · rw [hl] at hj
    have := h2 j (by omega)
    unfold gS at this ⊢
    rw [List.getD_eq_getElem?_getD] at this ⊢
    rw [List.getElem?_take, if_pos hj]
    exact this
  · rw [hl] at hj
    obtain ⟨b, o, e4, h5, h6⟩ := h3 j (by omega)
    refine ⟨b, o, e4, h5, ?_⟩
    rw [h6]
    unfold gS
    rw [List.getD_eq_getElem?_getD, List.getD_eq_getElem?_getD, List.getElem?_take, if_pos hj]
theorem inB_of {n a b : Int} (h : inB n a b = true) : a ≤ n ∧ n ≤ b := Decidable.byContradiction fun hc => by rw [inB_false hc] at h; cases h
theorem kpR_small (M : Mch) (s : ByteArray) (n : Int) (k : Nat) (hk : k < (kpR M s n).length) : (gS (kpR M s n) k).size ≤ 9223372036854775807 := by
  unfold kpR at hk ⊢
  split at hk
  · rename_i h; rw [if_pos h]; exact kpL_small M s _ k hk
  · cases hk
theorem kpR_len (M : Mch) (s : ByteArray) (n : Int) : (kpR M s n).length ≤ 60 := by
  unfold kpR
  split
  · rename_i h
    rw [Bool.and_eq_true] at h
    have := inB_of h.2
    rw [kpL_len]; omega
  · exact Nat.zero_le _
theorem kpR_some {M : Mch} {s : ByteArray} {n : Int} (h : (kpR M s n).length ≠ 0) : setB M s = true ∧ ∃ N : Nat, n = (N : Int) ∧ 0 < N ∧ N ≤ 60 ∧ kpR M s n = kpL M s N := by
  unfold kpR at h ⊢
  split at h
  · rename_i h1
    rw [Bool.and_eq_true] at h1
    have := inB_of h1.2
    rw [kpL_len] at h
    rw [if_pos (by rw [h1.1, h1.2]; rfl)]
    exact ⟨h1.1, n.toNat, by omega, by omega, by omega, rfl⟩
  · exact absurd rfl h
theorem c_rcTexts (v v' : Value) (l : List ByteArray) (w : World) (hl : IsStrs w v l) (hl' : IsStrs w v' l) :
    Calls Try.prog 49 #[v, v'] w fun e w' => e = .returned (.bool true) ∧ Below w.heap.size w w' := by
  have HL := Lib.hid hl
  have HL' := Lib.hid hl'
  have hll := hl.len_le
  obtain ⟨A, c, rfl⟩ := hl.form
  obtain ⟨A', c', rfl⟩ := hl'.form
  clear hl hl'
  go_enter Try.func49, Try.ntmps49
  go_wp2_with fail
  go_loopw [5] (fun i wr => ∃ k : Nat, k ≤ l.length ∧ i = .int .i64 k ∧ Below w.heap.size w wr) (fun i _ => l.length - (intOf i).toNat)
  case atStart => exact ⟨0, Nat.zero_le _, rfl, Below.refl _ _⟩
  case round =>
    obtain ⟨k, hk, rfl, hbr⟩ := hrel
    have HBR := Lib.hid hbr
    clear hbr
    by_cases hlt : k < l.length
    · obtain ⟨b, o, rfl, hb, hc⟩ := (HL.out.ext HBR.out).at_ hlt
      obtain ⟨b', o', rfl, hb', hc'⟩ := (HL'.out.ext HBR.out).at_ hlt
      have i1 : (0 : Int) ≤ k := by omega
      have i2 : (k : Int) < l.length := by omega
      go_wp2_with fail
      go_quiet (fail)
      go_wp2_with fail
      exact ⟨⟨k + 1, by omega, by go_num, below_drewN HBR.out _⟩, by simp [intOf]; omega⟩
    · go_wp2_with fail
      go_ret
      exact ⟨rfl, HBR.out⟩
/-- the permutation of a key, or no word -/
noncomputable def kyR (M : Mch) (s : ByteArray) : ByteArray := if setB M s = true then pS (kF M s) else ByteArray.empty
theorem kyR_ok {M : Mch} {s : ByteArray} (h : setB M s = true) : kyR M s = pS (kF M s) := if_pos h
theorem c_KeyPerm (A : Option Addr) (cA : Nat) (M : Mch) (s : ByteArray) (w : World) (hR : IsRots w (.slice A M.l.length cA) M.l) (hz : MSz M) (hs : s.size ≤ 9223372036854775807) : Calls Try.prog 102 #[mV A cA M, .string s] w fun e w' => e = .returned (.tuple #[.string (kyR M s), .bool (setB M s)]) ∧ Below w.heap.size w w' := by
  have L0 := Lib.hid (MW.start M (Below.refl w.heap.size w) hR)
  have HZ := Lib.hid hz
  clear hR hz
  go_enter Try.func102, Try.ntmps102
  have y0 := L0.out.c0
  have y1 := L0.out.c1
  have y2 := L0.out.c2
  have y3 := L0.out.c3
  go_wp2_with fail
  refine (c_settingValid A cA M s _ L0.out.rot HZ.out hs).mono ?_
  rintro e w1 ⟨rfl, hb1⟩
  have L1 := Lib.hid (L0.out.ext hb1)
  clear hb1 y0 y1 y2 y3 L0
  have y0 := L1.out.c0
  have y1 := L1.out.c1
  have y2 := L1.out.c2
  have y3 := L1.out.c3
  cases h1 : setB M s with
  | false =>
    have HE : Hid (kyR M s = ByteArray.empty) := by show kyR M s = _; unfold kyR; rw [h1]; rfl
    have H1 := Lib.hid h1
    clear h1
    go_wp2_with fail
    go_ret2
    exact ⟨by rw [HE.out, H1.out]; rfl, L1.out.bel⟩
  | true =>
    have HE : Hid (kyR M s = pS (kF M s)) := by show kyR M s = _; unfold kyR; rw [h1]; rfl
    have H1 := Lib.hid h1
    have HB := Lib.hid ((setB_iff M s).1 h1).1
    have HP := Lib.hid (kF_P s HB.out)
    clear h1
    go_wp2_with fail
    refine (c_newAssembly A cA M _ L1.out.rot HB.out).mono ?_
    rintro e w2 ⟨b, rfl, hge, hAs, hb2⟩
    have L2 := Lib.hid (L1.out.ext hb2)
    have HA := Lib.hid hAs
    clear hge hAs hb2 y0 y1 y2 y3 L1
    go_wp2_with fail
    refine (c_permAt A cA M b s _ HA.out H1.out).mono ?_
    rintro e w3 ⟨rfl, hb3⟩
    have L3 := Lib.hid (L2.out.ext hb3)
    clear hb3 L2
    go_wp2_with fail
    refine (c_String (kF M s) _ HP.out.1).mono ?_
    rintro e w4 ⟨rfl, hb4⟩
    have L4 := Lib.hid (L3.out.ext hb4)
    clear hb4 L3
    go_wp2_with fail
    go_ret2
    exact ⟨by rw [HE.out, H1.out]; rfl, L4.out.bel⟩
theorem c_rcKey (A : Option Addr) (cA : Nat) (M : Mch) (s : ByteArray) (w : World) (hR : IsRots w (.slice A M.l.length cA) M.l) (hz : MSz M) (hs : s.size ≤ 9223372036854775807) : Calls Try.prog 50 #[mV A cA M, .string s] w fun e w' => e = .returned (.string (kyR M s)) ∧ Below w.heap.size w w' := by
  have L0 := Lib.hid (MW.start M (Below.refl w.heap.size w) hR)
  have HZ := Lib.hid hz
  clear hR hz
  go_enter Try.func50, Try.ntmps50
  have y0 := L0.out.c0
  have y1 := L0.out.c1
  have y2 := L0.out.c2
  have y3 := L0.out.c3
  go_wp2_with fail
  refine (c_KeyPerm A cA M s _ L0.out.rot HZ.out hs).mono ?_
  rintro e w1 ⟨rfl, hb1⟩
  have L1 := Lib.hid (L0.out.ext hb1)
  clear hb1 y0 y1 y2 y3 L0
  go_wp2_with fail
  go_ret
  exact ⟨rfl, L1.out.bel⟩
end Go.Proofs.Ytnfeddnkokocfaa
