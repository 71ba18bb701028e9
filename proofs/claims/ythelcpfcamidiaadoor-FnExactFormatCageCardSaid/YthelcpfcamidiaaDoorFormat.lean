/- Contracts of l21Dec (below 16), FormatCage (impl and spec). -/
import Derived.Test.YthelcpfcamidiaaDoorCage
import Derived.Test.YthelcpfcamidiaaDoorKitA
import Derived.Test.YthelcpfcamidiaaDoorShelf
import Derived.Test.YthelcpfcamidiaaDoorExactCage
namespace Go.Proofs.YthelcpfcamidiaaDoor
set_option linter.unusedVariables false
set_option linter.unusedSimpArgs false
open Go.RowKit

/-- the words of a list, a space between each -/
def jnS (l : List ByteArray) : Nat → ByteArray
  | 0 => ⟨#[]⟩
  | k + 1 => (if 0 < k then jnS l k ++ ⟨#[32]⟩ else jnS l k) ++ gS l k
def decW (d : Nat) : ByteArray := ⟨(Lib.decDigits d).toArray⟩
def decL (bs : List Int) : List ByteArray := bs.map (fun b => decW b.toNat)
theorem decL_len (bs : List Int) : (decL bs).length = bs.length := by simp [decL]
theorem decL_at (bs : List Int) {k : Nat} (hk : k < bs.length) : gS (decL bs) k = decW (gI bs k).toNat := by
  unfold gS decL gI
  rw [List.getD_eq_getElem?_getD, List.getElem?_map, List.getD_eq_getElem?_getD, List.getElem?_eq_getElem hk]
  rfl
theorem decDigits_lt {d : Nat} (h : d < 10) : Lib.decDigits d = [UInt8.ofNat (48 + d)] := by rw [Lib.decDigits, dif_pos h]
theorem decDigits_ge {d : Nat} (h : 10 ≤ d) (h2 : d < 20) : Lib.decDigits d = [UInt8.ofNat 49, UInt8.ofNat (48 + (d - 10))] := by
  rw [Lib.decDigits, dif_neg (by omega), show d / 10 = 1 by omega, decDigits_lt (by omega), show d % 10 = d - 10 by omega]
  rfl
theorem one_str (d : Nat) (h : d < 10) : strOfNums [48 + (d : Int)] = ⟨#[UInt8.ofNat (48 + d)]⟩ := by
  unfold strOfNums
  simp only [List.map_cons, List.map_nil]
  have e : (48 + (d : Int)).toNat = 48 + d := by omega
  rw [e]
theorem decW_lt {d : Nat} (h : d < 10) : decW d = strOfNums [48 + (d : Int)] := by unfold decW; rw [decDigits_lt h, one_str d h]
theorem decW_ge {d : Nat} (h : 10 ≤ d) (h2 : d < 20) : decW d = ⟨#[49]⟩ ++ strOfNums [48 + ((d - 10 : Nat) : Int)] := by
  unfold decW; rw [decDigits_ge h h2, one_str _ (by omega), ByteArray.mk_append_mk]
  rfl
theorem decW_size {d : Nat} (h : d < 20) : 1 ≤ (decW d).size ∧ (decW d).size ≤ 2 := by
  by_cases h1 : d < 10
  · rw [decW_lt h1, strOfNums_size]; simp
  · have e : (⟨#[49]⟩ : ByteArray).size = 1 := rfl
    rw [decW_ge (by omega) h, ByteArray.size_append, strOfNums_size, e]; simp
/-- the formatted cage -/
def fmtR (ws : List ByteArray) (bs : List Int) : ByteArray := if cageB ws bs = true then jnS ws ws.length ++ ⟨#[47]⟩ ++ jnS (decL bs) bs.length else ⟨#[]⟩
theorem ba_app (a b : List UInt8) : (⟨a.toArray⟩ : ByteArray) ++ ⟨b.toArray⟩ = ⟨(a ++ b).toArray⟩ := by rw [ByteArray.mk_append_mk]; first | done | simp
theorem ba_of (s : ByteArray) : (⟨s.data.toList.toArray⟩ : ByteArray) = s := by simp
/-- what strings.Join makes is that -/
theorem join_snoc (xs : List (List UInt8)) (x sep : List UInt8) (h : xs ≠ []) : Lib.join (xs ++ [x]) sep = Lib.join xs sep ++ sep ++ x := by
  cases xs with
  | nil => exact absurd rfl h
  | cons y ys =>
    rw [List.cons_append, Lib.join_cons, Lib.join_cons]
    simp [Lib.joinTail]
theorem join_jnS (l : List ByteArray) (k : Nat) (hk : k ≤ l.length) : (⟨(Lib.join ((l.take k).map (·.data.toList)) [32]).toArray⟩ : ByteArray) = jnS l k := by
  induction k with
  | zero => simp [jnS, Lib.join_nil]
  | succ k ih =>
    have ih := ih (by omega)
    have hlt : k < l.length := by omega
    have e : l.take (k + 1) = l.take k ++ [gS l k] := by
      rw [List.take_add_one, List.getElem?_eq_getElem hlt]
      unfold gS
      rw [List.getD_eq_getElem?_getD, List.getElem?_eq_getElem hlt]
      rfl
    rw [e, List.map_append]
    by_cases h0 : 0 < k
    · have hne : (l.take k).map (·.data.toList) ≠ [] := by
        intro h
        have h2 : ((l.take k).map (·.data.toList)).length = k := by rw [List.length_map, List.length_take]; omega
        rw [h] at h2
        simp at h2
        omega
      show _ = (if 0 < k then jnS l k ++ ⟨#[32]⟩ else jnS l k) ++ gS l k
      rw [if_pos h0, ← ih]
      simp only [List.map_cons, List.map_nil]
      rw [join_snoc _ _ _ hne, ← ba_app, ← ba_app, ba_of]
    · obtain rfl : k = 0 := by omega
      have e0 : jnS l (0 + 1) = ByteArray.empty ++ gS l 0 := rfl
      rw [e0, ByteArray.empty_append]
      simp only [List.take_zero, List.map_nil, List.nil_append, List.map_cons]
      rw [Lib.join_one, ba_of]
theorem jnS_succ (l : List ByteArray) (k : Nat) : jnS l (k + 1) = (if 0 < k then jnS l k ++ ⟨#[32]⟩ else jnS l k) ++ gS l k := rfl
theorem jnS_size (l : List ByteArray) (B k : Nat) (h : ∀ i, i < k → (gS l i).size ≤ B) : (jnS l k).size ≤ k * (B + 1) := by
  induction k with
  | zero => exact Nat.zero_le _
  | succ k ih =>
    have ih := ih (fun i hi => h i (by omega))
    have hk := h k (by omega)
    have e1 : (⟨#[32]⟩ : ByteArray).size = 1 := rfl
    rw [jnS_succ, ByteArray.size_append, Nat.succ_mul]
    split
    · rw [ByteArray.size_append, e1]; omega
    · omega
set_option maxHeartbeats 400000 in
theorem c_toStringSC (v : Value) (l : List ByteArray) (w : World) (hl : IsStrs w v l) (h1 : l.length ≤ 1048576) :
    Calls Tryd.prog 13 #[v] w fun e w' => ∃ v', e = .returned v' ∧ IsStrs w' v' l ∧ (∃ A c, l.length ≤ c ∧ v' = .slice A l.length c) ∧ Below w.heap.size w w' := by
  have HL := Lib.hid hl
  obtain ⟨A, c, rfl⟩ := hl.form
  clear hl
  go_enter Tryd.func13, Tryd.ntmps13
  go_wp2_with (at_make; refine makeN _ rfl _ _ _ rfl w.heap.size 9 Tryd.underlying22 info_str rfl _ _ _ _ l.length rfl rfl rfl rfl (by omega) (by omega) (Nat.le_refl _) ?_; intro w1 hown hb1)
  have HO := Lib.hid hown
  have HB := Lib.hid hb1
  clear hown hb1
  go_loopw [4] (fun i wr => ∃ k : Nat, k ≤ l.length ∧ i = .int .i64 k ∧ Own wr w.heap.size 9 (.slice (some ⟨w.heap.size, 0, none⟩) l.length l.length) (fillV (fun i => .string (gS l i)) (.string ByteArray.empty) l.length k) ∧ Below w.heap.size w wr) (fun i _ => l.length - (intOf i).toNat)
  case atStart => exact ⟨0, Nat.zero_le _, rfl, by rw [fillV_zero]; exact HO.out, HB.out⟩
  case round =>
    obtain ⟨k, hk, rfl, hown, hbr⟩ := hrel
    have HOR := Lib.hid hown
    have HBR := Lib.hid hbr
    by_cases hlt : k < l.length
    · obtain ⟨b, o, rfl, hb, hc⟩ := (HL.out.ext hbr).at_ hlt
      have hcell := hown.cellAt (fillV_at (fun i => .string (gS l i)) (.string ByteArray.empty) l.length k k hlt)
      simp only [Nat.lt_irrefl, if_false] at hcell
      have hfree := hown.free (fillV_len _ _ _ _).symm k
      clear hown hbr
      go_wp2_with fail
      refine ⟨⟨k + 1, by omega, by go_num, ?_, HBR.out.setCell (p := ⟨w.heap.size, k, none⟩) (Nat.le_refl _) _⟩, by simp [intOf]; omega⟩
      rw [← fillV_set _ _ _ _ hlt]
      exact HOR.out.stored (fillV_len _ _ _ _).symm k _
    · clear hown hbr
      go_wp2_with fail
      go_ret
      have e : k = l.length := by omega
      subst e
      refine ⟨_, rfl, ?_, ⟨_, _, Nat.le_refl _, rfl⟩, HBR.out⟩
      have h2 := HOR.out
      rw [fillV_all, strs_range] at h2
      exact h2.strs (by omega) (fun k hk => HL.out.size_le hk)
set_option maxHeartbeats 1000000 in
theorem c_toCageC (vW vB : Value) (ws : List ByteArray) (bs : List Int) (w : World) (hW : IsStrs w vW ws) (hB : IsInts w vB bs) (h1 : ws.length ≤ 1048576) (h2 : bs.length ≤ 1048576) :
    Calls Tryd.prog 6 #[.agg #[vW, vB]] w fun e w' => ∃ vW' vB', e = .returned (.agg #[vW', vB']) ∧ IsStrs w' vW' ws ∧ IsInts w' vB' bs ∧ (∃ A c, ws.length ≤ c ∧ vW' = .slice A ws.length c) ∧ Below w.heap.size w w' := by
  have hb3 : Below w.heap.size w (((w.alloc (.cells #[vW, vB] 25)).alloc (.cells #[.slice none 0 0, .slice none 0 0] 28)).alloc (.cells #[.slice none 0 0, .slice none 0 0] 28)) :=
    ((ext_alloc w _).alloc (by simp) _).alloc (by simp; omega) _
  have k0 := ((Blk.new w 25 #[vW, vB]).alloc (.cells #[.slice none 0 0, .slice none 0 0] 28)).alloc (.cells #[.slice none 0 0, .slice none 0 0] 28)
  have k1 := (Blk.new (w.alloc (.cells #[vW, vB] 25)) 28 #[.slice none 0 0, .slice none 0 0]).alloc (.cells #[.slice none 0 0, .slice none 0 0] 28)
  have k2 := Blk.new ((w.alloc (.cells #[vW, vB] 25)).alloc (.cells #[.slice none 0 0, .slice none 0 0] 28)) 28 #[.slice none 0 0, .slice none 0 0]
  have HB3 := Lib.hid hb3
  have K0 := Lib.hid k0
  rw [show (w.alloc (.cells #[vW, vB] 25)).heap.size = w.heap.size + 1 by simp] at k1
  rw [show ((w.alloc (.cells #[vW, vB] 25)).alloc (.cells #[.slice none 0 0, .slice none 0 0] 28)).heap.size = w.heap.size + 1 + 1 by simp] at k2
  have K1 := Lib.hid k1
  have K2 := Lib.hid k2
  have HW := Lib.hid hW
  have HB := Lib.hid hB
  obtain ⟨A, cA, rfl⟩ := hW.form
  obtain ⟨B, cB, rfl⟩ := hB.form
  clear hW hB k0 k1 k2 hb3
  go_enter Tryd.func6, Tryd.ntmps6
  go_wp2_with fail
  refine (c_toStringSC _ ws _ (HW.out.ext HB3.out) h1).mono ?_
  rintro e w1 ⟨v1, rfl, hv1, ⟨A1, c1, hc1, rfl⟩, hb1⟩
  have L0 := Lib.hid (K0.out.ext hb1)
  have L1 := Lib.hid (K1.out.ext hb1)
  have L2 := Lib.hid (K2.out.ext hb1)
  have BB1 := Lib.hid (ext_trans HB3.out hb1)
  have V1 := Lib.hid hv1
  have x0 : w1.cell? ⟨w.heap.size + 1 + 1, 0, none⟩ = some (.slice none 0 0) := L2.out.cell 0
  have x1 := L2.out.free 0
  have x2 : (w1.setCell ⟨w.heap.size + 1 + 1, 0, none⟩ (.slice A1 ws.length c1)).cell? ⟨w.heap.size, 1, none⟩ = some (.slice B bs.length cB) := (L0.out.far (p := ⟨w.heap.size + 1 + 1, 0, none⟩) (by simp; omega) (.slice A1 ws.length c1)).cell 1
  clear hb1 hv1 K0 K1 K2 HB3
  go_wp2_with fail
  have hb2 : Below w.heap.size w (w1.setCell ⟨w.heap.size + 1 + 1, 0, none⟩ (.slice A1 ws.length c1)) := BB1.out.setCell (p := ⟨w.heap.size + 1 + 1, 0, none⟩) (by simp; omega) _
  refine (c_toIntS _ bs _ (HB.out.ext hb2) h2).mono ?_
  rintro e w2 ⟨v2, rfl, hv2, hb3⟩
  obtain ⟨A2, c2, hf2⟩ := hv2.form
  subst hf2
  have M1 := Lib.hid ((L1.out.far (p := ⟨w.heap.size + 1 + 1, 0, none⟩) (by simp) (.slice A1 ws.length c1)).ext hb3)
  have M2 := Lib.hid ((L2.out.set 0 (.slice A1 ws.length c1)).ext hb3)
  have V1' := Lib.hid ((V1.out.setBox (j := 0) L2.out (.slice A1 ws.length c1)).ext hb3)
  have V2 := Lib.hid hv2
  have BB2 := Lib.hid (ext_trans hb2 hb3)
  have N2 := Lib.hid (M2.out.set 1 (.slice A2 bs.length c2))
  have N1 := Lib.hid (M1.out.far (p := ⟨w.heap.size + 1 + 1, 1, none⟩) (by simp) (.slice A2 bs.length c2))
  have V1n := Lib.hid (V1'.out.setBox (j := 1) M2.out (.slice A2 bs.length c2))
  have V2n := Lib.hid (V2.out.setBox (j := 1) M2.out (.slice A2 bs.length c2))
  have BBn := Lib.hid (BB2.out.setCell (p := ⟨w.heap.size + 1 + 1, 1, none⟩) (by simp; omega) (.slice A2 bs.length c2))
  have y0 : w2.cell? ⟨w.heap.size + 1 + 1, 1, none⟩ = some (.slice none 0 0) := M2.out.cell 1
  have y1 := M2.out.free 1
  have z0 : (w2.setCell ⟨w.heap.size + 1 + 1, 1, none⟩ (.slice A2 bs.length c2)).cell? ⟨w.heap.size + 1 + 1, 0, none⟩ = some (.slice A1 ws.length c1) := N2.out.cell 0
  have z1 : (w2.setCell ⟨w.heap.size + 1 + 1, 1, none⟩ (.slice A2 bs.length c2)).cell? ⟨w.heap.size + 1 + 1, 1, none⟩ = some (.slice A2 bs.length c2) := N2.out.cell 1
  have z2 : (w2.setCell ⟨w.heap.size + 1 + 1, 1, none⟩ (.slice A2 bs.length c2)).cell? ⟨w.heap.size + 1, 0, none⟩ = some (.slice none 0 0) := N1.out.cell 0
  have z3 : (w2.setCell ⟨w.heap.size + 1 + 1, 1, none⟩ (.slice A2 bs.length c2)).cell? ⟨w.heap.size + 1, 1, none⟩ = some (.slice none 0 0) := N1.out.cell 1
  have z4 := N1.out.free 0
  have z5 := N1.out.free 1
  have NF := Lib.hid ((N1.out.set 0 (.slice A1 ws.length c1)).set 1 (.slice A2 bs.length c2))
  have VF1 := Lib.hid ((V1n.out.setBox (j := 0) N1.out (.slice A1 ws.length c1)).setBox (j := 1) (N1.out.set 0 (.slice A1 ws.length c1)) (.slice A2 bs.length c2))
  have VF2 := Lib.hid ((V2n.out.setBox (j := 0) N1.out (.slice A1 ws.length c1)).setBox (j := 1) (N1.out.set 0 (.slice A1 ws.length c1)) (.slice A2 bs.length c2))
  have BF := Lib.hid ((BBn.out.setCell (p := ⟨w.heap.size + 1, 0, none⟩) (by simp) (.slice A1 ws.length c1)).setCell (p := ⟨w.heap.size + 1, 1, none⟩) (by simp) (.slice A2 bs.length c2))
  clear hb3 hv2 hb2
  go_wp2_with fail
  have q0 := NF.out.cell 0
  have q1 := NF.out.cell 1
  have i1 := VF1.out
  have i2 := VF2.out
  have i3 := BF.out
  generalize ((w2.setCell ⟨w.heap.size + 1 + 1, 1, none⟩ (.slice A2 bs.length c2)).setCell ⟨w.heap.size + 1, 0, none⟩ (.slice A1 ws.length c1)).setCell ⟨w.heap.size + 1, 1, none⟩ (.slice A2 bs.length c2) = WF at *
  refine bodyPost_ret (v := .agg #[.slice A1 ws.length c1, .slice A2 bs.length c2]) (by simp [results, Tryd.results6, go_sem, q0, q1]) rfl ⟨_, _, rfl, i1, i2, ⟨A1, c1, hc1, rfl⟩, i3⟩

set_option maxHeartbeats 1000000 in
set_option maxRecDepth 100000 in
theorem c_l21Dec (d : Nat) (w : World) (h : d < 20) : Calls Tryd.prog 12 #[.int .i64 d] w fun e w' => e = .returned (.string (decW d)) ∧ Below w.heap.size w w' := by
  have hc := fun (w : World) (x : Int) => conv_one (P := Tryd.prog) w x 44 9 5 Tryd.underlying44 Tryd.underlying5 Tryd.underlying9
  have i0 : ¬ (d : Int) < -9223372036854775807 := by omega
  have i1 : ¬ (d : Int) < 0 := by omega
  go_enter Tryd.func12, Tryd.ntmps12
  go_wp2_with fail
  go_loopw [0, 3] (fun a x wr => ∃ (k : Nat) (s : ByteArray), a = .int .i64 k ∧ x = .string s ∧ ((k = d ∧ s = ⟨#[]⟩) ∨ (10 ≤ d ∧ k = 1 ∧ s = strOfNums [48 + ((d - 10 : Nat) : Int)])) ∧ Below w.heap.size w wr) (fun a _ _ => (intOf a).toNat)
  case atStart => exact ⟨d, ⟨#[]⟩, rfl, rfl, .inl ⟨rfl, rfl⟩, Below.refl _ _⟩
  case round =>
    clear i0 i1
    obtain ⟨k, s, rfl, rfl, hcase, hbr⟩ := hrel
    have HBR := Lib.hid hbr
    clear hbr
    rcases hcase with ⟨rfl, rfl⟩ | ⟨h10, rfl, rfl⟩
    · by_cases h9 : 9 < k
      · obtain ⟨q, hq⟩ : ∃ q, k - 10 = q := ⟨_, rfl⟩
        have e1 : Int.tmod (k : Int) 10 = (q : Int) := by rw [Int.tmod_eq_emod_of_nonneg (by omega)]; omega
        have e2 : Int.tdiv (k : Int) 10 = 1 := by rw [Int.tdiv_eq_ediv_of_nonneg (by omega)]; omega
        have e3 : (k : Int) % 10 = (q : Int) := by omega
        have e4 : (k : Int) / 10 = 1 := by omega
        have i9 : (9 : Int) < k := by omega
        have hq10 : q < 10 := by omega
        have z1 : (strOfNums [48 + (q : Int)]).size = 1 := by rw [strOfNums_size]; rfl
        have HQ := Lib.hid hq
        clear hq
        go_wp2_with fail
        refine ⟨⟨1, strOfNums [48 + (q : Int)], by go_num, ?_, .inr ⟨by omega, rfl, by rw [HQ.out]⟩, HBR.out.trans ((ext_alloc _ _).mono HBR.out.size)⟩, by first | (simp [intOf]; done) | (simp [intOf]; omega)⟩
        first | rfl | (congr 1; simp)
      · have i9 : ¬ (9 : Int) < k := by omega
        have z1 : (strOfNums [48 + (k : Int)]).size = 1 := by rw [strOfNums_size]; rfl
        have HD := Lib.hid (decW_lt (d := k) (by omega))
        clear h9
        go_wp2_with fail
        go_ret
        exact ⟨by rw [HD.out]; first | rfl | (congr 2; simp), HBR.out.trans ((ext_alloc _ _).mono HBR.out.size)⟩
    · have z1 : (strOfNums [48 + ((d - 10 : Nat) : Int)]).size = 1 := by rw [strOfNums_size]; rfl
      have HD := Lib.hid (decW_ge h10 h)
      obtain ⟨q, hq⟩ : ∃ q, strOfNums [48 + ((d - 10 : Nat) : Int)] = q := ⟨_, rfl⟩
      rw [hq] at z1 HD ⊢
      have hs1 : strOfNums [49] = (⟨#[49]⟩ : ByteArray) := rfl
      have z2 : (strOfNums [49]).size = 1 := rfl
      clear hq h10
      go_wp2_with fail
      go_ret
      exact ⟨by rw [HD.out]; first | rfl | (congr 2), HBR.out.trans ((ext_alloc _ _).mono HBR.out.size)⟩
end Go.Proofs.YthelcpfcamidiaaDoor
