/- FormatCage on both sides. -/
import Derived.Test.YthelcpfcamidiaaDoorFormat
namespace Go.Proofs.YthelcpfcamidiaaDoor
set_option linter.unusedVariables false
set_option linter.unusedSimpArgs false
open Go.RowKit

theorem cageB_all {ws : List ByteArray} {bs : List Int} (h : cageB ws bs = true) : 1 ≤ ws.length ∧ ws.length ≤ 4 ∧ 1 ≤ bs.length ∧ bs.length ≤ 9 ∧ (∀ k, k < ws.length → (gS ws k).size ≤ 9) ∧ ∀ k, k < bs.length → ∃ d : Nat, gI bs k = (d : Int) ∧ d < 16 := by
  unfold cageB at h
  simp only [Bool.and_eq_true, decide_eq_true_eq] at h
  obtain ⟨⟨⟨⟨⟨h1, h2⟩, h3⟩, h4⟩, h5⟩, h6⟩ := h
  refine ⟨h1, h2, h3, h4, fun k hk => ((wheelB_iff _).1 ((allB_iff _ _).1 h5 k hk)).1.2, fun k hk => ?_⟩
  have := (allB_iff _ _).1 h6 k hk
  simp only [Bool.and_eq_true, decide_eq_true_eq] at this
  have h16 : (2 : Int) ^ ws.length ≤ 16 := by
    have : ws.length = 1 ∨ ws.length = 2 ∨ ws.length = 3 ∨ ws.length = 4 := by omega
    rcases this with e | e | e | e <;> rw [e] <;> decide
  exact ⟨(gI bs k).toNat, by omega, by omega⟩
set_option maxHeartbeats 1000000 in
set_option maxRecDepth 100000 in
theorem c_sFormatCage (A B : Option Addr) (cA cB : Nat) (ws : List ByteArray) (bs : List Int) (w : World) (hW : IsStrs w (.slice A ws.length cA) ws) (hB : IsInts w (.slice B bs.length cB) bs) :
    Calls Tryd.prog 5 #[.agg #[.slice A ws.length cA, .slice B bs.length cB]] w fun e w' => e = .returned (.string (fmtR ws bs)) ∧ Below w.heap.size w w' := by
  have K0 := Lib.hid (Blk.new w 28 #[.slice A ws.length cA, .slice B bs.length cB])
  have hb0 := ext_alloc w (.cells #[.slice A ws.length cA, .slice B bs.length cB] 28)
  have W0 := Lib.hid (hW.ext hb0)
  have I0 := Lib.hid (hB.ext hb0)
  have B0 := Lib.hid hb0
  clear hW hB hb0
  go_enter Tryd.func5, Tryd.ntmps5
  have x0 := K0.out.cell 0
  have x1 := K0.out.cell 1
  go_wp2_with fail
  refine (c_specCageValid _ _ ws bs _ W0.out I0.out).mono ?_
  rintro e w1 ⟨rfl, hb1⟩
  have K1 := Lib.hid (K0.out.ext hb1)
  have W1 := Lib.hid (W0.out.ext hb1)
  have I1 := Lib.hid (I0.out.ext hb1)
  have B1 := Lib.hid (ext_trans B0.out hb1)
  clear hb1 x0 x1 K0 W0 I0 B0
  cases hc : cageB ws bs with
  | false =>
    have HE : Hid (fmtR ws bs = ⟨#[]⟩) := by show fmtR ws bs = _; unfold fmtR; rw [hc]; rfl
    clear hc
    go_wp2_with fail
    go_ret
    exact ⟨by rw [HE.out]; rfl, B1.out⟩
  | true =>
    have HE : Hid (fmtR ws bs = jnS ws ws.length ++ ⟨#[47]⟩ ++ jnS (decL bs) bs.length) := by show fmtR ws bs = _; unfold fmtR; rw [hc]; rfl
    obtain ⟨h1, h2, h3, h4, h5, h6⟩ := cageB_all hc
    have H5 : Hid (∀ k, k < ws.length → (gS ws k).size ≤ 9) := h5
    have H6 : Hid (∀ k, k < bs.length → ∃ d : Nat, gI bs k = (d : Int) ∧ d < 16) := h6
    clear hc h5 h6
    go_wp2_with fail
    go_loopw [3, 4] (fun x i wr => ∃ k : Nat, k ≤ ws.length ∧ i = .int .i64 k ∧ x = .string (jnS ws k) ∧ Blk wr w.heap.size 28 #[.slice A ws.length cA, .slice B bs.length cB] ∧ IsStrs wr (.slice A ws.length cA) ws ∧ IsInts wr (.slice B bs.length cB) bs ∧ Below w.heap.size w wr) (fun _ i _ => ws.length - (intOf i).toNat)
    case atStart => exact ⟨0, Nat.zero_le _, rfl, rfl, K1.out, W1.out, I1.out, B1.out⟩
    case round =>
      clear K1 W1 I1 B1
      obtain ⟨k, hk, rfl, rfl, hK, hW, hI, hB⟩ := hrel
      have K2 := Lib.hid hK
      have W2 := Lib.hid hW
      have I2 := Lib.hid hI
      have B2 := Lib.hid hB
      have hz := jnS_size ws 9 k (fun i hi => H5.out i (by omega))
      have HS := Lib.hid (jnS_succ ws k)
      obtain ⟨J, hJ⟩ : ∃ J, jnS ws k = J := ⟨_, rfl⟩
      rw [hJ] at hz HS ⊢
      have HJ := Lib.hid hJ
      have hz2 : J.size ≤ 40 := by omega
      have x0 := hK.cell 0
      have x1 := hK.cell 1
      by_cases hlt : k < ws.length
      · obtain ⟨b, o, rfl, hb, hcl⟩ := hW.at_ hlt
        have hzw := H5.out k hlt
        obtain ⟨u, hu⟩ : ∃ u, gS ws k = u := ⟨_, rfl⟩
        rw [hu] at hcl hzw HS
        have i0 : (0 : Int) ≤ k := by omega
        have i1 : (k : Int) < ws.length := by omega
        have z32 : (⟨#[32]⟩ : ByteArray).size = 1 := rfl
        have n1 : ¬ 9223372036854775807 < J.size + 1 := by omega
        have n2 : ¬ 9223372036854775807 < J.size + u.size := by omega
        have n3 : ¬ 9223372036854775807 < J.size + 1 + u.size := by omega
        by_cases h0 : k = 0
        · have t0 : ¬ (0 : Int) < k := by omega
          have t1 : decide ((0 : Int) < (k : Int)) = false := decide_eq_false t0
          have HS2 : Hid (jnS ws (k + 1) = J ++ u) := by show jnS ws (k + 1) = _; rw [HS.out, if_neg (by omega)]
          clear hK hW hI hB hJ hu hz HS h0
          go_wp2_with fail
          exact ⟨⟨k + 1, by omega, by go_num, by rw [HS2.out], K2.out, W2.out, I2.out, B2.out⟩, by simp [intOf]; omega⟩
        · have t0 : (0 : Int) < k := by omega
          have HS2 : Hid (jnS ws (k + 1) = J ++ ⟨#[32]⟩ ++ u) := by show jnS ws (k + 1) = _; rw [HS.out, if_pos (by omega)]
          clear hK hW hI hB hJ hu hz HS h0
          go_wp2_with fail
          exact ⟨⟨k + 1, by omega, by go_num, by rw [HS2.out], K2.out, W2.out, I2.out, B2.out⟩, by simp [intOf]; omega⟩
      · have e : k = ws.length := by omega
        subst e
        have z47 : (⟨#[47]⟩ : ByteArray).size = 1 := rfl
        have n1 : ¬ 9223372036854775807 < J.size + 1 := by omega
        obtain ⟨S, hS⟩ : ∃ S, J ++ ⟨#[47]⟩ = S := ⟨_, rfl⟩
        have hSz : S.size ≤ 41 := by rw [← hS, ByteArray.size_append, z47]; omega
        have HSS := Lib.hid hS
        clear hK hW hI hB hJ hz HS z47
        go_wp2_with fail
        clear hS n1
        go_loopw [3, 5] (fun x i wr => ∃ k : Nat, k ≤ bs.length ∧ i = .int .i64 k ∧ x = .string (S ++ jnS (decL bs) k) ∧ Blk wr w.heap.size 28 #[.slice A ws.length cA, .slice B bs.length cB] ∧ IsInts wr (.slice B bs.length cB) bs ∧ Below w.heap.size w wr) (fun _ i _ => bs.length - (intOf i).toNat)
        case atStart => exact ⟨0, Nat.zero_le _, rfl, by show Value.string S = Value.string (S ++ ByteArray.empty); rw [ByteArray.append_empty], K2.out, I2.out, B2.out⟩
        case round =>
          clear K2 W2 I2 B2 x0 x1
          obtain ⟨k, hk, rfl, rfl, hK, hI, hB⟩ := hrel
          have K3 := Lib.hid hK
          have I3 := Lib.hid hI
          have B3 := Lib.hid hB
          have hz := jnS_size (decL bs) 2 k (fun i hi => by
            rw [decL_at bs (by omega)]
            obtain ⟨d, e, hd⟩ := H6.out i (by omega)
            rw [e]
            exact (decW_size (by omega)).2)
          have HS := Lib.hid (jnS_succ (decL bs) k)
          obtain ⟨D, hD⟩ : ∃ D, jnS (decL bs) k = D := ⟨_, rfl⟩
          rw [hD] at hz HS ⊢
          have HDD := Lib.hid hD
          have hz2 : D.size ≤ 27 := by omega
          obtain ⟨T, hT⟩ : ∃ T, S ++ D = T := ⟨_, rfl⟩
          have hTz : T.size ≤ 68 := by rw [← hT, ByteArray.size_append]; omega
          have HT := Lib.hid hT
          rw [hT]
          have x0 := hK.cell 0
          have x1 := hK.cell 1
          by_cases hlt : k < bs.length
          · obtain ⟨b, o, rfl, hb, hcl⟩ := hI.at_ hlt
            obtain ⟨d, hd, hd16⟩ := H6.out k hlt
            have hdl := decL_at bs hlt
            rw [hd] at hcl hdl
            rw [show ((d : Int)).toNat = d by omega] at hdl
            have hzu := decW_size (d := d) (by omega)
            obtain ⟨u, hu⟩ : ∃ u, decW d = u := ⟨_, rfl⟩
            rw [hu] at hdl hzu
            have HU := Lib.hid hu
            rw [hdl] at HS
            have i0 : (0 : Int) ≤ k := by omega
            have i1 : (k : Int) < bs.length := by omega
            have z32 : (⟨#[32]⟩ : ByteArray).size = 1 := rfl
            have n1 : ¬ 9223372036854775807 < T.size + 1 := by omega
            have n2 : ¬ 9223372036854775807 < T.size + u.size := by omega
            have n3 : ¬ 9223372036854775807 < T.size + 1 + u.size := by omega
            by_cases h0 : k = 0
            · have t0 : ¬ (0 : Int) < k := by omega
              have t1 : decide ((0 : Int) < (k : Int)) = false := decide_eq_false t0
              have HS2 : Hid (S ++ jnS (decL bs) (k + 1) = T ++ u) := by show S ++ jnS (decL bs) (k + 1) = _; rw [HS.out, if_neg (by omega), ← HT.out, ByteArray.append_assoc]
              clear hK hI hB hD hT hu hz HS h0 hd hdl
              go_wp2_with fail
              refine (c_l21Dec d _ (by omega)).mono ?_
              rintro e w4 ⟨rfl, hb4⟩
              rw [HU.out]
              have K4 := Lib.hid (K3.out.ext hb4)
              have I4 := Lib.hid (I3.out.ext hb4)
              have B4 := Lib.hid (ext_trans B3.out hb4)
              clear hb4
              go_wp2_with fail
              exact ⟨⟨k + 1, by omega, by go_num, by rw [HS2.out], K4.out, I4.out, B4.out⟩, by simp [intOf]; omega⟩
            · have t0 : (0 : Int) < k := by omega
              have HS2 : Hid (S ++ jnS (decL bs) (k + 1) = T ++ ⟨#[32]⟩ ++ u) := by show S ++ jnS (decL bs) (k + 1) = _; rw [HS.out, if_pos (by omega), ← HT.out, ByteArray.append_assoc, ByteArray.append_assoc, ByteArray.append_assoc]
              clear hK hI hB hD hT hu hz HS h0 hd hdl
              go_wp2_with fail
              refine (c_l21Dec d _ (by omega)).mono ?_
              rintro e w4 ⟨rfl, hb4⟩
              rw [HU.out]
              have K4 := Lib.hid (K3.out.ext hb4)
              have I4 := Lib.hid (I3.out.ext hb4)
              have B4 := Lib.hid (ext_trans B3.out hb4)
              clear hb4
              go_wp2_with fail
              exact ⟨⟨k + 1, by omega, by go_num, by rw [HS2.out], K4.out, I4.out, B4.out⟩, by simp [intOf]; omega⟩
          · have e : k = bs.length := by omega
            subst e
            go_wp2_with fail
            go_ret
            exact ⟨by rw [HE.out, HJ.out, HSS.out, HDD.out, HT.out]; rfl, B3.out⟩
end Go.Proofs.YthelcpfcamidiaaDoor
