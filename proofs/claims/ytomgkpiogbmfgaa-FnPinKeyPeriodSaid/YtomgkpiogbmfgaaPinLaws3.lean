/- The walks of FnPinKeySteps and FnPinKeyPeriod: each returns true. -/
import Derived.Test.YtomgkpiogbmfgaaPinPlain
namespace Go.Proofs.Ytomgkpiogbmfgaa
open Go.RowKit

theorem keyOk_nat {ws : List ByteArray} {bs ps : List Int} {n : Int} (h : keyOk ws bs ps n = true) : fitB ws bs ps = true ∧ 0 ≤ n ∧ n ≤ 200 := by
  unfold keyOk inB at h; simp at h
  exact ⟨h.1, h.2.1, h.2.2⟩
theorem one_letter {ws : List ByteArray} {bs ps : List Int} {n k : Nat} (hc : cageB ws bs = true) (hk : k < n) : strOfNums [97 + (disp ws bs (posF ws ps k) : Int) % 10] = (keyS ws bs ps n).extract k (k + 1) := by
  have hd := disp_le hc (posF ws ps k)
  have hs := keyS_size ws bs ps n
  apply bt_ext
  · rw [strOfNums_size, ext_size _ (by omega) (by omega)]; simp
  · intro j hj
    rw [strOfNums_size] at hj
    have : j = 0 := by simpa using hj
    subst this
    rw [ext_bt _ (by omega) (by omega), Nat.add_zero, keyS_bt hc hk, bt_strOfNums _ _ (by simp) (by simp; omega) (by simp; omega)]
    simp; omega
theorem disp_turn0 {ws : List ByteArray} {bs ps : List Int} (t : Nat) : disp ws bs (gI (turnL ws ps t)) = disp ws bs (posF ws ps t) := disp_congr fun _ hi => turnL_at ws ps t hi
theorem key_repeats {ws : List ByteArray} {bs ps : List Int} (h : fitB ws bs ps = true) {k : Nat} (hk : perN ws ws.length ≤ k) (h2 : k < 200) : bt (keyS ws bs ps 200) k = bt (keyS ws bs ps 200) (k - perN ws ws.length) := by
  obtain ⟨g1, g2, g3⟩ := fitB_facts h
  rw [keyS_bt g1 h2, keyS_bt g1 (by omega)]
  congr 2
  apply disp_congr
  intro i hi
  obtain ⟨c, hc⟩ := perN_dvd ws ws.length i hi
  unfold posF
  have e : gI ps i + (k : Int) = gI ps i + ((k - perN ws ws.length : Nat) : Int) + ((gS ws i).size : Int) * c := by
    have : ((perN ws ws.length : Nat) : Int) = ((gS ws i).size : Int) * c := by rw [hc]; simp
    omega
  rw [e, Int.add_mul_emod_self_left]
theorem key_cut {ws : List ByteArray} {bs ps : List Int} (hc : cageB ws bs = true) {n : Nat} (h : n ≤ 200) : (keyS ws bs ps 200).extract 0 n = keyS ws bs ps n := by
  have hs := keyS_size ws bs ps 200
  apply bt_ext
  · rw [ext_size _ (by omega) (by omega), keyS_size]; omega
  · intro j hj
    rw [ext_size _ (by omega) (by omega)] at hj
    rw [ext_bt _ (by omega) (by omega), Nat.zero_add, keyS_bt hc (by omega), keyS_bt hc (by omega)]

set_option maxHeartbeats 1000000 in
theorem walk_FnPinKeySteps (a0 : Option Addr) (len0 cap0 : Nat) (z0 : List Int) (w : World) (w0 : IsRowB w a0 len0 cap0 z0) :
    Calls Try.prog 4 #[.slice a0 len0 cap0] w fun e w' => e = .returned (.bool true) ∧ Below w.heap.size w w' := by
  by_cases hl : 1048576 < len0
  · clear w0
    go_enter Try.func4, Try.ntmps4
    go_wp2_with fail
    go_ret
    exact ⟨rfl, Below.refl _ _⟩
  have HC := Lib.hid (code_of w0 (by omega))
  clear w0
  go_enter Try.func4, Try.ntmps4
  go_wp2_with fail
  refine (c_DrawPinKey a0 len0 cap0 _ HC.out).mono ?_
  rintro e w1 ⟨vW, vB, vP, ws, bs, ps, n, rfl, iW, iB, iP, hb1⟩
  obtain ⟨AW, cW, hvW⟩ := iW.form
  obtain ⟨AB, cB, hvB⟩ := iB.form
  have hb2 := ext_trans hb1 (ext_alloc w1 (.cells #[vW, vB] 26))
  have IW := Lib.hid (iW.ext (ext_alloc w1 (.cells #[vW, vB] 26)))
  have IB := Lib.hid (iB.ext (ext_alloc w1 (.cells #[vW, vB] 26)))
  have IP := Lib.hid (iP.ext (ext_alloc w1 (.cells #[vW, vB] 26)))
  have K := Lib.hid (Blk.new w1 26 #[vW, vB])
  have B2 := Lib.hid hb2
  subst hvW hvB
  clear iW iB iP hb1 hb2 HC
  go_wp2_with fail
  refine (c_PinKey _ _ _ ws bs ps n _ IW.out IB.out IP.out).mono ?_
  rintro e w3 ⟨rfl, hb3⟩
  have IW3 := Lib.hid (IW.out.ext hb3)
  have IB3 := Lib.hid (IB.out.ext hb3)
  have IP3 := Lib.hid (IP.out.ext hb3)
  have K3 := Lib.hid (K.out.ext hb3)
  have B3 := Lib.hid (ext_trans B2.out hb3)
  clear hb3 IW IB IP K B2
  have x0 : w3.cell? ⟨w1.heap.size, 0, none⟩ = some (.slice AW ws.length cW) := K3.out.cell 0
  have x1 : w3.cell? ⟨w1.heap.size, 1, none⟩ = some (.slice AB bs.length cB) := K3.out.cell 1
  cases hk : keyOk ws bs ps n with
  | false =>
    have HK := Lib.hid hk
    rw [keyR_no hk]
    clear hk
    go_wp2_with fail
    refine (c_specPinKey _ _ _ ws bs ps n _ IW3.out IB3.out IP3.out).mono ?_
    rintro e w4 ⟨rfl, hb4⟩
    rw [keyR_no HK.out]
    have B4 := Lib.hid (ext_trans B3.out hb4)
    clear hb4
    go_wp2_with fail
    go_ret
    exact ⟨rfl, B4.out⟩
  | true =>
    have HK := Lib.hid hk
    obtain ⟨hf, hn0, hn1⟩ := keyOk_nat hk
    obtain ⟨m, rfl⟩ := Int.eq_ofNat_of_zero_le hn0
    have HF := Lib.hid hf
    rw [keyR_ok hk, Int.toNat_natCast]
    clear hk hf
    go_wp2_with fail
    refine (c_specPinKey _ _ _ ws bs ps m _ IW3.out IB3.out IP3.out).mono ?_
    rintro e w4 ⟨rfl, hb4⟩
    rw [keyR_ok HK.out, Int.toNat_natCast]
    have IW4 := Lib.hid (IW3.out.ext hb4)
    have IB4 := Lib.hid (IB3.out.ext hb4)
    have IP4 := Lib.hid (IP3.out.ext hb4)
    have K4 := Lib.hid (K3.out.ext hb4)
    have B4 := Lib.hid (ext_trans B3.out hb4)
    have hz4 : w1.heap.size < w4.heap.size := K4.out.lt
    have hsz := keyS_size ws bs ps m
    have HS : Hid ((keyS ws bs ps m).size = m) := hsz
    have hsz1 : (keyS ws bs ps m).size ≤ 200 := by omega
    have hsz2 : m ≤ (keyS ws bs ps m).size := by omega
    clear hb4 hsz x0 x1 IW3 IB3 IP3 K3 B3
    go_wp2_with fail
    go_loopw [10] (fun i wr => ∃ k : Nat, k ≤ m ∧ i = .int .i64 k ∧ Below w4.heap.size w4 wr) (fun i _ => m - (intOf i).toNat)
    case atStart => exact ⟨0, Nat.zero_le _, rfl, Below.refl _ _⟩
    case round =>
      obtain ⟨k, hkm, rfl, hbr⟩ := hrel
      have KR := Lib.hid (K4.out.ext hbr)
      have HBR := Lib.hid hbr
      have y0 : wr.cell? ⟨w1.heap.size, 0, none⟩ = some (.slice AW ws.length cW) := KR.out.cell 0
      have y1 : wr.cell? ⟨w1.heap.size, 1, none⟩ = some (.slice AB bs.length cB) := KR.out.cell 1
      clear hbr
      by_cases hlt : k < m
      · have hlt2 : k < (keyS ws bs ps m).size := by omega
        go_wp2_with fail
        refine (c_TurnPins _ _ _ ws bs ps k _ (IW4.out.ext HBR.out) (IB4.out.ext HBR.out) (IP4.out.ext HBR.out) HF.out (by omega)).mono ?_
        rintro e w5 ⟨vL, rfl, hL, hb5⟩
        have HL := Lib.hid hL
        have K5 := Lib.hid (KR.out.ext hb5)
        have HB5 := Lib.hid (ext_trans HBR.out hb5)
        have z0 : w5.cell? ⟨w1.heap.size, 0, none⟩ = some (.slice AW ws.length cW) := K5.out.cell 0
        have z1 : w5.cell? ⟨w1.heap.size, 1, none⟩ = some (.slice AB bs.length cB) := K5.out.cell 1
        clear hL hb5
        go_wp2_with fail
        refine (c_Displacement _ _ _ ws bs (turnL ws ps k) _ (IW4.out.ext HB5.out) (IB4.out.ext HB5.out) HL.out (turn_fit HF.out k)).mono ?_
        rintro e w6 ⟨rfl, hb6⟩
        rw [disp_turn0]
        have HB6 := Lib.hid (ext_trans HB5.out hb6)
        have K6 := Lib.hid (K5.out.ext hb6)
        have g0 : w6.cell? ⟨w1.heap.size, 0, none⟩ = some (.slice AW ws.length cW) := K6.out.cell 0
        clear hb6
        have hd := disp_le (fitB_facts HF.out).1 (posF ws ps k)
        have HE := Lib.hid (one_letter (ps := ps) (fitB_facts HF.out).1 hlt)
        have i1 : (0 : Int) ≤ k := by omega
        have i2 : (k : Int) + 1 ≤ ((keyS ws bs ps m).size : Int) := by omega
        have i3 : (k : Int) ≤ (k : Int) + 1 := by omega
        have e1 : IntKind.i64.wrap ((k : Int) + 1) = (k : Int) + 1 := IntWalk.i64_in _ (by omega)
        go_wp2_with fail
        go_region_held3 (fun w' => w'.cell? ⟨w1.heap.size, 0, none⟩ = some (.slice AW ws.length cW)) (first | go_keep | exact hkeep) (first | (go_at_call 16; refine (c_rcLetter _ _ (by omega) (by omega)).mono ?_; rintro e w7 ⟨rfl, hb7⟩; have he := HE.out; have hkeep : w7.cell? ⟨w1.heap.size, 0, none⟩ = some (.slice AW ws.length cW) := ((K6.out.drew).ext hb7).cell 0))
        have hb7' : Below w6.heap.size w6 w7 := (Below.refl _ _).drew.trans hb7
        have HB7 := Lib.hid (ext_trans HB6.out hb7')
        clear hb7 hb7' e1
        go_wp2_with fail
        exact ⟨⟨k + 1, by omega, by go_num, HB7.out⟩, by simp [intOf]; omega⟩
      · have e : k = m := by omega
        subst e
        have t1 : (((keyS ws bs ps k).size : Int) == (k : Int)) = true := by rw [HS.out]; simp
        have hge2 : (keyS ws bs ps k).size ≤ k := by have := HS.out; omega
        go_wp2_with fail
        go_ret
        exact ⟨rfl, ext_trans B4.out HBR.out⟩

set_option maxHeartbeats 1000000 in
theorem walk_FnPinKeyPeriod (a0 : Option Addr) (len0 cap0 : Nat) (z0 : List Int) (w : World) (w0 : IsRowB w a0 len0 cap0 z0) :
    Calls Try.prog 3 #[.slice a0 len0 cap0] w fun e w' => e = .returned (.bool true) ∧ Below w.heap.size w w' := by
  by_cases hl : 1048576 < len0
  · clear w0
    go_enter Try.func3, Try.ntmps3
    go_wp2_with fail
    go_ret
    exact ⟨rfl, Below.refl _ _⟩
  have HC := Lib.hid (code_of w0 (by omega))
  clear w0
  go_enter Try.func3, Try.ntmps3
  go_wp2_with fail
  refine (c_DrawPinKey a0 len0 cap0 _ HC.out).mono ?_
  rintro e w1 ⟨vW, vB, vP, ws, bs, ps, n, rfl, iW, iB, iP, hb1⟩
  obtain ⟨AW, cW, hvW⟩ := iW.form
  obtain ⟨AB, cB, hvB⟩ := iB.form
  have hb2 := ext_trans hb1 (ext_alloc w1 (.cells #[vW, vB] 26))
  have IW := Lib.hid (iW.ext (ext_alloc w1 (.cells #[vW, vB] 26)))
  have IB := Lib.hid (iB.ext (ext_alloc w1 (.cells #[vW, vB] 26)))
  have IP := Lib.hid (iP.ext (ext_alloc w1 (.cells #[vW, vB] 26)))
  have K := Lib.hid (Blk.new w1 26 #[vW, vB])
  have B2 := Lib.hid hb2
  subst hvW hvB
  clear iW iB iP hb1 hb2 HC
  go_wp2_with fail
  refine (c_PinKey _ _ _ ws bs ps n _ IW.out IB.out IP.out).mono ?_
  rintro e w3 ⟨rfl, hb3⟩
  have IW3 := Lib.hid (IW.out.ext hb3)
  have IB3 := Lib.hid (IB.out.ext hb3)
  have IP3 := Lib.hid (IP.out.ext hb3)
  have K3 := Lib.hid (K.out.ext hb3)
  have B3 := Lib.hid (ext_trans B2.out hb3)
  clear hb3 IW IB IP K B2
  have x0 : w3.cell? ⟨w1.heap.size, 0, none⟩ = some (.slice AW ws.length cW) := K3.out.cell 0
  have x1 : w3.cell? ⟨w1.heap.size, 1, none⟩ = some (.slice AB bs.length cB) := K3.out.cell 1
  cases hk : keyOk ws bs ps n with
  | false =>
    have HK := Lib.hid hk
    rw [keyR_no hk]
    clear hk
    go_wp2_with fail
    refine (c_specPinKey _ _ _ ws bs ps n _ IW3.out IB3.out IP3.out).mono ?_
    rintro e w4 ⟨rfl, hb4⟩
    rw [keyR_no HK.out]
    have B4 := Lib.hid (ext_trans B3.out hb4)
    clear hb4
    go_wp2_with fail
    go_ret
    exact ⟨rfl, B4.out⟩
  | true =>
    have HK := Lib.hid hk
    obtain ⟨hf, hn0, hn1⟩ := keyOk_nat hk
    obtain ⟨m, rfl⟩ := Int.eq_ofNat_of_zero_le hn0
    have HF := Lib.hid hf
    rw [keyR_ok hk, Int.toNat_natCast]
    clear hk hf
    go_wp2_with fail
    refine (c_specPinKey _ _ _ ws bs ps m _ IW3.out IB3.out IP3.out).mono ?_
    rintro e w4 ⟨rfl, hb4⟩
    rw [keyR_ok HK.out, Int.toNat_natCast]
    have IW4 := Lib.hid (IW3.out.ext hb4)
    have IB4 := Lib.hid (IB3.out.ext hb4)
    have IP4 := Lib.hid (IP3.out.ext hb4)
    have K4 := Lib.hid (K3.out.ext hb4)
    have B4 := Lib.hid (ext_trans B3.out hb4)
    have hsz := keyS_size ws bs ps m
    have HS : Hid ((keyS ws bs ps m).size = m) := hsz
    have y0 : w4.cell? ⟨w1.heap.size, 0, none⟩ = some (.slice AW ws.length cW) := K4.out.cell 0
    have y1 : w4.cell? ⟨w1.heap.size, 1, none⟩ = some (.slice AB bs.length cB) := K4.out.cell 1
    clear hb4 hsz x0 x1 IW3 IB3 IP3 K3 B3
    have HG := Lib.hid (fitB_facts HF.out)
    go_wp2_with fail
    refine (c_PinPeriod _ _ ws bs _ IW4.out IB4.out HG.out.1).mono ?_
    rintro e w5 ⟨rfl, hb5⟩
    have IW5 := Lib.hid (IW4.out.ext hb5)
    have IB5 := Lib.hid (IB4.out.ext hb5)
    have IP5 := Lib.hid (IP4.out.ext hb5)
    have K5 := Lib.hid (K4.out.ext hb5)
    have B5 := Lib.hid (ext_trans B4.out hb5)
    have z0 : w5.cell? ⟨w1.heap.size, 0, none⟩ = some (.slice AW ws.length cW) := K5.out.cell 0
    have z1 : w5.cell? ⟨w1.heap.size, 1, none⟩ = some (.slice AB bs.length cB) := K5.out.cell 1
    obtain ⟨p, hp⟩ : ∃ p, perN ws ws.length = p := ⟨_, rfl⟩
    have hpb := perN_le ws (cageB_facts HG.out.1).2.1 (cageB_facts HG.out.1).2.2.2.2
    have REP : Hid (∀ k, p ≤ k → k < 200 → bt (keyS ws bs ps 200) k = bt (keyS ws bs ps 200) (k - p)) := fun k h1 h2 => by
      rw [← hp] at h1 ⊢; exact key_repeats HF.out h1 h2
    rw [hp] at hpb ⊢
    have HCUT := Lib.hid (key_cut (ps := ps) HG.out.1 (show m ≤ 200 by omega))
    clear hb5 hp y0 y1
    by_cases hp200 : 200 < p
    · have t1 : (((keyS ws bs ps m).size : Int) == (m : Int)) = true := by rw [HS.out]; simp
      go_wp2_with fail
      go_ret
      exact ⟨rfl, B5.out⟩
    · go_wp2_with fail
      refine (c_PinKey _ _ _ ws bs ps 200 _ IW5.out IB5.out IP5.out).mono ?_
      rintro e w6 ⟨rfl, hb6⟩
      have hk200 : keyOk ws bs ps 200 = true := by unfold keyOk; rw [HF.out, inB_true (by omega) (by omega)]; rfl
      rw [keyR_ok hk200]
      have B6 := Lib.hid (ext_trans B5.out hb6)
      have hs200 : (keyS ws bs ps 200).size = 200 := keyS_size _ _ _ _
      have HS2 := Lib.hid hs200
      clear hb6 hk200 hs200
      show _
      obtain ⟨S, hS⟩ : ∃ S, keyS ws bs ps 200 = S := ⟨_, rfl⟩
      have e200 : (200 : Int).toNat = 200 := rfl
      rw [e200, hS]
      rw [hS] at HS2 REP HCUT
      have hsl : S.size ≤ 200 := by have := HS2.out; omega
      have hsg : 200 ≤ S.size := by have := HS2.out; omega
      clear hS e200
      go_wp2_with fail
      go_loopw [13] (fun i wr => ∃ k : Nat, k ≤ 200 ∧ p ≤ k ∧ i = .int .i64 k ∧ Below w6.heap.size w6 wr) (fun i _ => 200 - (intOf i).toNat)
      case atStart => exact ⟨p, by omega, Nat.le_refl _, rfl, Below.refl _ _⟩
      case round =>
        obtain ⟨k, hk200, hpk, rfl, hbr⟩ := hrel
        have HBR := Lib.hid hbr
        clear hbr
        by_cases hlt : k < 200
        · have hkS : k < S.size := by omega
          have hkp : k - p < S.size := by omega
          have b1 := bt_get S k hkS
          have b2 := bt_get S (k - p) hkp
          have hre := REP.out k hpk hlt
          have i1 : (0 : Int) ≤ k := by omega
          have i2 : (k : Int) < S.size := by omega
          have e1 : IntKind.i64.wrap ((k : Int) - (p : Int)) = ((k - p : Nat) : Int) := by rw [IntWalk.i64_in _ (by omega)]; omega
          have i3 : (0 : Int) ≤ ((k - p : Nat) : Int) := by omega
          have i4 : ((k - p : Nat) : Int) < S.size := by omega
          have b3 : (bt S k != bt S (k - p)) = false := by rw [hre]; simp
          clear hre
          go_wp2_with fail
          go_quiet (fail)
          clear e1
          go_wp2_with fail
          exact ⟨⟨k + 1, by omega, by omega, by go_num, below_drewN HBR.out _⟩, by simp [intOf]; omega⟩
        · have hm200 : (m : Int) ≤ S.size := by omega
          have hm0 : (0 : Int) ≤ m := by omega
          have hcut := HCUT.out
          go_wp2_with fail
          go_ret
          exact ⟨rfl, ext_trans B6.out HBR.out⟩
end Go.Proofs.Ytomgkpiogbmfgaa
