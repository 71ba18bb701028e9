/- The walks of FnPinTwice, FnPinParts, FnPinDepth: each returns true. -/
import Derived.Test.YtomgkpiogbmfgaaPinPlain
namespace Go.Proofs.Ytomgkpiogbmfgaa
open Go.RowKit

set_option maxHeartbeats 1000000 in
theorem walk_FnPinTwice (a0 : Option Addr) (len0 cap0 : Nat) (z0 : List Int) (w : World) (w0 : IsRowB w a0 len0 cap0 z0) :
    Calls Try.prog 9 #[.slice a0 len0 cap0] w fun e w' => e = .returned (.bool true) ∧ Below w.heap.size w w' := by
  by_cases hl : 1048576 < len0
  · clear w0
    go_enter Try.func9, Try.ntmps9
    go_wp2_with fail
    go_ret
    exact ⟨rfl, Below.refl _ _⟩
  have HC := Lib.hid (code_of w0 (by omega))



  clear w0
  go_enter Try.func9, Try.ntmps9
  go_wp2_with fail
  refine (c_DrawPinEncipher a0 len0 cap0 _ HC.out).mono ?_
  rintro e w1 ⟨vW, vB, vP, ws, bs, ps, s, rfl, iW, iB, iP, hs, hb1⟩
  obtain ⟨AW, cW, hvW⟩ := iW.form
  obtain ⟨AB, cB, hvB⟩ := iB.form
  have hb2 := ext_trans hb1 (ext_alloc w1 (.cells #[vW, vB] 26))
  have IW := Lib.hid (iW.ext (ext_alloc w1 (.cells #[vW, vB] 26)))
  have IB := Lib.hid (iB.ext (ext_alloc w1 (.cells #[vW, vB] 26)))
  have IP := Lib.hid (iP.ext (ext_alloc w1 (.cells #[vW, vB] 26)))
  have K := Lib.hid (Blk.new w1 26 #[vW, vB])
  have B2 := Lib.hid hb2
  subst hvW hvB
  clear iW iB iP hb1 hb2 HC
  go_wp2_with fail
  refine (c_PinEncipher _ _ _ ws bs ps s _ IW.out IB.out IP.out (by omega)).mono ?_
  rintro e w3 ⟨rfl, hb3⟩
  have IW3 := Lib.hid (IW.out.ext hb3)
  have IB3 := Lib.hid (IB.out.ext hb3)
  have IP3 := Lib.hid (IP.out.ext hb3)
  have K3 := Lib.hid (K.out.ext hb3)
  have B3 := Lib.hid (ext_trans B2.out hb3)
  clear hb3 IW IB IP K B2
  have x0 : w3.cell? ⟨w1.heap.size, 0, none⟩ = some (.slice AW ws.length cW) := K3.out.cell 0
  have x1 : w3.cell? ⟨w1.heap.size, 1, none⟩ = some (.slice AB bs.length cB) := K3.out.cell 1
  cases hk : encOk ws bs ps s with
  | false =>
    have HK := Lib.hid hk
    rw [encR_non hk]
    clear hk
    go_wp2_with fail
    refine (c_specPinEncipher _ _ _ ws bs ps s _ IW3.out IB3.out IP3.out (by omega)).mono ?_
    rintro e w4 ⟨rfl, hb4⟩
    rw [encR_non HK.out]
    have B4 := Lib.hid (ext_trans B3.out hb4)
    have IW4 := Lib.hid (IW3.out.ext hb4)
    have IB4 := Lib.hid (IB3.out.ext hb4)
    have IP4 := Lib.hid (IP3.out.ext hb4)
    have K4 := Lib.hid (K3.out.ext hb4)
    have y0 : w4.cell? ⟨w1.heap.size, 0, none⟩ = some (.slice AW ws.length cW) := K4.out.cell 0
    have y1 : w4.cell? ⟨w1.heap.size, 1, none⟩ = some (.slice AB bs.length cB) := K4.out.cell 1
    clear hb4
    go_wp2_with fail
    refine (c_rcCageFits _ _ _ ws bs ps _ IW4.out IB4.out IP4.out).mono ?_
    rintro e w5 ⟨rfl, hb5⟩
    have B5 := Lib.hid (ext_trans B4.out hb5)
    clear hb5
    cases hf : fitB ws bs ps with
    | false =>
      go_wp2_with fail
      go_ret
      exact ⟨rfl, B5.out⟩
    | true =>
      have hwv : wv s = false := by
        cases h : wv s with
        | false => rfl
        | true => have := (encOk_iff ws bs ps s).2 ⟨hf, h⟩; rw [HK.out] at this; cases this
      go_wp2_with (go_at_call 25; refine (c_WordValid _ _ (by omega)).mono ?_; rintro e w' ⟨rfl, rfl⟩)
      go_ret
      exact ⟨rfl, B5.out⟩
  | true =>
    have HK := Lib.hid hk
    rw [encR_yes hk]
    clear hk
    go_wp2_with fail
    refine (c_specPinEncipher _ _ _ ws bs ps s _ IW3.out IB3.out IP3.out (by omega)).mono ?_
    rintro e w4 ⟨rfl, hb4⟩
    rw [encR_yes HK.out]
    have IW4 := Lib.hid (IW3.out.ext hb4)
    have IB4 := Lib.hid (IB3.out.ext hb4)
    have IP4 := Lib.hid (IP3.out.ext hb4)
    have K4 := Lib.hid (K3.out.ext hb4)
    have B4 := Lib.hid (ext_trans B3.out hb4)
    have y0 : w4.cell? ⟨w1.heap.size, 0, none⟩ = some (.slice AW ws.length cW) := K4.out.cell 0
    have y1 : w4.cell? ⟨w1.heap.size, 1, none⟩ = some (.slice AB bs.length cB) := K4.out.cell 1
    clear hb4 x0 x1
    have hf := ((encOk_iff ws bs ps s).1 HK.out).1
    have hwv := ((encOk_iff ws bs ps s).1 HK.out).2
    have hsz : ((encS ws bs ps s).size : Int) = s.size := by rw [encS_size]
    have HSZ := Lib.hid hsz
    clear hsz
    go_wp2_with fail
    refine (c_rcCageFits _ _ _ ws bs ps _ IW4.out IB4.out IP4.out).mono ?_
    rintro e w5 ⟨rfl, hb5⟩
    have IW5 := Lib.hid (IW4.out.ext hb5)
    have IB5 := Lib.hid (IB4.out.ext hb5)
    have IP5 := Lib.hid (IP4.out.ext hb5)
    have K5 := Lib.hid (K4.out.ext hb5)
    have B5 := Lib.hid (ext_trans B4.out hb5)
    have z0 : w5.cell? ⟨w1.heap.size, 0, none⟩ = some (.slice AW ws.length cW) := K5.out.cell 0
    have z1 : w5.cell? ⟨w1.heap.size, 1, none⟩ = some (.slice AB bs.length cB) := K5.out.cell 1
    clear hb5
    go_wp2_with (go_at_call 25; refine (c_WordValid _ _ (by omega)).mono ?_; rintro e w' ⟨rfl, rfl⟩)
    refine (c_PinEncipher _ _ _ ws bs ps (encS ws bs ps s) _ IW5.out IB5.out IP5.out (by rw [encS_size]; omega)).mono ?_
    rintro e w6 ⟨rfl, hb6⟩
    rw [encR_yes (twice_ok HK.out), twice HK.out]
    have B6 := Lib.hid (ext_trans B5.out hb6)
    clear hb6
    have hsz := HSZ.out
    go_wp2_with fail
    go_ret
    exact ⟨rfl, B6.out⟩

set_option maxHeartbeats 1000000 in
theorem walk_FnPinParts (a0 : Option Addr) (len0 cap0 : Nat) (z0 : List Int) (a1 : Option Addr) (len1 cap1 : Nat) (z1 : List Int) (w : World) (w0 : IsRowB w a0 len0 cap0 z0) (w1 : IsRowB w a1 len1 cap1 z1) :
    Calls Try.prog 8 #[.slice a0 len0 cap0, .slice a1 len1 cap1] w fun e w' => e = .returned (.bool true) ∧ Below w.heap.size w w' := by
  by_cases hl : 1048576 < len0
  · clear w0 w1
    go_enter Try.func8, Try.ntmps8
    go_wp2_with fail
    go_ret
    exact ⟨rfl, Below.refl _ _⟩
  by_cases hl1 : 1048576 < len1
  · have t0 : decide (1048576 < (len0 : Int)) = false := by simp; omega
    clear w0 w1
    go_enter Try.func8, Try.ntmps8
    go_wp2_with fail
    go_ret
    exact ⟨rfl, Below.refl _ _⟩
  have HC := Lib.hid (code_of w0 (by omega))
  have HC1 := Lib.hid (code_of w1 (by omega))
  have tl0 : decide (1048576 < (len0 : Int)) = false := by simp; omega
  have tl1 : decide (1048576 < (len1 : Int)) = false := by simp; omega
  clear w0 w1
  go_enter Try.func8, Try.ntmps8
  go_wp2_with fail
  refine (c_DrawPinEncipher a0 len0 cap0 _ HC.out).mono ?_
  rintro e w1 ⟨vW, vB, vP, ws, bs, ps, s, rfl, iW, iB, iP, hs, hb1⟩
  obtain ⟨AW, cW, hvW⟩ := iW.form
  obtain ⟨AB, cB, hvB⟩ := iB.form
  have hb2 := ext_trans hb1 (ext_alloc w1 (.cells #[vW, vB] 26))
  have IW := Lib.hid (iW.ext (ext_alloc w1 (.cells #[vW, vB] 26)))
  have IB := Lib.hid (iB.ext (ext_alloc w1 (.cells #[vW, vB] 26)))
  have IP := Lib.hid (iP.ext (ext_alloc w1 (.cells #[vW, vB] 26)))
  have K := Lib.hid (Blk.new w1 26 #[vW, vB])
  have B2 := Lib.hid hb2
  subst hvW hvB
  clear iW iB iP hb1 hb2 HC
  go_wp2_with fail
  refine (c_PinEncipher _ _ _ ws bs ps s _ IW.out IB.out IP.out (by omega)).mono ?_
  rintro e w3 ⟨rfl, hb3⟩
  have IW3 := Lib.hid (IW.out.ext hb3)
  have IB3 := Lib.hid (IB.out.ext hb3)
  have IP3 := Lib.hid (IP.out.ext hb3)
  have K3 := Lib.hid (K.out.ext hb3)
  have B3 := Lib.hid (ext_trans B2.out hb3)
  clear hb3 IW IB IP K B2
  have x0 : w3.cell? ⟨w1.heap.size, 0, none⟩ = some (.slice AW ws.length cW) := K3.out.cell 0
  have x1 : w3.cell? ⟨w1.heap.size, 1, none⟩ = some (.slice AB bs.length cB) := K3.out.cell 1
  cases hk : encOk ws bs ps s with
  | false =>
    have HK := Lib.hid hk
    rw [encR_non hk]
    clear hk
    go_wp2_with fail
    refine (c_specPinEncipher _ _ _ ws bs ps s _ IW3.out IB3.out IP3.out (by omega)).mono ?_
    rintro e w4 ⟨rfl, hb4⟩
    rw [encR_non HK.out]
    have B4 := Lib.hid (ext_trans B3.out hb4)
    clear hb4
    go_wp2_with fail
    go_ret
    exact ⟨rfl, B4.out⟩
  | true =>
    have HK := Lib.hid hk
    rw [encR_yes hk]
    clear hk
    go_wp2_with fail
    refine (c_specPinEncipher _ _ _ ws bs ps s _ IW3.out IB3.out IP3.out (by omega)).mono ?_
    rintro e w4 ⟨rfl, hb4⟩
    rw [encR_yes HK.out]
    have IW4 := Lib.hid (IW3.out.ext hb4)
    have IB4 := Lib.hid (IB3.out.ext hb4)
    have IP4 := Lib.hid (IP3.out.ext hb4)
    have K4 := Lib.hid (K3.out.ext hb4)
    have B4 := Lib.hid (ext_trans B3.out hb4)
    have y0 : w4.cell? ⟨w1.heap.size, 0, none⟩ = some (.slice AW ws.length cW) := K4.out.cell 0
    have y1 : w4.cell? ⟨w1.heap.size, 1, none⟩ = some (.slice AB bs.length cB) := K4.out.cell 1
    clear hb4 x0 x1
    have hf := ((encOk_iff ws bs ps s).1 HK.out).1
    have hwv := ((encOk_iff ws bs ps s).1 HK.out).2
    have hle := encOk_le HK.out
    obtain ⟨k, hkk⟩ : ∃ k, len1 % (s.size + 1) = k := ⟨_, rfl⟩
    have hk : k ≤ s.size := by have := Nat.mod_lt len1 (show 0 < s.size + 1 by omega); omega
    have hmod : (len1 : Int) % ((s.size : Int) + 1) = k := by rw [← hkk]; simp
    have HP := Lib.hid (parts HK.out hk)
    have O1 := Lib.hid (ext_encOk hf hwv (Nat.zero_le k) hk)
    have O2 := Lib.hid (ext_encOk (turn_fit hf k) hwv hk (Nat.le_refl s.size))
    have S1 : Hid ((s.extract 0 k).size = k) := (ext_size s (Nat.zero_le k) hk).trans (Nat.sub_zero k)
    have S2 := Lib.hid (ext_size s hk (Nat.le_refl s.size))
    have HF := Lib.hid hf
    have i1 : (0 : Int) ≤ k := by omega
    have i2 : (k : Int) ≤ s.size := by omega
    have HM := Lib.hid hmod
    clear hkk hf hwv hmod
    go_wp2_with fail
    rw [HM.out]
    refine (c_TurnPins _ _ _ ws bs ps k _ IW4.out IB4.out IP4.out HF.out (by omega)).mono ?_
    rintro e w5 ⟨vL, rfl, hL, hb5⟩
    have HL := Lib.hid hL
    have IW5 := Lib.hid (IW4.out.ext hb5)
    have IB5 := Lib.hid (IB4.out.ext hb5)
    have IP5 := Lib.hid (IP4.out.ext hb5)
    have K5 := Lib.hid (K4.out.ext hb5)
    have B5 := Lib.hid (ext_trans B4.out hb5)
    have z0 : w5.cell? ⟨w1.heap.size, 0, none⟩ = some (.slice AW ws.length cW) := K5.out.cell 0
    have z1 : w5.cell? ⟨w1.heap.size, 1, none⟩ = some (.slice AB bs.length cB) := K5.out.cell 1
    clear hL hb5 IW4 IB4 IP4 K4 B4 y0 y1
    go_wp2_with fail
    go_region_with (go_at_call 21; refine (c_PinEncipher _ _ _ ws bs ps (s.extract 0 k) _ (IW5.out.ext (Below.refl _ _).drew) (IB5.out.ext (Below.refl _ _).drew) (IP5.out.ext (Below.refl _ _).drew) (by have := S1.out; omega)).mono ?_; rintro e w6 ⟨rfl, hb6⟩; rw [encR_yes O1.out])
    have hb6' : Below w5.heap.size w5 w6 := (Below.refl _ _).drew.trans hb6
    have IW6 := Lib.hid (IW5.out.ext hb6')
    have IB6 := Lib.hid (IB5.out.ext hb6')
    have HL6 := Lib.hid (HL.out.ext hb6')
    have K6 := Lib.hid (K5.out.ext hb6')
    have B6 := Lib.hid (ext_trans B5.out hb6')
    have c0 : w6.cell? ⟨w1.heap.size, 0, none⟩ = some (.slice AW ws.length cW) := K6.out.cell 0
    have c1 : w6.cell? ⟨w1.heap.size, 1, none⟩ = some (.slice AB bs.length cB) := K6.out.cell 1
    clear hb6 hb6' IW5 IB5 IP5 K5 B5 z0 z1 HL
    go_wp2_with fail
    go_region_with (go_at_call 21; refine (c_PinEncipher _ _ _ ws bs (turnL ws ps k) (s.extract k s.size) _ (IW6.out.ext (Below.refl _ _).drew) (IB6.out.ext (Below.refl _ _).drew) (HL6.out.ext (Below.refl _ _).drew) (by have := S2.out; omega)).mono ?_; rintro e w7 ⟨rfl, hb7⟩; rw [encR_yes O2.out])
    have hb7' : Below w6.heap.size w6 w7 := (Below.refl _ _).drew.trans hb7
    have B7 := Lib.hid (ext_trans B6.out hb7')
    have hp := HP.out
    have z1 : (encS ws bs ps (s.extract 0 k)).size ≤ 200 := by rw [encS_size]; have := S1.out; omega
    have z2 : (encS ws bs (turnL ws ps k) (s.extract k s.size)).size ≤ 200 := by rw [encS_size]; have := S2.out; omega
    clear hb7 hb7'
    go_wp2_with fail
    go_ret
    exact ⟨rfl, B7.out⟩

end Go.Proofs.Ytomgkpiogbmfgaa
