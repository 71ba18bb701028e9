/- The walks of FnPinDepth: it returns true. -/
import Derived.Test.YtomgkpiogbmfgaaPinPlain
namespace Go.Proofs.Ytomgkpiogbmfgaa
open Go.RowKit

set_option maxHeartbeats 1000000 in
theorem walk_FnPinDepth (a0 : Option Addr) (len0 cap0 : Nat) (z0 : List Int) (a1 : Option Addr) (len1 cap1 : Nat) (z1 : List Int) (w : World) (w0 : IsRowB w a0 len0 cap0 z0) (w1 : IsRowB w a1 len1 cap1 z1) :
    Calls Try.prog 6 #[.slice a0 len0 cap0, .slice a1 len1 cap1] w fun e w' => e = .returned (.bool true) ∧ Below w.heap.size w w' := by
  by_cases hl : 1048576 < len0
  · clear w0 w1
    go_enter Try.func6, Try.ntmps6
    go_wp2_with fail
    go_ret
    exact ⟨rfl, Below.refl _ _⟩
  by_cases hl1 : 1048576 < len1
  · have t0 : decide (1048576 < (len0 : Int)) = false := by simp; omega
    clear w0 w1
    go_enter Try.func6, Try.ntmps6
    go_wp2_with fail
    go_ret
    exact ⟨rfl, Below.refl _ _⟩
  have HC := Lib.hid (code_of w0 (by omega))
  have HC1 := Lib.hid (code_of w1 (by omega))
  have tl0 : decide (1048576 < (len0 : Int)) = false := by simp; omega
  have tl1 : decide (1048576 < (len1 : Int)) = false := by simp; omega
  clear w0 w1
  go_enter Try.func6, Try.ntmps6
  go_wp2_with fail
  refine (c_DrawPinEncipher a0 len0 cap0 _ HC.out).mono ?_
  rintro e w1 ⟨vW, vB, vP, ws, bs, ps, s, rfl, iW, iB, iP, hs, hb1⟩
  obtain ⟨AW, cW, hvW⟩ := iW.form
  obtain ⟨AB, cB, hvB⟩ := iB.form
  have hb2 := ext_trans hb1 (ext_alloc w1 (.cells #[vW, vB] 26))
  have IW := Lib.hid (iW.ext (ext_alloc w1 (.cells #[vW, vB] 26)))
  have IB := Lib.hid (iB.ext (ext_alloc w1 (.cells #[vW, vB] 26)))
  have IP := Lib.hid (iP.ext (ext_alloc w1 (.cells #[vW, vB] 26)))
  have K := Lib.hid (Blk.new w1 26 #[vW, vB])
  have B2 := Lib.hid hb2
  subst hvW hvB
  clear iW iB iP hb1 hb2 HC
  go_wp2_with fail
  refine (c_DrawPinEncipher a1 len1 cap1 _ (HC1.out.ext B2.out)).mono ?_
  rintro e w2 ⟨vW2, vB2, vP2, ws2, bs2, ps2, v, rfl, iW2, iB2, _, hv, hbd⟩
  obtain ⟨AW2, cW2, hvW2⟩ := iW2.form
  obtain ⟨AB2, cB2, hvB2⟩ := iB2.form
  subst hvW2 hvB2
  have hbd2 := ext_trans hbd (ext_alloc w2 (.cells #[.slice AW2 ws2.length cW2, .slice AB2 bs2.length cB2] 26))
  have JW := Lib.hid (IW.out.ext hbd2)
  have JB := Lib.hid (IB.out.ext hbd2)
  have JP := Lib.hid (IP.out.ext hbd2)
  have JK := Lib.hid (K.out.ext hbd2)
  have JB2 := Lib.hid (ext_trans B2.out hbd2)
  have jl : w1.heap.size < w2.heap.size := (K.out.ext hbd).lt
  have j0 : w2.cell? ⟨w1.heap.size, 0, none⟩ = some (.slice AW ws.length cW) := (K.out.ext hbd).cell 0
  have j1 : w2.cell? ⟨w1.heap.size, 1, none⟩ = some (.slice AB bs.length cB) := (K.out.ext hbd).cell 1
  clear IW IB IP K B2 hbd hbd2 iW2 iB2
  go_wp2_with fail
  refine (c_PinEncipher _ _ _ ws bs ps s _ JW.out JB.out JP.out (by omega)).mono ?_
  rintro e w3 ⟨rfl, hb3⟩
  have IW3 := Lib.hid (JW.out.ext hb3)
  have IB3 := Lib.hid (JB.out.ext hb3)
  have IP3 := Lib.hid (JP.out.ext hb3)
  have K3 := Lib.hid (JK.out.ext hb3)
  have B3 := Lib.hid (ext_trans JB2.out hb3)
  clear hb3 JW JB JP JK JB2 j0 j1
  have x0 : w3.cell? ⟨w1.heap.size, 0, none⟩ = some (.slice AW ws.length cW) := K3.out.cell 0
  have x1 : w3.cell? ⟨w1.heap.size, 1, none⟩ = some (.slice AB bs.length cB) := K3.out.cell 1
  cases hk : encOk ws bs ps s with
  | false =>
    have HK := Lib.hid hk
    rw [encR_non hk]
    clear hk
    go_wp2_with fail
    refine (c_specPinEncipher _ _ _ ws bs ps s _ IW3.out IB3.out IP3.out (by omega)).mono ?_
    rintro e w4 ⟨rfl, hb4⟩
    rw [encR_non HK.out]
    have B4 := Lib.hid (ext_trans B3.out hb4)
    clear hb4
    go_wp2_with fail
    go_ret
    exact ⟨rfl, B4.out⟩
  | true =>
    have HK := Lib.hid hk
    rw [encR_yes hk]
    clear hk
    go_wp2_with fail
    refine (c_specPinEncipher _ _ _ ws bs ps s _ IW3.out IB3.out IP3.out (by omega)).mono ?_
    rintro e w4 ⟨rfl, hb4⟩
    rw [encR_yes HK.out]
    have IW4 := Lib.hid (IW3.out.ext hb4)
    have IB4 := Lib.hid (IB3.out.ext hb4)
    have IP4 := Lib.hid (IP3.out.ext hb4)
    have K4 := Lib.hid (K3.out.ext hb4)
    have B4 := Lib.hid (ext_trans B3.out hb4)
    have y0 : w4.cell? ⟨w1.heap.size, 0, none⟩ = some (.slice AW ws.length cW) := K4.out.cell 0
    have y1 : w4.cell? ⟨w1.heap.size, 1, none⟩ = some (.slice AB bs.length cB) := K4.out.cell 1
    clear hb4 x0 x1
    have hf := ((encOk_iff ws bs ps s).1 HK.out).1
    have hwv := ((encOk_iff ws bs ps s).1 HK.out).2
    have hle := encOk_le HK.out
    have HF := Lib.hid hf
    have HW := Lib.hid hwv
    clear hf hwv
    obtain ⟨n, hn1, hn2, hnm⟩ : ∃ n : Nat, n ≤ s.size ∧ n ≤ v.size ∧ (n = s.size ∨ n = v.size) := by
      by_cases h : s.size ≤ v.size
      · exact ⟨s.size, Nat.le_refl _, h, .inl rfl⟩
      · exact ⟨v.size, by omega, Nat.le_refl _, .inr rfl⟩
    cases hvv : wv v with
    | false =>
      clear hnm
      go_wp2_with (go_at_call 25; refine (c_WordValid _ _ (by omega)).mono ?_; rintro e w' ⟨rfl, rfl⟩)
      go_ret
      exact ⟨rfl, B4.out⟩
    | true =>
      have HV := Lib.hid hvv
      clear hnm hn1 hn2
      by_cases hsv : v.size < s.size
      · skip
        go_wp2_with (go_at_call 25; refine (c_WordValid _ _ (by omega)).mono ?_; rintro e w' ⟨rfl, rfl⟩)
        obtain ⟨n, hn⟩ : ∃ n, v.size = n := ⟨_, rfl⟩
        rw [hn]
        have h1 : n ≤ s.size := by omega
        have h2 : n ≤ v.size := by omega
        clear hn
        have i1 : (0 : Int) ≤ n := by omega
        have i2 : (n : Int) ≤ v.size := by omega
        have i3 : (n : Int) ≤ s.size := by omega
        have SE : Hid ((encS ws bs ps s).size = s.size) := encS_size _ _ _ _
        have i4 : n ≤ (encS ws bs ps s).size := by rw [encS_size]; exact h1
        have i5 : (n : Int) ≤ (encS ws bs ps s).size := by omega
        have O1 := Lib.hid (ext_encOk HF.out HV.out (Nat.zero_le n) h2)
        have S1 : Hid ((v.extract 0 n).size = n) := (ext_size v (Nat.zero_le n) h2).trans (Nat.sub_zero n)
        have S2 : Hid ((s.extract 0 n).size = n) := (ext_size s (Nat.zero_le n) h1).trans (Nat.sub_zero n)
        have S3 : Hid (((encS ws bs ps s).extract 0 n).size = n) := (ext_size _ (Nat.zero_le n) i4).trans (Nat.sub_zero n)
        have M1 := Lib.hid (depth_ok1 HK.out HV.out h1 h2)
        have M2 := Lib.hid (depth_ok2 HW.out HV.out h1 h2)
        have DD := Lib.hid (depth HK.out HV.out h1 h2)
        clear hvv hsv
        go_region_with (go_at_call 21; refine (c_PinEncipher _ _ _ ws bs ps (v.extract 0 n) _ (IW4.out.ext (Below.refl _ _).drew) (IB4.out.ext (Below.refl _ _).drew) (IP4.out.ext (Below.refl _ _).drew) (by have := S1.out; omega)).mono ?_; rintro e w6 ⟨rfl, hb6⟩; rw [encR_yes O1.out])
        have hb6' : Below w4.heap.size w4 w6 := (Below.refl _ _).drew.trans hb6
        have B6 := Lib.hid (ext_trans B4.out hb6')
        clear hb6 hb6'
        go_wp2_with fail
        refine (c_SubtractWords _ _ _ (by have := S3.out; omega) (by rw [encS_size]; have := S1.out; omega)).mono ?_
        rintro e w7 ⟨rfl, hb7⟩
        rw [mixR_ok M1.out, DD.out]
        have B7 := Lib.hid (ext_trans B6.out hb7)
        clear hb7
        go_wp2_with fail
        go_region_with (go_at_call 26; refine (c_SubtractWords (v.extract 0 n) (s.extract 0 n) _ (by have := S1.out; omega) (by have := S2.out; omega)).mono ?_; rintro e w8 ⟨rfl, hb8⟩; rw [mixR_ok M2.out])
        have hb8' : Below w7.heap.size w7 w8 := (Below.refl _ _).drew.trans hb8
        have B8 := Lib.hid (ext_trans B7.out hb8')
        clear hb8 hb8'
        go_wp2_with fail
        go_ret
        exact ⟨rfl, B8.out⟩
      · skip
        go_wp2_with (go_at_call 25; refine (c_WordValid _ _ (by omega)).mono ?_; rintro e w' ⟨rfl, rfl⟩)
        obtain ⟨n, hn⟩ : ∃ n, s.size = n := ⟨_, rfl⟩
        rw [hn]
        have h1 : n ≤ s.size := by omega
        have h2 : n ≤ v.size := by omega
        clear hn
        have i1 : (0 : Int) ≤ n := by omega
        have i2 : (n : Int) ≤ v.size := by omega
        have i3 : (n : Int) ≤ s.size := by omega
        have SE : Hid ((encS ws bs ps s).size = s.size) := encS_size _ _ _ _
        have i4 : n ≤ (encS ws bs ps s).size := by rw [encS_size]; exact h1
        have i5 : (n : Int) ≤ (encS ws bs ps s).size := by omega
        have O1 := Lib.hid (ext_encOk HF.out HV.out (Nat.zero_le n) h2)
        have S1 : Hid ((v.extract 0 n).size = n) := (ext_size v (Nat.zero_le n) h2).trans (Nat.sub_zero n)
        have S2 : Hid ((s.extract 0 n).size = n) := (ext_size s (Nat.zero_le n) h1).trans (Nat.sub_zero n)
        have S3 : Hid (((encS ws bs ps s).extract 0 n).size = n) := (ext_size _ (Nat.zero_le n) i4).trans (Nat.sub_zero n)
        have M1 := Lib.hid (depth_ok1 HK.out HV.out h1 h2)
        have M2 := Lib.hid (depth_ok2 HW.out HV.out h1 h2)
        have DD := Lib.hid (depth HK.out HV.out h1 h2)
        clear hvv hsv
        go_region_with (go_at_call 21; refine (c_PinEncipher _ _ _ ws bs ps (v.extract 0 n) _ (IW4.out.ext (Below.refl _ _).drew) (IB4.out.ext (Below.refl _ _).drew) (IP4.out.ext (Below.refl _ _).drew) (by have := S1.out; omega)).mono ?_; rintro e w6 ⟨rfl, hb6⟩; rw [encR_yes O1.out])
        have hb6' : Below w4.heap.size w4 w6 := (Below.refl _ _).drew.trans hb6
        have B6 := Lib.hid (ext_trans B4.out hb6')
        clear hb6 hb6'
        go_wp2_with fail
        refine (c_SubtractWords _ _ _ (by have := S3.out; omega) (by rw [encS_size]; have := S1.out; omega)).mono ?_
        rintro e w7 ⟨rfl, hb7⟩
        rw [mixR_ok M1.out, DD.out]
        have B7 := Lib.hid (ext_trans B6.out hb7)
        clear hb7
        go_wp2_with fail
        go_region_with (go_at_call 26; refine (c_SubtractWords (v.extract 0 n) (s.extract 0 n) _ (by have := S1.out; omega) (by have := S2.out; omega)).mono ?_; rintro e w8 ⟨rfl, hb8⟩; rw [mixR_ok M2.out])
        have hb8' : Below w7.heap.size w7 w8 := (Below.refl _ _).drew.trans hb8
        have B8 := Lib.hid (ext_trans B7.out hb8')
        clear hb8 hb8'
        go_wp2_with fail
        go_ret
        exact ⟨rfl, B8.out⟩
end Go.Proofs.Ytomgkpiogbmfgaa
