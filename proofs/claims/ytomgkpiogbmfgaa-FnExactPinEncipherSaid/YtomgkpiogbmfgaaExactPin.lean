/- The walk of FnExactPinEncipher. -/
import Derived.Test.YtomgkpiogbmfgaaExactCage
import Derived.Test.YtomgkpiogbmfgaaPinPlain
import Derived.Test.YtomgkpiogbmfgaaOpen
namespace Go.Proofs.Ytomgkpiogbmfgaa
open Go.RowKit

theorem encR_form (ws : List ByteArray) (bs ps : List Int) (s : ByteArray) : ∃ S b, encR ws bs ps s = .tuple #[.string S, .bool b] := by
  cases hk : encOk ws bs ps s with
  | false => exact ⟨_, _, encR_non hk⟩
  | true => exact ⟨_, _, encR_yes hk⟩

set_option maxHeartbeats 1000000 in
theorem walkx_FnExactPinEncipher (vW vB vP : Value) (ws : List ByteArray) (bs ps : List Int) (s : ByteArray) (w : World) (hW : IsStrs w vW ws) (hB : IsInts w vB bs) (hP : IsInts w vP ps) :
    Calls Try.prog 5 #[.agg #[vW, vB], vP, .string s] w fun e w' => e = .returned (.bool true) ∧ Below w.heap.size w w' := by
  have hb0 := ext_alloc w (.cells #[vW, vB] 38)
  have K := Lib.hid (Blk.new w 38 #[vW, vB])
  have HW := Lib.hid (hW.ext hb0)
  have HB := Lib.hid (hB.ext hb0)
  have HP := Lib.hid (hP.ext hb0)
  have B0 := Lib.hid hb0
  have hpl := hP.len_le
  obtain ⟨A, cA, rfl⟩ := hW.form
  obtain ⟨B, cB, rfl⟩ := hB.form
  obtain ⟨C, cC, rfl⟩ := hP.form
  clear hW hB hP hb0
  by_cases h1 : 1048576 < ps.length
  · go_enter Try.func5, Try.ntmps5
    go_wp2_with fail
    go_ret
    exact ⟨rfl, B0.out⟩
  by_cases h2 : 1048576 < s.size
  · go_enter Try.func5, Try.ntmps5
    go_wp2_with fail
    go_ret
    exact ⟨rfl, B0.out⟩
  go_enter Try.func5, Try.ntmps5
  go_wp2_with fail
  refine (c_szCage _ _ ws bs 1048576 _ HW.out HB.out (by omega) (by omega)).mono ?_
  rintro e w1 ⟨r, rfl, hr0, hr1, hr2, hb1⟩
  have HR := Lib.hid hr2
  have HW1 := Lib.hid (HW.out.ext hb1)
  have HB1 := Lib.hid (HB.out.ext hb1)
  have HP1 := Lib.hid (HP.out.ext hb1)
  have K1 := Lib.hid (K.out.ext hb1)
  have B1 := Lib.hid (ext_trans B0.out hb1)
  clear hr2 hb1 HW HB HP K B0
  by_cases hr : r < 0
  · go_wp2_with fail
    go_ret
    exact ⟨rfl, B1.out⟩
  have hl := HR.out (by omega)
  have x0 : w1.cell? ⟨w.heap.size, 0, none⟩ = some (.slice A ws.length cA) := K1.out.cell 0
  have x1 : w1.cell? ⟨w.heap.size, 1, none⟩ = some (.slice B bs.length cB) := K1.out.cell 1
  go_wp2_with fail
  refine (c_toCage _ _ ws bs _ HW1.out HB1.out hl.1 hl.2).mono ?_
  rintro e w2 ⟨vW', vB', rfl, iW, iB, hb2⟩
  have I1 := Lib.hid iW
  have I2 := Lib.hid iB
  have HW2 := Lib.hid (HW1.out.ext hb2)
  have HB2 := Lib.hid (HB1.out.ext hb2)
  have HP2 := Lib.hid (HP1.out.ext hb2)
  have K2 := Lib.hid (K1.out.ext hb2)
  have B2 := Lib.hid (ext_trans B1.out hb2)
  clear iW iB hb2 x0 x1 HW1 HB1 HP1 K1 B1
  go_wp2_with fail
  refine (c_toIntS _ ps _ HP2.out (by omega)).mono ?_
  rintro e w3 ⟨vP', rfl, iP, hb3⟩
  have J1 := Lib.hid (I1.out.ext hb3)
  have J2 := Lib.hid (I2.out.ext hb3)
  have J3 := Lib.hid iP
  have HW3 := Lib.hid (HW2.out.ext hb3)
  have HB3 := Lib.hid (HB2.out.ext hb3)
  have HP3 := Lib.hid (HP2.out.ext hb3)
  have K3 := Lib.hid (K2.out.ext hb3)
  have B3 := Lib.hid (ext_trans B2.out hb3)
  clear iP hb3 HW2 HB2 HP2 K2 B2 I1 I2
  obtain ⟨S, b, hS⟩ := encR_form ws bs ps s
  have HS := Lib.hid hS
  clear hS
  go_wp2_with fail
  refine (c_specPinEncipher _ _ _ ws bs ps s _ J1.out J2.out J3.out (by omega)).mono ?_
  rintro e w4 ⟨rfl, hb4⟩
  rw [HS.out]
  have HW4 := Lib.hid (HW3.out.ext hb4)
  have HB4 := Lib.hid (HB3.out.ext hb4)
  have HP4 := Lib.hid (HP3.out.ext hb4)
  have K4 := Lib.hid (K3.out.ext hb4)
  have B4 := Lib.hid (ext_trans B3.out hb4)
  clear hb4 HW3 HB3 HP3 K3 B3 J1 J2 J3
  have x0 : w4.cell? ⟨w.heap.size, 0, none⟩ = some (.slice A ws.length cA) := K4.out.cell 0
  have x1 : w4.cell? ⟨w.heap.size, 1, none⟩ = some (.slice B bs.length cB) := K4.out.cell 1
  go_wp2_with fail
  refine (c_toCage _ _ ws bs _ HW4.out HB4.out hl.1 hl.2).mono ?_
  rintro e w5 ⟨vX, vY, rfl, iW, iB, hb5⟩
  obtain ⟨A5, c5, hf5⟩ := iW.form
  obtain ⟨B5, d5, hf6⟩ := iB.form
  subst hf5 hf6
  have hb6 := ext_alloc w5 (.cells #[.slice A5 ws.length c5, .slice B5 bs.length d5] 26)
  have KX := Lib.hid (Blk.new w5 26 #[.slice A5 ws.length c5, .slice B5 bs.length d5])
  have hb56 := ext_trans hb5 hb6
  have I1 := Lib.hid (iW.ext hb6)
  have I2 := Lib.hid (iB.ext hb6)
  have HW5 := Lib.hid (HW4.out.ext hb56)
  have HB5 := Lib.hid (HB4.out.ext hb56)
  have HP5 := Lib.hid (HP4.out.ext hb56)
  have K5 := Lib.hid (K4.out.ext hb56)
  have B5' := Lib.hid (ext_trans B4.out hb56)
  clear iW iB hb5 hb6 hb56 x0 x1 HW4 HB4 HP4 K4 B4
  go_wp2_with fail
  refine (c_toIntS _ ps _ HP5.out (by omega)).mono ?_
  rintro e w6 ⟨vQ, rfl, iP, hb6⟩
  obtain ⟨Q6, c6, hf6⟩ := iP.form
  subst hf6
  have J1 := Lib.hid (I1.out.ext hb6)
  have J2 := Lib.hid (I2.out.ext hb6)
  have J3 := Lib.hid iP
  have HW6 := Lib.hid (HW5.out.ext hb6)
  have HB6 := Lib.hid (HB5.out.ext hb6)
  have HP6 := Lib.hid (HP5.out.ext hb6)
  have K6 := Lib.hid (K5.out.ext hb6)
  have KX6 := Lib.hid (KX.out.ext hb6)
  have B6 := Lib.hid (ext_trans B5'.out hb6)
  have x0 : w6.cell? ⟨w5.heap.size, 0, none⟩ = some (.slice A5 ws.length c5) := KX6.out.cell 0
  have x1 : w6.cell? ⟨w5.heap.size, 1, none⟩ = some (.slice B5 bs.length d5) := KX6.out.cell 1
  clear iP hb6 HW5 HB5 HP5 K5 KX B5' I1 I2
  go_wp2_with fail
  refine (c_PinEncipher _ _ _ ws bs ps s _ J1.out J2.out J3.out (by omega)).mono ?_
  rintro e w7 ⟨rfl, hb7⟩
  rw [HS.out]
  have L1 := Lib.hid (J1.out.ext hb7)
  have L2 := Lib.hid (J2.out.ext hb7)
  have L3 := Lib.hid (J3.out.ext hb7)
  have HW7 := Lib.hid (HW6.out.ext hb7)
  have HB7 := Lib.hid (HB6.out.ext hb7)
  have HP7 := Lib.hid (HP6.out.ext hb7)
  have K7 := Lib.hid (K6.out.ext hb7)
  have KX7 := Lib.hid (KX6.out.ext hb7)
  have B7 := Lib.hid (ext_trans B6.out hb7)
  clear hb7 x0 x1 HW6 HB6 HP6 K6 KX6 B6 J1 J2 J3
  have x0 : w7.cell? ⟨w5.heap.size, 0, none⟩ = some (.slice A5 ws.length c5) := KX7.out.cell 0
  have x1 : w7.cell? ⟨w5.heap.size, 1, none⟩ = some (.slice B5 bs.length d5) := KX7.out.cell 1
  have x2 : w7.cell? ⟨w.heap.size, 0, none⟩ = some (.slice A ws.length cA) := K7.out.cell 0
  have x3 : w7.cell? ⟨w.heap.size, 1, none⟩ = some (.slice B bs.length cB) := K7.out.cell 1
  go_wp2_with fail
  go_region_held3 (fun w' => w'.cell? ⟨w5.heap.size, 0, none⟩ = some (.slice A5 ws.length c5) ∧ w'.cell? ⟨w5.heap.size, 1, none⟩ = some (.slice B5 bs.length d5) ∧ w'.cell? ⟨w.heap.size, 0, none⟩ = some (.slice A ws.length cA) ∧ w'.cell? ⟨w.heap.size, 1, none⟩ = some (.slice B bs.length cB))
    (first | exact hkeep2 | exact hkeep1 | exact ⟨x0, x1, x2, x3⟩ | go_keep)
    (first
      | (go_at_call 19
         refine (c_toCage _ _ ws bs _ (HW7.out.ext (Below.refl _ _).drew) (HB7.out.ext (Below.refl _ _).drew) hl.1 hl.2).mono ?_
         rintro e w8 ⟨vM, vN, rfl, iM, iN, hb8⟩
         have hkeep1 : w8.cell? ⟨w5.heap.size, 0, none⟩ = some (.slice A5 ws.length c5) ∧ w8.cell? ⟨w5.heap.size, 1, none⟩ = some (.slice B5 bs.length d5) ∧ w8.cell? ⟨w.heap.size, 0, none⟩ = some (.slice A ws.length cA) ∧ w8.cell? ⟨w.heap.size, 1, none⟩ = some (.slice B bs.length cB) :=
           ⟨(KX7.out.drew.ext hb8).cell 0, (KX7.out.drew.ext hb8).cell 1, (K7.out.drew.ext hb8).cell 0, (K7.out.drew.ext hb8).cell 1⟩
         have HB8 := Lib.hid ((Below.refl w7.heap.size w7).drew.trans hb8))
      | (go_at_call 22
         refine (c_eqCage _ _ _ _ ws bs _ (L1.out.ext HB8.out) (L2.out.ext HB8.out) iM iN).mono ?_
         rintro e w9 ⟨rfl, hb9⟩
         have hkeep2 : w9.cell? ⟨w5.heap.size, 0, none⟩ = some (.slice A5 ws.length c5) ∧ w9.cell? ⟨w5.heap.size, 1, none⟩ = some (.slice B5 bs.length d5) ∧ w9.cell? ⟨w.heap.size, 0, none⟩ = some (.slice A ws.length cA) ∧ w9.cell? ⟨w.heap.size, 1, none⟩ = some (.slice B bs.length cB) :=
           ⟨((KX7.out.ext HB8.out).ext hb9).cell 0, ((KX7.out.ext HB8.out).ext hb9).cell 1, ((K7.out.ext HB8.out).ext hb9).cell 0, ((K7.out.ext HB8.out).ext hb9).cell 1⟩))
  have L3' := Lib.hid ((L3.out.ext HB8.out).ext hb9)
  have HP9 := Lib.hid ((HP7.out.ext HB8.out).ext hb9)
  have B9 := Lib.hid (ext_trans (ext_trans B7.out HB8.out) hb9)
  clear hkeep1 hkeep2 iM iN hb8 hb9 HB8
  go_wp2_with fail
  refine (c_toIntS _ ps _ HP9.out (by omega)).mono ?_
  rintro e w10 ⟨vR, rfl, iR, hb10⟩
  have M3 := Lib.hid (L3'.out.ext hb10)
  have M4 := Lib.hid iR
  have B10 := Lib.hid (ext_trans B9.out hb10)
  clear hb10 iR
  go_wp2_with fail
  refine (c_eqIntS _ _ ps _ M3.out M4.out).mono ?_
  rintro e w11 ⟨rfl, hb11⟩
  have B11 := Lib.hid (ext_trans B10.out hb11)
  clear hb11
  go_wp2_with fail
  go_ret
  exact ⟨rfl, B11.out⟩
theorem walk_FnExactPinEncipher (v0 : Value) (x0 : List ByteArray × List Int) (v1 : Value) (x1 : List Int) (a2 : ByteArray) (w : World) (w0 : IsCage w v0 x0) (w1 : IsInts w v1 x1) (_w2 : a2.size ≤ maxLen) :
    Calls Try.prog 5 #[v0, v1, .string a2] w fun e w' => e = .returned (.bool true) ∧ Below w.heap.size w w' := by
  obtain ⟨vW, vB, rfl, h1, h2⟩ := w0
  exact walkx_FnExactPinEncipher vW vB v1 x0.1 x0.2 x1 a2 w h1 h2 w1
end Go.Proofs.Ytomgkpiogbmfgaa
