/- The walk of the law FnExactCheckMenu. -/
import Derived.Test.YtnfeddnkokocfaaExactMach
import Derived.Test.YtnfeddnkokocfaaOpenMach
import Derived.Test.YtnfeddnkokocfaaOwnLinks
import Derived.Test.YtnfeddnkokocfaaOpenLinks
import Derived.Test.YtnfeddnkokocfaaChkFn
import Derived.Test.YtnfeddnkokocfaaSpecChk
namespace Go.Proofs.Ytnfeddnkokocfaa
set_option linter.unusedVariables false
set_option linter.unusedSimpArgs false
open Go.RowKit

set_option maxHeartbeats 1000000 in
theorem walkx_FnExactCheckMenu (A AL : Option Addr) (cA cL : Nat) (M : Mch) (s : ByteArray) (l : List Lnk) (w : World) (hR : IsRots w (.slice A M.l.length cA) M.l) (hz : MSz M) (zs : s.size ≤ 9223372036854775807) (hL : IsLinks w (.slice AL l.length cL) l) :
    Calls Try.prog 9 #[mV A cA M, .string s, .slice AL l.length cL] w fun e w' => e = .returned (.bool true) ∧ Below w.heap.size w w' := by
  have hb0 := ext_alloc w (.cells #[.slice A M.l.length cA, .string M.rf, .string M.rg, .string M.pl] 26)
  have K := Lib.hid (Blk.new w 26 #[.slice A M.l.length cA, .string M.rf, .string M.rg, .string M.pl])
  have HW := Lib.hid (hR.ext hb0)
  have V := Lib.hid (hL.ext hb0)
  have B0 := Lib.hid hb0
  have HZ := Lib.hid hz
  have HSZ : Hid (∀ k, k < l.length → (gL l k).1.size ≤ 9223372036854775807 ∧ (gL l k).2.1.size ≤ 9223372036854775807) := fun k hk => hL.sizes hk
  clear hR hb0 hz hL
  by_cases hs : 1048576 < s.size
  · go_enter Try.func9, Try.ntmps9
    go_wp2_with fail
    go_ret
    exact ⟨rfl, B0.out⟩
  go_enter Try.func9, Try.ntmps9
  have x0 := K.out.cell 0
  have x1 := K.out.cell 1
  have x2 := K.out.cell 2
  have x3 := K.out.cell 3
  go_wp2_with fail
  refine (c_szMachine A cA M _ HW.out HZ.out).mono ?_
  rintro e w1 ⟨r, rfl, hr0, hr1, hr2, hb1⟩
  have HR := Lib.hid hr2
  have HW1 := Lib.hid (HW.out.ext hb1)
  have V1 := Lib.hid (V.out.ext hb1)
  have K1 := Lib.hid (K.out.ext hb1)
  have B1 := Lib.hid (ext_trans B0.out hb1)
  clear hr2 hb1 HW V B0 x0 x1 x2 x3 K
  by_cases hr : r < 0
  · go_wp2_with fail
    go_ret
    exact ⟨rfl, B1.out⟩
  obtain ⟨hl1, hl2⟩ := HR.out (by omega)
  have HL2 := Lib.hid hl2
  clear hl2 HR
  go_wp2_with fail
  refine (c_szLinkS AL cL l r _ V1.out (by omega) (by omega)).mono ?_
  rintro e w2 ⟨r', rfl, hr0', hr1', hr2', hb2⟩
  have HR := Lib.hid hr2'
  have HW2 := Lib.hid (HW1.out.ext hb2)
  have V2 := Lib.hid (V1.out.ext hb2)
  have K2 := Lib.hid (K1.out.ext hb2)
  have B2 := Lib.hid (ext_trans B1.out hb2)
  clear hr2' hb2 HW1 V1 B1 K1
  by_cases hr' : r' < 0
  · go_wp2_with fail
    go_ret
    exact ⟨rfl, B2.out⟩
  have hll := HR.out (by omega)
  have hl63 : l.length ≤ 9223372036854775807 := by omega
  clear HR
  have x0 : w2.cell? ⟨w.heap.size, 0, none⟩ = some (.slice A M.l.length cA) := K2.out.cell 0
  have x1 : w2.cell? ⟨w.heap.size, 1, none⟩ = some (.string M.rf) := K2.out.cell 1
  have x2 : w2.cell? ⟨w.heap.size, 2, none⟩ = some (.string M.rg) := K2.out.cell 2
  have x3 : w2.cell? ⟨w.heap.size, 3, none⟩ = some (.string M.pl) := K2.out.cell 3
  go_wp2_with fail
  refine (c_toMachine A cA M _ HW2.out hl1 HL2.out).mono ?_
  rintro e w3 ⟨A3, c3, rfl, i3, _, hb3⟩
  have I3 := Lib.hid i3
  have HW3 := Lib.hid (HW2.out.ext hb3)
  have V3 := Lib.hid (V2.out.ext hb3)
  have K3 := Lib.hid (K2.out.ext hb3)
  have B3 := Lib.hid (ext_trans B2.out hb3)
  clear i3 hb3 x0 x1 x2 x3 HW2 V2 K2 B2
  go_wp2_with fail
  refine (c_toLinkS AL cL l _ V3.out hll).mono ?_
  rintro e w4 ⟨v4, rfl, i4, hb4⟩
  obtain ⟨A4, c4, rfl⟩ := i4.slice
  have J4 := Lib.hid (i4.links hl63 HSZ.out)
  have I4 := Lib.hid (I3.out.ext hb4)
  have HW4 := Lib.hid (HW3.out.ext hb4)
  have V4 := Lib.hid (V3.out.ext hb4)
  have K4 := Lib.hid (K3.out.ext hb4)
  have B4 := Lib.hid (ext_trans B3.out hb4)
  clear i4 hb4 I3 HW3 V3 K3 B3
  generalize hS : chkB M s l = S
  have HS := Lib.hid hS
  clear hS
  go_wp2_with fail
  refine (c_sCheckMenu A3 A4 c3 c4 M s l _ I4.out HZ.out (by omega) J4.out).mono ?_
  rintro e w5 ⟨rfl, hb5⟩
  rw [HS.out]
  have HW5 := Lib.hid (HW4.out.ext hb5)
  have V5 := Lib.hid (V4.out.ext hb5)
  have K5 := Lib.hid (K4.out.ext hb5)
  have B5 := Lib.hid (ext_trans B4.out hb5)
  clear hb5 HW4 V4 K4 B4 I4 J4
  have x0 : w5.cell? ⟨w.heap.size, 0, none⟩ = some (.slice A M.l.length cA) := K5.out.cell 0
  have x1 : w5.cell? ⟨w.heap.size, 1, none⟩ = some (.string M.rf) := K5.out.cell 1
  have x2 : w5.cell? ⟨w.heap.size, 2, none⟩ = some (.string M.rg) := K5.out.cell 2
  have x3 : w5.cell? ⟨w.heap.size, 3, none⟩ = some (.string M.pl) := K5.out.cell 3
  go_wp2_with fail
  refine (c_toMachine A cA M _ HW5.out hl1 HL2.out).mono ?_
  rintro e w6 ⟨A6, c6, rfl, i6, _, hb6⟩
  have hb7 := ext_alloc w6 (.cells #[.slice A6 M.l.length c6, .string M.rf, .string M.rg, .string M.pl] 33)
  have KX := Lib.hid (Blk.new w6 33 #[.slice A6 M.l.length c6, .string M.rf, .string M.rg, .string M.pl])
  have hb67 := ext_trans hb6 hb7
  have I7 := Lib.hid (i6.ext hb7)
  have HW7 := Lib.hid (HW5.out.ext hb67)
  have V7 := Lib.hid (V5.out.ext hb67)
  have K7 := Lib.hid (K5.out.ext hb67)
  have B7 := Lib.hid (ext_trans B5.out hb67)
  clear i6 hb6 hb7 hb67 x0 x1 x2 x3 HW5 V5 K5 B5
  obtain ⟨b6, hb6⟩ : ∃ b6, w6.heap.size = b6 := ⟨_, rfl⟩
  rw [hb6] at KX
  go_upto_region 12 with fail
  clear hb6
  generalize w6.alloc (.cells #[.slice A6 M.l.length c6, .string M.rf, .string M.rg, .string M.pl] 33) = w7 at *
  go_wp2_with fail
  refine (c_toLinkS AL cL l _ V7.out hll).mono ?_
  rintro e w8 ⟨v8, rfl, i8, hb8⟩
  obtain ⟨A8, c8, rfl⟩ := i8.slice
  have J8 := Lib.hid (i8.links hl63 HSZ.out)
  have I8 := Lib.hid (I7.out.ext hb8)
  have KX8 := Lib.hid (KX.out.ext hb8)
  have HW8 := Lib.hid (HW7.out.ext hb8)
  have V8 := Lib.hid (V7.out.ext hb8)
  have K8 := Lib.hid (K7.out.ext hb8)
  have B8 := Lib.hid (ext_trans B7.out hb8)
  clear i8 hb8 I7 KX HW7 V7 K7 B7
  have y0 : w8.cell? ⟨b6, 0, none⟩ = some (.slice A6 M.l.length c6) := KX8.out.cell 0
  have y1 : w8.cell? ⟨b6, 1, none⟩ = some (.string M.rf) := KX8.out.cell 1
  have y2 : w8.cell? ⟨b6, 2, none⟩ = some (.string M.rg) := KX8.out.cell 2
  have y3 : w8.cell? ⟨b6, 3, none⟩ = some (.string M.pl) := KX8.out.cell 3
  go_wp2_with fail
  refine (c_CheckMenu A6 A8 c6 c8 M s l _ I8.out HZ.out (by omega) J8.out).mono ?_
  rintro e w9 ⟨rfl, hb9⟩
  rw [HS.out]
  have J9 := Lib.hid (J8.out.ext hb9)
  have I9 := Lib.hid (I8.out.ext hb9)
  have KX9 := Lib.hid (KX8.out.ext hb9)
  have HW9 := Lib.hid (HW8.out.ext hb9)
  have V9 := Lib.hid (V8.out.ext hb9)
  have K9 := Lib.hid (K8.out.ext hb9)
  have B9 := Lib.hid (ext_trans B8.out hb9)
  clear hb9 J8 I8 KX8 HW8 V8 K8 B8 y0 y1 y2 y3
  have x0 : w9.cell? ⟨b6, 0, none⟩ = some (.slice A6 M.l.length c6) := KX9.out.cell 0
  have x1 : w9.cell? ⟨b6, 1, none⟩ = some (.string M.rf) := KX9.out.cell 1
  have x2 : w9.cell? ⟨b6, 2, none⟩ = some (.string M.rg) := KX9.out.cell 2
  have x3 : w9.cell? ⟨b6, 3, none⟩ = some (.string M.pl) := KX9.out.cell 3
  have y0 : w9.cell? ⟨w.heap.size, 0, none⟩ = some (.slice A M.l.length cA) := K9.out.cell 0
  have y1 : w9.cell? ⟨w.heap.size, 1, none⟩ = some (.string M.rf) := K9.out.cell 1
  have y2 : w9.cell? ⟨w.heap.size, 2, none⟩ = some (.string M.rg) := K9.out.cell 2
  have y3 : w9.cell? ⟨w.heap.size, 3, none⟩ = some (.string M.pl) := K9.out.cell 3
  go_wp2_with fail
  go_region_held3 (fun w' => w'.cell? ⟨b6, 0, none⟩ = some (.slice A6 M.l.length c6) ∧ w'.cell? ⟨b6, 1, none⟩ = some (.string M.rf) ∧ w'.cell? ⟨b6, 2, none⟩ = some (.string M.rg) ∧ w'.cell? ⟨b6, 3, none⟩ = some (.string M.pl) ∧ w'.cell? ⟨w.heap.size, 0, none⟩ = some (.slice A M.l.length cA) ∧ w'.cell? ⟨w.heap.size, 1, none⟩ = some (.string M.rf) ∧ w'.cell? ⟨w.heap.size, 2, none⟩ = some (.string M.rg) ∧ w'.cell? ⟨w.heap.size, 3, none⟩ = some (.string M.pl))
    (first | exact hkeep2 | exact hkeep1 | exact ⟨x0, x1, x2, x3, y0, y1, y2, y3⟩ | go_keep)
    (first
      | (go_at_call 15
         refine (c_toMachine A cA M _ (HW9.out.ext (Below.refl _ _).drew) hl1 HL2.out).mono ?_
         rintro e w10 ⟨A10, c10, rfl, i10, _, hb10⟩
         have hkeep1 : w10.cell? ⟨b6, 0, none⟩ = some (.slice A6 M.l.length c6) ∧ w10.cell? ⟨b6, 1, none⟩ = some (.string M.rf) ∧ w10.cell? ⟨b6, 2, none⟩ = some (.string M.rg) ∧ w10.cell? ⟨b6, 3, none⟩ = some (.string M.pl) ∧ w10.cell? ⟨w.heap.size, 0, none⟩ = some (.slice A M.l.length cA) ∧ w10.cell? ⟨w.heap.size, 1, none⟩ = some (.string M.rf) ∧ w10.cell? ⟨w.heap.size, 2, none⟩ = some (.string M.rg) ∧ w10.cell? ⟨w.heap.size, 3, none⟩ = some (.string M.pl) :=
           ⟨(KX9.out.drew.ext hb10).cell 0, (KX9.out.drew.ext hb10).cell 1, (KX9.out.drew.ext hb10).cell 2, (KX9.out.drew.ext hb10).cell 3, (K9.out.drew.ext hb10).cell 0, (K9.out.drew.ext hb10).cell 1, (K9.out.drew.ext hb10).cell 2, (K9.out.drew.ext hb10).cell 3⟩
         have HB10 := Lib.hid ((Below.refl w9.heap.size w9).drew.trans hb10))
      | (go_at_call 17
         refine (c_eqMachine A6 A10 c6 c10 M _ (I9.out.ext HB10.out) i10).mono ?_
         rintro e w11 ⟨rfl, hb11⟩
         have hkeep2 : w11.cell? ⟨b6, 0, none⟩ = some (.slice A6 M.l.length c6) ∧ w11.cell? ⟨b6, 1, none⟩ = some (.string M.rf) ∧ w11.cell? ⟨b6, 2, none⟩ = some (.string M.rg) ∧ w11.cell? ⟨b6, 3, none⟩ = some (.string M.pl) ∧ w11.cell? ⟨w.heap.size, 0, none⟩ = some (.slice A M.l.length cA) ∧ w11.cell? ⟨w.heap.size, 1, none⟩ = some (.string M.rf) ∧ w11.cell? ⟨w.heap.size, 2, none⟩ = some (.string M.rg) ∧ w11.cell? ⟨w.heap.size, 3, none⟩ = some (.string M.pl) :=
           ⟨((KX9.out.ext HB10.out).ext hb11).cell 0, ((KX9.out.ext HB10.out).ext hb11).cell 1, ((KX9.out.ext HB10.out).ext hb11).cell 2, ((KX9.out.ext HB10.out).ext hb11).cell 3, ((K9.out.ext HB10.out).ext hb11).cell 0, ((K9.out.ext HB10.out).ext hb11).cell 1, ((K9.out.ext HB10.out).ext hb11).cell 2, ((K9.out.ext HB10.out).ext hb11).cell 3⟩))
  have hb911 := ext_trans HB10.out hb11
  have V11 := Lib.hid (V9.out.ext hb911)
  have J11 := Lib.hid (J9.out.ext hb911)
  have B11 := Lib.hid (ext_trans B9.out hb911)
  clear hkeep1 hkeep2 hb10 hb11 HB10 hb911
  go_wp2_with fail
  refine (c_toLinkS AL cL l _ V11.out hll).mono ?_
  rintro e w12 ⟨v12, rfl, i12, hb12⟩
  obtain ⟨A12, c12, rfl⟩ := i12.slice
  have J12 := Lib.hid (i12.links hl63 HSZ.out)
  have J12' := Lib.hid (J11.out.ext hb12)
  have B12 := Lib.hid (ext_trans B11.out hb12)
  clear i12 hb12
  go_wp2_with fail
  refine (c_eqLinkS A8 c8 A12 c12 l _ J12'.out J12.out).mono ?_
  rintro e w13 ⟨rfl, hb13⟩
  have B13 := Lib.hid (ext_trans B12.out hb13)
  clear hb13
  go_wp2_with fail
  go_ret
  exact ⟨rfl, B13.out⟩
theorem walk_FnExactCheckMenu (v0 : Value) (x0 : Mch) (a1 : ByteArray) (v2 : Value) (x2 : List Lnk) (w : World) (w0 : IsMachine w v0 x0) (w1 : a1.size ≤ maxLen) (w2 : IsLinks w v2 x2) :
    Calls Try.prog 9 #[v0, .string a1, v2] w fun e w' => e = .returned (.bool true) ∧ Below w.heap.size w w' := by
  obtain ⟨A, c, rfl, h1, h2⟩ := w0
  obtain ⟨AL, cL, rfl⟩ := w2.form
  exact walkx_FnExactCheckMenu A AL c cL x0 a1 x2 w h1 h2 (by unfold maxLen at w1; omega) w2
end Go.Proofs.Ytnfeddnkokocfaa
