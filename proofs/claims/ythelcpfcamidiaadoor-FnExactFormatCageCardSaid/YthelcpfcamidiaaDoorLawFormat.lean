/- The walk of FnExactFormatCage. -/
import Derived.Test.YthelcpfcamidiaaDoorFormat3
import Derived.Test.YthelcpfcamidiaaDoorOpen
import Derived.Deep.RegionHeld3
namespace Go.Proofs.YthelcpfcamidiaaDoor
set_option linter.unusedVariables false
set_option linter.unusedSimpArgs false
open Go.RowKit

set_option maxHeartbeats 1000000 in
theorem walkx_FnExactFormatCage (vW vB : Value) (ws : List ByteArray) (bs : List Int) (w : World) (hW : IsStrs w vW ws) (hB : IsInts w vB bs) :
    Calls Tryd.prog 3 #[.agg #[vW, vB]] w fun e w' => e = .returned (.bool true) ∧ Below w.heap.size w w' := by
  have hb0 := ext_alloc w (.cells #[vW, vB] 25)
  have K := Lib.hid (Blk.new w 25 #[vW, vB])
  have HW := Lib.hid (hW.ext hb0)
  have HB := Lib.hid (hB.ext hb0)
  have B0 := Lib.hid hb0
  obtain ⟨A, cA, rfl⟩ := hW.form
  obtain ⟨B, cB, rfl⟩ := hB.form
  clear hW hB hb0
  go_enter Tryd.func3, Tryd.ntmps3
  have x0 : (w.alloc (.cells #[.slice A ws.length cA, .slice B bs.length cB] 25)).cell? ⟨w.heap.size, 0, none⟩ = some (.slice A ws.length cA) := K.out.cell 0
  have x1 : (w.alloc (.cells #[.slice A ws.length cA, .slice B bs.length cB] 25)).cell? ⟨w.heap.size, 1, none⟩ = some (.slice B bs.length cB) := K.out.cell 1
  go_wp2_with fail
  refine (c_szCage _ _ ws bs 1048576 _ HW.out HB.out (by omega) (by omega)).mono ?_
  rintro e w1 ⟨r, rfl, hr0, hr1, hr2, hb1⟩
  have HR := Lib.hid hr2
  have HW1 := Lib.hid (HW.out.ext hb1)
  have HB1 := Lib.hid (HB.out.ext hb1)
  have K1 := Lib.hid (K.out.ext hb1)
  have B1 := Lib.hid (ext_trans B0.out hb1)
  clear hr2 hb1 HW HB K B0 x0 x1
  by_cases hr : r < 0
  · go_wp2_with fail
    go_ret
    exact ⟨rfl, B1.out⟩
  have hl := HR.out (by omega)
  have x0 : w1.cell? ⟨w.heap.size, 0, none⟩ = some (.slice A ws.length cA) := K1.out.cell 0
  have x1 : w1.cell? ⟨w.heap.size, 1, none⟩ = some (.slice B bs.length cB) := K1.out.cell 1
  go_wp2_with fail
  refine (c_toCage _ _ ws bs _ HW1.out HB1.out hl.1 hl.2).mono ?_
  rintro e w2 ⟨vW', vB', rfl, iW, iB, hb2⟩
  obtain ⟨A2, c2, hf2⟩ := iW.form
  obtain ⟨B2', d2, hf3⟩ := iB.form
  subst hf2 hf3
  have I1 := Lib.hid iW
  have I2 := Lib.hid iB
  have HW2 := Lib.hid (HW1.out.ext hb2)
  have HB2 := Lib.hid (HB1.out.ext hb2)
  have K2 := Lib.hid (K1.out.ext hb2)
  have B2 := Lib.hid (ext_trans B1.out hb2)
  clear iW iB hb2 x0 x1 HW1 HB1 K1 B1
  go_wp2_with fail
  refine (c_sFormatCage A2 B2' c2 d2 ws bs _ I1.out I2.out).mono ?_
  rintro e w4 ⟨rfl, hb4⟩
  obtain ⟨S, hS⟩ : ∃ S, fmtR ws bs = S := ⟨_, rfl⟩
  rw [hS]
  have HS := Lib.hid hS
  have HW4 := Lib.hid (HW2.out.ext hb4)
  have HB4 := Lib.hid (HB2.out.ext hb4)
  have K4 := Lib.hid (K2.out.ext hb4)
  have B4 := Lib.hid (ext_trans B2.out hb4)
  clear hb4 HW2 HB2 K2 B2 I1 I2 hS
  have x0 : w4.cell? ⟨w.heap.size, 0, none⟩ = some (.slice A ws.length cA) := K4.out.cell 0
  have x1 : w4.cell? ⟨w.heap.size, 1, none⟩ = some (.slice B bs.length cB) := K4.out.cell 1
  go_wp2_with fail
  refine (c_toCageC _ _ ws bs _ HW4.out HB4.out hl.1 hl.2).mono ?_
  rintro e w5 ⟨vX, vY, rfl, iW, iB, ⟨A5, c5, hcap, rfl⟩, hb5⟩
  obtain ⟨B5, d5, hf6⟩ := iB.form
  subst hf6
  have hb6 := ext_alloc w5 (.cells #[.slice A5 ws.length c5, .slice B5 bs.length d5] 28)
  have KX := Lib.hid (Blk.new w5 28 #[.slice A5 ws.length c5, .slice B5 bs.length d5])
  have hb56 := ext_trans hb5 hb6
  have I1 := Lib.hid (iW.ext hb6)
  have I2 := Lib.hid (iB.ext hb6)
  have HW5 := Lib.hid (HW4.out.ext hb56)
  have HB5 := Lib.hid (HB4.out.ext hb56)
  have K5 := Lib.hid (K4.out.ext hb56)
  have B5' := Lib.hid (ext_trans B4.out hb56)
  clear iW iB hb5 hb6 hb56 x0 x1 HW4 HB4 K4 B4
  have x0 : (w5.alloc (.cells #[.slice A5 ws.length c5, .slice B5 bs.length d5] 28)).cell? ⟨w5.heap.size, 0, none⟩ = some (.slice A5 ws.length c5) := KX.out.cell 0
  have x1 : (w5.alloc (.cells #[.slice A5 ws.length c5, .slice B5 bs.length d5] 28)).cell? ⟨w5.heap.size, 1, none⟩ = some (.slice B5 bs.length d5) := KX.out.cell 1
  go_wp2_with fail
  refine (c_FormatCage A5 B5 c5 d5 ws bs _ I1.out I2.out hcap).mono ?_
  rintro e w7 ⟨rfl, hb7⟩
  rw [HS.out]
  have L1 := Lib.hid (I1.out.ext hb7)
  have L2 := Lib.hid (I2.out.ext hb7)
  have HW7 := Lib.hid (HW5.out.ext hb7)
  have HB7 := Lib.hid (HB5.out.ext hb7)
  have K7 := Lib.hid (K5.out.ext hb7)
  have KX7 := Lib.hid (KX.out.ext hb7)
  have B7 := Lib.hid (ext_trans B5'.out hb7)
  clear hb7 x0 x1 HW5 HB5 K5 KX B5' I1 I2
  have x0 : w7.cell? ⟨w5.heap.size, 0, none⟩ = some (.slice A5 ws.length c5) := KX7.out.cell 0
  have x1 : w7.cell? ⟨w5.heap.size, 1, none⟩ = some (.slice B5 bs.length d5) := KX7.out.cell 1
  have x2 : w7.cell? ⟨w.heap.size, 0, none⟩ = some (.slice A ws.length cA) := K7.out.cell 0
  have x3 : w7.cell? ⟨w.heap.size, 1, none⟩ = some (.slice B bs.length cB) := K7.out.cell 1
  go_wp2_with fail
  go_region_held3 (fun w' => w'.cell? ⟨w5.heap.size, 0, none⟩ = some (.slice A5 ws.length c5) ∧ w'.cell? ⟨w5.heap.size, 1, none⟩ = some (.slice B5 bs.length d5) ∧ w'.cell? ⟨w.heap.size, 0, none⟩ = some (.slice A ws.length cA) ∧ w'.cell? ⟨w.heap.size, 1, none⟩ = some (.slice B bs.length cB))
    (first | exact hkeep2 | exact hkeep1 | exact ⟨x0, x1, x2, x3⟩ | go_keep)
    (first
      | (go_at_call 6
         refine (c_toCage _ _ ws bs _ (HW7.out.ext (Below.refl _ _).drew) (HB7.out.ext (Below.refl _ _).drew) hl.1 hl.2).mono ?_
         rintro e w8 ⟨vM, vN, rfl, iM, iN, hb8⟩
         have hkeep1 : w8.cell? ⟨w5.heap.size, 0, none⟩ = some (.slice A5 ws.length c5) ∧ w8.cell? ⟨w5.heap.size, 1, none⟩ = some (.slice B5 bs.length d5) ∧ w8.cell? ⟨w.heap.size, 0, none⟩ = some (.slice A ws.length cA) ∧ w8.cell? ⟨w.heap.size, 1, none⟩ = some (.slice B bs.length cB) :=
           ⟨(KX7.out.drew.ext hb8).cell 0, (KX7.out.drew.ext hb8).cell 1, (K7.out.drew.ext hb8).cell 0, (K7.out.drew.ext hb8).cell 1⟩
         have HB8 := Lib.hid ((Below.refl w7.heap.size w7).drew.trans hb8))
      | (go_at_call 8
         refine (c_eqCage _ _ _ _ ws bs _ (L1.out.ext HB8.out) (L2.out.ext HB8.out) iM iN).mono ?_
         rintro e w9 ⟨rfl, hb9⟩
         have hkeep2 : w9.cell? ⟨w5.heap.size, 0, none⟩ = some (.slice A5 ws.length c5) ∧ w9.cell? ⟨w5.heap.size, 1, none⟩ = some (.slice B5 bs.length d5) ∧ w9.cell? ⟨w.heap.size, 0, none⟩ = some (.slice A ws.length cA) ∧ w9.cell? ⟨w.heap.size, 1, none⟩ = some (.slice B bs.length cB) :=
           ⟨((KX7.out.ext HB8.out).ext hb9).cell 0, ((KX7.out.ext HB8.out).ext hb9).cell 1, ((K7.out.ext HB8.out).ext hb9).cell 0, ((K7.out.ext HB8.out).ext hb9).cell 1⟩))
  have B9 := Lib.hid (ext_trans (ext_trans B7.out HB8.out) hb9)
  clear hkeep1 hkeep2 iM iN hb8 hb9 HB8
  go_wp2_with fail
  go_ret
  exact ⟨rfl, B9.out⟩
theorem walk_FnExactFormatCage (v0 : Value) (x0 : List ByteArray × List Int) (w : World) (w0 : IsCage w v0 x0) :
    Calls Tryd.prog 3 #[v0] w fun e w' => e = .returned (.bool true) ∧ Below w.heap.size w w' := by
  obtain ⟨vW, vB, rfl, h1, h2⟩ := w0
  exact walkx_FnExactFormatCage vW vB x0.1 x0.2 w h1 h2
end Go.Proofs.YthelcpfcamidiaaDoor
