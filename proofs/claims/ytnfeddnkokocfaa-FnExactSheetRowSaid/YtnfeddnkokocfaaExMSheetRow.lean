/- The walk of the law FnExactSheetRow. -/
import Derived.Test.YtnfeddnkokocfaaExactMach
import Derived.Test.YtnfeddnkokocfaaOpenMach
import Derived.Test.YtnfeddnkokocfaaRowFns
import Derived.Test.YtnfeddnkokocfaaSpecRep
namespace Go.Proofs.Ytnfeddnkokocfaa
set_option linter.unusedVariables false
set_option linter.unusedSimpArgs false
open Go.RowKit

set_option maxHeartbeats 1000000 in
theorem walkx_FnExactSheetRow (A : Option Addr) (cA : Nat) (M : Mch) (s : ByteArray) (n : Int) (w : World) (hR : IsRots w (.slice A M.l.length cA) M.l) (hz : MSz M) (zs : s.size ≤ 9223372036854775807) :
    Calls Try.prog 5 #[mV A cA M, .string s, .int .i64 n] w fun e w' => e = .returned (.bool true) ∧ Below w.heap.size w w' := by
  have hb0 := ext_alloc w (.cells #[.slice A M.l.length cA, .string M.rf, .string M.rg, .string M.pl] 26)
  have K := Lib.hid (Blk.new w 26 #[.slice A M.l.length cA, .string M.rf, .string M.rg, .string M.pl])
  have HW := Lib.hid (hR.ext hb0)
  have B0 := Lib.hid hb0
  have HZ := Lib.hid hz
  clear hR hb0 hz
  by_cases hs : 1048576 < s.size
  · go_enter Try.func5, Try.ntmps5
    go_wp2_with fail
    go_ret
    exact ⟨rfl, B0.out⟩
  go_enter Try.func5, Try.ntmps5
  have x0 := K.out.cell 0
  have x1 := K.out.cell 1
  have x2 := K.out.cell 2
  have x3 := K.out.cell 3
  go_wp2_with fail
  refine (c_szMachine A cA M _ HW.out HZ.out).mono ?_
  rintro e w1 ⟨r, rfl, hr0, hr1, hr2, hb1⟩
  have HR := Lib.hid hr2
  have HW1 := Lib.hid (HW.out.ext hb1)
  have K1 := Lib.hid (K.out.ext hb1)
  have B1 := Lib.hid (ext_trans B0.out hb1)
  clear hr2 hb1 HW B0 x0 x1 x2 x3 K
  by_cases hr : r < 0
  · go_wp2_with fail
    go_ret
    exact ⟨rfl, B1.out⟩
  obtain ⟨hl1, hl2⟩ := HR.out (by omega)
  have HL2 := Lib.hid hl2
  clear hl2
  have x0 : w1.cell? ⟨w.heap.size, 0, none⟩ = some (.slice A M.l.length cA) := K1.out.cell 0
  have x1 : w1.cell? ⟨w.heap.size, 1, none⟩ = some (.string M.rf) := K1.out.cell 1
  have x2 : w1.cell? ⟨w.heap.size, 2, none⟩ = some (.string M.rg) := K1.out.cell 2
  have x3 : w1.cell? ⟨w.heap.size, 3, none⟩ = some (.string M.pl) := K1.out.cell 3
  go_wp2_with fail
  refine (c_toMachine A cA M _ HW1.out hl1 HL2.out).mono ?_
  rintro e w2 ⟨A2, c2, rfl, i2, _, hb2⟩
  have I2 := Lib.hid i2
  have HW2 := Lib.hid (HW1.out.ext hb2)
  have K2 := Lib.hid (K1.out.ext hb2)
  have B2 := Lib.hid (ext_trans B1.out hb2)
  clear i2 hb2 x0 x1 x2 x3 HW1 K1 B1
  generalize hS : rowR M s n = S
  have HS := Lib.hid hS
  clear hS
  go_wp2_with fail
  refine (c_sSheetRow A2 c2 M s n _ I2.out HZ.out (by omega)).mono ?_
  rintro e w3 ⟨rfl, hb3⟩
  rw [HS.out]
  have HW3 := Lib.hid (HW2.out.ext hb3)
  have K3 := Lib.hid (K2.out.ext hb3)
  have B3 := Lib.hid (ext_trans B2.out hb3)
  clear hb3 HW2 K2 B2 I2
  have x0 : w3.cell? ⟨w.heap.size, 0, none⟩ = some (.slice A M.l.length cA) := K3.out.cell 0
  have x1 : w3.cell? ⟨w.heap.size, 1, none⟩ = some (.string M.rf) := K3.out.cell 1
  have x2 : w3.cell? ⟨w.heap.size, 2, none⟩ = some (.string M.rg) := K3.out.cell 2
  have x3 : w3.cell? ⟨w.heap.size, 3, none⟩ = some (.string M.pl) := K3.out.cell 3
  go_wp2_with fail
  refine (c_toMachine A cA M _ HW3.out hl1 HL2.out).mono ?_
  rintro e w5 ⟨A5, c5, rfl, i5, _, hb5⟩
  have hb6 := ext_alloc w5 (.cells #[.slice A5 M.l.length c5, .string M.rf, .string M.rg, .string M.pl] 33)
  have KX := Lib.hid (Blk.new w5 33 #[.slice A5 M.l.length c5, .string M.rf, .string M.rg, .string M.pl])
  have hb56 := ext_trans hb5 hb6
  have I5 := Lib.hid (i5.ext hb6)
  have HW5 := Lib.hid (HW3.out.ext hb56)
  have K5 := Lib.hid (K3.out.ext hb56)
  have B5 := Lib.hid (ext_trans B3.out hb56)
  clear i5 hb5 hb6 hb56 x0 x1 x2 x3 HW3 K3 B3
  go_wp2_with fail
  refine (c_SheetRow A5 c5 M s n _ I5.out HZ.out (by omega)).mono ?_
  rintro e w7 ⟨rfl, hb7⟩
  rw [HS.out]
  have L1 := Lib.hid (I5.out.ext hb7)
  have HW7 := Lib.hid (HW5.out.ext hb7)
  have K7 := Lib.hid (K5.out.ext hb7)
  have KX7 := Lib.hid (KX.out.ext hb7)
  have B7 := Lib.hid (ext_trans B5.out hb7)
  clear hb7 HW5 K5 KX B5 I5
  have x0 : w7.cell? ⟨w5.heap.size, 0, none⟩ = some (.slice A5 M.l.length c5) := KX7.out.cell 0
  have x1 : w7.cell? ⟨w5.heap.size, 1, none⟩ = some (.string M.rf) := KX7.out.cell 1
  have x2 : w7.cell? ⟨w5.heap.size, 2, none⟩ = some (.string M.rg) := KX7.out.cell 2
  have x3 : w7.cell? ⟨w5.heap.size, 3, none⟩ = some (.string M.pl) := KX7.out.cell 3
  have y0 : w7.cell? ⟨w.heap.size, 0, none⟩ = some (.slice A M.l.length cA) := K7.out.cell 0
  have y1 : w7.cell? ⟨w.heap.size, 1, none⟩ = some (.string M.rf) := K7.out.cell 1
  have y2 : w7.cell? ⟨w.heap.size, 2, none⟩ = some (.string M.rg) := K7.out.cell 2
  have y3 : w7.cell? ⟨w.heap.size, 3, none⟩ = some (.string M.pl) := K7.out.cell 3
  go_wp2_with fail
  go_region_held3 (fun w' => w'.cell? ⟨w5.heap.size, 0, none⟩ = some (.slice A5 M.l.length c5) ∧ w'.cell? ⟨w5.heap.size, 1, none⟩ = some (.string M.rf) ∧ w'.cell? ⟨w5.heap.size, 2, none⟩ = some (.string M.rg) ∧ w'.cell? ⟨w5.heap.size, 3, none⟩ = some (.string M.pl) ∧ w'.cell? ⟨w.heap.size, 0, none⟩ = some (.slice A M.l.length cA) ∧ w'.cell? ⟨w.heap.size, 1, none⟩ = some (.string M.rf) ∧ w'.cell? ⟨w.heap.size, 2, none⟩ = some (.string M.rg) ∧ w'.cell? ⟨w.heap.size, 3, none⟩ = some (.string M.pl))
    (first | exact hkeep2 | exact hkeep1 | exact ⟨x0, x1, x2, x3, y0, y1, y2, y3⟩ | go_keep)
    (first
      | (go_at_call 15
         refine (c_toMachine A cA M _ (HW7.out.ext (Below.refl _ _).drew) hl1 HL2.out).mono ?_
         rintro e w8 ⟨A8, c8, rfl, i8, _, hb8⟩
         have hkeep1 : w8.cell? ⟨w5.heap.size, 0, none⟩ = some (.slice A5 M.l.length c5) ∧ w8.cell? ⟨w5.heap.size, 1, none⟩ = some (.string M.rf) ∧ w8.cell? ⟨w5.heap.size, 2, none⟩ = some (.string M.rg) ∧ w8.cell? ⟨w5.heap.size, 3, none⟩ = some (.string M.pl) ∧ w8.cell? ⟨w.heap.size, 0, none⟩ = some (.slice A M.l.length cA) ∧ w8.cell? ⟨w.heap.size, 1, none⟩ = some (.string M.rf) ∧ w8.cell? ⟨w.heap.size, 2, none⟩ = some (.string M.rg) ∧ w8.cell? ⟨w.heap.size, 3, none⟩ = some (.string M.pl) :=
           ⟨(KX7.out.drew.ext hb8).cell 0, (KX7.out.drew.ext hb8).cell 1, (KX7.out.drew.ext hb8).cell 2, (KX7.out.drew.ext hb8).cell 3, (K7.out.drew.ext hb8).cell 0, (K7.out.drew.ext hb8).cell 1, (K7.out.drew.ext hb8).cell 2, (K7.out.drew.ext hb8).cell 3⟩
         have HB8 := Lib.hid ((Below.refl w7.heap.size w7).drew.trans hb8))
      | (go_at_call 17
         refine (c_eqMachine A5 A8 c5 c8 M _ (L1.out.ext HB8.out) i8).mono ?_
         rintro e w9 ⟨rfl, hb9⟩
         have hkeep2 : w9.cell? ⟨w5.heap.size, 0, none⟩ = some (.slice A5 M.l.length c5) ∧ w9.cell? ⟨w5.heap.size, 1, none⟩ = some (.string M.rf) ∧ w9.cell? ⟨w5.heap.size, 2, none⟩ = some (.string M.rg) ∧ w9.cell? ⟨w5.heap.size, 3, none⟩ = some (.string M.pl) ∧ w9.cell? ⟨w.heap.size, 0, none⟩ = some (.slice A M.l.length cA) ∧ w9.cell? ⟨w.heap.size, 1, none⟩ = some (.string M.rf) ∧ w9.cell? ⟨w.heap.size, 2, none⟩ = some (.string M.rg) ∧ w9.cell? ⟨w.heap.size, 3, none⟩ = some (.string M.pl) :=
           ⟨((KX7.out.ext HB8.out).ext hb9).cell 0, ((KX7.out.ext HB8.out).ext hb9).cell 1, ((KX7.out.ext HB8.out).ext hb9).cell 2, ((KX7.out.ext HB8.out).ext hb9).cell 3, ((K7.out.ext HB8.out).ext hb9).cell 0, ((K7.out.ext HB8.out).ext hb9).cell 1, ((K7.out.ext HB8.out).ext hb9).cell 2, ((K7.out.ext HB8.out).ext hb9).cell 3⟩))
  have B9 := Lib.hid (ext_trans (ext_trans B7.out HB8.out) hb9)
  clear hkeep1 hkeep2 hb8 hb9 HB8
  go_wp2_with fail
  go_ret
  exact ⟨rfl, B9.out⟩
theorem walk_FnExactSheetRow (v0 : Value) (x0 : Mch) (a1 : ByteArray) (a2 : Int) (w : World) (w0 : IsMachine w v0 x0) (w1 : a1.size ≤ maxLen) (_w2 : (Lit.int .i64 a2).wf = true) :
    Calls Try.prog 5 #[v0, .string a1, .int .i64 a2] w fun e w' => e = .returned (.bool true) ∧ Below w.heap.size w w' := by
  obtain ⟨A, c, rfl, h1, h2⟩ := w0
  exact walkx_FnExactSheetRow A c x0 a1 a2 w h1 h2 (by unfold maxLen at w1; omega)
end Go.Proofs.Ytnfeddnkokocfaa
