/- The walks of the laws FnExact.. over wheels. -/
import Derived.Test.YtbapigekpehkfaaExactWheels
import Derived.Test.YtbapigekpehkfaaSpecSteps2
import Derived.Test.YtbapigekpehkfaaShift
import Derived.Test.YtbapigekpehkfaaOpenWheels
namespace Go.Proofs.Ytbapigekpehkfaa
set_option linter.unusedVariables false
set_option linter.unusedSimpArgs false
open Go.RowKit

theorem manyR_form (l : List Rot) (rf s : ByteArray) (n : Int) : ∃ S b, manyR l rf s n = .tuple #[.string S, .bool b] := ⟨_, _, rfl⟩
set_option maxHeartbeats 1000000 in
theorem walkx_FnExactStepWindows (A : Option Addr) (cA : Nat) (l : List Rot) (rf : ByteArray) (s : ByteArray) (w : World) (hR : IsRots w (.slice A l.length cA) l) (hf : rf.size ≤ 9223372036854775807) (zs : s.size ≤ 9223372036854775807) :
    Calls Try.prog 3 #[.agg #[.slice A l.length cA, .string rf], .string s] w fun e w' => e = .returned (.bool true) ∧ Below w.heap.size w w' := by
  have hb0 := ext_alloc w (.cells #[.slice A l.length cA, .string rf] 24)
  have K := Lib.hid (Blk.new w 24 #[.slice A l.length cA, .string rf])
  have HW := Lib.hid (hR.ext hb0)
  have B0 := Lib.hid hb0
  clear hR hb0
  by_cases hs : 1048576 < s.size
  · go_enter Try.func3, Try.ntmps3
    go_wp2_with fail
    go_ret
    exact ⟨rfl, B0.out⟩
  go_enter Try.func3, Try.ntmps3
  go_wp2_with fail
  refine (c_szWheels A cA l rf 1048576 _ HW.out hf (by omega) (by omega)).mono ?_
  rintro e w1 ⟨r, rfl, hr0, hr1, hr2, hb1⟩
  have HR := Lib.hid hr2
  have HW1 := Lib.hid (HW.out.ext hb1)
  have K1 := Lib.hid (K.out.ext hb1)
  have B1 := Lib.hid (ext_trans B0.out hb1)
  clear hr2 hb1 HW K B0
  by_cases hr : r < 0
  · go_wp2_with fail
    go_ret
    exact ⟨rfl, B1.out⟩
  obtain ⟨⟨hl1, hl2⟩, hl3⟩ := HR.out (by omega)
  have HL2 := Lib.hid hl2
  clear hl2
  have x0 : w1.cell? ⟨w.heap.size, 0, none⟩ = some (.slice A l.length cA) := K1.out.cell 0
  have x1 : w1.cell? ⟨w.heap.size, 1, none⟩ = some (.string rf) := K1.out.cell 1
  go_wp2_with fail
  refine (c_toWheels A cA l rf _ HW1.out hl1 HL2.out).mono ?_
  rintro e w2 ⟨A2, c2, rfl, i2, hb2⟩
  have I2 := Lib.hid i2
  have HW2 := Lib.hid (HW1.out.ext hb2)
  have K2 := Lib.hid (K1.out.ext hb2)
  have B2 := Lib.hid (ext_trans B1.out hb2)
  clear i2 hb2 x0 x1 HW1 K1 B1
  obtain ⟨S, b, hS⟩ := manyR_form l rf s 1
  have HS := Lib.hid hS
  clear hS
  go_wp2_with fail
  refine (c_sStepWindows _ l rf s _ I2.out hf (by omega)).mono ?_
  rintro e w3 ⟨rfl, hb3⟩
  rw [HS.out]
  have HW3 := Lib.hid (HW2.out.ext hb3)
  have K3 := Lib.hid (K2.out.ext hb3)
  have B3 := Lib.hid (ext_trans B2.out hb3)
  clear hb3 HW2 K2 B2 I2
  have x0 : w3.cell? ⟨w.heap.size, 0, none⟩ = some (.slice A l.length cA) := K3.out.cell 0
  have x1 : w3.cell? ⟨w.heap.size, 1, none⟩ = some (.string rf) := K3.out.cell 1
  go_wp2_with fail
  refine (c_toWheels A cA l rf _ HW3.out hl1 HL2.out).mono ?_
  rintro e w5 ⟨A5, c5, rfl, i5, hb5⟩
  have hb6 := ext_alloc w5 (.cells #[.slice A5 l.length c5, .string rf] 30)
  have KX := Lib.hid (Blk.new w5 30 #[.slice A5 l.length c5, .string rf])
  have hb56 := ext_trans hb5 hb6
  have I5 := Lib.hid (i5.ext hb6)
  have HW5 := Lib.hid (HW3.out.ext hb56)
  have K5 := Lib.hid (K3.out.ext hb56)
  have B5 := Lib.hid (ext_trans B3.out hb56)
  clear i5 hb5 hb6 hb56 x0 x1 HW3 K3 B3
  go_wp2_with fail
  refine (c_StepWindows _ l rf s _ I5.out hf (by omega)).mono ?_
  rintro e w7 ⟨rfl, hb7⟩
  rw [HS.out]
  have L1 := Lib.hid (I5.out.ext hb7)
  have HW7 := Lib.hid (HW5.out.ext hb7)
  have K7 := Lib.hid (K5.out.ext hb7)
  have KX7 := Lib.hid (KX.out.ext hb7)
  have B7 := Lib.hid (ext_trans B5.out hb7)
  clear hb7 HW5 K5 KX B5 I5
  have x0 : w7.cell? ⟨w5.heap.size, 0, none⟩ = some (.slice A5 l.length c5) := KX7.out.cell 0
  have x1 : w7.cell? ⟨w5.heap.size, 1, none⟩ = some (.string rf) := KX7.out.cell 1
  have x2 : w7.cell? ⟨w.heap.size, 0, none⟩ = some (.slice A l.length cA) := K7.out.cell 0
  have x3 : w7.cell? ⟨w.heap.size, 1, none⟩ = some (.string rf) := K7.out.cell 1
  go_wp2_with fail
  go_region_held3 (fun w' => w'.cell? ⟨w5.heap.size, 0, none⟩ = some (.slice A5 l.length c5) ∧ w'.cell? ⟨w5.heap.size, 1, none⟩ = some (.string rf) ∧ w'.cell? ⟨w.heap.size, 0, none⟩ = some (.slice A l.length cA) ∧ w'.cell? ⟨w.heap.size, 1, none⟩ = some (.string rf))
    (first | exact hkeep2 | exact hkeep1 | exact ⟨x0, x1, x2, x3⟩ | go_keep)
    (first
      | (go_at_call 17
         refine (c_toWheels A cA l rf _ (HW7.out.ext (Below.refl _ _).drew) hl1 HL2.out).mono ?_
         rintro e w8 ⟨A8, c8, rfl, i8, hb8⟩
         have hkeep1 : w8.cell? ⟨w5.heap.size, 0, none⟩ = some (.slice A5 l.length c5) ∧ w8.cell? ⟨w5.heap.size, 1, none⟩ = some (.string rf) ∧ w8.cell? ⟨w.heap.size, 0, none⟩ = some (.slice A l.length cA) ∧ w8.cell? ⟨w.heap.size, 1, none⟩ = some (.string rf) :=
           ⟨(KX7.out.drew.ext hb8).cell 0, (KX7.out.drew.ext hb8).cell 1, (K7.out.drew.ext hb8).cell 0, (K7.out.drew.ext hb8).cell 1⟩
         have HB8 := Lib.hid ((Below.refl w7.heap.size w7).drew.trans hb8))
      | (go_at_call 19
         refine (c_eqWheels A5 c5 A8 c8 l rf _ (L1.out.ext HB8.out) i8).mono ?_
         rintro e w9 ⟨rfl, hb9⟩
         have hkeep2 : w9.cell? ⟨w5.heap.size, 0, none⟩ = some (.slice A5 l.length c5) ∧ w9.cell? ⟨w5.heap.size, 1, none⟩ = some (.string rf) ∧ w9.cell? ⟨w.heap.size, 0, none⟩ = some (.slice A l.length cA) ∧ w9.cell? ⟨w.heap.size, 1, none⟩ = some (.string rf) :=
           ⟨((KX7.out.ext HB8.out).ext hb9).cell 0, ((KX7.out.ext HB8.out).ext hb9).cell 1, ((K7.out.ext HB8.out).ext hb9).cell 0, ((K7.out.ext HB8.out).ext hb9).cell 1⟩))
  have B9 := Lib.hid (ext_trans (ext_trans B7.out HB8.out) hb9)
  clear hkeep1 hkeep2 hb8 hb9 HB8
  go_wp2_with fail
  go_ret
  exact ⟨rfl, B9.out⟩
theorem walk_FnExactStepWindows (v0 : Value) (x0 : List Rot × ByteArray) (a1 : ByteArray) (w : World) (w0 : IsWheels w v0 x0) (w1 : a1.size ≤ maxLen) :
    Calls Try.prog 3 #[v0, .string a1] w fun e w' => e = .returned (.bool true) ∧ Below w.heap.size w w' := by
  obtain ⟨A, c, rfl, h1, h2⟩ := w0
  exact walkx_FnExactStepWindows A c x0.1 x0.2 a1 w h1 h2 (by unfold maxLen at w1; omega)
set_option maxHeartbeats 1000000 in
theorem walkx_FnExactStepMany (A : Option Addr) (cA : Nat) (l : List Rot) (rf : ByteArray) (s : ByteArray) (n : Int) (w : World) (hR : IsRots w (.slice A l.length cA) l) (hf : rf.size ≤ 9223372036854775807) (zs : s.size ≤ 9223372036854775807) :
    Calls Try.prog 4 #[.agg #[.slice A l.length cA, .string rf], .string s, .int .i64 n] w fun e w' => e = .returned (.bool true) ∧ Below w.heap.size w w' := by
  have hb0 := ext_alloc w (.cells #[.slice A l.length cA, .string rf] 24)
  have K := Lib.hid (Blk.new w 24 #[.slice A l.length cA, .string rf])
  have HW := Lib.hid (hR.ext hb0)
  have B0 := Lib.hid hb0
  clear hR hb0
  by_cases hs : 1048576 < s.size
  · go_enter Try.func4, Try.ntmps4
    go_wp2_with fail
    go_ret
    exact ⟨rfl, B0.out⟩
  go_enter Try.func4, Try.ntmps4
  go_wp2_with fail
  refine (c_szWheels A cA l rf 1048576 _ HW.out hf (by omega) (by omega)).mono ?_
  rintro e w1 ⟨r, rfl, hr0, hr1, hr2, hb1⟩
  have HR := Lib.hid hr2
  have HW1 := Lib.hid (HW.out.ext hb1)
  have K1 := Lib.hid (K.out.ext hb1)
  have B1 := Lib.hid (ext_trans B0.out hb1)
  clear hr2 hb1 HW K B0
  by_cases hr : r < 0
  · go_wp2_with fail
    go_ret
    exact ⟨rfl, B1.out⟩
  obtain ⟨⟨hl1, hl2⟩, hl3⟩ := HR.out (by omega)
  have HL2 := Lib.hid hl2
  clear hl2
  have x0 : w1.cell? ⟨w.heap.size, 0, none⟩ = some (.slice A l.length cA) := K1.out.cell 0
  have x1 : w1.cell? ⟨w.heap.size, 1, none⟩ = some (.string rf) := K1.out.cell 1
  go_wp2_with fail
  refine (c_toWheels A cA l rf _ HW1.out hl1 HL2.out).mono ?_
  rintro e w2 ⟨A2, c2, rfl, i2, hb2⟩
  have I2 := Lib.hid i2
  have HW2 := Lib.hid (HW1.out.ext hb2)
  have K2 := Lib.hid (K1.out.ext hb2)
  have B2 := Lib.hid (ext_trans B1.out hb2)
  clear i2 hb2 x0 x1 HW1 K1 B1
  obtain ⟨S, b, hS⟩ := manyR_form l rf s n
  have HS := Lib.hid hS
  clear hS
  go_wp2_with fail
  refine (c_sStepMany _ l rf s n _ I2.out hf (by omega)).mono ?_
  rintro e w3 ⟨rfl, hb3⟩
  rw [HS.out]
  have HW3 := Lib.hid (HW2.out.ext hb3)
  have K3 := Lib.hid (K2.out.ext hb3)
  have B3 := Lib.hid (ext_trans B2.out hb3)
  clear hb3 HW2 K2 B2 I2
  have x0 : w3.cell? ⟨w.heap.size, 0, none⟩ = some (.slice A l.length cA) := K3.out.cell 0
  have x1 : w3.cell? ⟨w.heap.size, 1, none⟩ = some (.string rf) := K3.out.cell 1
  go_wp2_with fail
  refine (c_toWheels A cA l rf _ HW3.out hl1 HL2.out).mono ?_
  rintro e w5 ⟨A5, c5, rfl, i5, hb5⟩
  have hb6 := ext_alloc w5 (.cells #[.slice A5 l.length c5, .string rf] 30)
  have KX := Lib.hid (Blk.new w5 30 #[.slice A5 l.length c5, .string rf])
  have hb56 := ext_trans hb5 hb6
  have I5 := Lib.hid (i5.ext hb6)
  have HW5 := Lib.hid (HW3.out.ext hb56)
  have K5 := Lib.hid (K3.out.ext hb56)
  have B5 := Lib.hid (ext_trans B3.out hb56)
  clear i5 hb5 hb6 hb56 x0 x1 HW3 K3 B3
  go_wp2_with fail
  refine (c_StepMany _ l rf s n _ I5.out hf (by omega)).mono ?_
  rintro e w7 ⟨rfl, hb7⟩
  rw [HS.out]
  have L1 := Lib.hid (I5.out.ext hb7)
  have HW7 := Lib.hid (HW5.out.ext hb7)
  have K7 := Lib.hid (K5.out.ext hb7)
  have KX7 := Lib.hid (KX.out.ext hb7)
  have B7 := Lib.hid (ext_trans B5.out hb7)
  clear hb7 HW5 K5 KX B5 I5
  have x0 : w7.cell? ⟨w5.heap.size, 0, none⟩ = some (.slice A5 l.length c5) := KX7.out.cell 0
  have x1 : w7.cell? ⟨w5.heap.size, 1, none⟩ = some (.string rf) := KX7.out.cell 1
  have x2 : w7.cell? ⟨w.heap.size, 0, none⟩ = some (.slice A l.length cA) := K7.out.cell 0
  have x3 : w7.cell? ⟨w.heap.size, 1, none⟩ = some (.string rf) := K7.out.cell 1
  go_wp2_with fail
  go_region_held3 (fun w' => w'.cell? ⟨w5.heap.size, 0, none⟩ = some (.slice A5 l.length c5) ∧ w'.cell? ⟨w5.heap.size, 1, none⟩ = some (.string rf) ∧ w'.cell? ⟨w.heap.size, 0, none⟩ = some (.slice A l.length cA) ∧ w'.cell? ⟨w.heap.size, 1, none⟩ = some (.string rf))
    (first | exact hkeep2 | exact hkeep1 | exact ⟨x0, x1, x2, x3⟩ | go_keep)
    (first
      | (go_at_call 17
         refine (c_toWheels A cA l rf _ (HW7.out.ext (Below.refl _ _).drew) hl1 HL2.out).mono ?_
         rintro e w8 ⟨A8, c8, rfl, i8, hb8⟩
         have hkeep1 : w8.cell? ⟨w5.heap.size, 0, none⟩ = some (.slice A5 l.length c5) ∧ w8.cell? ⟨w5.heap.size, 1, none⟩ = some (.string rf) ∧ w8.cell? ⟨w.heap.size, 0, none⟩ = some (.slice A l.length cA) ∧ w8.cell? ⟨w.heap.size, 1, none⟩ = some (.string rf) :=
           ⟨(KX7.out.drew.ext hb8).cell 0, (KX7.out.drew.ext hb8).cell 1, (K7.out.drew.ext hb8).cell 0, (K7.out.drew.ext hb8).cell 1⟩
         have HB8 := Lib.hid ((Below.refl w7.heap.size w7).drew.trans hb8))
      | (go_at_call 19
         refine (c_eqWheels A5 c5 A8 c8 l rf _ (L1.out.ext HB8.out) i8).mono ?_
         rintro e w9 ⟨rfl, hb9⟩
         have hkeep2 : w9.cell? ⟨w5.heap.size, 0, none⟩ = some (.slice A5 l.length c5) ∧ w9.cell? ⟨w5.heap.size, 1, none⟩ = some (.string rf) ∧ w9.cell? ⟨w.heap.size, 0, none⟩ = some (.slice A l.length cA) ∧ w9.cell? ⟨w.heap.size, 1, none⟩ = some (.string rf) :=
           ⟨((KX7.out.ext HB8.out).ext hb9).cell 0, ((KX7.out.ext HB8.out).ext hb9).cell 1, ((K7.out.ext HB8.out).ext hb9).cell 0, ((K7.out.ext HB8.out).ext hb9).cell 1⟩))
  have B9 := Lib.hid (ext_trans (ext_trans B7.out HB8.out) hb9)
  clear hkeep1 hkeep2 hb8 hb9 HB8
  go_wp2_with fail
  go_ret
  exact ⟨rfl, B9.out⟩
theorem walk_FnExactStepMany (v0 : Value) (x0 : List Rot × ByteArray) (a1 : ByteArray) (a2 : Int) (w : World) (w0 : IsWheels w v0 x0) (w1 : a1.size ≤ maxLen) (_w2 : (Lit.int .i64 a2).wf = true) :
    Calls Try.prog 4 #[v0, .string a1, .int .i64 a2] w fun e w' => e = .returned (.bool true) ∧ Below w.heap.size w w' := by
  obtain ⟨A, c, rfl, h1, h2⟩ := w0
  exact walkx_FnExactStepMany A c x0.1 x0.2 a1 a2 w h1 h2 (by unfold maxLen at w1; omega)
set_option maxHeartbeats 1000000 in
theorem walkx_FnExactLeftMoves (A : Option Addr) (cA : Nat) (l : List Rot) (rf : ByteArray) (s : ByteArray) (n : Int) (w : World) (hR : IsRots w (.slice A l.length cA) l) (hf : rf.size ≤ 9223372036854775807) (zs : s.size ≤ 9223372036854775807) :
    Calls Try.prog 5 #[.agg #[.slice A l.length cA, .string rf], .string s, .int .i64 n] w fun e w' => e = .returned (.bool true) ∧ Below w.heap.size w w' := by
  have hb0 := ext_alloc w (.cells #[.slice A l.length cA, .string rf] 24)
  have K := Lib.hid (Blk.new w 24 #[.slice A l.length cA, .string rf])
  have HW := Lib.hid (hR.ext hb0)
  have B0 := Lib.hid hb0
  clear hR hb0
  by_cases hs : 1048576 < s.size
  · go_enter Try.func5, Try.ntmps5
    go_wp2_with fail
    go_ret
    exact ⟨rfl, B0.out⟩
  go_enter Try.func5, Try.ntmps5
  go_wp2_with fail
  refine (c_szWheels A cA l rf 1048576 _ HW.out hf (by omega) (by omega)).mono ?_
  rintro e w1 ⟨r, rfl, hr0, hr1, hr2, hb1⟩
  have HR := Lib.hid hr2
  have HW1 := Lib.hid (HW.out.ext hb1)
  have K1 := Lib.hid (K.out.ext hb1)
  have B1 := Lib.hid (ext_trans B0.out hb1)
  clear hr2 hb1 HW K B0
  by_cases hr : r < 0
  · go_wp2_with fail
    go_ret
    exact ⟨rfl, B1.out⟩
  obtain ⟨⟨hl1, hl2⟩, hl3⟩ := HR.out (by omega)
  have HL2 := Lib.hid hl2
  clear hl2
  have x0 : w1.cell? ⟨w.heap.size, 0, none⟩ = some (.slice A l.length cA) := K1.out.cell 0
  have x1 : w1.cell? ⟨w.heap.size, 1, none⟩ = some (.string rf) := K1.out.cell 1
  go_wp2_with fail
  refine (c_toWheels A cA l rf _ HW1.out hl1 HL2.out).mono ?_
  rintro e w2 ⟨A2, c2, rfl, i2, hb2⟩
  have I2 := Lib.hid i2
  have HW2 := Lib.hid (HW1.out.ext hb2)
  have K2 := Lib.hid (K1.out.ext hb2)
  have B2 := Lib.hid (ext_trans B1.out hb2)
  clear i2 hb2 x0 x1 HW1 K1 B1
  generalize hS : leftR l rf s n = S
  have HS := Lib.hid hS
  clear hS
  go_wp2_with fail
  refine (c_sLeftMoves _ l rf s n _ I2.out hf (by omega)).mono ?_
  rintro e w3 ⟨rfl, hb3⟩
  rw [HS.out]
  have HW3 := Lib.hid (HW2.out.ext hb3)
  have K3 := Lib.hid (K2.out.ext hb3)
  have B3 := Lib.hid (ext_trans B2.out hb3)
  clear hb3 HW2 K2 B2 I2
  have x0 : w3.cell? ⟨w.heap.size, 0, none⟩ = some (.slice A l.length cA) := K3.out.cell 0
  have x1 : w3.cell? ⟨w.heap.size, 1, none⟩ = some (.string rf) := K3.out.cell 1
  go_wp2_with fail
  refine (c_toWheels A cA l rf _ HW3.out hl1 HL2.out).mono ?_
  rintro e w5 ⟨A5, c5, rfl, i5, hb5⟩
  have hb6 := ext_alloc w5 (.cells #[.slice A5 l.length c5, .string rf] 30)
  have KX := Lib.hid (Blk.new w5 30 #[.slice A5 l.length c5, .string rf])
  have hb56 := ext_trans hb5 hb6
  have I5 := Lib.hid (i5.ext hb6)
  have HW5 := Lib.hid (HW3.out.ext hb56)
  have K5 := Lib.hid (K3.out.ext hb56)
  have B5 := Lib.hid (ext_trans B3.out hb56)
  clear i5 hb5 hb6 hb56 x0 x1 HW3 K3 B3
  go_wp2_with fail
  refine (c_LeftMoves _ l rf s n _ I5.out hf (by omega)).mono ?_
  rintro e w7 ⟨rfl, hb7⟩
  rw [HS.out]
  have L1 := Lib.hid (I5.out.ext hb7)
  have HW7 := Lib.hid (HW5.out.ext hb7)
  have K7 := Lib.hid (K5.out.ext hb7)
  have KX7 := Lib.hid (KX.out.ext hb7)
  have B7 := Lib.hid (ext_trans B5.out hb7)
  clear hb7 HW5 K5 KX B5 I5
  have x0 : w7.cell? ⟨w5.heap.size, 0, none⟩ = some (.slice A5 l.length c5) := KX7.out.cell 0
  have x1 : w7.cell? ⟨w5.heap.size, 1, none⟩ = some (.string rf) := KX7.out.cell 1
  have x2 : w7.cell? ⟨w.heap.size, 0, none⟩ = some (.slice A l.length cA) := K7.out.cell 0
  have x3 : w7.cell? ⟨w.heap.size, 1, none⟩ = some (.string rf) := K7.out.cell 1
  go_wp2_with fail
  go_region_held3 (fun w' => w'.cell? ⟨w5.heap.size, 0, none⟩ = some (.slice A5 l.length c5) ∧ w'.cell? ⟨w5.heap.size, 1, none⟩ = some (.string rf) ∧ w'.cell? ⟨w.heap.size, 0, none⟩ = some (.slice A l.length cA) ∧ w'.cell? ⟨w.heap.size, 1, none⟩ = some (.string rf))
    (first | exact hkeep2 | exact hkeep1 | exact ⟨x0, x1, x2, x3⟩ | go_keep)
    (first
      | (go_at_call 17
         refine (c_toWheels A cA l rf _ (HW7.out.ext (Below.refl _ _).drew) hl1 HL2.out).mono ?_
         rintro e w8 ⟨A8, c8, rfl, i8, hb8⟩
         have hkeep1 : w8.cell? ⟨w5.heap.size, 0, none⟩ = some (.slice A5 l.length c5) ∧ w8.cell? ⟨w5.heap.size, 1, none⟩ = some (.string rf) ∧ w8.cell? ⟨w.heap.size, 0, none⟩ = some (.slice A l.length cA) ∧ w8.cell? ⟨w.heap.size, 1, none⟩ = some (.string rf) :=
           ⟨(KX7.out.drew.ext hb8).cell 0, (KX7.out.drew.ext hb8).cell 1, (K7.out.drew.ext hb8).cell 0, (K7.out.drew.ext hb8).cell 1⟩
         have HB8 := Lib.hid ((Below.refl w7.heap.size w7).drew.trans hb8))
      | (go_at_call 19
         refine (c_eqWheels A5 c5 A8 c8 l rf _ (L1.out.ext HB8.out) i8).mono ?_
         rintro e w9 ⟨rfl, hb9⟩
         have hkeep2 : w9.cell? ⟨w5.heap.size, 0, none⟩ = some (.slice A5 l.length c5) ∧ w9.cell? ⟨w5.heap.size, 1, none⟩ = some (.string rf) ∧ w9.cell? ⟨w.heap.size, 0, none⟩ = some (.slice A l.length cA) ∧ w9.cell? ⟨w.heap.size, 1, none⟩ = some (.string rf) :=
           ⟨((KX7.out.ext HB8.out).ext hb9).cell 0, ((KX7.out.ext HB8.out).ext hb9).cell 1, ((K7.out.ext HB8.out).ext hb9).cell 0, ((K7.out.ext HB8.out).ext hb9).cell 1⟩))
  have B9 := Lib.hid (ext_trans (ext_trans B7.out HB8.out) hb9)
  clear hkeep1 hkeep2 hb8 hb9 HB8
  go_wp2_with fail
  go_ret
  exact ⟨rfl, B9.out⟩
theorem walk_FnExactLeftMoves (v0 : Value) (x0 : List Rot × ByteArray) (a1 : ByteArray) (a2 : Int) (w : World) (w0 : IsWheels w v0 x0) (w1 : a1.size ≤ maxLen) (_w2 : (Lit.int .i64 a2).wf = true) :
    Calls Try.prog 5 #[v0, .string a1, .int .i64 a2] w fun e w' => e = .returned (.bool true) ∧ Below w.heap.size w w' := by
  obtain ⟨A, c, rfl, h1, h2⟩ := w0
  exact walkx_FnExactLeftMoves A c x0.1 x0.2 a1 a2 w h1 h2 (by unfold maxLen at w1; omega)
set_option maxHeartbeats 1000000 in
theorem walkx_FnExactStepsTo (A : Option Addr) (cA : Nat) (l : List Rot) (rf : ByteArray) (s : ByteArray) (t : ByteArray) (w : World) (hR : IsRots w (.slice A l.length cA) l) (hf : rf.size ≤ 9223372036854775807) (zs : s.size ≤ 9223372036854775807) (zt : t.size ≤ 9223372036854775807) :
    Calls Try.prog 6 #[.agg #[.slice A l.length cA, .string rf], .string s, .string t] w fun e w' => e = .returned (.bool true) ∧ Below w.heap.size w w' := by
  have hb0 := ext_alloc w (.cells #[.slice A l.length cA, .string rf] 24)
  have K := Lib.hid (Blk.new w 24 #[.slice A l.length cA, .string rf])
  have HW := Lib.hid (hR.ext hb0)
  have B0 := Lib.hid hb0
  clear hR hb0
  by_cases hs : 1048576 < s.size
  · go_enter Try.func6, Try.ntmps6
    go_wp2_with fail
    go_ret
    exact ⟨rfl, B0.out⟩
  by_cases ht : 1048576 < t.size
  · go_enter Try.func6, Try.ntmps6
    go_wp2_with fail
    go_ret
    exact ⟨rfl, B0.out⟩
  go_enter Try.func6, Try.ntmps6
  go_wp2_with fail
  refine (c_szWheels A cA l rf 1048576 _ HW.out hf (by omega) (by omega)).mono ?_
  rintro e w1 ⟨r, rfl, hr0, hr1, hr2, hb1⟩
  have HR := Lib.hid hr2
  have HW1 := Lib.hid (HW.out.ext hb1)
  have K1 := Lib.hid (K.out.ext hb1)
  have B1 := Lib.hid (ext_trans B0.out hb1)
  clear hr2 hb1 HW K B0
  by_cases hr : r < 0
  · go_wp2_with fail
    go_ret
    exact ⟨rfl, B1.out⟩
  obtain ⟨⟨hl1, hl2⟩, hl3⟩ := HR.out (by omega)
  have HL2 := Lib.hid hl2
  clear hl2
  have x0 : w1.cell? ⟨w.heap.size, 0, none⟩ = some (.slice A l.length cA) := K1.out.cell 0
  have x1 : w1.cell? ⟨w.heap.size, 1, none⟩ = some (.string rf) := K1.out.cell 1
  go_wp2_with fail
  refine (c_toWheels A cA l rf _ HW1.out hl1 HL2.out).mono ?_
  rintro e w2 ⟨A2, c2, rfl, i2, hb2⟩
  have I2 := Lib.hid i2
  have HW2 := Lib.hid (HW1.out.ext hb2)
  have K2 := Lib.hid (K1.out.ext hb2)
  have B2 := Lib.hid (ext_trans B1.out hb2)
  clear i2 hb2 x0 x1 HW1 K1 B1
  generalize hS : toR l rf s t = S
  have HS := Lib.hid hS
  clear hS
  go_wp2_with fail
  refine (c_sStepsTo _ l rf s t _ I2.out hf (by omega) (by omega)).mono ?_
  rintro e w3 ⟨rfl, hb3⟩
  rw [HS.out]
  have HW3 := Lib.hid (HW2.out.ext hb3)
  have K3 := Lib.hid (K2.out.ext hb3)
  have B3 := Lib.hid (ext_trans B2.out hb3)
  clear hb3 HW2 K2 B2 I2
  have x0 : w3.cell? ⟨w.heap.size, 0, none⟩ = some (.slice A l.length cA) := K3.out.cell 0
  have x1 : w3.cell? ⟨w.heap.size, 1, none⟩ = some (.string rf) := K3.out.cell 1
  go_wp2_with fail
  refine (c_toWheels A cA l rf _ HW3.out hl1 HL2.out).mono ?_
  rintro e w5 ⟨A5, c5, rfl, i5, hb5⟩
  have hb6 := ext_alloc w5 (.cells #[.slice A5 l.length c5, .string rf] 30)
  have KX := Lib.hid (Blk.new w5 30 #[.slice A5 l.length c5, .string rf])
  have hb56 := ext_trans hb5 hb6
  have I5 := Lib.hid (i5.ext hb6)
  have HW5 := Lib.hid (HW3.out.ext hb56)
  have K5 := Lib.hid (K3.out.ext hb56)
  have B5 := Lib.hid (ext_trans B3.out hb56)
  clear i5 hb5 hb6 hb56 x0 x1 HW3 K3 B3
  go_wp2_with fail
  refine (c_StepsTo _ l rf s t _ I5.out hf (by omega) (by omega)).mono ?_
  rintro e w7 ⟨rfl, hb7⟩
  rw [HS.out]
  have L1 := Lib.hid (I5.out.ext hb7)
  have HW7 := Lib.hid (HW5.out.ext hb7)
  have K7 := Lib.hid (K5.out.ext hb7)
  have KX7 := Lib.hid (KX.out.ext hb7)
  have B7 := Lib.hid (ext_trans B5.out hb7)
  clear hb7 HW5 K5 KX B5 I5
  have x0 : w7.cell? ⟨w5.heap.size, 0, none⟩ = some (.slice A5 l.length c5) := KX7.out.cell 0
  have x1 : w7.cell? ⟨w5.heap.size, 1, none⟩ = some (.string rf) := KX7.out.cell 1
  have x2 : w7.cell? ⟨w.heap.size, 0, none⟩ = some (.slice A l.length cA) := K7.out.cell 0
  have x3 : w7.cell? ⟨w.heap.size, 1, none⟩ = some (.string rf) := K7.out.cell 1
  go_wp2_with fail
  go_region_held3 (fun w' => w'.cell? ⟨w5.heap.size, 0, none⟩ = some (.slice A5 l.length c5) ∧ w'.cell? ⟨w5.heap.size, 1, none⟩ = some (.string rf) ∧ w'.cell? ⟨w.heap.size, 0, none⟩ = some (.slice A l.length cA) ∧ w'.cell? ⟨w.heap.size, 1, none⟩ = some (.string rf))
    (first | exact hkeep2 | exact hkeep1 | exact ⟨x0, x1, x2, x3⟩ | go_keep)
    (first
      | (go_at_call 17
         refine (c_toWheels A cA l rf _ (HW7.out.ext (Below.refl _ _).drew) hl1 HL2.out).mono ?_
         rintro e w8 ⟨A8, c8, rfl, i8, hb8⟩
         have hkeep1 : w8.cell? ⟨w5.heap.size, 0, none⟩ = some (.slice A5 l.length c5) ∧ w8.cell? ⟨w5.heap.size, 1, none⟩ = some (.string rf) ∧ w8.cell? ⟨w.heap.size, 0, none⟩ = some (.slice A l.length cA) ∧ w8.cell? ⟨w.heap.size, 1, none⟩ = some (.string rf) :=
           ⟨(KX7.out.drew.ext hb8).cell 0, (KX7.out.drew.ext hb8).cell 1, (K7.out.drew.ext hb8).cell 0, (K7.out.drew.ext hb8).cell 1⟩
         have HB8 := Lib.hid ((Below.refl w7.heap.size w7).drew.trans hb8))
      | (go_at_call 19
         refine (c_eqWheels A5 c5 A8 c8 l rf _ (L1.out.ext HB8.out) i8).mono ?_
         rintro e w9 ⟨rfl, hb9⟩
         have hkeep2 : w9.cell? ⟨w5.heap.size, 0, none⟩ = some (.slice A5 l.length c5) ∧ w9.cell? ⟨w5.heap.size, 1, none⟩ = some (.string rf) ∧ w9.cell? ⟨w.heap.size, 0, none⟩ = some (.slice A l.length cA) ∧ w9.cell? ⟨w.heap.size, 1, none⟩ = some (.string rf) :=
           ⟨((KX7.out.ext HB8.out).ext hb9).cell 0, ((KX7.out.ext HB8.out).ext hb9).cell 1, ((K7.out.ext HB8.out).ext hb9).cell 0, ((K7.out.ext HB8.out).ext hb9).cell 1⟩))
  have B9 := Lib.hid (ext_trans (ext_trans B7.out HB8.out) hb9)
  clear hkeep1 hkeep2 hb8 hb9 HB8
  go_wp2_with fail
  go_ret
  exact ⟨rfl, B9.out⟩
theorem walk_FnExactStepsTo (v0 : Value) (x0 : List Rot × ByteArray) (a1 : ByteArray) (a2 : ByteArray) (w : World) (w0 : IsWheels w v0 x0) (w1 : a1.size ≤ maxLen) (w2 : a2.size ≤ maxLen) :
    Calls Try.prog 6 #[v0, .string a1, .string a2] w fun e w' => e = .returned (.bool true) ∧ Below w.heap.size w w' := by
  obtain ⟨A, c, rfl, h1, h2⟩ := w0
  exact walkx_FnExactStepsTo A c x0.1 x0.2 a1 a2 w h1 h2 (by unfold maxLen at w1; omega) (by unfold maxLen at w2; omega)
set_option maxHeartbeats 1000000 in
theorem walkx_FnExactPeriodOf (A : Option Addr) (cA : Nat) (l : List Rot) (rf : ByteArray) (s : ByteArray) (w : World) (hR : IsRots w (.slice A l.length cA) l) (hf : rf.size ≤ 9223372036854775807) (zs : s.size ≤ 9223372036854775807) :
    Calls Try.prog 7 #[.agg #[.slice A l.length cA, .string rf], .string s] w fun e w' => e = .returned (.bool true) ∧ Below w.heap.size w w' := by
  have hb0 := ext_alloc w (.cells #[.slice A l.length cA, .string rf] 24)
  have K := Lib.hid (Blk.new w 24 #[.slice A l.length cA, .string rf])
  have HW := Lib.hid (hR.ext hb0)
  have B0 := Lib.hid hb0
  clear hR hb0
  by_cases hs : 1048576 < s.size
  · go_enter Try.func7, Try.ntmps7
    go_wp2_with fail
    go_ret
    exact ⟨rfl, B0.out⟩
  go_enter Try.func7, Try.ntmps7
  go_wp2_with fail
  refine (c_szWheels A cA l rf 1048576 _ HW.out hf (by omega) (by omega)).mono ?_
  rintro e w1 ⟨r, rfl, hr0, hr1, hr2, hb1⟩
  have HR := Lib.hid hr2
  have HW1 := Lib.hid (HW.out.ext hb1)
  have K1 := Lib.hid (K.out.ext hb1)
  have B1 := Lib.hid (ext_trans B0.out hb1)
  clear hr2 hb1 HW K B0
  by_cases hr : r < 0
  · go_wp2_with fail
    go_ret
    exact ⟨rfl, B1.out⟩
  obtain ⟨⟨hl1, hl2⟩, hl3⟩ := HR.out (by omega)
  have HL2 := Lib.hid hl2
  clear hl2
  have x0 : w1.cell? ⟨w.heap.size, 0, none⟩ = some (.slice A l.length cA) := K1.out.cell 0
  have x1 : w1.cell? ⟨w.heap.size, 1, none⟩ = some (.string rf) := K1.out.cell 1
  go_wp2_with fail
  refine (c_toWheels A cA l rf _ HW1.out hl1 HL2.out).mono ?_
  rintro e w2 ⟨A2, c2, rfl, i2, hb2⟩
  have I2 := Lib.hid i2
  have HW2 := Lib.hid (HW1.out.ext hb2)
  have K2 := Lib.hid (K1.out.ext hb2)
  have B2 := Lib.hid (ext_trans B1.out hb2)
  clear i2 hb2 x0 x1 HW1 K1 B1
  generalize hS : perR l rf s = S
  have HS := Lib.hid hS
  clear hS
  go_wp2_with fail
  refine (c_sPeriodOf _ l rf s _ I2.out hf (by omega)).mono ?_
  rintro e w3 ⟨rfl, hb3⟩
  rw [HS.out]
  have HW3 := Lib.hid (HW2.out.ext hb3)
  have K3 := Lib.hid (K2.out.ext hb3)
  have B3 := Lib.hid (ext_trans B2.out hb3)
  clear hb3 HW2 K2 B2 I2
  have x0 : w3.cell? ⟨w.heap.size, 0, none⟩ = some (.slice A l.length cA) := K3.out.cell 0
  have x1 : w3.cell? ⟨w.heap.size, 1, none⟩ = some (.string rf) := K3.out.cell 1
  go_wp2_with fail
  refine (c_toWheels A cA l rf _ HW3.out hl1 HL2.out).mono ?_
  rintro e w5 ⟨A5, c5, rfl, i5, hb5⟩
  have hb6 := ext_alloc w5 (.cells #[.slice A5 l.length c5, .string rf] 30)
  have KX := Lib.hid (Blk.new w5 30 #[.slice A5 l.length c5, .string rf])
  have hb56 := ext_trans hb5 hb6
  have I5 := Lib.hid (i5.ext hb6)
  have HW5 := Lib.hid (HW3.out.ext hb56)
  have K5 := Lib.hid (K3.out.ext hb56)
  have B5 := Lib.hid (ext_trans B3.out hb56)
  clear i5 hb5 hb6 hb56 x0 x1 HW3 K3 B3
  go_wp2_with fail
  refine (c_PeriodOf _ l rf s _ I5.out hf (by omega)).mono ?_
  rintro e w7 ⟨rfl, hb7⟩
  rw [HS.out]
  have L1 := Lib.hid (I5.out.ext hb7)
  have HW7 := Lib.hid (HW5.out.ext hb7)
  have K7 := Lib.hid (K5.out.ext hb7)
  have KX7 := Lib.hid (KX.out.ext hb7)
  have B7 := Lib.hid (ext_trans B5.out hb7)
  clear hb7 HW5 K5 KX B5 I5
  have x0 : w7.cell? ⟨w5.heap.size, 0, none⟩ = some (.slice A5 l.length c5) := KX7.out.cell 0
  have x1 : w7.cell? ⟨w5.heap.size, 1, none⟩ = some (.string rf) := KX7.out.cell 1
  have x2 : w7.cell? ⟨w.heap.size, 0, none⟩ = some (.slice A l.length cA) := K7.out.cell 0
  have x3 : w7.cell? ⟨w.heap.size, 1, none⟩ = some (.string rf) := K7.out.cell 1
  go_wp2_with fail
  go_region_held3 (fun w' => w'.cell? ⟨w5.heap.size, 0, none⟩ = some (.slice A5 l.length c5) ∧ w'.cell? ⟨w5.heap.size, 1, none⟩ = some (.string rf) ∧ w'.cell? ⟨w.heap.size, 0, none⟩ = some (.slice A l.length cA) ∧ w'.cell? ⟨w.heap.size, 1, none⟩ = some (.string rf))
    (first | exact hkeep2 | exact hkeep1 | exact ⟨x0, x1, x2, x3⟩ | go_keep)
    (first
      | (go_at_call 17
         refine (c_toWheels A cA l rf _ (HW7.out.ext (Below.refl _ _).drew) hl1 HL2.out).mono ?_
         rintro e w8 ⟨A8, c8, rfl, i8, hb8⟩
         have hkeep1 : w8.cell? ⟨w5.heap.size, 0, none⟩ = some (.slice A5 l.length c5) ∧ w8.cell? ⟨w5.heap.size, 1, none⟩ = some (.string rf) ∧ w8.cell? ⟨w.heap.size, 0, none⟩ = some (.slice A l.length cA) ∧ w8.cell? ⟨w.heap.size, 1, none⟩ = some (.string rf) :=
           ⟨(KX7.out.drew.ext hb8).cell 0, (KX7.out.drew.ext hb8).cell 1, (K7.out.drew.ext hb8).cell 0, (K7.out.drew.ext hb8).cell 1⟩
         have HB8 := Lib.hid ((Below.refl w7.heap.size w7).drew.trans hb8))
      | (go_at_call 19
         refine (c_eqWheels A5 c5 A8 c8 l rf _ (L1.out.ext HB8.out) i8).mono ?_
         rintro e w9 ⟨rfl, hb9⟩
         have hkeep2 : w9.cell? ⟨w5.heap.size, 0, none⟩ = some (.slice A5 l.length c5) ∧ w9.cell? ⟨w5.heap.size, 1, none⟩ = some (.string rf) ∧ w9.cell? ⟨w.heap.size, 0, none⟩ = some (.slice A l.length cA) ∧ w9.cell? ⟨w.heap.size, 1, none⟩ = some (.string rf) :=
           ⟨((KX7.out.ext HB8.out).ext hb9).cell 0, ((KX7.out.ext HB8.out).ext hb9).cell 1, ((K7.out.ext HB8.out).ext hb9).cell 0, ((K7.out.ext HB8.out).ext hb9).cell 1⟩))
  have B9 := Lib.hid (ext_trans (ext_trans B7.out HB8.out) hb9)
  clear hkeep1 hkeep2 hb8 hb9 HB8
  go_wp2_with fail
  go_ret
  exact ⟨rfl, B9.out⟩
theorem walk_FnExactPeriodOf (v0 : Value) (x0 : List Rot × ByteArray) (a1 : ByteArray) (w : World) (w0 : IsWheels w v0 x0) (w1 : a1.size ≤ maxLen) :
    Calls Try.prog 7 #[v0, .string a1] w fun e w' => e = .returned (.bool true) ∧ Below w.heap.size w w' := by
  obtain ⟨A, c, rfl, h1, h2⟩ := w0
  exact walkx_FnExactPeriodOf A c x0.1 x0.2 a1 w h1 h2 (by unfold maxLen at w1; omega)
set_option maxHeartbeats 1000000 in
theorem walkx_FnExactLeadIn (A : Option Addr) (cA : Nat) (l : List Rot) (rf : ByteArray) (s : ByteArray) (w : World) (hR : IsRots w (.slice A l.length cA) l) (hf : rf.size ≤ 9223372036854775807) (zs : s.size ≤ 9223372036854775807) :
    Calls Try.prog 8 #[.agg #[.slice A l.length cA, .string rf], .string s] w fun e w' => e = .returned (.bool true) ∧ Below w.heap.size w w' := by
  have hb0 := ext_alloc w (.cells #[.slice A l.length cA, .string rf] 24)
  have K := Lib.hid (Blk.new w 24 #[.slice A l.length cA, .string rf])
  have HW := Lib.hid (hR.ext hb0)
  have B0 := Lib.hid hb0
  clear hR hb0
  by_cases hs : 1048576 < s.size
  · go_enter Try.func8, Try.ntmps8
    go_wp2_with fail
    go_ret
    exact ⟨rfl, B0.out⟩
  go_enter Try.func8, Try.ntmps8
  go_wp2_with fail
  refine (c_szWheels A cA l rf 1048576 _ HW.out hf (by omega) (by omega)).mono ?_
  rintro e w1 ⟨r, rfl, hr0, hr1, hr2, hb1⟩
  have HR := Lib.hid hr2
  have HW1 := Lib.hid (HW.out.ext hb1)
  have K1 := Lib.hid (K.out.ext hb1)
  have B1 := Lib.hid (ext_trans B0.out hb1)
  clear hr2 hb1 HW K B0
  by_cases hr : r < 0
  · go_wp2_with fail
    go_ret
    exact ⟨rfl, B1.out⟩
  obtain ⟨⟨hl1, hl2⟩, hl3⟩ := HR.out (by omega)
  have HL2 := Lib.hid hl2
  clear hl2
  have x0 : w1.cell? ⟨w.heap.size, 0, none⟩ = some (.slice A l.length cA) := K1.out.cell 0
  have x1 : w1.cell? ⟨w.heap.size, 1, none⟩ = some (.string rf) := K1.out.cell 1
  go_wp2_with fail
  refine (c_toWheels A cA l rf _ HW1.out hl1 HL2.out).mono ?_
  rintro e w2 ⟨A2, c2, rfl, i2, hb2⟩
  have I2 := Lib.hid i2
  have HW2 := Lib.hid (HW1.out.ext hb2)
  have K2 := Lib.hid (K1.out.ext hb2)
  have B2 := Lib.hid (ext_trans B1.out hb2)
  clear i2 hb2 x0 x1 HW1 K1 B1
  generalize hS : leadR l rf s = S
  have HS := Lib.hid hS
  clear hS
  go_wp2_with fail
  refine (c_sLeadIn _ l rf s _ I2.out hf (by omega)).mono ?_
  rintro e w3 ⟨rfl, hb3⟩
  rw [HS.out]
  have HW3 := Lib.hid (HW2.out.ext hb3)
  have K3 := Lib.hid (K2.out.ext hb3)
  have B3 := Lib.hid (ext_trans B2.out hb3)
  clear hb3 HW2 K2 B2 I2
  have x0 : w3.cell? ⟨w.heap.size, 0, none⟩ = some (.slice A l.length cA) := K3.out.cell 0
  have x1 : w3.cell? ⟨w.heap.size, 1, none⟩ = some (.string rf) := K3.out.cell 1
  go_wp2_with fail
  refine (c_toWheels A cA l rf _ HW3.out hl1 HL2.out).mono ?_
  rintro e w5 ⟨A5, c5, rfl, i5, hb5⟩
  have hb6 := ext_alloc w5 (.cells #[.slice A5 l.length c5, .string rf] 30)
  have KX := Lib.hid (Blk.new w5 30 #[.slice A5 l.length c5, .string rf])
  have hb56 := ext_trans hb5 hb6
  have I5 := Lib.hid (i5.ext hb6)
  have HW5 := Lib.hid (HW3.out.ext hb56)
  have K5 := Lib.hid (K3.out.ext hb56)
  have B5 := Lib.hid (ext_trans B3.out hb56)
  clear i5 hb5 hb6 hb56 x0 x1 HW3 K3 B3
  go_wp2_with fail
  refine (c_LeadIn _ l rf s _ I5.out hf (by omega)).mono ?_
  rintro e w7 ⟨rfl, hb7⟩
  rw [HS.out]
  have L1 := Lib.hid (I5.out.ext hb7)
  have HW7 := Lib.hid (HW5.out.ext hb7)
  have K7 := Lib.hid (K5.out.ext hb7)
  have KX7 := Lib.hid (KX.out.ext hb7)
  have B7 := Lib.hid (ext_trans B5.out hb7)
  clear hb7 HW5 K5 KX B5 I5
  have x0 : w7.cell? ⟨w5.heap.size, 0, none⟩ = some (.slice A5 l.length c5) := KX7.out.cell 0
  have x1 : w7.cell? ⟨w5.heap.size, 1, none⟩ = some (.string rf) := KX7.out.cell 1
  have x2 : w7.cell? ⟨w.heap.size, 0, none⟩ = some (.slice A l.length cA) := K7.out.cell 0
  have x3 : w7.cell? ⟨w.heap.size, 1, none⟩ = some (.string rf) := K7.out.cell 1
  go_wp2_with fail
  go_region_held3 (fun w' => w'.cell? ⟨w5.heap.size, 0, none⟩ = some (.slice A5 l.length c5) ∧ w'.cell? ⟨w5.heap.size, 1, none⟩ = some (.string rf) ∧ w'.cell? ⟨w.heap.size, 0, none⟩ = some (.slice A l.length cA) ∧ w'.cell? ⟨w.heap.size, 1, none⟩ = some (.string rf))
    (first | exact hkeep2 | exact hkeep1 | exact ⟨x0, x1, x2, x3⟩ | go_keep)
    (first
      | (go_at_call 17
         refine (c_toWheels A cA l rf _ (HW7.out.ext (Below.refl _ _).drew) hl1 HL2.out).mono ?_
         rintro e w8 ⟨A8, c8, rfl, i8, hb8⟩
         have hkeep1 : w8.cell? ⟨w5.heap.size, 0, none⟩ = some (.slice A5 l.length c5) ∧ w8.cell? ⟨w5.heap.size, 1, none⟩ = some (.string rf) ∧ w8.cell? ⟨w.heap.size, 0, none⟩ = some (.slice A l.length cA) ∧ w8.cell? ⟨w.heap.size, 1, none⟩ = some (.string rf) :=
           ⟨(KX7.out.drew.ext hb8).cell 0, (KX7.out.drew.ext hb8).cell 1, (K7.out.drew.ext hb8).cell 0, (K7.out.drew.ext hb8).cell 1⟩
         have HB8 := Lib.hid ((Below.refl w7.heap.size w7).drew.trans hb8))
      | (go_at_call 19
         refine (c_eqWheels A5 c5 A8 c8 l rf _ (L1.out.ext HB8.out) i8).mono ?_
         rintro e w9 ⟨rfl, hb9⟩
         have hkeep2 : w9.cell? ⟨w5.heap.size, 0, none⟩ = some (.slice A5 l.length c5) ∧ w9.cell? ⟨w5.heap.size, 1, none⟩ = some (.string rf) ∧ w9.cell? ⟨w.heap.size, 0, none⟩ = some (.slice A l.length cA) ∧ w9.cell? ⟨w.heap.size, 1, none⟩ = some (.string rf) :=
           ⟨((KX7.out.ext HB8.out).ext hb9).cell 0, ((KX7.out.ext HB8.out).ext hb9).cell 1, ((K7.out.ext HB8.out).ext hb9).cell 0, ((K7.out.ext HB8.out).ext hb9).cell 1⟩))
  have B9 := Lib.hid (ext_trans (ext_trans B7.out HB8.out) hb9)
  clear hkeep1 hkeep2 hb8 hb9 HB8
  go_wp2_with fail
  go_ret
  exact ⟨rfl, B9.out⟩
theorem walk_FnExactLeadIn (v0 : Value) (x0 : List Rot × ByteArray) (a1 : ByteArray) (w : World) (w0 : IsWheels w v0 x0) (w1 : a1.size ≤ maxLen) :
    Calls Try.prog 8 #[v0, .string a1] w fun e w' => e = .returned (.bool true) ∧ Below w.heap.size w w' := by
  obtain ⟨A, c, rfl, h1, h2⟩ := w0
  exact walkx_FnExactLeadIn A c x0.1 x0.2 a1 w h1 h2 (by unfold maxLen at w1; omega)
end Go.Proofs.Ytbapigekpehkfaa
