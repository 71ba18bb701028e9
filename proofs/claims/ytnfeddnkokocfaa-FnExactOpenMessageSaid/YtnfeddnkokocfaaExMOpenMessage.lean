/- The walk of the law FnExactOpenMessage; messages that came in. -/
import Derived.Test.YtnfeddnkokocfaaExactMach
import Derived.Test.YtnfeddnkokocfaaOpenMach
import Derived.Test.YtnfeddnkokocfaaKeyFns2
import Derived.Test.YtnfeddnkokocfaaSpecKeys2
namespace Go.Proofs.Ytnfeddnkokocfaa
set_option linter.unusedVariables false
set_option linter.unusedSimpArgs false
open Go.RowKit Go.ChangeShapes Go.WideShapes Go.Joins Go.Deep
attribute [local go_sem] Ext.cell
open BigFrame

/-- a message that came in -/
def IsMessage (w : World) (v : Value) (m : ByteArray × ByteArray × ByteArray) : Prop := v = msgV m.1 m.2.1 m.2.2 ∧ m.1.size ≤ 9223372036854775807 ∧ m.2.1.size ≤ 9223372036854775807 ∧ m.2.2.size ≤ 9223372036854775807
section
variable {H : Type} {enc : TypeId × Value → H} {w : World} {base : Nat} {spare : Nat → Bool} {held : Bool}
set_option maxRecDepth 100000 in
theorem openK_message {r : Reach} {b0 : Nat} {v : Value} {d : DataW H} {p : List MemPlace} (hv : Value.okWide Try.prog w r b0 41 v) (h : DataW.Trod enc Try.prog w base spare held 41 v d p) :
    ∃ x, IsMessage w v x := by
  obtain ⟨cs, rfl, hsz⟩ := okWide_struct Try.underlying41 hv
  have hc3 : Try.prog.cellsOf 41 = 3 := by kernel_rfl
  obtain ⟨c0, c1, c2, rfl⟩ := array3 (hsz.trans hc3)
  obtain ⟨fuel, hf⟩ := h
  obtain ⟨y0, y1, y2, n, hx, _, h0, h1, h2⟩ := trod_struct3 Try.underlying41 hf
  have k1 : Try.prog.cellsOf 9 = 1 := by kernel_rfl
  simp [Value.cells, k1] at h0 h1 h2
  obtain ⟨s1, rfl, q1⟩ := trod_strA Try.underlying9 h0
  obtain ⟨s2, rfl, q2⟩ := trod_strA Try.underlying9 h1
  obtain ⟨s3, rfl, q3⟩ := trod_strA Try.underlying9 h2
  exact ⟨(s1, s2, s3), rfl, q1, q2, q3⟩
end
set_option maxHeartbeats 400000 in
theorem c_szMessage (a b c : ByteArray) (left : Int) (w : World) (ha : a.size ≤ 9223372036854775807) (hb : b.size ≤ 9223372036854775807) (hc : c.size ≤ 9223372036854775807) (h0 : 0 ≤ left) (h1 : left ≤ 1048576) :
    Calls Try.prog 22 #[msgV a b c, .int .i64 left] w fun e w' => ∃ r : Int, e = .returned (.int .i64 r) ∧ -1 ≤ r ∧ r ≤ 1048576 ∧ Below w.heap.size w w' := by
  have i1 : -9223372036854775808 ≤ left - (a.size : Int) := by omega
  have B0 := Lib.hid (ext_alloc w (.cells #[.string a, .string b, .string c] 41))
  by_cases h2 : left - (a.size : Int) < 0
  · go_enter Try.func22, Try.ntmps22
    go_wp2_with fail
    go_ret
    exact ⟨-1, rfl, by omega, by omega, B0.out⟩
  have i2 : -9223372036854775808 ≤ left - (a.size : Int) - (b.size : Int) := by omega
  by_cases h3 : left - (a.size : Int) - (b.size : Int) < 0
  · go_enter Try.func22, Try.ntmps22
    go_wp2_with fail
    go_ret
    exact ⟨-1, rfl, by omega, by omega, B0.out⟩
  have i3 : -9223372036854775808 ≤ left - (a.size : Int) - (b.size : Int) - (c.size : Int) := by omega
  by_cases h4 : left - (a.size : Int) - (b.size : Int) - (c.size : Int) < 0
  · go_enter Try.func22, Try.ntmps22
    go_wp2_with fail
    go_ret
    exact ⟨-1, rfl, by omega, by omega, B0.out⟩
  · go_enter Try.func22, Try.ntmps22
    go_wp2_with fail
    go_ret
    exact ⟨_, rfl, by omega, by omega, B0.out⟩
set_option maxHeartbeats 400000 in
theorem c_toMessage (a b c : ByteArray) (w : World) : Calls Try.prog 24 #[msgV a b c] w fun e w' => e = .returned (msgV a b c) ∧ Below w.heap.size w w' := by
  have k1 := (Blk.new (w.alloc (.cells #[.string a, .string b, .string c] 41)) 45 #[.string a, .string b, .string c]).alloc (.cells #[.string a, .string b, .string c] 45)
  rw [show (w.alloc (.cells #[.string a, .string b, .string c] 41)).heap.size = w.heap.size + 1 by simp] at k1
  have K1 := Lib.hid k1
  clear k1
  go_enter Try.func24, Try.ntmps24
  go_wp2_with fail
  have q0 := K1.out.cell 0
  have q1 := K1.out.cell 1
  have q2 := K1.out.cell 2
  refine bodyPost_ret (v := msgV a b c) (by simp [results, Try.results24, go_sem, q0, q1, q2]) rfl ⟨rfl, ((ext_alloc w _).alloc (by simp) _).alloc (by simp; omega) _⟩
/-- the parameters of the law -/
structure OM (w : World) (A : Option Addr) (cA : Nat) (M : Mch) (a b c : ByteArray) (W : World) : Prop where
  k0 : Blk W w.heap.size 26 #[.slice A M.l.length cA, .string M.rf, .string M.rg, .string M.pl]
  k1 : Blk W (w.heap.size + 1) 41 #[.string a, .string b, .string c]
  rot : IsRots W (.slice A M.l.length cA) M.l
  bel : Below w.heap.size w W
theorem OM.ext {w W W' : World} {A : Option Addr} {cA : Nat} {M : Mch} {a b c : ByteArray} (h : OM w A cA M a b c W) (hb : Below W.heap.size W W') : OM w A cA M a b c W' := ⟨h.k0.ext hb, h.k1.ext hb, h.rot.ext hb, ext_trans h.bel hb⟩
theorem OM.drew {w W : World} {A : Option Addr} {cA : Nat} {M : Mch} {a b c : ByteArray} (h : OM w A cA M a b c W) : OM w A cA M a b c W.drew := h.ext (Below.refl _ _).drew
abbrev HeldO (w : World) (A : Option Addr) (cA : Nat) (M : Mch) (a b c : ByteArray) (W : World) : Prop :=
  W.cell? ⟨w.heap.size, 0, none⟩ = some (.slice A M.l.length cA) ∧ W.cell? ⟨w.heap.size, 1, none⟩ = some (.string M.rf) ∧ W.cell? ⟨w.heap.size, 2, none⟩ = some (.string M.rg) ∧ W.cell? ⟨w.heap.size, 3, none⟩ = some (.string M.pl) ∧
  W.cell? ⟨w.heap.size + 1, 0, none⟩ = some (.string a) ∧ W.cell? ⟨w.heap.size + 1, 1, none⟩ = some (.string b) ∧ W.cell? ⟨w.heap.size + 1, 2, none⟩ = some (.string c) ∧ OM w A cA M a b c W
theorem OM.held {w W : World} {A : Option Addr} {cA : Nat} {M : Mch} {a b c : ByteArray} (h : OM w A cA M a b c W) : HeldO w A cA M a b c W := ⟨h.k0.cell 0, h.k0.cell 1, h.k0.cell 2, h.k0.cell 3, h.k1.cell 0, h.k1.cell 1, h.k1.cell 2, h⟩
theorem HeldO.om {w W : World} {A : Option Addr} {cA : Nat} {M : Mch} {a b c : ByteArray} (h : HeldO w A cA M a b c W) : OM w A cA M a b c W := h.2.2.2.2.2.2.2
theorem form_OpenMessage (M : Mch) (a b c : ByteArray) : ∃ (S0 S1 : ByteArray) (S2 : Bool), openR M a b c = .tuple #[.string S0, .string S1, .bool S2] := by
  unfold openR
  split <;> exact ⟨_, _, _, rfl⟩
set_option maxHeartbeats 1000000 in
theorem walkx_FnExactOpenMessage (A : Option Addr) (cA : Nat) (M : Mch) (a b c : ByteArray) (w : World) (hR : IsRots w (.slice A M.l.length cA) M.l) (hz : MSz M) (za : a.size ≤ 9223372036854775807) (zb : b.size ≤ 9223372036854775807) (zc : c.size ≤ 9223372036854775807) :
    Calls Try.prog 6 #[mV A cA M, msgV a b c] w fun e w' => e = .returned (.bool true) ∧ Below w.heap.size w w' := by
  have hb0 := (ext_alloc w (.cells #[.slice A M.l.length cA, .string M.rf, .string M.rg, .string M.pl] 26)).alloc (by simp) (.cells #[.string a, .string b, .string c] 41)
  have k1 := Blk.new (w.alloc (.cells #[.slice A M.l.length cA, .string M.rf, .string M.rg, .string M.pl] 26)) 41 #[.string a, .string b, .string c]
  rw [World.size_alloc] at k1
  have P0 : Hid (OM w A cA M a b c _) := Lib.hid ⟨(Blk.new w 26 #[.slice A M.l.length cA, .string M.rf, .string M.rg, .string M.pl]).alloc _, k1, hR.ext hb0, hb0⟩
  have HZ := Lib.hid hz
  clear hR hb0 hz k1
  go_enter Try.func6, Try.ntmps6
  obtain ⟨x0, x1, x2, x3, x4, x5, x6, _⟩ := P0.out.held
  go_wp2_with fail
  refine (c_szMachine A cA M _ P0.out.rot HZ.out).mono ?_
  rintro e w1 ⟨r, rfl, hr0, hr1, hr2, hb1⟩
  have HR := Lib.hid hr2
  have P1 := Lib.hid (P0.out.ext hb1)
  clear hr2 hb1 P0 x0 x1 x2 x3 x4 x5 x6
  by_cases hr : r < 0
  · go_wp2_with fail
    go_ret
    exact ⟨rfl, P1.out.bel⟩
  obtain ⟨hl1, hl2⟩ := HR.out (by omega)
  have HL2 := Lib.hid hl2
  clear hl2
  obtain ⟨x0, x1, x2, x3, x4, x5, x6, _⟩ := P1.out.held
  go_wp2_with fail
  refine (c_szMessage a b c r _ za zb zc (by omega) (by omega)).mono ?_
  rintro e w2 ⟨r', rfl, hr0', hr1', hb2⟩
  have P2 := Lib.hid (P1.out.ext hb2)
  clear hb2 P1 x0 x1 x2 x3 x4 x5 x6
  by_cases hr' : r' < 0
  · go_wp2_with fail
    go_ret
    exact ⟨rfl, P2.out.bel⟩
  obtain ⟨S0, S1, S2, hS⟩ := form_OpenMessage M a b c
  have HS := Lib.hid hS
  clear hS
  go_wp2_with fail
  go_region_held3 (fun w' => HeldO w A cA M a b c w')
    (first | assumption | exact hkeep3 | exact hkeep2 | exact hkeep1 | exact P2.out.drew.held)
    (first
      | (go_at_call 15
         refine (c_toMachine A cA M _ (HeldO.om (by assumption)).rot hl1 HL2.out).mono ?_
         rintro e w3 ⟨A3, c3, rfl, i3, _, hb3⟩
         have hkeep1 := ((HeldO.om (by assumption)).ext hb3).held)
      | (go_at_call 24
         refine (c_toMessage a b c _).mono ?_
         rintro e w4 ⟨rfl, hb4⟩
         have hkeep2 := ((HeldO.om (by assumption)).ext hb4).held)
      | (go_at_call 23
         refine (c_sOpenMessage A3 c3 M a b c _ (by first | exact i3 | exact i3.ext hb4) HZ.out za zb zc).mono ?_
         rintro e w5 ⟨rfl, hb5⟩
         rw [HS.out]
         have hkeep3 := ((HeldO.om (by assumption)).ext hb5).held))
  all_goals
    have P5 : Hid (OM w A cA M a b c w5) := by first | exact Lib.hid ((HeldO.om hkeep2).ext hb5) | exact Lib.hid ((HeldO.om hkeep1).ext hb5)
    clear hkeep1 hkeep2 hb3 hb4 hb5 i3
    obtain ⟨x0, x1, x2, x3, x4, x5, x6, _⟩ := P5.out.held
    go_wp2_with fail
    refine (c_toMachine A cA M _ P5.out.rot hl1 HL2.out).mono ?_
    rintro e w6 ⟨A6, c6, rfl, i6, _, hb6⟩
    have hb7 := ext_alloc w6 (.cells #[.slice A6 M.l.length c6, .string M.rf, .string M.rg, .string M.pl] 33)
    have KX := Lib.hid (Blk.new w6 33 #[.slice A6 M.l.length c6, .string M.rf, .string M.rg, .string M.pl])
    have I6 := Lib.hid (i6.ext hb7)
    have P7 := Lib.hid (P5.out.ext (ext_trans hb6 hb7))
    clear i6 hb6 hb7 x0 x1 x2 x3 x4 x5 x6 P5
    obtain ⟨x0, x1, x2, x3, x4, x5, x6, _⟩ := P7.out.held
    have y0 : (w6.alloc (.cells #[.slice A6 M.l.length c6, .string M.rf, .string M.rg, .string M.pl] 33)).cell? ⟨w6.heap.size, 0, none⟩ = some (.slice A6 M.l.length c6) := KX.out.cell 0
    have y1 : (w6.alloc (.cells #[.slice A6 M.l.length c6, .string M.rf, .string M.rg, .string M.pl] 33)).cell? ⟨w6.heap.size, 1, none⟩ = some (.string M.rf) := KX.out.cell 1
    have y2 : (w6.alloc (.cells #[.slice A6 M.l.length c6, .string M.rf, .string M.rg, .string M.pl] 33)).cell? ⟨w6.heap.size, 2, none⟩ = some (.string M.rg) := KX.out.cell 2
    have y3 : (w6.alloc (.cells #[.slice A6 M.l.length c6, .string M.rf, .string M.rg, .string M.pl] 33)).cell? ⟨w6.heap.size, 3, none⟩ = some (.string M.pl) := KX.out.cell 3
    have hxl : w6.heap.size < (w6.alloc (.cells #[.slice A6 M.l.length c6, .string M.rf, .string M.rg, .string M.pl] 33)).heap.size := KX.out.lt
    have hpl0 : w.heap.size < (w6.alloc (.cells #[.slice A6 M.l.length c6, .string M.rf, .string M.rg, .string M.pl] 33)).heap.size := P7.out.k0.lt
    have hpl1 : w.heap.size + 1 < (w6.alloc (.cells #[.slice A6 M.l.length c6, .string M.rf, .string M.rg, .string M.pl] 33)).heap.size := P7.out.k1.lt
    obtain ⟨b6, hb6⟩ : ∃ b6, w6.heap.size = b6 := ⟨_, rfl⟩
    rw [hb6] at KX y0 y1 y2 y3 hxl
    go_upto_region 10 with fail
    clear hb6
    generalize w6.alloc (.cells #[.slice A6 M.l.length c6, .string M.rf, .string M.rg, .string M.pl] 33) = w7 at *
    refine wp_region_ext (by kernel_rfl) (by kernel_rfl) ?_
    repeat (go_big_quiet_step ((first
      | (go_at_call 24; exact Ext.call _ (c_toMessage a b c _))
      | (go_at_call 25; exact Ext.callv _ (c_OpenMessage A6 c6 M a b c _ (I6.out.ext (Subtype.property _)) HZ.out za zb zc) HS.out))))
    refine wpQuiet_nil ?_
    rintro _ ⟨⟨w8, hb8⟩, rfl⟩
    rename World => w8
    have KX8 := Lib.hid (KX.out.ext hb8)
    have I8 := Lib.hid (I6.out.ext hb8)
    have P8 := Lib.hid (P7.out.ext hb8)
    clear hb8 x0 x1 x2 x3 x4 x5 x6 y0 y1 y2 y3 KX I6 P7 hxl hpl0 hpl1
    obtain ⟨x0, x1, x2, x3, x4, x5, x6, _⟩ := P8.out.held
    have T0 := bs_yes (a := S0) (b := S0) rfl
    have T1 := bs_yes (a := S1) (b := S1) rfl
    have T2 := bs_nyes (a := S0) (b := S0) rfl
    have T3 := bs_nyes (a := S1) (b := S1) rfl
    have y0 : w8.cell? ⟨b6, 0, none⟩ = some (.slice A6 M.l.length c6) := KX8.out.cell 0
    have y1 : w8.cell? ⟨b6, 1, none⟩ = some (.string M.rf) := KX8.out.cell 1
    have y2 : w8.cell? ⟨b6, 2, none⟩ = some (.string M.rg) := KX8.out.cell 2
    have y3 : w8.cell? ⟨b6, 3, none⟩ = some (.string M.pl) := KX8.out.cell 3
    go_wp2_with fail
    go_region_held3 (fun w' => w'.cell? ⟨b6, 0, none⟩ = some (.slice A6 M.l.length c6) ∧ w'.cell? ⟨b6, 1, none⟩ = some (.string M.rf) ∧ w'.cell? ⟨b6, 2, none⟩ = some (.string M.rg) ∧ w'.cell? ⟨b6, 3, none⟩ = some (.string M.pl) ∧ w'.cell? ⟨w.heap.size, 0, none⟩ = some (.slice A M.l.length cA) ∧ w'.cell? ⟨w.heap.size, 1, none⟩ = some (.string M.rf) ∧ w'.cell? ⟨w.heap.size, 2, none⟩ = some (.string M.rg) ∧ w'.cell? ⟨w.heap.size, 3, none⟩ = some (.string M.pl))
      (first | exact hkeep2 | exact hkeep1 | exact ⟨y0, y1, y2, y3, x0, x1, x2, x3⟩ | go_keep)
      (first
        | (go_at_call 15
           refine (c_toMachine A cA M _ P8.out.drew.rot hl1 HL2.out).mono ?_
           rintro e w10 ⟨A10, c10, rfl, i10, _, hb10⟩
           have hkeep1 : w10.cell? ⟨b6, 0, none⟩ = some (.slice A6 M.l.length c6) ∧ w10.cell? ⟨b6, 1, none⟩ = some (.string M.rf) ∧ w10.cell? ⟨b6, 2, none⟩ = some (.string M.rg) ∧ w10.cell? ⟨b6, 3, none⟩ = some (.string M.pl) ∧ w10.cell? ⟨w.heap.size, 0, none⟩ = some (.slice A M.l.length cA) ∧ w10.cell? ⟨w.heap.size, 1, none⟩ = some (.string M.rf) ∧ w10.cell? ⟨w.heap.size, 2, none⟩ = some (.string M.rg) ∧ w10.cell? ⟨w.heap.size, 3, none⟩ = some (.string M.pl) :=
             ⟨(KX8.out.drew.ext hb10).cell 0, (KX8.out.drew.ext hb10).cell 1, (KX8.out.drew.ext hb10).cell 2, (KX8.out.drew.ext hb10).cell 3, (P8.out.k0.drew.ext hb10).cell 0, (P8.out.k0.drew.ext hb10).cell 1, (P8.out.k0.drew.ext hb10).cell 2, (P8.out.k0.drew.ext hb10).cell 3⟩)
        | (go_at_call 17
           refine (c_eqMachine A6 A10 c6 c10 M _ ((I8.out.ext (Below.refl _ _).drew).ext hb10) i10).mono ?_
           rintro e w11 ⟨rfl, hb11⟩
           have hb1011 := ext_trans hb10 hb11
           have hkeep2 : w11.cell? ⟨b6, 0, none⟩ = some (.slice A6 M.l.length c6) ∧ w11.cell? ⟨b6, 1, none⟩ = some (.string M.rf) ∧ w11.cell? ⟨b6, 2, none⟩ = some (.string M.rg) ∧ w11.cell? ⟨b6, 3, none⟩ = some (.string M.pl) ∧ w11.cell? ⟨w.heap.size, 0, none⟩ = some (.slice A M.l.length cA) ∧ w11.cell? ⟨w.heap.size, 1, none⟩ = some (.string M.rf) ∧ w11.cell? ⟨w.heap.size, 2, none⟩ = some (.string M.rg) ∧ w11.cell? ⟨w.heap.size, 3, none⟩ = some (.string M.pl) :=
             ⟨(KX8.out.drew.ext hb1011).cell 0, (KX8.out.drew.ext hb1011).cell 1, (KX8.out.drew.ext hb1011).cell 2, (KX8.out.drew.ext hb1011).cell 3, (P8.out.k0.drew.ext hb1011).cell 0, (P8.out.k0.drew.ext hb1011).cell 1, (P8.out.k0.drew.ext hb1011).cell 2, (P8.out.k0.drew.ext hb1011).cell 3⟩))
    have P11 := Lib.hid (P8.out.drew.ext hb1011)
    clear hkeep1 hkeep2 hb10 hb11 hb1011
    go_wp2_with fail
    go_ret
    exact ⟨rfl, P11.out.bel⟩
theorem walk_FnExactOpenMessage (v0 : Value) (x0 : Mch) (v1 : Value) (x1 : ByteArray × ByteArray × ByteArray) (w : World) (w0 : IsMachine w v0 x0) (w1 : IsMessage w v1 x1) :
    Calls Try.prog 6 #[v0, v1] w fun e w' => e = .returned (.bool true) ∧ Below w.heap.size w w' := by
  obtain ⟨A, c, rfl, h1, h2⟩ := w0
  obtain ⟨rfl, h3, h4, h5⟩ := w1
  exact walkx_FnExactOpenMessage A c x0 x1.1 x1.2.1 x1.2.2 w h1 h2 h3 h4 h5
end Go.Proofs.Ytnfeddnkokocfaa
