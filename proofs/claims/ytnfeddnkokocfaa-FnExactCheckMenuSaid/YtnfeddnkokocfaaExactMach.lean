/- Contracts of szMachine, toMachine, eqMachine; machines that came in. -/
import Derived.Test.YtnfeddnkokocfaaExactWheels
import Derived.Test.YtnfeddnkokocfaaMachine
import Derived.Test.YtnfeddnkokocfaaRounds
import Derived.Test.YtnfeddnkokocfaaOpenWheels
namespace Go.Proofs.Ytnfeddnkokocfaa
set_option linter.unusedVariables false
set_option linter.unusedSimpArgs false
open Go.RowKit

theorem results_cell4 {P : Program} {fn : Func} {p : Tmp} {ty : TypeId} (h : fn.results = #[.cell p ty]) (tmps : Array Value) (w : World) (g : Nat) (cs : Array Value) (d : TypeDesc) (hp : tmps.getD p undef = .pointer (some ⟨g, 0, none⟩)) (hg : Blk w g ty cs)
    (hu : P.underlying ty = some d) (hd : (match d with | .struct _ | .array _ _ => true | _ => false) = true) (hi : (P.info? ty).map (·.size) = some cs.size) : (results fn tmps).run P w = .ok (.agg cs) w :=
  results_cell_row h tmps w g ty cs (0, 0) d hp hg hu hd hi
set_option maxHeartbeats 400000 in
theorem c_szMachine (A : Option Addr) (cA : Nat) (M : Mch) (w : World) (hR : IsRots w (.slice A M.l.length cA) M.l) (hz : MSz M) :
    Calls Try.prog 13 #[mV A cA M, .int .i64 1048576] w fun e w' => ∃ r : Int, e = .returned (.int .i64 r) ∧ -1 ≤ r ∧ r ≤ 1048576 ∧ (0 ≤ r → M.l.length ≤ 1048576 ∧ ∀ k, k < M.l.length → (gR M.l k).1.size ≤ 1048576 ∧ (gR M.l k).2.size ≤ 1048576) ∧ Below w.heap.size w w' := by
  have hb0 := ext_alloc w (.cells #[.slice A M.l.length cA, .string M.rf, .string M.rg, .string M.pl] 26)
  have K0 := Lib.hid (Blk.new w 26 #[.slice A M.l.length cA, .string M.rf, .string M.rg, .string M.pl])
  have R0 := Lib.hid (hR.ext hb0)
  have B0 := Lib.hid hb0
  obtain ⟨z1, z2, z3⟩ := hz
  clear hR hb0
  have y0 := K0.out.cell 0
  have y1 := K0.out.cell 1
  go_enter Try.func13, Try.ntmps13
  go_wp2_with fail
  refine (c_szWheels A cA M.l M.rf 1048576 _ R0.out z1 (by omega) (by omega)).mono ?_
  rintro e w1 ⟨r, rfl, hr0, hr1, hr2, hb1⟩
  have HR := Lib.hid hr2
  have K1 := Lib.hid (K0.out.ext hb1)
  have B1 := Lib.hid (ext_trans B0.out hb1)
  clear hr2 hb1 y0 y1 K0 R0 B0
  by_cases hr : r < 0
  · go_wp2_with fail
    go_ret
    exact ⟨-1, rfl, by omega, by omega, fun h => by omega, B1.out⟩
  have y2 := K1.out.cell 2
  have y3 := K1.out.cell 3
  have i1 : -9223372036854775808 ≤ r - (M.rg.size : Int) := by omega
  by_cases hrg : r - (M.rg.size : Int) < 0
  · go_wp2_with fail
    go_ret
    exact ⟨-1, rfl, by omega, by omega, fun h => by omega, B1.out⟩
  have i2 : -9223372036854775808 ≤ r - (M.rg.size : Int) - (M.pl.size : Int) := by omega
  by_cases hpl : r - (M.rg.size : Int) - (M.pl.size : Int) < 0
  · go_wp2_with fail
    go_ret
    exact ⟨-1, rfl, by omega, by omega, fun h => by omega, B1.out⟩
  · go_wp2_with fail
    go_ret
    exact ⟨_, rfl, by omega, by omega, fun _ => (HR.out (by omega)).1, B1.out⟩
theorem info_mach : (Try.prog.info? 33).map (·.size) = some 4 := by kernel_rfl
set_option maxHeartbeats 800000 in
theorem c_toMachine (A : Option Addr) (cA : Nat) (M : Mch) (w : World) (hR : IsRots w (.slice A M.l.length cA) M.l) (h1 : M.l.length ≤ 1048576) (hs : ∀ k, k < M.l.length → (gR M.l k).1.size ≤ 1048576 ∧ (gR M.l k).2.size ≤ 1048576) :
    Calls Try.prog 15 #[mV A cA M] w fun e w' => ∃ A' cA', e = .returned (mV A' cA' M) ∧ IsRots w' (.slice A' M.l.length cA') M.l ∧ (∀ b o, A' = some ⟨b, o, none⟩ → w.heap.size ≤ b) ∧ Below w.heap.size w w' := by
  obtain ⟨z, hz⟩ : ∃ z : Array Value, z = #[.slice none 0 0, .string ⟨#[]⟩, .string ⟨#[]⟩, .string ⟨#[]⟩] := ⟨_, rfl⟩
  obtain ⟨m, hm⟩ : ∃ m : Array Value, m = #[.slice A M.l.length cA, .string M.rf, .string M.rg, .string M.pl] := ⟨_, rfl⟩
  have hb3 : Below w.heap.size w (((w.alloc (.cells m 26)).alloc (.cells z 33)).alloc (.cells z 33)) := ((ext_alloc w _).alloc (by simp) _).alloc (by simp; omega) _
  have k0 := ((Blk.new w 26 m).alloc (.cells z 33)).alloc (.cells z 33)
  have k1 := (Blk.new (w.alloc (.cells m 26)) 33 z).alloc (.cells z 33)
  have k2 := Blk.new ((w.alloc (.cells m 26)).alloc (.cells z 33)) 33 z
  have hzz : (((w.alloc (.cells m 26)).alloc (.cells z 33)).alloc (.cells z 33)).heap.size = w.heap.size + 3 := by simp
  simp only [World.size_alloc] at k1 k2
  subst hz hm
  have HB3 := Lib.hid hb3
  have K0 := Lib.hid k0
  have K1 := Lib.hid k1
  have K2 := Lib.hid k2
  have HW := Lib.hid (hR.ext hb3)
  have HS := Lib.hid hs
  have HZ := Lib.hid hzz
  have y0 := k0.cell 0
  have y1 := k0.cell 1
  clear hR k0 k1 k2 hb3 hs hzz
  go_enter Try.func15, Try.ntmps15
  go_wp2_with fail
  refine (c_toWheelsF A cA M.l M.rf _ HW.out h1 HS.out).mono ?_
  rintro e w1 ⟨A1, c1, rfl, hv1, hf1, hb1⟩
  rw [HZ.out] at hf1
  have L0 := Lib.hid (K0.out.ext hb1)
  have L1 := Lib.hid (K1.out.ext hb1)
  have L2 := Lib.hid (K2.out.ext hb1)
  have BB1 := Lib.hid (ext_trans HB3.out hb1)
  have V1 := Lib.hid hv1
  have HF := Lib.hid hf1
  clear hv1 hf1 hb1 K0 K1 K2 HB3 HW y0 y1 HZ
  have x0 := L2.out.cell 0
  have x1 := L2.out.cell 1
  have f0 := L2.out.free 0
  have f1 := L2.out.free 1
  go_upto_region 3 with fail
  have g1 := grow_set (grow_cell w1 ⟨w.heap.size + 1 + 1, 0, none⟩ (.slice A1 M.l.length c1)) (p := ⟨w.heap.size + 1 + 1, 1, none⟩) (.inl rfl) (.string M.rf)
  have M2 := Lib.hid ((L2.out.set 0 (.slice A1 M.l.length c1)).set 1 (.string M.rf))
  have M1 := Lib.hid (L1.out.grownR g1 (by simp))
  have M0 := Lib.hid (L0.out.grownR g1 (by simp; omega))
  have V2 := Lib.hid (V1.out.grownR g1 (fun b o e => by have := HF.out b o e; simp; omega))
  have B2 := Lib.hid (below_grown BB1.out g1 (Nat.le_refl _) (by simp; omega))
  clear g1 x0 x1 f0 f1 L0 L1 L2 BB1 V1
  generalize (w1.setCell ⟨w.heap.size + 1 + 1, 0, none⟩ (.slice A1 M.l.length c1)).setCell ⟨w.heap.size + 1 + 1, 1, none⟩ (.string M.rf) = w2 at *
  have x2 := M2.out.cell 2
  have y2 := M0.out.cell 2
  have f2 := M2.out.free 2
  go_upto_region 4 with fail
  have g1 := grow_cell w2 ⟨w.heap.size + 1 + 1, 2, none⟩ (.string M.rg)
  have N2 := Lib.hid (M2.out.set 2 (.string M.rg))
  have N1 := Lib.hid (M1.out.grownR g1 (by simp))
  have N0 := Lib.hid (M0.out.grownR g1 (by simp; omega))
  have V3 := Lib.hid (V2.out.grownR g1 (fun b o e => by have := HF.out b o e; simp; omega))
  have B3 := Lib.hid (below_grown B2.out g1 (Nat.le_refl _) (by simp; omega))
  clear g1 x2 y2 f2 M0 M1 M2 B2 V2
  generalize w2.setCell ⟨w.heap.size + 1 + 1, 2, none⟩ (.string M.rg) = w3 at *
  have x3 := N2.out.cell 3
  have y3 := N0.out.cell 3
  have f3 := N2.out.free 3
  go_upto_region 5 with fail
  have g1 := grow_cell w3 ⟨w.heap.size + 1 + 1, 3, none⟩ (.string M.pl)
  have P2 : Hid (Blk (w3.setCell ⟨w.heap.size + 1 + 1, 3, none⟩ (.string M.pl)) (w.heap.size + 1 + 1) 33 #[.slice A1 M.l.length c1, .string M.rf, .string M.rg, .string M.pl]) := N2.out.set 3 (.string M.pl)
  have P1 := Lib.hid (N1.out.grownR g1 (by simp))
  have V4 := Lib.hid (V3.out.grownR g1 (fun b o e => by have := HF.out b o e; simp; omega))
  have B4 := Lib.hid (below_grown B3.out g1 (Nat.le_refl _) (by simp; omega))
  clear g1 x3 y3 f3 N0 N1 N2 B3 V3
  generalize w3.setCell ⟨w.heap.size + 1 + 1, 3, none⟩ (.string M.pl) = w4 at *
  go_wp2_with (first | (refine wpList_load_row rfl 33 _ rfl (w.heap.size + 1 + 1) rfl 33 _ (0, 0) _ P2.out Try.underlying33 rfl info_mach ?_) | (refine wpList_store_row rfl 33 _ _ rfl (w.heap.size + 1) _ rfl rfl 33 _ P1.out info_mach rfl (by simp [Value.oneCell']) ?_))
  have g1 := grow_row w4 (w.heap.size + 1) #[.slice A1 M.l.length c1, .string M.rf, .string M.rg, .string M.pl]
  refine bodyPost_ret (results_cell4 Try.results15 _ _ (w.heap.size + 1) _ _ rfl (P1.out.setRow #[.slice A1 M.l.length c1, .string M.rf, .string M.rg, .string M.pl]) Try.underlying33 rfl info_mach) rfl ⟨A1, c1, rfl, V4.out.grownR g1 (fun b o e => by have := HF.out b o e; omega), fun b o e => by have := HF.out b o e; omega, below_grown B4.out g1 (Nat.le_refl _) (by omega)⟩
set_option maxHeartbeats 400000 in
theorem c_eqMachine (A A' : Option Addr) (cA cA' : Nat) (M : Mch) (w : World) (hR : IsRots w (.slice A M.l.length cA) M.l) (hR' : IsRots w (.slice A' M.l.length cA') M.l) :
    Calls Try.prog 17 #[mV A cA M, mV A' cA' M] w fun e w' => e = .returned (.bool true) ∧ Below w.heap.size w w' := by
  have hb2 : Below w.heap.size w ((w.alloc (.cells #[.slice A M.l.length cA, .string M.rf, .string M.rg, .string M.pl] 33)).alloc (.cells #[.slice A' M.l.length cA', .string M.rf, .string M.rg, .string M.pl] 33)) := (ext_alloc w _).alloc (by simp) _
  have HB2 := Lib.hid hb2
  have HR := Lib.hid (hR.ext hb2)
  have HR' := Lib.hid (hR'.ext hb2)
  have K0 := Lib.hid ((Blk.new w 33 #[.slice A M.l.length cA, .string M.rf, .string M.rg, .string M.pl]).alloc (.cells #[.slice A' M.l.length cA', .string M.rf, .string M.rg, .string M.pl] 33))
  have k1 := Blk.new (w.alloc (.cells #[.slice A M.l.length cA, .string M.rf, .string M.rg, .string M.pl] 33)) 33 #[.slice A' M.l.length cA', .string M.rf, .string M.rg, .string M.pl]
  simp only [World.size_alloc] at k1
  have K1 := Lib.hid k1
  clear k1 hR hR' hb2
  have t1 := bs_yes (a := M.rg) rfl
  have t2 := bs_yes (a := M.pl) rfl
  go_enter Try.func17, Try.ntmps17
  go_wp2_with fail
  refine (c_eqWheels A cA A' cA' M.l M.rf _ HR.out HR'.out).mono ?_
  rintro e w1 ⟨rfl, hb1⟩
  have L0 := Lib.hid (K0.out.ext hb1)
  have L1 := Lib.hid (K1.out.ext hb1)
  have x2 := L0.out.cell 2
  have x3 := L0.out.cell 3
  have y2 := L1.out.cell 2
  have y3 := L1.out.cell 3
  have HB1 := Lib.hid (ext_trans HB2.out hb1)
  clear hb1
  go_wp2_with fail
  go_ret
  exact ⟨rfl, HB1.out⟩
end Go.Proofs.Ytnfeddnkokocfaa
