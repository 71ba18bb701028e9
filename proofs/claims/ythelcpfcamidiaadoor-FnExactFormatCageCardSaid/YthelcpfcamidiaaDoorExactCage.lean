/- Contracts of szCage, toCage, eqCage, and the walk of FnExactPinEncipher. -/
import Derived.Test.YthelcpfcamidiaaDoorExact
import Derived.Test.YthelcpfcamidiaaDoorCage
namespace Go.Proofs.YthelcpfcamidiaaDoor
set_option linter.unusedVariables false
set_option linter.unusedSimpArgs false
open Go.RowKit

theorem c_szCage (vW vB : Value) (ws : List ByteArray) (bs : List Int) (left : Int) (w : World) (hW : IsStrs w vW ws) (hB : IsInts w vB bs) (h0 : 0 ≤ left) (h1 : left ≤ 1048576) :
    Calls Tryd.prog 4 #[.agg #[vW, vB], .int .i64 left] w fun e w' => ∃ r : Int, e = .returned (.int .i64 r) ∧ -1 ≤ r ∧ r ≤ left ∧ (0 ≤ r → ws.length ≤ 1048576 ∧ bs.length ≤ 1048576) ∧ Below w.heap.size w w' := by
  have HW := Lib.hid (hW.ext (ext_alloc w (.cells #[vW, vB] 25)))
  have HB := Lib.hid (hB.ext (ext_alloc w (.cells #[vW, vB] 25)))
  obtain ⟨A, cA, rfl⟩ := hW.form
  obtain ⟨B, cB, rfl⟩ := hB.form
  clear hW hB
  go_enter Tryd.func4, Tryd.ntmps4
  go_wp2_with fail
  refine (c_szStringS _ ws left _ HW.out h0 h1).mono ?_
  rintro e w1 ⟨r, rfl, hr0, hr1, hr2, rfl⟩
  have HR2 := Lib.hid hr2
  clear hr2
  by_cases hr : r < 0
  · go_wp2_with fail
    go_ret
    exact ⟨-1, rfl, by omega, by omega, fun h => by omega, ext_alloc _ _⟩
  · go_wp2_with fail
    refine (c_szIntS _ bs r _ HB.out (by omega) (by omega)).mono ?_
    rintro e w1 ⟨r', rfl, hr0', hr1', hr2', rfl⟩
    have HR2' := Lib.hid hr2'
    clear hr2'
    by_cases hr' : r' < 0
    · go_wp2_with fail
      go_ret
      exact ⟨-1, rfl, by omega, by omega, fun h => by omega, ext_alloc _ _⟩
    · go_wp2_with fail
      go_ret
      exact ⟨r', rfl, by omega, by omega, fun h => ⟨(HR2.out (by omega)).1, HR2'.out (by omega)⟩, ext_alloc _ _⟩

set_option maxHeartbeats 400000 in
theorem c_toCage (vW vB : Value) (ws : List ByteArray) (bs : List Int) (w : World) (hW : IsStrs w vW ws) (hB : IsInts w vB bs) (h1 : ws.length ≤ 1048576) (h2 : bs.length ≤ 1048576) :
    Calls Tryd.prog 6 #[.agg #[vW, vB]] w fun e w' => ∃ vW' vB', e = .returned (.agg #[vW', vB']) ∧ IsStrs w' vW' ws ∧ IsInts w' vB' bs ∧ Below w.heap.size w w' := by
  have hb3 : Below w.heap.size w (((w.alloc (.cells #[vW, vB] 25)).alloc (.cells #[.slice none 0 0, .slice none 0 0] 28)).alloc (.cells #[.slice none 0 0, .slice none 0 0] 28)) :=
    ((ext_alloc w _).alloc (by simp) _).alloc (by simp; omega) _
  have k0 := ((Blk.new w 25 #[vW, vB]).alloc (.cells #[.slice none 0 0, .slice none 0 0] 28)).alloc (.cells #[.slice none 0 0, .slice none 0 0] 28)
  have k1 := (Blk.new (w.alloc (.cells #[vW, vB] 25)) 28 #[.slice none 0 0, .slice none 0 0]).alloc (.cells #[.slice none 0 0, .slice none 0 0] 28)
  have k2 := Blk.new ((w.alloc (.cells #[vW, vB] 25)).alloc (.cells #[.slice none 0 0, .slice none 0 0] 28)) 28 #[.slice none 0 0, .slice none 0 0]
  have HB3 := Lib.hid hb3
  have K0 := Lib.hid k0
  rw [show (w.alloc (.cells #[vW, vB] 25)).heap.size = w.heap.size + 1 by simp] at k1
  rw [show ((w.alloc (.cells #[vW, vB] 25)).alloc (.cells #[.slice none 0 0, .slice none 0 0] 28)).heap.size = w.heap.size + 1 + 1 by simp] at k2
  have K1 := Lib.hid k1
  have K2 := Lib.hid k2
  have HW := Lib.hid hW
  have HB := Lib.hid hB
  obtain ⟨A, cA, rfl⟩ := hW.form
  obtain ⟨B, cB, rfl⟩ := hB.form
  clear hW hB k0 k1 k2 hb3
  go_enter Tryd.func6, Tryd.ntmps6
  go_wp2_with fail
  refine (c_toStringS _ ws _ (HW.out.ext HB3.out) h1).mono ?_
  rintro e w1 ⟨v1, rfl, hv1, hb1⟩
  obtain ⟨A1, c1, hf1⟩ := hv1.form
  subst hf1
  have L0 := Lib.hid (K0.out.ext hb1)
  have L1 := Lib.hid (K1.out.ext hb1)
  have L2 := Lib.hid (K2.out.ext hb1)
  have BB1 := Lib.hid (ext_trans HB3.out hb1)
  have V1 := Lib.hid hv1
  have x0 : w1.cell? ⟨w.heap.size + 1 + 1, 0, none⟩ = some (.slice none 0 0) := L2.out.cell 0
  have x1 := L2.out.free 0
  have x2 : (w1.setCell ⟨w.heap.size + 1 + 1, 0, none⟩ (.slice A1 ws.length c1)).cell? ⟨w.heap.size, 1, none⟩ = some (.slice B bs.length cB) := (L0.out.far (p := ⟨w.heap.size + 1 + 1, 0, none⟩) (by simp; omega) (.slice A1 ws.length c1)).cell 1
  clear hb1 hv1 K0 K1 K2 HB3
  go_wp2_with fail
  have hb2 : Below w.heap.size w (w1.setCell ⟨w.heap.size + 1 + 1, 0, none⟩ (.slice A1 ws.length c1)) := BB1.out.setCell (p := ⟨w.heap.size + 1 + 1, 0, none⟩) (by simp; omega) _
  refine (c_toIntS _ bs _ (HB.out.ext hb2) h2).mono ?_
  rintro e w2 ⟨v2, rfl, hv2, hb3⟩
  obtain ⟨A2, c2, hf2⟩ := hv2.form
  subst hf2
  have M1 := Lib.hid ((L1.out.far (p := ⟨w.heap.size + 1 + 1, 0, none⟩) (by simp) (.slice A1 ws.length c1)).ext hb3)
  have M2 := Lib.hid ((L2.out.set 0 (.slice A1 ws.length c1)).ext hb3)
  have V1' := Lib.hid ((V1.out.setBox (j := 0) L2.out (.slice A1 ws.length c1)).ext hb3)
  have V2 := Lib.hid hv2
  have BB2 := Lib.hid (ext_trans hb2 hb3)
  have N2 := Lib.hid (M2.out.set 1 (.slice A2 bs.length c2))
  have N1 := Lib.hid (M1.out.far (p := ⟨w.heap.size + 1 + 1, 1, none⟩) (by simp) (.slice A2 bs.length c2))
  have V1n := Lib.hid (V1'.out.setBox (j := 1) M2.out (.slice A2 bs.length c2))
  have V2n := Lib.hid (V2.out.setBox (j := 1) M2.out (.slice A2 bs.length c2))
  have BBn := Lib.hid (BB2.out.setCell (p := ⟨w.heap.size + 1 + 1, 1, none⟩) (by simp; omega) (.slice A2 bs.length c2))
  have y0 : w2.cell? ⟨w.heap.size + 1 + 1, 1, none⟩ = some (.slice none 0 0) := M2.out.cell 1
  have y1 := M2.out.free 1
  have z0 : (w2.setCell ⟨w.heap.size + 1 + 1, 1, none⟩ (.slice A2 bs.length c2)).cell? ⟨w.heap.size + 1 + 1, 0, none⟩ = some (.slice A1 ws.length c1) := N2.out.cell 0
  have z1 : (w2.setCell ⟨w.heap.size + 1 + 1, 1, none⟩ (.slice A2 bs.length c2)).cell? ⟨w.heap.size + 1 + 1, 1, none⟩ = some (.slice A2 bs.length c2) := N2.out.cell 1
  have z2 : (w2.setCell ⟨w.heap.size + 1 + 1, 1, none⟩ (.slice A2 bs.length c2)).cell? ⟨w.heap.size + 1, 0, none⟩ = some (.slice none 0 0) := N1.out.cell 0
  have z3 : (w2.setCell ⟨w.heap.size + 1 + 1, 1, none⟩ (.slice A2 bs.length c2)).cell? ⟨w.heap.size + 1, 1, none⟩ = some (.slice none 0 0) := N1.out.cell 1
  have z4 := N1.out.free 0
  have z5 := N1.out.free 1
  have NF := Lib.hid ((N1.out.set 0 (.slice A1 ws.length c1)).set 1 (.slice A2 bs.length c2))
  have VF1 := Lib.hid ((V1n.out.setBox (j := 0) N1.out (.slice A1 ws.length c1)).setBox (j := 1) (N1.out.set 0 (.slice A1 ws.length c1)) (.slice A2 bs.length c2))
  have VF2 := Lib.hid ((V2n.out.setBox (j := 0) N1.out (.slice A1 ws.length c1)).setBox (j := 1) (N1.out.set 0 (.slice A1 ws.length c1)) (.slice A2 bs.length c2))
  have BF := Lib.hid ((BBn.out.setCell (p := ⟨w.heap.size + 1, 0, none⟩) (by simp) (.slice A1 ws.length c1)).setCell (p := ⟨w.heap.size + 1, 1, none⟩) (by simp) (.slice A2 bs.length c2))
  clear hb3 hv2 hb2
  go_wp2_with fail
  have q0 := NF.out.cell 0
  have q1 := NF.out.cell 1
  have i1 := VF1.out
  have i2 := VF2.out
  have i3 := BF.out
  generalize ((w2.setCell ⟨w.heap.size + 1 + 1, 1, none⟩ (.slice A2 bs.length c2)).setCell ⟨w.heap.size + 1, 0, none⟩ (.slice A1 ws.length c1)).setCell ⟨w.heap.size + 1, 1, none⟩ (.slice A2 bs.length c2) = WF at *
  refine bodyPost_ret (v := .agg #[.slice A1 ws.length c1, .slice A2 bs.length c2]) (by simp [results, Tryd.results6, go_sem, q0, q1]) rfl ⟨_, _, rfl, i1, i2, i3⟩

theorem c_eqCage (vW vB vW' vB' : Value) (ws : List ByteArray) (bs : List Int) (w : World) (hW : IsStrs w vW ws) (hB : IsInts w vB bs) (hW' : IsStrs w vW' ws) (hB' : IsInts w vB' bs) :
    Calls Tryd.prog 8 #[.agg #[vW, vB], .agg #[vW', vB']] w fun e w' => e = .returned (.bool true) ∧ Below w.heap.size w w' := by
  have hb2 : Below w.heap.size w ((w.alloc (.cells #[vW, vB] 28)).alloc (.cells #[vW', vB'] 28)) := (ext_alloc w _).alloc (by simp) _
  have HB2 := Lib.hid hb2
  have HW := Lib.hid (hW.ext hb2)
  have HB := Lib.hid (hB.ext hb2)
  have HW' := Lib.hid (hW'.ext hb2)
  have HB' := Lib.hid (hB'.ext hb2)
  have K0 := Lib.hid ((Blk.new w 28 #[vW, vB]).alloc (.cells #[vW', vB'] 28))
  have k1 := Blk.new (w.alloc (.cells #[vW, vB] 28)) 28 #[vW', vB']
  rw [show (w.alloc (.cells #[vW, vB] 28)).heap.size = w.heap.size + 1 by simp] at k1
  have K1 := Lib.hid k1
  clear k1
  obtain ⟨A, cA, rfl⟩ := hW.form
  obtain ⟨B, cB, rfl⟩ := hB.form
  obtain ⟨A', cA', rfl⟩ := hW'.form
  obtain ⟨B', cB', rfl⟩ := hB'.form
  clear hW hB hW' hB' hb2
  go_enter Tryd.func8, Tryd.ntmps8
  go_wp2_with fail
  refine (c_eqStringS _ _ ws _ HW.out HW'.out).mono ?_
  rintro e w1 ⟨rfl, hb1⟩
  have L0 := Lib.hid (K0.out.ext hb1)
  have L1 := Lib.hid (K1.out.ext hb1)
  have x0 : w1.cell? ⟨w.heap.size, 1, none⟩ = some (.slice B bs.length cB) := L0.out.cell 1
  have x1 : w1.cell? ⟨w.heap.size + 1, 1, none⟩ = some (.slice B' bs.length cB') := L1.out.cell 1
  have HB1 := Lib.hid hb1
  have HBB := Lib.hid (ext_trans HB2.out hb1)
  clear hb1
  go_wp2_with fail
  refine (c_eqIntS _ _ bs _ (HB.out.ext HB1.out) (HB'.out.ext HB1.out)).mono ?_
  rintro e w2 ⟨rfl, hb2⟩
  have HBC := Lib.hid (ext_trans HBB.out hb2)
  clear hb2
  go_wp2_with fail
  go_ret
  exact ⟨rfl, HBC.out⟩

end Go.Proofs.YthelcpfcamidiaaDoor
