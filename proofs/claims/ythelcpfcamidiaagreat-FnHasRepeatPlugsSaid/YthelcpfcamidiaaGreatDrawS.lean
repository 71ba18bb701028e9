/- DrawSteps, DrawSteps2, DrawSteps3, in one text. -/
import Derived.Test.YthelcpfcamidiaaGreatDrawW
import Derived.Test.YthelcpfcamidiaaGreatCoded
namespace Go.Proofs.YthelcpfcamidiaaGreat
set_option linter.unusedVariables false
set_option linter.unusedSimpArgs false
/-! DrawSteps -/
section
open Go.RowKit
attribute [local go_sem ↓] Go.wp_at_zero Go.wp_at_succ

set_option maxHeartbeats 1000000 in
set_option maxRecDepth 100000 in
theorem c_l7Some (g P : Nat) (w : World) (hr : Rd w g P) (hP : P + 500 ≤ 1000000) :
    Calls Tryz.prog 78 #[.pointer (some ⟨g, 0, none⟩)] w fun e w' => ∃ (vR : Value) (rf s : ByteArray) (n : Nat) (f : Nat → Rot), e = .returned (.tuple #[.agg #[vR, .string rf], .string s]) ∧ rf.size = 10 ∧ 1 ≤ n ∧ n ≤ 3 ∧
      s.size = n ∧ ltr s ∧ OwnR w' w.heap.size vR n f ∧ okR n f ∧ Rd w' g (P + 250) ∧ w.grownBy w' (some g) := by
  have HR := Lib.hid (hr.ext (ext_alloc w (.cells #[.slice none 0 0, .string ByteArray.empty] 25)))
  have hgl := hr.1
  clear hr
  go_enter Tryz.func78, Tryz.ntmps78
  go_wp2_with fail
  refine (c_pick g P _ _ HR.out (by omega) (by omega) (by omega)).mono ?_
  rintro e w1 ⟨m, rfl, hm, hr1, hg1⟩
  have K1 := Lib.hid ((Blk.new w 25 #[.slice none 0 0, .string ByteArray.empty]).grown hg1 (by simp; omega))
  have R1 := Lib.hid hr1
  have G1 := Lib.hid ((grow_alloc (World.grownBy.refl w (some g)) (.cells #[.slice none 0 0, .string ByteArray.empty] 25)).trans hg1)
  have hlt : w.heap.size + 1 ≤ w1.heap.size := by have := hg1.size; simpa using this
  clear hr1 hg1
  go_wp2_with fail
  have e1 : (1 : Int) + ((m : Int) + 2) / 3 = ((1 + (m + 2) / 3 : Nat) : Int) := by omega
  rw [e1]
  obtain ⟨n0, hn0⟩ : ∃ n0, 1 + (m + 2) / 3 = n0 := ⟨_, rfl⟩
  have hn01 : 1 ≤ n0 := by omega
  have hn03 : n0 ≤ 3 := by omega
  rw [hn0]
  clear e1 hn0 hm
  refine (c_l6Some g (P + 1) n0 _ R1.out (by omega) hn03).mono ?_
  rintro e w2 ⟨vR, rf, f, rfl, hrf, ho, hok, hr2, hg2⟩
  obtain ⟨gR, cR, rfl, hgR1, hgR2⟩ := ho.at0 (by omega)
  have K2 := Lib.hid ((K1.out.grown hg2 (by simp; omega)).alloc (.cells #[.slice (some ⟨gR, 0, none⟩) n0 cR, .string rf] 25))
  have N2 := Lib.hid (Blk.new w2 25 #[.slice (some ⟨gR, 0, none⟩) n0 cR, .string rf])
  have O2 := Lib.hid (ho.alloc (.cells #[.slice (some ⟨gR, 0, none⟩) n0 cR, .string rf] 25))
  have R2 := Lib.hid (hr2.ext (ext_alloc w2 (.cells #[.slice (some ⟨gR, 0, none⟩) n0 cR, .string rf] 25)))
  have G2 := Lib.hid (grow_alloc (G1.out.trans hg2) (.cells #[.slice (some ⟨gR, 0, none⟩) n0 cR, .string rf] 25))
  have HRF := Lib.hid hrf
  have HOK := Lib.hid hok
  have hlt2 : w1.heap.size ≤ w2.heap.size := hg2.size
  clear hr2 hg2 hrf ho hok K1 R1 G1
  go_wp2_with fail
  refine (c_pick g (P + 1 + 10 + 11 * n0) _ _ R2.out (by omega) (by omega) (by omega)).mono ?_
  rintro e w3 ⟨q, rfl, hq, hr3, hg3⟩
  have K3 := Lib.hid (K2.out.grown hg3 (by simp; omega))
  have N3 := Lib.hid (N2.out.grown hg3 (by simp; omega))
  have O3 := Lib.hid (O2.out.keptB hg3 (by omega))
  have R3 := Lib.hid hr3
  have G3 := Lib.hid (G2.out.trans hg3)
  have hlt3 : w2.heap.size + 1 ≤ w3.heap.size := by have := hg3.size; simpa using this
  clear hr3 hg3 K2 N2 O2 R2 G2
  go_upto_if 16 with (fail)
  go_cut [] (fun wx => ∃ (gR cR n : Nat) (rf : ByteArray) (f : Nat → Rot), rf.size = 10 ∧ 1 ≤ n ∧ n ≤ 3 ∧ w1.heap.size ≤ gR ∧ gR < wx.heap.size ∧ gR ≠ w2.heap.size ∧ Blk wx w.heap.size 25 #[.slice none 0 0, .string ByteArray.empty] ∧ Blk wx w2.heap.size 25 #[.slice (some ⟨gR, 0, none⟩) n cR, .string rf] ∧
    OwnR wx w1.heap.size (.slice (some ⟨gR, 0, none⟩) n cR) n f ∧ okR n f ∧ Rd wx g (P + 200) ∧ w.grownBy wx (some g))
  case first =>
    by_cases q0 : q = 0
    · have t0 : ((q : Int) == 0) = true := by simp [q0]
      clear q0
      go_wp2_with fail
      refine (c_l6Any g (P + 1 + 10 + 11 * n0 + 1) _ R3.out (by omega)).mono ?_
      rintro e w4 ⟨vR', rf', n', f', rfl, hrf', hn1, hn3, ho', hok', hr4, hg4⟩
      obtain ⟨gR', cR', rfl, hgR1', hgR2'⟩ := ho'.at0 (by omega)
      have k4 := N3.out.grown hg4 (by simp; omega)
      have x0 : w4.cell? ⟨w2.heap.size, 0, none⟩ = some (.slice (some ⟨gR, 0, none⟩) n0 cR) := k4.cell 0
      have x1 : w4.cell? ⟨w2.heap.size, 1, none⟩ = some (.string rf) := k4.cell 1
      have u0 := k4.free 0
      have u1 := k4.free 1
      have HF := Lib.hid (res2 (.slice (some ⟨gR', 0, none⟩) n' cR') (.string rf') k4 hr4 (G3.out.trans hg4) (by omega) (by omega))
      have K4 := Lib.hid (((K3.out.grown hg4 (by simp; omega)).far (p := ⟨w2.heap.size, 0, none⟩) (by simp; omega) (.slice (some ⟨gR', 0, none⟩) n' cR')).far (p := ⟨w2.heap.size, 1, none⟩) (by simp; omega) (.string rf'))
      have O4 := Lib.hid (((ho'.setFar (p := ⟨w2.heap.size, 0, none⟩) (by simp; omega) (.slice (some ⟨gR', 0, none⟩) n' cR')).setFar (p := ⟨w2.heap.size, 1, none⟩) (by simp; omega) (.string rf')).lower (B' := w1.heap.size) (by omega))
      have HRF' := Lib.hid hrf'
      have HOK' := Lib.hid hok'
      clear hr4 hg4 k4 ho' hrf' hok'
      go_wp2_with fail
      go_meet
      case rel =>
        obtain ⟨f0, f1, f2, f3, f4⟩ := HF.out
        exact ⟨gR', cR', n', rf', f', HRF'.out, hn1, hn3, by omega, by simpa [World.setCell] using hgR2', by omega, K4.out, f4, O4.out, HOK'.out, f2.more (by omega), f3⟩
    · have t0 : ((q : Int) == 0) = false := by simp [q0]
      clear q0
      go_wp2_with fail
      go_meet
      case rel => exact ⟨gR, cR, n0, rf, f, HRF.out, hn01, hn03, hgR1, by omega, by omega, K3.out, N3.out, O3.out, HOK.out, R3.out.more (by omega), G3.out⟩
  case rest =>
    clear K3 N3 O3 R3 G3 HRF HOK hgR1 hgR2
    obtain ⟨gR, cR, n, rf, f, hrf, hn1, hn3, hg1, hg2, hg3, hk0, hk1, ho, hok, hrd, hgr⟩ := hcut
    have HRF := Lib.hid hrf
    have HOK := Lib.hid hok
    have K0 := Lib.hid hk0
    have K1 := Lib.hid hk1
    have HO := Lib.hid ho
    have HRD := Lib.hid hrd
    have HGR := Lib.hid hgr
    have c0 : wc.cell? ⟨w2.heap.size, 0, none⟩ = some (.slice (some ⟨gR, 0, none⟩) n cR) := hk1.cell 0
    clear hrf hok hk0 hk1 ho hrd hgr
    go_wp2_with fail
    refine (c_l1Some g (P + 200) n _ HRD.out (by omega) (by omega)).mono ?_
    rintro e w4 ⟨s, rfl, hs, hl, hr4, hg4⟩
    have K04 := Lib.hid (K0.out.grown hg4 (by simp; omega))
    have K14 := Lib.hid (K1.out.grown hg4 (by simp; omega))
    have O4 := Lib.hid (HO.out.keptB hg4 (by omega))
    have R4 := Lib.hid hr4
    have G4 := Lib.hid (HGR.out.trans hg4)
    have HL : Hid (ltr s) := fun k hk => hl k (by omega)
    have hgs : gR < w4.heap.size := Nat.lt_of_lt_of_le hg2 hg4.size
    have hw2s : w2.heap.size < w4.heap.size := K14.out.lt
    clear hl hr4 hg4 K0 K1 HO HRD HGR c0 hg2
    go_wp2_with fail
    go_loopw [5, 6] (fun o i wr => ∃ (k : Nat) (s : ByteArray), k ≤ n ∧ i = .int .i64 k ∧ o = .string s ∧ s.size = n ∧ ltr s ∧ Blk wr w.heap.size 25 #[.slice none 0 0, .string ByteArray.empty] ∧ Blk wr w2.heap.size 25 #[.slice (some ⟨gR, 0, none⟩) n cR, .string rf] ∧
      OwnR wr w1.heap.size (.slice (some ⟨gR, 0, none⟩) n cR) n f ∧ Rd wr g (P + 200 + n + k) ∧ w.grownBy wr (some g)) (fun _ i _ => n - (intOf i).toNat)
    case atStart => exact ⟨0, s, Nat.zero_le _, rfl, rfl, hs, HL.out, K04.out, K14.out, O4.out, R4.out, G4.out⟩
    case round =>
      clear K04 K14 O4 R4 G4 HL hs hgs
      obtain ⟨k, s, hk, rfl, rfl, hs, hl, hk0, hk1, ho, hrd, hgr⟩ := hrel
      have HL := Lib.hid hl
      have K0 := Lib.hid hk0
      have K1 := Lib.hid hk1
      have HO := Lib.hid ho
      have HRD := Lib.hid hrd
      have HGR := Lib.hid hgr
      clear hl hk0 hk1 ho hrd hgr
      by_cases hltk : k < n
      · have c0 : wr.cell? ⟨w2.heap.size, 0, none⟩ = some (.slice (some ⟨gR, 0, none⟩) n cR) := K1.out.cell 0
        have cc := (HO.out.cells hltk).2
        have hokk := HOK.out k hltk
        generalize hfk : f k = rk at cc hokk
        obtain ⟨wi, no⟩ := rk
        have hno : no.size ≤ 3 := hokk.2.1
        have LNO : Hid (ltr no) := hokk.2.2
        have i1 : (0 : Int) ≤ (k : Int) := by omega
        have i2 : (k : Int) < (n : Int) := by omega
        clear hokk hfk
        by_cases h0 : 0 < no.size
        · go_wp2_with fail
          refine (c_pick g (P + 200 + n + k) _ _ HRD.out (by omega) (by omega) (by omega)).mono ?_
          rintro e w5 ⟨y, rfl, hy, hr5, hg5⟩
          have K05 := Lib.hid (K0.out.grown hg5 (by simp; omega))
          have K15 := Lib.hid (K1.out.grown hg5 (by simp; omega))
          have O5 := Lib.hid (HO.out.keptB hg5 (by omega))
          have R5 := Lib.hid hr5
          have G5 := Lib.hid (HGR.out.trans hg5)
          have cc5 : w5.cell? ⟨gR, k * 2 + 1, none⟩ = some (.string no) := (hg5.cell_far ⟨gR, k * 2 + 1, none⟩ (HO.out.blk_lt rfl).2 (by simp; omega)).trans cc
          clear hr5 hg5 K0 K1 HO HRD HGR c0 cc
          have c5 : w5.cell? ⟨w2.heap.size, 0, none⟩ = some (.slice (some ⟨gR, 0, none⟩) n cR) := K15.out.cell 0
          by_cases y0 : y = 0
          · have t0 : ((y : Int) == 0) = true := by simp [y0]
            clear y0
            have z1 := xsize no (a := 0) (b := 1) (by omega)
            have z2 := xsize s (a := 0) (b := k) (by omega)
            have z3 := xsize s (a := k + 1) (b := n) (by omega)
            have z4 : (s.extract 0 k ++ no.extract 0 1).size = k + 1 := by rw [ByteArray.size_append, z1, z2]; omega
            have j1 : (k : Int) ≤ (s.size : Int) := by omega
            have j2 : (k : Int) + 1 ≤ (s.size : Int) := by omega
            have j3 : (1 : Int) ≤ (no.size : Int) := by omega
            go_wp2_with fail
            go_quiet (fail)
            go_wp2_with fail
            refine ⟨⟨k + 1, _, by omega, by go_num, rfl, ?_, ltr_append (ltr_append (ltr_cut HL.out (by omega)) (ltr_cut LNO.out (by omega))) (ltr_cut HL.out (by omega)), K05.out.drewN _, K15.out.drewN _, O5.out, R5.out.drewN _, grow_drewN G5.out _⟩, by simp [intOf]; omega⟩
            rw [ByteArray.size_append, z4, z3]; omega
          · have t0 : ((y : Int) == 0) = false := by simp [y0]
            clear y0
            go_wp2_with fail
            exact ⟨⟨k + 1, s, by omega, by go_num, rfl, hs, HL.out, K05.out, K15.out, O5.out, R5.out, G5.out⟩, by simp [intOf]; omega⟩
        · go_wp2_with fail
          exact ⟨⟨k + 1, s, by omega, by go_num, rfl, hs, HL.out, K0.out, K1.out, HO.out, HRD.out.more (by omega), HGR.out⟩, by simp [intOf]; omega⟩
      · have q0 := K1.out.cell 0
        have q1 := K1.out.cell 1
        have q2 := K0.out.cell 0
        have q3 := K0.out.cell 1
        have u0 := K0.out.free 0
        have u1 := K0.out.free 1
        have HF := Lib.hid (res2 (.slice (some ⟨gR, 0, none⟩) n cR) (.string rf) K0.out HRD.out HGR.out (by omega) (Nat.le_refl _))
        have HO2 := Lib.hid (((HO.out.setFar (p := ⟨w.heap.size, 0, none⟩) (by simp; omega) (.slice (some ⟨gR, 0, none⟩) n cR)).setFar (p := ⟨w.heap.size, 1, none⟩) (by simp; omega) (.string rf)).lower (B' := w.heap.size) (by omega))
        go_wp2_with fail
        obtain ⟨f0, f1, f2, f3, _⟩ := HF.out
        exact bodyPost_ret (v := .tuple #[.agg #[.slice (some ⟨gR, 0, none⟩) n cR, .string rf], .string s]) (by simp [results, Tryz.results78, go_sem, f0, f1]) rfl ⟨_, rf, s, n, f, rfl, HRF.out, hn1, hn3, hs, HL.out, HO2.out, HOK.out, f2.more (by omega), f3⟩

theorem IsRots.setBox {w : World} {b tc j : Nat} {a1 : Option Addr} {n1 c1 : Nat} {y v : Value} {l : List Rot} (h : IsRots w v l) (hk : Blk w b tc #[.slice a1 n1 c1, y]) (u : Value) : IsRots (w.setCell ⟨b, j, none⟩ u) v l := by
  obtain ⟨A, c, rfl, h1, h2, h3⟩ := h
  refine ⟨A, c, rfl, h1, h2, fun k hkl => ?_⟩
  obtain ⟨b', o, e, hlt, hc, hd⟩ := h3 k hkl
  have hne : b' ≠ b := by
    rintro rfl
    rw [hk.cell] at hc hd
    match h : o + k * 2, hc, hd with
    | 0, hc, hd => simp at hc
    | 1, hc, hd => simp at hd
    | n + 2, hc, hd => simp at hc
  exact ⟨b', o, e, by simpa [World.setCell] using hlt, by rw [World.cell?_setCell_other _ _ _ _ (by intro h; injection h with h1 h2; omega)]; exact hc, by rw [World.cell?_setCell_other _ _ _ _ (by intro h; injection h with h1 h2; omega)]; exact hd⟩
/-- the results laid into their variable -/
theorem fin6b {w0 W : World} {g P b : Nat} {tc : TypeId} {A1 A2 : Option Addr} {n1 n2 c1 c2 : Nat} {y : Value} {rf : ByteArray} {l : List Rot} (hk : Blk W b tc #[.slice A1 n1 c1, y]) (hR : IsRots W (.slice A2 n2 c2) l) (hr : Rd W g P) (hgw : w0.grownBy W (some g)) (hg : g < b) (hb : w0.heap.size ≤ b) :
    ((W.setCell ⟨b, 0, none⟩ (.slice A2 n2 c2)).setCell ⟨b, 1, none⟩ (.string rf)).cell? ⟨b, 0, none⟩ = some (.slice A2 n2 c2) ∧ ((W.setCell ⟨b, 0, none⟩ (.slice A2 n2 c2)).setCell ⟨b, 1, none⟩ (.string rf)).cell? ⟨b, 1, none⟩ = some (.string rf) ∧
    IsRots ((W.setCell ⟨b, 0, none⟩ (.slice A2 n2 c2)).setCell ⟨b, 1, none⟩ (.string rf)) (.slice A2 n2 c2) l ∧
    Rd ((W.setCell ⟨b, 0, none⟩ (.slice A2 n2 c2)).setCell ⟨b, 1, none⟩ (.string rf)) g P ∧ w0.grownBy ((W.setCell ⟨b, 0, none⟩ (.slice A2 n2 c2)).setCell ⟨b, 1, none⟩ (.string rf)) (some g) ∧ Blk ((W.setCell ⟨b, 0, none⟩ (.slice A2 n2 c2)).setCell ⟨b, 1, none⟩ (.string rf)) b tc #[.slice A2 n2 c2, .string rf] := by
  have k1 := hk.set 0 (.slice A2 n2 c2)
  have k2 := k1.set 1 (.string rf)
  exact ⟨k2.cell 0, k2.cell 1, (hR.setBox hk _).setBox k1 _, (hr.setFar hg _).setFar hg _, grow_new (grow_new hgw hb _) hb _, k2⟩

end
/-! DrawSteps2 -/
section
open Go.RowKit
attribute [local go_sem ↓] Go.wp_at_zero Go.wp_at_succ

/-- the results of a draw laid into their variable -/
theorem draw_finW {w w1 W : World} {g : Nat} {tc : TypeId} {A : Option Addr} {c : Nat} {rf : ByteArray} {l : List Rot} (hb : Below w.heap.size w w1) (hg : w1.grownBy W (some g)) (hw : w.heap.size ≤ g)
    (hk : Blk W w.heap.size tc #[.slice none 0 0, .string ByteArray.empty]) (hR : IsRots W (.slice A l.length c) l) :
    ((W.setCell ⟨w.heap.size, 0, none⟩ (.slice A l.length c)).setCell ⟨w.heap.size, 1, none⟩ (.string rf)).cell? ⟨w.heap.size, 0, none⟩ = some (.slice A l.length c) ∧
    ((W.setCell ⟨w.heap.size, 0, none⟩ (.slice A l.length c)).setCell ⟨w.heap.size, 1, none⟩ (.string rf)).cell? ⟨w.heap.size, 1, none⟩ = some (.string rf) ∧
    IsRots ((W.setCell ⟨w.heap.size, 0, none⟩ (.slice A l.length c)).setCell ⟨w.heap.size, 1, none⟩ (.string rf)) (.slice A l.length c) l ∧
    Below w.heap.size w ((W.setCell ⟨w.heap.size, 0, none⟩ (.slice A l.length c)).setCell ⟨w.heap.size, 1, none⟩ (.string rf)) := by
  have k1 := hk.set 0 (.slice A l.length c)
  have k2 := k1.set 1 (.string rf)
  exact ⟨k2.cell 0, k2.cell 1, (hR.setBox hk _).setBox k1 _, below_set (below_set (below_of_grown hb hg hw) _) _⟩

theorem draw_via {w W : World} {tc : TypeId} {A : Option Addr} {c : Nat} {rf : ByteArray} {l : List Rot} (hb : Below w.heap.size w W) (hk : Blk W w.heap.size tc #[.slice none 0 0, .string ByteArray.empty]) (hR : IsRots W (.slice A l.length c) l) :
    ((W.setCell ⟨w.heap.size, 0, none⟩ (.slice A l.length c)).setCell ⟨w.heap.size, 1, none⟩ (.string rf)).cell? ⟨w.heap.size, 0, none⟩ = some (.slice A l.length c) ∧
    ((W.setCell ⟨w.heap.size, 0, none⟩ (.slice A l.length c)).setCell ⟨w.heap.size, 1, none⟩ (.string rf)).cell? ⟨w.heap.size, 1, none⟩ = some (.string rf) ∧
    IsRots ((W.setCell ⟨w.heap.size, 0, none⟩ (.slice A l.length c)).setCell ⟨w.heap.size, 1, none⟩ (.string rf)) (.slice A l.length c) l ∧
    Below w.heap.size w ((W.setCell ⟨w.heap.size, 0, none⟩ (.slice A l.length c)).setCell ⟨w.heap.size, 1, none⟩ (.string rf)) := by
  have k1 := hk.set 0 (.slice A l.length c)
  have k2 := k1.set 1 (.string rf)
  exact ⟨k2.cell 0, k2.cell 1, (hR.setBox hk _).setBox k1 _, below_set (below_set hb _) _⟩
end
/-! DrawSteps3 -/
section
open Go.RowKit
attribute [local go_sem ↓] Go.wp_at_zero Go.wp_at_succ

end
end Go.Proofs.YthelcpfcamidiaaGreat
