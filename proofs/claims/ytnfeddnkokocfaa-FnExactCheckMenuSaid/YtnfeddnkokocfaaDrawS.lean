/- DrawSteps, DrawSteps2, DrawSteps3, in one text. -/
import Derived.Test.YtnfeddnkokocfaaDrawW
import Derived.Test.YtnfeddnkokocfaaCoded
namespace Go.Proofs.Ytnfeddnkokocfaa
set_option linter.unusedVariables false
set_option linter.unusedSimpArgs false
/-! DrawSteps -/
section
open Go.RowKit
attribute [local go_sem ↓] Go.wp_at_zero Go.wp_at_succ

set_option maxHeartbeats 1000000 in
set_option maxRecDepth 100000 in
theorem c_l7Some (g P : Nat) (w : World) (hr : Rd w g P) (hP : P + 500 ≤ 1000000) :
    Calls Try.prog 123 #[.pointer (some ⟨g, 0, none⟩)] w fun e w' => ∃ (vR : Value) (rf s : ByteArray) (n : Nat) (f : Nat → Rot), e = .returned (.tuple #[.agg #[vR, .string rf], .string s]) ∧ rf.size = 10 ∧ 1 ≤ n ∧ n ≤ 3 ∧
      s.size = n ∧ ltr s ∧ OwnR w' w.heap.size vR n f ∧ okR n f ∧ Rd w' g (P + 250) ∧ w.grownBy w' (some g) := by
  have HR := Lib.hid (hr.ext (ext_alloc w (.cells #[.slice none 0 0, .string ByteArray.empty] 31)))
  have hgl := hr.1
  clear hr
  go_enter Try.func123, Try.ntmps123
  go_wp2_with fail
  refine (c_pick g P _ _ HR.out (by omega) (by omega) (by omega)).mono ?_
  rintro e w1 ⟨m, rfl, hm, hr1, hg1⟩
  have K1 := Lib.hid ((Blk.new w 31 #[.slice none 0 0, .string ByteArray.empty]).grown hg1 (by simp; omega))
  have R1 := Lib.hid hr1
  have G1 := Lib.hid ((grow_alloc (World.grownBy.refl w (some g)) (.cells #[.slice none 0 0, .string ByteArray.empty] 31)).trans hg1)
  have hlt : w.heap.size + 1 ≤ w1.heap.size := by have := hg1.size; simpa using this
  clear hr1 hg1
  go_wp2_with fail
  have e1 : (1 : Int) + ((m : Int) + 2) / 3 = ((1 + (m + 2) / 3 : Nat) : Int) := by omega
  rw [e1]
  obtain ⟨n0, hn0⟩ : ∃ n0, 1 + (m + 2) / 3 = n0 := ⟨_, rfl⟩
  have hn01 : 1 ≤ n0 := by omega
  have hn03 : n0 ≤ 3 := by omega
  rw [hn0]
  clear e1 hn0 hm
  refine (c_l6Some g (P + 1) n0 _ R1.out (by omega) hn03).mono ?_
  rintro e w2 ⟨vR, rf, f, rfl, hrf, ho, hok, hr2, hg2⟩
  obtain ⟨gR, cR, rfl, hgR1, hgR2⟩ := ho.at0 (by omega)
  have K2 := Lib.hid ((K1.out.grown hg2 (by simp; omega)).alloc (.cells #[.slice (some ⟨gR, 0, none⟩) n0 cR, .string rf] 31))
  have N2 := Lib.hid (Blk.new w2 31 #[.slice (some ⟨gR, 0, none⟩) n0 cR, .string rf])
  have O2 := Lib.hid (ho.alloc (.cells #[.slice (some ⟨gR, 0, none⟩) n0 cR, .string rf] 31))
  have R2 := Lib.hid (hr2.ext (ext_alloc w2 (.cells #[.slice (some ⟨gR, 0, none⟩) n0 cR, .string rf] 31)))
  have G2 := Lib.hid (grow_alloc (G1.out.trans hg2) (.cells #[.slice (some ⟨gR, 0, none⟩) n0 cR, .string rf] 31))
  have HRF := Lib.hid hrf
  have HOK := Lib.hid hok
  have hlt2 : w1.heap.size ≤ w2.heap.size := hg2.size
  clear hr2 hg2 hrf ho hok K1 R1 G1
  go_wp2_with fail
  refine (c_pick g (P + 1 + 10 + 11 * n0) _ _ R2.out (by omega) (by omega) (by omega)).mono ?_
  rintro e w3 ⟨q, rfl, hq, hr3, hg3⟩
  have K3 := Lib.hid (K2.out.grown hg3 (by simp; omega))
  have N3 := Lib.hid (N2.out.grown hg3 (by simp; omega))
  have O3 := Lib.hid (O2.out.keptB hg3 (by omega))
  have R3 := Lib.hid hr3
  have G3 := Lib.hid (G2.out.trans hg3)
  have hlt3 : w2.heap.size + 1 ≤ w3.heap.size := by have := hg3.size; simpa using this
  clear hr3 hg3 K2 N2 O2 R2 G2
  go_upto_if 16 with (fail)
  go_cut [] (fun wx => ∃ (gR cR n : Nat) (rf : ByteArray) (f : Nat → Rot), rf.size = 10 ∧ 1 ≤ n ∧ n ≤ 3 ∧ w1.heap.size ≤ gR ∧ gR < wx.heap.size ∧ gR ≠ w2.heap.size ∧ Blk wx w.heap.size 31 #[.slice none 0 0, .string ByteArray.empty] ∧ Blk wx w2.heap.size 31 #[.slice (some ⟨gR, 0, none⟩) n cR, .string rf] ∧
    OwnR wx w1.heap.size (.slice (some ⟨gR, 0, none⟩) n cR) n f ∧ okR n f ∧ Rd wx g (P + 200) ∧ w.grownBy wx (some g))
  case first =>
    by_cases q0 : q = 0
    · have t0 : ((q : Int) == 0) = true := by simp [q0]
      clear q0
      go_wp2_with fail
      refine (c_l6Any g (P + 1 + 10 + 11 * n0 + 1) _ R3.out (by omega)).mono ?_
      rintro e w4 ⟨vR', rf', n', f', rfl, hrf', hn1, hn3, ho', hok', hr4, hg4⟩
      obtain ⟨gR', cR', rfl, hgR1', hgR2'⟩ := ho'.at0 (by omega)
      have k4 := N3.out.grown hg4 (by simp; omega)
      have x0 : w4.cell? ⟨w2.heap.size, 0, none⟩ = some (.slice (some ⟨gR, 0, none⟩) n0 cR) := k4.cell 0
      have x1 : w4.cell? ⟨w2.heap.size, 1, none⟩ = some (.string rf) := k4.cell 1
      have u0 := k4.free 0
      have u1 := k4.free 1
      have HF := Lib.hid (res2 (.slice (some ⟨gR', 0, none⟩) n' cR') (.string rf') k4 hr4 (G3.out.trans hg4) (by omega) (by omega))
      have K4 := Lib.hid (((K3.out.grown hg4 (by simp; omega)).far (p := ⟨w2.heap.size, 0, none⟩) (by simp; omega) (.slice (some ⟨gR', 0, none⟩) n' cR')).far (p := ⟨w2.heap.size, 1, none⟩) (by simp; omega) (.string rf'))
      have O4 := Lib.hid (((ho'.setFar (p := ⟨w2.heap.size, 0, none⟩) (by simp; omega) (.slice (some ⟨gR', 0, none⟩) n' cR')).setFar (p := ⟨w2.heap.size, 1, none⟩) (by simp; omega) (.string rf')).lower (B' := w1.heap.size) (by omega))
      have HRF' := Lib.hid hrf'
      have HOK' := Lib.hid hok'
      clear hr4 hg4 k4 ho' hrf' hok'
      go_wp2_with fail
      go_meet
      case rel =>
        obtain ⟨f0, f1, f2, f3, f4⟩ := HF.out
        exact ⟨gR', cR', n', rf', f', HRF'.out, hn1, hn3, by omega, by simpa [World.setCell] using hgR2', by omega, K4.out, f4, O4.out, HOK'.out, f2.more (by omega), f3⟩
    · have t0 : ((q : Int) == 0) = false := by simp [q0]
      clear q0
      go_wp2_with fail
      go_meet
      case rel => exact ⟨gR, cR, n0, rf, f, HRF.out, hn01, hn03, hgR1, by omega, by omega, K3.out, N3.out, O3.out, HOK.out, R3.out.more (by omega), G3.out⟩
  case rest =>
    clear K3 N3 O3 R3 G3 HRF HOK hgR1 hgR2
    obtain ⟨gR, cR, n, rf, f, hrf, hn1, hn3, hg1, hg2, hg3, hk0, hk1, ho, hok, hrd, hgr⟩ := hcut
    have HRF := Lib.hid hrf
    have HOK := Lib.hid hok
    have K0 := Lib.hid hk0
    have K1 := Lib.hid hk1
    have HO := Lib.hid ho
    have HRD := Lib.hid hrd
    have HGR := Lib.hid hgr
    have c0 : wc.cell? ⟨w2.heap.size, 0, none⟩ = some (.slice (some ⟨gR, 0, none⟩) n cR) := hk1.cell 0
    clear hrf hok hk0 hk1 ho hrd hgr
    go_wp2_with fail
    refine (c_l1Some g (P + 200) n _ HRD.out (by omega) (by omega)).mono ?_
    rintro e w4 ⟨s, rfl, hs, hl, hr4, hg4⟩
    have K04 := Lib.hid (K0.out.grown hg4 (by simp; omega))
    have K14 := Lib.hid (K1.out.grown hg4 (by simp; omega))
    have O4 := Lib.hid (HO.out.keptB hg4 (by omega))
    have R4 := Lib.hid hr4
    have G4 := Lib.hid (HGR.out.trans hg4)
    have HL : Hid (ltr s) := fun k hk => hl k (by omega)
    have hgs : gR < w4.heap.size := Nat.lt_of_lt_of_le hg2 hg4.size
    have hw2s : w2.heap.size < w4.heap.size := K14.out.lt
    clear hl hr4 hg4 K0 K1 HO HRD HGR c0 hg2
    go_wp2_with fail
    go_loopw [5, 6] (fun o i wr => ∃ (k : Nat) (s : ByteArray), k ≤ n ∧ i = .int .i64 k ∧ o = .string s ∧ s.size = n ∧ ltr s ∧ Blk wr w.heap.size 31 #[.slice none 0 0, .string ByteArray.empty] ∧ Blk wr w2.heap.size 31 #[.slice (some ⟨gR, 0, none⟩) n cR, .string rf] ∧
      OwnR wr w1.heap.size (.slice (some ⟨gR, 0, none⟩) n cR) n f ∧ Rd wr g (P + 200 + n + k) ∧ w.grownBy wr (some g)) (fun _ i _ => n - (intOf i).toNat)
    case atStart => exact ⟨0, s, Nat.zero_le _, rfl, rfl, hs, HL.out, K04.out, K14.out, O4.out, R4.out, G4.out⟩
    case round =>
      clear K04 K14 O4 R4 G4 HL hs hgs
      obtain ⟨k, s, hk, rfl, rfl, hs, hl, hk0, hk1, ho, hrd, hgr⟩ := hrel
      have HL := Lib.hid hl
      have K0 := Lib.hid hk0
      have K1 := Lib.hid hk1
      have HO := Lib.hid ho
      have HRD := Lib.hid hrd
      have HGR := Lib.hid hgr
      clear hl hk0 hk1 ho hrd hgr
      by_cases hltk : k < n
      · have c0 : wr.cell? ⟨w2.heap.size, 0, none⟩ = some (.slice (some ⟨gR, 0, none⟩) n cR) := K1.out.cell 0
        have cc := (HO.out.cells hltk).2
        have hokk := HOK.out k hltk
        generalize hfk : f k = rk at cc hokk
        obtain ⟨wi, no⟩ := rk
        have hno : no.size ≤ 3 := hokk.2.1
        have LNO : Hid (ltr no) := hokk.2.2
        have i1 : (0 : Int) ≤ (k : Int) := by omega
        have i2 : (k : Int) < (n : Int) := by omega
        clear hokk hfk
        by_cases h0 : 0 < no.size
        · go_wp2_with fail
          refine (c_pick g (P + 200 + n + k) _ _ HRD.out (by omega) (by omega) (by omega)).mono ?_
          rintro e w5 ⟨y, rfl, hy, hr5, hg5⟩
          have K05 := Lib.hid (K0.out.grown hg5 (by simp; omega))
          have K15 := Lib.hid (K1.out.grown hg5 (by simp; omega))
          have O5 := Lib.hid (HO.out.keptB hg5 (by omega))
          have R5 := Lib.hid hr5
          have G5 := Lib.hid (HGR.out.trans hg5)
          have cc5 : w5.cell? ⟨gR, k * 2 + 1, none⟩ = some (.string no) := (hg5.cell_far ⟨gR, k * 2 + 1, none⟩ (HO.out.blk_lt rfl).2 (by simp; omega)).trans cc
          clear hr5 hg5 K0 K1 HO HRD HGR c0 cc
          have c5 : w5.cell? ⟨w2.heap.size, 0, none⟩ = some (.slice (some ⟨gR, 0, none⟩) n cR) := K15.out.cell 0
          by_cases y0 : y = 0
          · have t0 : ((y : Int) == 0) = true := by simp [y0]
            clear y0
            have z1 := xsize no (a := 0) (b := 1) (by omega)
            have z2 := xsize s (a := 0) (b := k) (by omega)
            have z3 := xsize s (a := k + 1) (b := n) (by omega)
            have z4 : (s.extract 0 k ++ no.extract 0 1).size = k + 1 := by rw [ByteArray.size_append, z1, z2]; omega
            have j1 : (k : Int) ≤ (s.size : Int) := by omega
            have j2 : (k : Int) + 1 ≤ (s.size : Int) := by omega
            have j3 : (1 : Int) ≤ (no.size : Int) := by omega
            go_wp2_with fail
            go_quiet (fail)
            go_wp2_with fail
            refine ⟨⟨k + 1, _, by omega, by go_num, rfl, ?_, ltr_append (ltr_append (ltr_cut HL.out (by omega)) (ltr_cut LNO.out (by omega))) (ltr_cut HL.out (by omega)), K05.out.drewN _, K15.out.drewN _, O5.out, R5.out.drewN _, grow_drewN G5.out _⟩, by simp [intOf]; omega⟩
            rw [ByteArray.size_append, z4, z3]; omega
          · have t0 : ((y : Int) == 0) = false := by simp [y0]
            clear y0
            go_wp2_with fail
            exact ⟨⟨k + 1, s, by omega, by go_num, rfl, hs, HL.out, K05.out, K15.out, O5.out, R5.out, G5.out⟩, by simp [intOf]; omega⟩
        · go_wp2_with fail
          exact ⟨⟨k + 1, s, by omega, by go_num, rfl, hs, HL.out, K0.out, K1.out, HO.out, HRD.out.more (by omega), HGR.out⟩, by simp [intOf]; omega⟩
      · have q0 := K1.out.cell 0
        have q1 := K1.out.cell 1
        have q2 := K0.out.cell 0
        have q3 := K0.out.cell 1
        have u0 := K0.out.free 0
        have u1 := K0.out.free 1
        have HF := Lib.hid (res2 (.slice (some ⟨gR, 0, none⟩) n cR) (.string rf) K0.out HRD.out HGR.out (by omega) (Nat.le_refl _))
        have HO2 := Lib.hid (((HO.out.setFar (p := ⟨w.heap.size, 0, none⟩) (by simp; omega) (.slice (some ⟨gR, 0, none⟩) n cR)).setFar (p := ⟨w.heap.size, 1, none⟩) (by simp; omega) (.string rf)).lower (B' := w.heap.size) (by omega))
        go_wp2_with fail
        obtain ⟨f0, f1, f2, f3, _⟩ := HF.out
        exact bodyPost_ret (v := .tuple #[.agg #[.slice (some ⟨gR, 0, none⟩) n cR, .string rf], .string s]) (by simp [results, Try.results123, go_sem, f0, f1]) rfl ⟨_, rf, s, n, f, rfl, HRF.out, hn1, hn3, hs, HL.out, HO2.out, HOK.out, f2.more (by omega), f3⟩

theorem IsRots.setBox {w : World} {b tc j : Nat} {a1 : Option Addr} {n1 c1 : Nat} {y v : Value} {l : List Rot} (h : IsRots w v l) (hk : Blk w b tc #[.slice a1 n1 c1, y]) (u : Value) : IsRots (w.setCell ⟨b, j, none⟩ u) v l := by
  obtain ⟨A, c, rfl, h1, h2, h3⟩ := h
  refine ⟨A, c, rfl, h1, h2, fun k hkl => ?_⟩
  obtain ⟨b', o, e, hlt, hc, hd⟩ := h3 k hkl
  have hne : b' ≠ b := by
    rintro rfl
    rw [hk.cell] at hc hd
    match h : o + k * 2, hc, hd with
    | 0, hc, hd => simp at hc
    | 1, hc, hd => simp at hd
    | n + 2, hc, hd => simp at hc
  exact ⟨b', o, e, by simpa [World.setCell] using hlt, by rw [World.cell?_setCell_other _ _ _ _ (by intro h; injection h with h1 h2; omega)]; exact hc, by rw [World.cell?_setCell_other _ _ _ _ (by intro h; injection h with h1 h2; omega)]; exact hd⟩
/-- the results laid into their variable -/
theorem fin6b {w0 W : World} {g P b : Nat} {tc : TypeId} {A1 A2 : Option Addr} {n1 n2 c1 c2 : Nat} {y : Value} {rf : ByteArray} {l : List Rot} (hk : Blk W b tc #[.slice A1 n1 c1, y]) (hR : IsRots W (.slice A2 n2 c2) l) (hr : Rd W g P) (hgw : w0.grownBy W (some g)) (hg : g < b) (hb : w0.heap.size ≤ b) :
    ((W.setCell ⟨b, 0, none⟩ (.slice A2 n2 c2)).setCell ⟨b, 1, none⟩ (.string rf)).cell? ⟨b, 0, none⟩ = some (.slice A2 n2 c2) ∧ ((W.setCell ⟨b, 0, none⟩ (.slice A2 n2 c2)).setCell ⟨b, 1, none⟩ (.string rf)).cell? ⟨b, 1, none⟩ = some (.string rf) ∧
    IsRots ((W.setCell ⟨b, 0, none⟩ (.slice A2 n2 c2)).setCell ⟨b, 1, none⟩ (.string rf)) (.slice A2 n2 c2) l ∧
    Rd ((W.setCell ⟨b, 0, none⟩ (.slice A2 n2 c2)).setCell ⟨b, 1, none⟩ (.string rf)) g P ∧ w0.grownBy ((W.setCell ⟨b, 0, none⟩ (.slice A2 n2 c2)).setCell ⟨b, 1, none⟩ (.string rf)) (some g) ∧ Blk ((W.setCell ⟨b, 0, none⟩ (.slice A2 n2 c2)).setCell ⟨b, 1, none⟩ (.string rf)) b tc #[.slice A2 n2 c2, .string rf] := by
  have k1 := hk.set 0 (.slice A2 n2 c2)
  have k2 := k1.set 1 (.string rf)
  exact ⟨k2.cell 0, k2.cell 1, (hR.setBox hk _).setBox k1 _, (hr.setFar hg _).setFar hg _, grow_new (grow_new hgw hb _) hb _, k2⟩

set_option maxHeartbeats 1000000 in
set_option maxRecDepth 100000 in
theorem c_l7Bad (g P B n : Nat) (vR : Value) (rf s : ByteArray) (f : Nat → Rot) (w0 w : World) (hr : Rd w g P) (hP : P + 300 ≤ 1000000) (hB : w0.heap.size ≤ B) (hgw : w0.grownBy w (some g)) (hg0 : g < w0.heap.size) (hBw : B ≤ w.heap.size)
    (ho : OwnR w B vR n f) (hok : okR n f) (hn1 : 1 ≤ n) (hn3 : n ≤ 3) (hrf : rf.size ≤ 1000) (hs1 : 1 ≤ s.size) (hs : s.size ≤ 1000) :
    Calls Try.prog 124 #[.pointer (some ⟨g, 0, none⟩), .agg #[vR, .string rf], .string s] w fun e w' => ∃ (vR' : Value) (rf' s' : ByteArray) (l : List Rot), e = .returned (.tuple #[.agg #[vR', .string rf'], .string s']) ∧
      IsRots w' vR' l ∧ rf'.size ≤ 1000 ∧ s'.size ≤ 1001 ∧ vR'.ownBlock ≠ some g ∧ Rd w' g (P + 30) ∧ w0.grownBy w' (some g) ∧ (∀ r, vR.ownBlock = some r → Keep w w' g r) := by
  obtain ⟨gR, cR, rfl, hgR1, hgR2⟩ := ho.at0 (by omega)
  have ke : ∀ (W : World), Keep w W g gR → ∀ r, (Value.slice (some ⟨gR, 0, none⟩) n cR).ownBlock = some r → Keep w W g r := fun W h r e => by injection e with e; exact e ▸ h
  have KE := Lib.hid ke
  have hmax : ¬ 9223372036854775807 < s.size := by omega
  clear ke
  have HR := Lib.hid hr
  have HGW := Lib.hid hgw
  have HO := Lib.hid ho
  have HOK := Lib.hid hok
  have NG := Lib.hid (ho.ne_blk (b := g) (by omega))
  have hgl := hr.1
  have hw0w : w0.heap.size ≤ w.heap.size := hgw.size
  have hbig : ∀ k, k < n → (f k).1.size ≤ 1000000 ∧ (f k).2.size ≤ 1000000 := fun k hk => by have := hok k hk; omega
  have HBIG := Lib.hid hbig
  clear hr hgw ho hok hbig
  go_enter Try.func124, Try.ntmps124
  go_wp2_with fail
  refine (c_pick g P _ _ ((HR.out.ext (ext_alloc _ _)).ext (ext_alloc _ _)) (by omega) (by omega) (by omega)).mono ?_
  rintro e w1 ⟨q, rfl, hq, hr1, hg1⟩
  have k0 := ((Blk.new w 31 #[.slice (some ⟨gR, 0, none⟩) n cR, .string rf]).alloc (.cells #[.slice none 0 0, .string ByteArray.empty] 31)).grown hg1 (by simp; omega)
  have k1 : Blk w1 (w.heap.size + 1) 31 #[.slice none 0 0, .string ByteArray.empty] := by
    have h1 := Blk.new (w.alloc (.cells #[.slice (some ⟨gR, 0, none⟩) n cR, .string rf] 31)) 31 #[.slice none 0 0, .string ByteArray.empty]
    simp only [World.size_alloc] at h1
    exact h1.grown hg1 (by simp; omega)
  have K0 := Lib.hid k0
  have K1 := Lib.hid k1
  have R1 := Lib.hid hr1
  have G1 := Lib.hid (HGW.out.trans ((grow_alloc (grow_alloc (World.grownBy.refl w (some g)) _) _).trans hg1))
  have O1 := Lib.hid (((HO.out.alloc (.cells #[.slice (some ⟨gR, 0, none⟩) n cR, .string rf] 31)).alloc (.cells #[.slice none 0 0, .string ByteArray.empty] 31)).keptB hg1 (by omega))
  have X1 := Lib.hid ((((Keep.refl w g gR).alloc (.cells #[.slice (some ⟨gR, 0, none⟩) n cR, .string rf] 31)).alloc (.cells #[.slice none 0 0, .string ByteArray.empty] 31)).grown hg1 (.inl rfl))
  have hz1 : w.heap.size + 2 ≤ w1.heap.size := by have := hg1.size; simp at this; omega
  have x0 : w1.cell? ⟨w.heap.size, 0, none⟩ = some (.slice (some ⟨gR, 0, none⟩) n cR) := k0.cell 0
  have x1 : w1.cell? ⟨w.heap.size, 1, none⟩ = some (.string rf) := k0.cell 1
  have y0 : w1.cell? ⟨w.heap.size + 1, 0, none⟩ = some (.slice none 0 0) := k1.cell 0
  have y1 : w1.cell? ⟨w.heap.size + 1, 1, none⟩ = some (.string ByteArray.empty) := k1.cell 1
  have v0 := k1.free 0
  have v1 := k1.free 1
  have NO := Lib.hid (O1.out.toRots (by omega) HBIG.out)
  have HF := Lib.hid (fin6 (w0 := w0) (rf := rf) (b := w.heap.size + 1) k1 NO.out (by simp [Value.ownBlock]; omega) hr1 G1.out (by omega) (by omega))
  clear k0 k1 hr1 hg1 HR HGW HO
  by_cases q0 : q = 0
  · have t0 : ((q : Int) == 0) = true := by simp [q0]
    clear q0
    go_wp2_with fail
    refine (c_l6Bad g (P + 1) B n _ rf f w0 _ R1.out (by omega) hB G1.out hg0 (by omega) O1.out HOK.out hn1 hn3 hrf).mono ?_
    rintro e w2 ⟨vR', rf', l, rfl, hl, hrf', hne, hr2, hg2, hkp⟩
    have kp := hkp gR rfl
    have k2 := kp.blk K1.out (by omega) (by omega)
    obtain ⟨A', c', hv'⟩ := hl.form
    subst hv'
    have z0 : w2.cell? ⟨w.heap.size + 1, 0, none⟩ = some (.slice none 0 0) := k2.cell 0
    have z1 : w2.cell? ⟨w.heap.size + 1, 1, none⟩ = some (.string ByteArray.empty) := k2.cell 1
    have z2 := k2.free 0
    have z3 := k2.free 1
    have HF2 := Lib.hid (fin6b (w0 := w0) (rf := rf') (b := w.heap.size + 1) k2 hl hr2 hg2 (by omega) (by omega))
    have KP : Hid (Keep w w2 g gR) := ⟨Nat.le_trans X1.out.1 kp.1, fun b hb h1 h2 => (kp.2 b (Nat.lt_of_lt_of_le hb X1.out.1) h1 h2).trans (X1.out.2 b hb h1 h2)⟩
    clear hl hr2 hg2 hkp kp k2 x0 x1 y0 y1 v0 v1 HF
    go_wp2_with fail
    obtain ⟨f0, f1, f2, f3, f4, _⟩ := HF2.out
    exact bodyPost_ret (v := .tuple #[.agg #[.slice A' l.length c', .string rf'], .string s]) (by simp [results, Try.results124, go_sem, f0, f1]) rfl ⟨_, rf', s, _, rfl, f2, hrf', by omega, hne, f3.more (by omega), f4, KE.out _ ((KP.out.set (p := ⟨w.heap.size + 1, 0, none⟩) (.inl (by simp)) _).set (p := ⟨w.heap.size + 1, 1, none⟩) (.inl (by simp)) _)⟩
  · have t0 : ((q : Int) == 0) = false := by simp [q0]
    by_cases q1 : q = 1
    · have t1 : ((q : Int) == 1) = true := by simp [q1]
      clear q0 q1
      go_wp2_with fail
      obtain ⟨f0, f1, f2, f3, f4⟩ := HF.out
      exact bodyPost_ret (v := .tuple #[.agg #[.slice (some ⟨gR, 0, none⟩) n cR, .string rf], .string (s ++ ⟨#[97]⟩)]) (by simp [results, Try.results124, go_sem, f0, f1]) rfl ⟨_, rf, _, _, rfl, f2, hrf, by rw [ByteArray.size_append]; show s.size + 1 ≤ _; omega, NG.out, f3.more (by omega), f4, KE.out _ ((X1.out.set (p := ⟨w.heap.size + 1, 0, none⟩) (.inl (by simp)) _).set (p := ⟨w.heap.size + 1, 1, none⟩) (.inl (by simp)) _)⟩
    · have t1 : ((q : Int) == 1) = false := by rw [beq_eq_false_iff_ne]; omega
      by_cases q2 : q = 2
      · have t2 : ((q : Int) == 2) = true := by simp [q2]
        clear q0 q1 q2
        have z1 := xsize s (a := 1) (b := s.size) (Nat.le_refl _)
        have i1 : (1 : Int) ≤ (s.size : Int) := by omega
        go_wp2_with fail
        go_region_law (fail)
        all_goals
          go_wp2_with fail
          obtain ⟨f0, f1, f2, f3, f4⟩ := HF.out
          exact bodyPost_ret (v := .tuple #[.agg #[.slice (some ⟨gR, 0, none⟩) n cR, .string rf], .string (s.extract 1 s.size ++ ⟨#[107]⟩)]) (by simp [results, Try.results124, go_sem, Act.put, f0, f1]) rfl ⟨_, rf, _, _, rfl, f2.ext (Below.refl _ _).drew, hrf, by rw [ByteArray.size_append, z1]; show s.size - 1 + 1 ≤ _; omega, NG.out, f3.drew.more (by omega), grow_drew f4, KE.out _ ((X1.out.set (p := ⟨w.heap.size + 1, 0, none⟩) (.inl (by simp)) _).set (p := ⟨w.heap.size + 1, 1, none⟩) (.inl (by simp)) _).drew⟩
      · have t2 : ((q : Int) == 2) = false := by rw [beq_eq_false_iff_ne]; omega
        clear q0 q1 q2
        go_wp2_with fail
        obtain ⟨f0, f1, f2, f3, f4⟩ := HF.out
        exact bodyPost_ret (v := .tuple #[.agg #[.slice (some ⟨gR, 0, none⟩) n cR, .string rf], .string s]) (by simp [results, Try.results124, go_sem, f0, f1]) rfl ⟨_, rf, _, _, rfl, f2, hrf, by omega, NG.out, f3.more (by omega), f4, KE.out _ ((X1.out.set (p := ⟨w.heap.size + 1, 0, none⟩) (.inl (by simp)) _).set (p := ⟨w.heap.size + 1, 1, none⟩) (.inl (by simp)) _)⟩
end
/-! DrawSteps2 -/
section
open Go.RowKit
attribute [local go_sem ↓] Go.wp_at_zero Go.wp_at_succ

/-- the results of a draw laid into their variable -/
theorem draw_finW {w w1 W : World} {g : Nat} {tc : TypeId} {A : Option Addr} {c : Nat} {rf : ByteArray} {l : List Rot} (hb : Below w.heap.size w w1) (hg : w1.grownBy W (some g)) (hw : w.heap.size ≤ g)
    (hk : Blk W w.heap.size tc #[.slice none 0 0, .string ByteArray.empty]) (hR : IsRots W (.slice A l.length c) l) :
    ((W.setCell ⟨w.heap.size, 0, none⟩ (.slice A l.length c)).setCell ⟨w.heap.size, 1, none⟩ (.string rf)).cell? ⟨w.heap.size, 0, none⟩ = some (.slice A l.length c) ∧
    ((W.setCell ⟨w.heap.size, 0, none⟩ (.slice A l.length c)).setCell ⟨w.heap.size, 1, none⟩ (.string rf)).cell? ⟨w.heap.size, 1, none⟩ = some (.string rf) ∧
    IsRots ((W.setCell ⟨w.heap.size, 0, none⟩ (.slice A l.length c)).setCell ⟨w.heap.size, 1, none⟩ (.string rf)) (.slice A l.length c) l ∧
    Below w.heap.size w ((W.setCell ⟨w.heap.size, 0, none⟩ (.slice A l.length c)).setCell ⟨w.heap.size, 1, none⟩ (.string rf)) := by
  have k1 := hk.set 0 (.slice A l.length c)
  have k2 := k1.set 1 (.string rf)
  exact ⟨k2.cell 0, k2.cell 1, (hR.setBox hk _).setBox k1 _, below_set (below_set (below_of_grown hb hg hw) _) _⟩

set_option maxHeartbeats 400000 in
theorem c_DrawStepMoves (A : Option Addr) (n c : Nat) (w : World) (hc : Code_ w A n c) :
    Calls Try.prog 85 #[.slice A n c] w fun e w' => ∃ (vR : Value) (rf s : ByteArray) (l : List Rot), e = .returned (.tuple #[.agg #[vR, .string rf], .string s]) ∧ IsRots w' vR l ∧ rf.size ≤ 1000 ∧ s.size ≤ 1001 ∧ Below w.heap.size w w' := by
  have HC := Lib.hid (hc.ext (ext_alloc w (.cells #[.slice none 0 0, .string ByteArray.empty] 31)))
  clear hc
  go_enter Try.func85, Try.ntmps85
  go_wp2_with fail
  refine (c_l21Open A n c _ HC.out.1 HC.out.2.1 HC.out.2.2).mono ?_
  rintro e w1 ⟨g, rfl, hg, hr1, hb1⟩
  have hg' : w.heap.size + 1 ≤ g := by simpa using hg
  have K1 := Lib.hid ((Blk.new w 31 #[.slice none 0 0, .string ByteArray.empty]).ext hb1)
  have BL1 := Lib.hid ((ext_alloc w (.cells #[.slice none 0 0, .string ByteArray.empty] 31)).trans (hb1.mono (by simp)))
  have R1 := Lib.hid hr1
  have hgl1 := hr1.1
  clear hg hr1 hb1
  go_wp2_with fail
  refine (c_l7Some g 0 _ R1.out (by omega)).mono ?_
  rintro e w2 ⟨vR, rf, s, m, f, rfl, hrf, hm1, hm3, hs, _, ho, hok, hr2, hg2⟩
  obtain ⟨gR, cR, rfl, hgR1, hgR2⟩ := ho.at0 (by omega)
  have K2 := Lib.hid ((K1.out.grown hg2 (by simp; omega)).alloc (.cells #[.slice (some ⟨gR, 0, none⟩) m cR, .string rf] 31))
  have O2 := Lib.hid (ho.alloc (.cells #[.slice (some ⟨gR, 0, none⟩) m cR, .string rf] 31))
  have R2 := Lib.hid (hr2.ext (ext_alloc w2 (.cells #[.slice (some ⟨gR, 0, none⟩) m cR, .string rf] 31)))
  have G2 := Lib.hid (grow_alloc hg2 (.cells #[.slice (some ⟨gR, 0, none⟩) m cR, .string rf] 31))
  have HOK := Lib.hid hok
  have hz : w1.heap.size ≤ (w2.alloc (.cells #[.slice (some ⟨gR, 0, none⟩) m cR, .string rf] 31)).heap.size := G2.out.size
  clear hr2 hg2 ho hok
  go_wp2_with fail
  refine (c_l7Bad g (0 + 250) w1.heap.size m _ rf s f w1 _ R2.out (by omega) (Nat.le_refl _) G2.out hgl1 hz O2.out HOK.out hm1 hm3 (by omega) (by omega) (by omega)).mono ?_
  rintro e w3 ⟨vR', rf', s', l, rfl, hl, hrf', hs', hne, hr3, hg3, _⟩
  obtain ⟨A', c', hv'⟩ := hl.form
  subst hv'
  have k3 := K1.out.grown hg3 (by simp; omega)
  have x0 : w3.cell? ⟨w.heap.size, 0, none⟩ = some (.slice none 0 0) := k3.cell 0
  have x1 : w3.cell? ⟨w.heap.size, 1, none⟩ = some (.string ByteArray.empty) := k3.cell 1
  have y0 := k3.free 0
  have y1 := k3.free 1
  have HF := Lib.hid (draw_finW (rf := rf') BL1.out hg3 (by omega) k3 hl)
  clear k3 hl hg3 hr3
  go_wp2_with fail
  obtain ⟨f0, f1, f2, f3⟩ := HF.out
  exact bodyPost_ret (v := .tuple #[.agg #[.slice A' l.length c', .string rf'], .string s']) (by simp [results, Try.results85, go_sem, f0, f1]) rfl ⟨_, rf', s', l, rfl, f2, hrf', hs', f3⟩
theorem draw_via {w W : World} {tc : TypeId} {A : Option Addr} {c : Nat} {rf : ByteArray} {l : List Rot} (hb : Below w.heap.size w W) (hk : Blk W w.heap.size tc #[.slice none 0 0, .string ByteArray.empty]) (hR : IsRots W (.slice A l.length c) l) :
    ((W.setCell ⟨w.heap.size, 0, none⟩ (.slice A l.length c)).setCell ⟨w.heap.size, 1, none⟩ (.string rf)).cell? ⟨w.heap.size, 0, none⟩ = some (.slice A l.length c) ∧
    ((W.setCell ⟨w.heap.size, 0, none⟩ (.slice A l.length c)).setCell ⟨w.heap.size, 1, none⟩ (.string rf)).cell? ⟨w.heap.size, 1, none⟩ = some (.string rf) ∧
    IsRots ((W.setCell ⟨w.heap.size, 0, none⟩ (.slice A l.length c)).setCell ⟨w.heap.size, 1, none⟩ (.string rf)) (.slice A l.length c) l ∧
    Below w.heap.size w ((W.setCell ⟨w.heap.size, 0, none⟩ (.slice A l.length c)).setCell ⟨w.heap.size, 1, none⟩ (.string rf)) := by
  have k1 := hk.set 0 (.slice A l.length c)
  have k2 := k1.set 1 (.string rf)
  exact ⟨k2.cell 0, k2.cell 1, (hR.setBox hk _).setBox k1 _, below_set (below_set hb _) _⟩
theorem c_DrawStepWindows (A : Option Addr) (n c : Nat) (w : World) (hc : Code_ w A n c) :
    Calls Try.prog 39 #[.slice A n c] w fun e w' => ∃ (vR : Value) (rf s : ByteArray) (l : List Rot), e = .returned (.tuple #[.agg #[vR, .string rf], .string s]) ∧ IsRots w' vR l ∧ rf.size ≤ 1000 ∧ s.size ≤ 1001 ∧ Below w.heap.size w w' := by
  have HC := Lib.hid (hc.ext (ext_alloc w (.cells #[.slice none 0 0, .string ByteArray.empty] 31)))
  clear hc
  go_enter Try.func39, Try.ntmps39
  go_wp2_with fail
  refine (c_DrawStepMoves A n c _ HC.out).mono ?_
  rintro e w3 ⟨vR', rf', s', l, rfl, hl, hrf', hs', hb3⟩
  obtain ⟨A', c', hv'⟩ := hl.form
  subst hv'
  have k3 := (Blk.new w 31 #[.slice none 0 0, .string ByteArray.empty]).ext hb3
  have x0 : w3.cell? ⟨w.heap.size, 0, none⟩ = some (.slice none 0 0) := k3.cell 0
  have x1 : w3.cell? ⟨w.heap.size, 1, none⟩ = some (.string ByteArray.empty) := k3.cell 1
  have y0 := k3.free 0
  have y1 := k3.free 1
  have HF := Lib.hid (draw_via (rf := rf') ((ext_alloc w (.cells #[.slice none 0 0, .string ByteArray.empty] 31)).trans (hb3.mono (by simp))) k3 hl)
  clear k3 hl hb3
  go_wp2_with fail
  obtain ⟨f0, f1, f2, f3⟩ := HF.out
  exact bodyPost_ret (v := .tuple #[.agg #[.slice A' l.length c', .string rf'], .string s']) (by simp [results, Try.results39, go_sem, f0, f1]) rfl ⟨_, rf', s', l, rfl, f2, hrf', hs', f3⟩
end
/-! DrawSteps3 -/
section
open Go.RowKit
attribute [local go_sem ↓] Go.wp_at_zero Go.wp_at_succ

end
end Go.Proofs.Ytnfeddnkokocfaa
