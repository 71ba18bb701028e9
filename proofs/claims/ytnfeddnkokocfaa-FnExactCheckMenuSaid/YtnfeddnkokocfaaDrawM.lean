/- DrawMach, DrawMach2, DrawMach4, in one text. -/
import Derived.Test.YtnfeddnkokocfaaDrawS
import Derived.Test.YtnfeddnkokocfaaMachine
import Derived.Test.YtnfeddnkokocfaaRounds
import Derived.Test.YtnfeddnkokocfaaCoded
namespace Go.Proofs.Ytnfeddnkokocfaa
set_option linter.unusedVariables false
set_option linter.unusedSimpArgs false
/-! DrawMach -/
section
open Go.RowKit
attribute [local go_sem ↓] Go.wp_at_zero Go.wp_at_succ

theorem infoM : (Try.prog.info? 33).map (·.size) = some 4 := by kernel_rfl
/-- four stores into a block of four cells -/
theorem res4 {w W : World} {g P b B n : Nat} {t : TypeId} {x0 x1 x2 x3 vR : Value} {f : Nat → Rot} (u0 u1 u2 u3 : Value) (hk : Blk W b t #[x0, x1, x2, x3]) (hr : Rd W g P) (hg : w.grownBy W (some g)) (h1 : g < b) (h2 : w.heap.size ≤ b) (ho : OwnR W B vR n f) (hb : b < B) :
    ∀ W', W' = (((W.setCell ⟨b, 0, none⟩ u0).setCell ⟨b, 1, none⟩ u1).setCell ⟨b, 2, none⟩ u2).setCell ⟨b, 3, none⟩ u3 →
    Blk W' b t #[u0, u1, u2, u3] ∧ Rd W' g P ∧ w.grownBy W' (some g) ∧ OwnR W' B vR n f := by
  rintro _ rfl
  exact ⟨(((hk.set 0 u0).set 1 u1).set 2 u2).set 3 u3, (((hr.setFar h1 u0).setFar h1 u1).setFar h1 u2).setFar h1 u3, grow_new (grow_new (grow_new (grow_new hg h2 u0) h2 u1) h2 u2) h2 u3,
    (((ho.setFar hb u0).setFar hb u1).setFar hb u2).setFar hb u3⟩
set_option maxHeartbeats 1000000 in
set_option maxRecDepth 100000 in
theorem c_l8Any (g P : Nat) (w : World) (hr : Rd w g P) (hP : P + 600 ≤ 1000000) :
    Calls Try.prog 97 #[.pointer (some ⟨g, 0, none⟩)] w fun e w' => ∃ (vR : Value) (rf s rg pl : ByteArray) (n : Nat) (f : Nat → Rot), e = .returned (.tuple #[.agg #[vR, .string rf, .string rg, .string pl], .string s]) ∧ rf.size = 10 ∧ rg.size = n ∧ pl.size = 10 ∧ 1 ≤ n ∧ n ≤ 3 ∧
      s.size = n ∧ OwnR w' (w.heap.size + 1) vR n f ∧ okR n f ∧ Rd w' g (P + 300) ∧ w.grownBy w' (some g) := by
  have HR := Lib.hid (hr.ext (ext_alloc w (.cells #[.slice none 0 0, .string ByteArray.empty, .string ByteArray.empty, .string ByteArray.empty] 33)))
  have hgl := hr.1
  clear hr
  go_enter Try.func97, Try.ntmps97
  go_wp2_with fail
  refine (c_l7Some g P _ HR.out (by omega)).mono ?_
  rintro e w1 ⟨vR, rf, s, n, f, rfl, hrf, hn1, hn3, hs, _, ho, hok, hr1, hg1⟩
  rw [World.size_alloc] at ho
  obtain ⟨gR, cR, rfl, hgR1, hgR2⟩ := ho.at0 (by omega)
  have hl1 : w.heap.size + 1 ≤ w1.heap.size := by have := hg1.size; simpa using this
  have K2 := Lib.hid (((Blk.new w 33 #[.slice none 0 0, .string ByteArray.empty, .string ByteArray.empty, .string ByteArray.empty]).grown hg1 (by simp; omega)).alloc (.cells #[.slice (some ⟨gR, 0, none⟩) n cR, .string rf] 31))
  have KB := Lib.hid (Blk.new w1 31 #[.slice (some ⟨gR, 0, none⟩) n cR, .string rf])
  have R2 := Lib.hid (hr1.ext (ext_alloc w1 (.cells #[.slice (some ⟨gR, 0, none⟩) n cR, .string rf] 31)))
  have O2 : Hid (OwnR (w1.alloc (.cells #[.slice (some ⟨gR, 0, none⟩) n cR, .string rf] 31)) (w.heap.size + 1) (.slice (some ⟨gR, 0, none⟩) n cR) n f) := ho.ext (ext_alloc _ _)
  have G2 := Lib.hid (grow_alloc ((grow_alloc (World.grownBy.refl w (some g)) (.cells #[.slice none 0 0, .string ByteArray.empty, .string ByteArray.empty, .string ByteArray.empty] 33)).trans hg1) (.cells #[.slice (some ⟨gR, 0, none⟩) n cR, .string rf] 31))
  have HOK := Lib.hid hok
  have HS := Lib.hid hs
  have HRF := Lib.hid hrf
  have hsz : s.size ≤ 3 := by omega
  have hzz : (w1.alloc (.cells #[.slice (some ⟨gR, 0, none⟩) n cR, .string rf] 31)).heap.size = w1.heap.size + 1 := by simp
  have HZZ := Lib.hid hzz
  clear hr1 ho hg1 hok hs hrf hzz HR
  go_upto_region 2 with fail
  generalize (w1.alloc (.cells #[.slice (some ⟨gR, 0, none⟩) n cR, .string rf] 31)) = W2 at *
  have x0 := KB.out.cell 0
  have x1 := KB.out.cell 1
  have hgw1 : g < w1.heap.size := by omega
  go_region_with (first
    | (go_at_call 132; refine (c_l1Some g (P + 250) s.size _ R2.out.drew (by omega) (by omega)).mono ?_; rintro e w3 ⟨rg, rfl, hrg, _, hr3, hg3⟩; have u0 := (KB.out.drew.grown hg3 (by simp; omega)).cell 0; have u1 := (KB.out.drew.grown hg3 (by simp; omega)).cell 1)
    | (go_at_call 135; refine (c_l4Any g (P + 250 + s.size) _ hr3 (by omega)).mono ?_; rintro e w4 ⟨pl, rfl, hpl, _, hr4, hg4⟩; have hg24 := hg3.trans hg4; have v0 := (KB.out.drew.grown hg24 (by simp; omega)).cell 0; have v1 := (KB.out.drew.grown hg24 (by simp; omega)).cell 1; have k4 := K2.out.drew.grown hg24 (by simp; omega); have z0 := k4.cell 0; have z1 := k4.cell 1; have z2 := k4.cell 2; have z3 := k4.cell 3; have f0 := k4.free 0; have f1 := k4.free 1; have f2 := k4.free 2; have f3 := k4.free 3))
  all_goals
    have HF := Lib.hid (res4 (.slice (some ⟨gR, 0, none⟩) n cR) (.string rf) (.string rg) (.string pl) k4 hr4 ((grow_drew G2.out).trans hg24) (by omega) (Nat.le_refl _) (O2.out.drew.keptB hg24 (by omega)) (Nat.lt_succ_self _) _ rfl)
    have HRG := Lib.hid hrg
    have HPL := Lib.hid hpl
    clear hr3 hr4 hg3 hg4 hg24 k4 z0 z1 z2 z3 f0 f1 f2 f3 u0 u1 v0 v1 x0 x1 hrg hpl
    go_wp2_with fail
    obtain ⟨q1, q2, q3, q4⟩ := HF.out
    have y0 := q1.cell 0
    have y1 := q1.cell 1
    have y2 := q1.cell 2
    have y3 := q1.cell 3
    exact bodyPost_ret (v := .tuple #[.agg #[.slice (some ⟨gR, 0, none⟩) n cR, .string rf, .string rg, .string pl], .string s]) (by simp [results, Try.results97, go_sem, y0, y1, y2, y3]) rfl
      ⟨_, rf, s, rg, pl, n, f, rfl, HRF.out, HRG.out.trans HS.out, HPL.out, hn1, hn3, HS.out, q4, HOK.out, q2.more (by omega), q3⟩
theorem c_l8Off (g P : Nat) (s : ByteArray) (w : World) (hr : Rd w g P) (hP : P + 10 ≤ 1000000) (hs1 : 1 ≤ s.size) (hs : s.size ≤ 1000) :
    Calls Try.prog 101 #[.pointer (some ⟨g, 0, none⟩), .string s] w fun e w' => ∃ t : ByteArray, e = .returned (.string t) ∧ t.size ≤ s.size + 1 ∧ Rd w' g (P + 1) ∧ w.grownBy w' (some g) := by
  have HR := Lib.hid hr
  clear hr
  go_enter Try.func101, Try.ntmps101
  go_wp2_with fail
  refine (c_pick g P _ _ HR.out (by omega) (by omega) (by omega)).mono ?_
  rintro e w1 ⟨q, rfl, hq, hr1, hg1⟩
  have R1 := Lib.hid hr1
  have G1 := Lib.hid hg1
  clear hr1 hg1
  by_cases q0 : q = 0
  · have t0 : ((q : Int) == 0) = true := by simp [q0]
    clear q0
    go_wp2_with fail
    go_ret
    exact ⟨_, rfl, by rw [ByteArray.size_append]; show s.size + 1 ≤ _; omega, R1.out, G1.out⟩
  · have t0 : ((q : Int) == 0) = false := by simp [q0]
    by_cases q1 : q = 1
    · have t1 : ((q : Int) == 1) = true := by simp [q1]
      have z1 := xsize s (a := 1) (b := s.size) (Nat.le_refl _)
      have i1 : (1 : Int) ≤ (s.size : Int) := by omega
      clear q0 q1
      go_wp2_with fail
      go_ret
      exact ⟨_, rfl, by rw [ByteArray.size_append, z1]; show s.size - 1 + 1 ≤ _; omega, R1.out, G1.out⟩
    · have t1 : ((q : Int) == 1) = false := by rw [beq_eq_false_iff_ne]; omega
      clear q0 q1
      go_wp2_with fail
      go_ret
      exact ⟨_, rfl, by omega, R1.out, G1.out⟩
theorem grow_newRow {a w : World} {row : Option Nat} (h : a.grownBy w row) {b : Nat} (hb : a.heap.size ≤ b) (cs : Array Value) : a.grownBy (w.setRow b cs) row :=
  ⟨h.os, h.tape, h.output, by rw [setRow_size]; exact h.size, fun i hi hne => (setRow_other w b i cs (by omega)).trans (h.block i hi hne)⟩
theorem Rd.setRow {w : World} {g P b : Nat} (h : Rd w g P) (hb : g < b) (cs : Array Value) : Rd (w.setRow b cs) g P := h.below (below_row (Below.refl _ _) hb cs)
theorem resM {P : Program} {fn : Func} {p : Tmp} {ty : TypeId} (h : fn.results = #[.cell p ty]) (tmps : Array Value) (w : World) (g : Nat) (cs : Array Value) (d : TypeDesc) (hp : tmps.getD p undef = .pointer (some ⟨g, 0, none⟩)) (hg : Blk w g ty cs)
    (hu : P.underlying ty = some d) (hd : (match d with | .struct _ | .array _ _ => true | _ => false) = true) (hi : (P.info? ty).map (·.size) = some cs.size) : (results fn tmps).run P w = .ok (.agg cs) w :=
  results_cell_row h tmps w g ty cs (0, 0) d hp hg hu hd hi
/-- the cells of a machine -/
abbrev mCells (A : Option Addr) (cA : Nat) (M : Mch) : Array Value := #[.slice A M.l.length cA, .string M.rf, .string M.rg, .string M.pl]
theorem fin8 {w0 W : World} {g P b c : Nat} {tc : TypeId} {A : Option Addr} {M : Mch} {zs : Array Value} (hk : Blk W b tc zs) (hR : IsRots W (.slice A M.l.length c) M.l) (hne : ∀ b' o, A = some ⟨b', o, none⟩ → b' ≠ b) (hr : Rd W g P) (hgw : w0.grownBy W (some g)) (hg : g < b) (hb : w0.heap.size ≤ b) :
    Blk (W.setRow b (mCells A c M)) b tc (mCells A c M) ∧ IsRots (W.setRow b (mCells A c M)) (.slice A M.l.length c) M.l ∧ Rd (W.setRow b (mCells A c M)) g P ∧ w0.grownBy (W.setRow b (mCells A c M)) (some g) :=
  ⟨hk.setRow _, hR.grownR (grow_row _ _ _) hne, hr.setRow hg _, grow_newRow hgw hb _⟩
set_option maxHeartbeats 1000000 in
set_option maxRecDepth 100000 in
theorem c_l8Bad (g P B n : Nat) (vR : Value) (rf rg pl : ByteArray) (f : Nat → Rot) (w0 w : World) (hr : Rd w g P) (hP : P + 300 ≤ 1000000) (hB : w0.heap.size ≤ B) (hgw : w0.grownBy w (some g)) (hg0 : g < w0.heap.size) (hBw : B ≤ w.heap.size)
    (ho : OwnR w B vR n f) (hok : okR n f) (hn1 : 1 ≤ n) (hn3 : n ≤ 3) (hrf : rf.size ≤ 1000) (hrg1 : 1 ≤ rg.size) (hrg : rg.size ≤ 1000) (hpl : pl.size ≤ 1000) :
    Calls Try.prog 100 #[.pointer (some ⟨g, 0, none⟩), .agg #[vR, .string rf, .string rg, .string pl]] w fun e w' => ∃ (A : Option Addr) (cA : Nat) (M : Mch), e = .returned (mV A cA M) ∧
      IsRots w' (.slice A M.l.length cA) M.l ∧ M.rf.size ≤ 1001 ∧ M.rg.size ≤ 1001 ∧ M.pl.size ≤ 1001 ∧ (∀ b o, A = some ⟨b, o, none⟩ → b ≠ g ∧ B ≤ b) ∧ Rd w' g (P + 30) ∧ w0.grownBy w' (some g) := by
  obtain ⟨gR, cR, rfl, hgR1, hgR2⟩ := ho.at0 (by omega)
  have hbig : ∀ k, k < n → (f k).1.size ≤ 1000000 ∧ (f k).2.size ≤ 1000000 := fun k hk => by have := hok k hk; omega
  have hl : ((List.range n).map f).length = n := by simp
  have NO : Hid (∀ (W : World), OwnR W B (.slice (some ⟨gR, 0, none⟩) n cR) n f → IsRots W (.slice (some ⟨gR, 0, none⟩) ((List.range n).map f).length cR) ((List.range n).map f)) := fun W h => by rw [hl]; exact h.toRots (by omega) hbig
  have HL := Lib.hid hl
  have HR := Lib.hid hr
  have HGW := Lib.hid hgw
  have HO := Lib.hid ho
  have HOK := Lib.hid hok
  have hgl := hr.1
  have hw0w : w0.heap.size ≤ w.heap.size := hgw.size
  have hgR0 : gR ≠ g := by omega
  clear hr hgw ho hok hbig hl
  go_enter Try.func100, Try.ntmps100
  go_wp2_with fail
  refine (c_pick g P _ _ ((HR.out.ext (ext_alloc _ _)).ext (ext_alloc _ _)) (by omega) (by omega) (by omega)).mono ?_
  rintro e w1 ⟨q, rfl, hq, hr1, hg1⟩
  have K0 := Lib.hid (((Blk.new w 33 #[.slice (some ⟨gR, 0, none⟩) n cR, .string rf, .string rg, .string pl]).alloc (.cells #[.slice none 0 0, .string ByteArray.empty, .string ByteArray.empty, .string ByteArray.empty] 33)).grown hg1 (by simp; omega))
  have K1 : Hid (Blk w1 (w.heap.size + 1) 33 #[.slice none 0 0, .string ByteArray.empty, .string ByteArray.empty, .string ByteArray.empty]) := by
    have h1 := Blk.new (w.alloc (.cells #[.slice (some ⟨gR, 0, none⟩) n cR, .string rf, .string rg, .string pl] 33)) 33 #[.slice none 0 0, .string ByteArray.empty, .string ByteArray.empty, .string ByteArray.empty]
    simp only [World.size_alloc] at h1
    exact h1.grown hg1 (by simp; omega)
  have R1 := Lib.hid hr1
  have G1 := Lib.hid (HGW.out.trans ((grow_alloc (grow_alloc (World.grownBy.refl w (some g)) _) _).trans hg1))
  have O1 := Lib.hid (((HO.out.alloc (.cells #[.slice (some ⟨gR, 0, none⟩) n cR, .string rf, .string rg, .string pl] 33)).alloc (.cells #[.slice none 0 0, .string ByteArray.empty, .string ByteArray.empty, .string ByteArray.empty] 33)).keptB hg1 (by omega))
  have hz1 : w.heap.size + 2 ≤ w1.heap.size := by have := hg1.size; simp at this; omega
  clear hr1 hg1 HR HGW HO
  by_cases q0 : q = 0
  · have t0 : ((q : Int) == 0) = true := by simp [q0]
    clear q0
    have x0 := K0.out.cell 0
    have x1 := K0.out.cell 1
    go_wp2_with fail
    refine (c_l6BadT g (P + 1) B n _ rf f w0 _ R1.out (by omega) hB G1.out hg0 (by omega) O1.out HOK.out hn1 hn3 hrf).mono ?_
    rintro e w2 ⟨vR', rf', l, rfl, hlr, hrf', hne, hr2, hg2, hkp, hnt⟩
    have kp := hkp gR rfl
    have K02 := Lib.hid (kp.blk K0.out (by omega) (by omega))
    have K12 := Lib.hid (kp.blk K1.out (by omega) (by omega))
    obtain ⟨A', c', hv'⟩ := hlr.form
    subst hv'
    have HNE : Hid (∀ b o, A' = some ⟨b, o, none⟩ → b ≠ g ∧ B ≤ b) := fun b o e => ⟨fun e2 => by subst e e2; exact hne rfl, hnt.2 b (by rw [e]; rfl)⟩
    have HLR := Lib.hid hlr
    have R2 := Lib.hid hr2
    have G2 := Lib.hid hg2
    have HRF := Lib.hid hrf'
    have HNT := Lib.hid hnt
    clear hlr hr2 hg2 hkp kp hne hrf' hnt x0 x1 K0 K1
    have x0 := K02.out.cell 0
    have x1 := K02.out.cell 1
    have f0 := K02.out.free 0
    have f1 := K02.out.free 1
    have NB : Hid (∀ b o, A' = some ⟨b, o, none⟩ → b ≠ w.heap.size ∧ b ≠ w.heap.size + 1) := fun b o e => by
      subst e
      exact ⟨fun e => HNT.out.1 _ _ _ K02.out (by decide) (by rw [e]; rfl), fun e => HNT.out.1 _ _ _ K12.out (by decide) (by rw [e]; rfl)⟩
    go_upto_region 10 with fail
    have g3 := grow_set (grow_cell w2 ⟨w.heap.size, 0, none⟩ (.slice A' l.length c')) (p := ⟨w.heap.size, 1, none⟩) (.inl rfl) (.string rf')
    have KF : Hid (Blk ((w2.setCell ⟨w.heap.size, 0, none⟩ (.slice A' l.length c')).setCell ⟨w.heap.size, 1, none⟩ (.string rf')) w.heap.size 33 #[.slice A' l.length c', .string rf', .string rg, .string pl]) := (K02.out.set 0 _).set 1 _
    have KR := Lib.hid (K12.out.grownR g3 (by simp))
    have HRT := Lib.hid (HLR.out.grownR g3 (fun b o e => (NB.out b o e).1))
    have R3 := Lib.hid ((R2.out.setFar (p := ⟨w.heap.size, 0, none⟩) (by simp; omega) (.slice A' l.length c')).setFar (p := ⟨w.heap.size, 1, none⟩) (by simp; omega) (.string rf'))
    have G3 := Lib.hid (grow_new (grow_new G2.out (p := ⟨w.heap.size, 0, none⟩) (by simp; omega) (.slice A' l.length c')) (p := ⟨w.heap.size, 1, none⟩) (by simp; omega) (.string rf'))
    clear g3 x0 x1 f0 f1 K02 K12 R2 G2 HLR
    generalize (w2.setCell ⟨w.heap.size, 0, none⟩ (.slice A' l.length c')).setCell ⟨w.heap.size, 1, none⟩ (.string rf') = w3 at *
    have HF := Lib.hid (fin8 (A := A') (c := c') (M := ⟨l, rf', rg, pl⟩) KR.out HRT.out (fun b o e => (NB.out b o e).2) R3.out G3.out (by omega) (by omega))
    go_wp2_with (first | (refine wpList_load_row rfl 33 _ rfl w.heap.size rfl 33 _ (0, 0) _ KF.out Try.underlying33 rfl infoM ?_) | (refine wpList_store_row rfl 33 _ _ rfl (w.heap.size + 1) _ rfl rfl 33 _ KR.out infoM rfl (by simp [Value.oneCell']) ?_))
    obtain ⟨q1, q2, q3, q4⟩ := HF.out
    refine bodyPost_ret (resM Try.results100 _ _ (w.heap.size + 1) _ _ rfl q1 Try.underlying33 rfl infoM) rfl ⟨_, _, ⟨l, rf', rg, pl⟩, rfl, q2, by have := HRF.out; show rf'.size ≤ _; omega, by show rg.size ≤ _; omega, by show pl.size ≤ _; omega, HNE.out, q3.more (by omega), q4⟩
  · have t0 : ((q : Int) == 0) = false := by simp [q0]
    have NB : Hid (∀ b o, some (⟨gR, 0, none⟩ : Addr) = some ⟨b, o, none⟩ → b ≠ g ∧ b ≠ w.heap.size ∧ b ≠ w.heap.size + 1) := fun b o e => by injection e with e; injection e with e; omega
    by_cases q1 : q = 1
    · have t1 : ((q : Int) == 1) = true := by simp [q1]
      clear q0 q1
      have x2 := K0.out.cell 2
      have f2 := K0.out.free 2
      go_upto_region 10 with fail
      have g3 := grow_cell w1 ⟨w.heap.size, 2, none⟩ (.string (rg ++ ⟨#[97]⟩))
      have KF : Hid (Blk (w1.setCell ⟨w.heap.size, 2, none⟩ (.string (rg ++ ⟨#[97]⟩))) w.heap.size 33 #[.slice (some ⟨gR, 0, none⟩) n cR, .string rf, .string (rg ++ ⟨#[97]⟩), .string pl]) := K0.out.set 2 _
      have KR := Lib.hid (K1.out.grownR g3 (by simp))
      have HRT := Lib.hid (NO.out _ (O1.out.setNe (b := w.heap.size) (j := 2) (by simp [Value.ownBlock]; omega) (.string (rg ++ ⟨#[97]⟩))))
      have R3 := Lib.hid (R1.out.setFar (p := ⟨w.heap.size, 2, none⟩) (by simp; omega) (.string (rg ++ ⟨#[97]⟩)))
      have G3 := Lib.hid (grow_new G1.out (p := ⟨w.heap.size, 2, none⟩) (by simp; omega) (.string (rg ++ ⟨#[97]⟩)))
      clear g3 x2 f2 K0 K1 R1 G1 O1
      generalize w1.setCell ⟨w.heap.size, 2, none⟩ (.string (rg ++ ⟨#[97]⟩)) = w3 at *
      have HF := Lib.hid (fin8 (A := some ⟨gR, 0, none⟩) (c := cR) (M := ⟨(List.range n).map f, rf, rg ++ ⟨#[97]⟩, pl⟩) KR.out HRT.out (fun b o e => (NB.out b o e).2.2) R3.out G3.out (by omega) (by omega))
      go_wp2_with (first | (refine wpList_load_row rfl 33 _ rfl w.heap.size rfl 33 _ (0, 0) _ KF.out Try.underlying33 rfl infoM ?_) | (refine wpList_store_row rfl 33 _ _ rfl (w.heap.size + 1) _ rfl rfl 33 _ KR.out infoM rfl (by simp [Value.oneCell']) ?_))
      obtain ⟨q1, q2, q3, q4⟩ := HF.out
      have HC : mCells (some ⟨gR, 0, none⟩) cR ⟨(List.range n).map f, rf, rg ++ ⟨#[97]⟩, pl⟩ = #[.slice (some ⟨gR, 0, none⟩) n cR, .string (rf), .string (rg ++ ⟨#[97]⟩), .string (pl)] := by unfold mCells; rw [show (Mch.l ⟨(List.range n).map f, rf, rg ++ ⟨#[97]⟩, pl⟩).length = n from HL.out]
      rw [HC] at q1 q2 q3 q4
      refine bodyPost_ret (resM Try.results100 _ _ (w.heap.size + 1) _ _ rfl q1 Try.underlying33 rfl infoM) rfl ⟨some ⟨gR, 0, none⟩, cR, ⟨(List.range n).map f, rf, rg ++ ⟨#[97]⟩, pl⟩, congrArg (fun z => Ending.returned (.agg z)) HC.symm, q2, by show rf.size ≤ _; omega, by show (rg ++ ⟨#[97]⟩).size ≤ _; rw [ByteArray.size_append]; show rg.size + 1 ≤ _; omega, by show pl.size ≤ _; omega, fun b o e => ⟨(NB.out b o e).1, by injection e with e; injection e with e; omega⟩, q3.more (by omega), q4⟩
    · have t1 : ((q : Int) == 1) = false := by rw [beq_eq_false_iff_ne]; omega
      by_cases q2 : q = 2
      · have t2 : ((q : Int) == 2) = true := by simp [q2]
        clear q0 q1 q2
        go_wp2_with fail
        refine (c_l2Some g (P + 1) _ R1.out (by omega)).mono ?_
        rintro e w2 ⟨s, rfl, hs, _, hr2, hg2⟩
        have K02 := Lib.hid (K0.out.grown hg2 (by simp; omega))
        have K12 := Lib.hid (K1.out.grown hg2 (by simp; omega))
        have O2 := Lib.hid (O1.out.keptB hg2 (by omega))
        have R2 := Lib.hid hr2
        have G2 := Lib.hid (G1.out.trans hg2)
        have HSS := Lib.hid hs
        clear hr2 hg2 hs K0 K1 O1 R1 G1
        have x3 := K02.out.cell 3
        have f3 := K02.out.free 3
        go_upto_region 10 with fail
        have g3 := grow_cell w2 ⟨w.heap.size, 3, none⟩ (.string s)
        have KF : Hid (Blk (w2.setCell ⟨w.heap.size, 3, none⟩ (.string s)) w.heap.size 33 #[.slice (some ⟨gR, 0, none⟩) n cR, .string rf, .string rg, .string s]) := K02.out.set 3 _
        have KR := Lib.hid (K12.out.grownR g3 (by simp))
        have HRT := Lib.hid (NO.out _ (O2.out.setNe (b := w.heap.size) (j := 3) (by simp [Value.ownBlock]; omega) (.string s)))
        have R3 := Lib.hid (R2.out.setFar (p := ⟨w.heap.size, 3, none⟩) (by simp; omega) (.string s))
        have G3 := Lib.hid (grow_new G2.out (p := ⟨w.heap.size, 3, none⟩) (by simp; omega) (.string s))
        clear g3 x3 f3 K02 K12 R2 G2 O2
        generalize w2.setCell ⟨w.heap.size, 3, none⟩ (.string s) = w3 at *
        have HF := Lib.hid (fin8 (A := some ⟨gR, 0, none⟩) (c := cR) (M := ⟨(List.range n).map f, rf, rg, s⟩) KR.out HRT.out (fun b o e => (NB.out b o e).2.2) R3.out G3.out (by omega) (by omega))
        go_wp2_with (first | (refine wpList_load_row rfl 33 _ rfl w.heap.size rfl 33 _ (0, 0) _ KF.out Try.underlying33 rfl infoM ?_) | (refine wpList_store_row rfl 33 _ _ rfl (w.heap.size + 1) _ rfl rfl 33 _ KR.out infoM rfl (by simp [Value.oneCell']) ?_))
        obtain ⟨q1, q2, q3, q4⟩ := HF.out
        have HC : mCells (some ⟨gR, 0, none⟩) cR ⟨(List.range n).map f, rf, rg, s⟩ = #[.slice (some ⟨gR, 0, none⟩) n cR, .string (rf), .string (rg), .string (s)] := by unfold mCells; rw [show (Mch.l ⟨(List.range n).map f, rf, rg, s⟩).length = n from HL.out]
        rw [HC] at q1 q2 q3 q4
        refine bodyPost_ret (resM Try.results100 _ _ (w.heap.size + 1) _ _ rfl q1 Try.underlying33 rfl infoM) rfl ⟨some ⟨gR, 0, none⟩, cR, ⟨(List.range n).map f, rf, rg, s⟩, congrArg (fun z => Ending.returned (.agg z)) HC.symm, q2, by show rf.size ≤ _; omega, by show rg.size ≤ _; omega, by show s.size ≤ _; have := HSS.out; omega, fun b o e => ⟨(NB.out b o e).1, by injection e with e; injection e with e; omega⟩, q3.more (by omega), q4⟩
      · have t2 : ((q : Int) == 2) = false := by rw [beq_eq_false_iff_ne]; omega
        by_cases q3 : q = 3
        · have t3 : ((q : Int) == 3) = true := by simp [q3]
          clear q0 q1 q2 q3
          have x2 := K0.out.cell 2
          have f2 := K0.out.free 2
          have z1 := xsize rg (a := 1) (b := rg.size) (Nat.le_refl _)
          have i1 : (1 : Int) ≤ (rg.size : Int) := by omega
          go_upto_region 10 with fail
          have g3 := grow_cell w1 ⟨w.heap.size, 2, none⟩ (.string (rg.extract 1 rg.size ++ ⟨#[107]⟩))
          have KF : Hid (Blk (w1.setCell ⟨w.heap.size, 2, none⟩ (.string (rg.extract 1 rg.size ++ ⟨#[107]⟩))) w.heap.size 33 #[.slice (some ⟨gR, 0, none⟩) n cR, .string rf, .string (rg.extract 1 rg.size ++ ⟨#[107]⟩), .string pl]) := K0.out.set 2 _
          have KR := Lib.hid (K1.out.grownR g3 (by simp))
          have HRT := Lib.hid (NO.out _ (O1.out.setNe (b := w.heap.size) (j := 2) (by simp [Value.ownBlock]; omega) (.string (rg.extract 1 rg.size ++ ⟨#[107]⟩))))
          have R3 := Lib.hid (R1.out.setFar (p := ⟨w.heap.size, 2, none⟩) (by simp; omega) (.string (rg.extract 1 rg.size ++ ⟨#[107]⟩)))
          have G3 := Lib.hid (grow_new G1.out (p := ⟨w.heap.size, 2, none⟩) (by simp; omega) (.string (rg.extract 1 rg.size ++ ⟨#[107]⟩)))
          have Z1 := Lib.hid z1
          clear g3 x2 f2 K0 K1 R1 G1 O1 z1
          generalize w1.setCell ⟨w.heap.size, 2, none⟩ (.string (rg.extract 1 rg.size ++ ⟨#[107]⟩)) = w3 at *
          have HF := Lib.hid (fin8 (A := some ⟨gR, 0, none⟩) (c := cR) (M := ⟨(List.range n).map f, rf, rg.extract 1 rg.size ++ ⟨#[107]⟩, pl⟩) KR.out HRT.out (fun b o e => (NB.out b o e).2.2) R3.out G3.out (by omega) (by omega))
          go_wp2_with (first | (refine wpList_load_row rfl 33 _ rfl w.heap.size rfl 33 _ (0, 0) _ KF.out Try.underlying33 rfl infoM ?_) | (refine wpList_store_row rfl 33 _ _ rfl (w.heap.size + 1) _ rfl rfl 33 _ KR.out infoM rfl (by simp [Value.oneCell']) ?_))
          obtain ⟨q1, q2, q3, q4⟩ := HF.out
          have HC : mCells (some ⟨gR, 0, none⟩) cR ⟨(List.range n).map f, rf, rg.extract 1 rg.size ++ ⟨#[107]⟩, pl⟩ = #[.slice (some ⟨gR, 0, none⟩) n cR, .string (rf), .string (rg.extract 1 rg.size ++ ⟨#[107]⟩), .string (pl)] := by unfold mCells; rw [show (Mch.l ⟨(List.range n).map f, rf, rg.extract 1 rg.size ++ ⟨#[107]⟩, pl⟩).length = n from HL.out]
          rw [HC] at q1 q2 q3 q4
          refine bodyPost_ret (resM Try.results100 _ _ (w.heap.size + 1) _ _ rfl q1 Try.underlying33 rfl infoM) rfl ⟨some ⟨gR, 0, none⟩, cR, ⟨(List.range n).map f, rf, rg.extract 1 rg.size ++ ⟨#[107]⟩, pl⟩, congrArg (fun z => Ending.returned (.agg z)) HC.symm, q2, by show rf.size ≤ _; omega, by show (rg.extract 1 rg.size ++ ⟨#[107]⟩).size ≤ _; rw [ByteArray.size_append, Z1.out]; show rg.size - 1 + 1 ≤ _; omega, by show pl.size ≤ _; omega, fun b o e => ⟨(NB.out b o e).1, by injection e with e; injection e with e; omega⟩, q3.more (by omega), q4⟩
        · have t3 : ((q : Int) == 3) = false := by rw [beq_eq_false_iff_ne]; omega
          clear q0 q1 q2 q3
          have KF : Hid (Blk w1 w.heap.size 33 #[.slice (some ⟨gR, 0, none⟩) n cR, .string rf, .string rg, .string pl]) := K0.out
          have KR := Lib.hid K1.out
          have HRT := Lib.hid (NO.out _ O1.out)
          have R3 := Lib.hid R1.out
          have G3 := Lib.hid G1.out
          clear K0 K1 R1 G1 O1
          have HF := Lib.hid (fin8 (A := some ⟨gR, 0, none⟩) (c := cR) (M := ⟨(List.range n).map f, rf, rg, pl⟩) KR.out HRT.out (fun b o e => (NB.out b o e).2.2) R3.out G3.out (by omega) (by omega))
          go_wp2_with (first | (refine wpList_load_row rfl 33 _ rfl w.heap.size rfl 33 _ (0, 0) _ KF.out Try.underlying33 rfl infoM ?_) | (refine wpList_store_row rfl 33 _ _ rfl (w.heap.size + 1) _ rfl rfl 33 _ KR.out infoM rfl (by simp [Value.oneCell']) ?_))
          obtain ⟨q1, q2, q3, q4⟩ := HF.out
          have HC : mCells (some ⟨gR, 0, none⟩) cR ⟨(List.range n).map f, rf, rg, pl⟩ = #[.slice (some ⟨gR, 0, none⟩) n cR, .string (rf), .string (rg), .string (pl)] := by unfold mCells; rw [show (Mch.l ⟨(List.range n).map f, rf, rg, pl⟩).length = n from HL.out]
          rw [HC] at q1 q2 q3 q4
          refine bodyPost_ret (resM Try.results100 _ _ (w.heap.size + 1) _ _ rfl q1 Try.underlying33 rfl infoM) rfl ⟨some ⟨gR, 0, none⟩, cR, ⟨(List.range n).map f, rf, rg, pl⟩, congrArg (fun z => Ending.returned (.agg z)) HC.symm, q2, by show rf.size ≤ _; omega, by show rg.size ≤ _; omega, by show pl.size ≤ _; omega, fun b o e => ⟨(NB.out b o e).1, by injection e with e; injection e with e; omega⟩, q3.more (by omega), q4⟩
end
/-! DrawMach2 -/
section
open Go.RowKit

theorem res_c2 {P : Program} {fn : Func} {p q r : Tmp} {ty : TypeId} (h : fn.results = #[.cell p ty, .tmp q, .tmp r]) (tmps : Array Value) (w : World) (g : Nat) (cs : Array Value) (d : TypeDesc) (hp : tmps.getD p undef = .pointer (some ⟨g, 0, none⟩)) (hg : Blk w g ty cs)
    (hu : P.underlying ty = some d) (hd : (match d with | .struct _ | .array _ _ => true | _ => false) = true) (hi : (P.info? ty).map (·.size) = some cs.size) : (results fn tmps).run P w = .ok (.tuple #[.agg cs, tmps.getD q undef, tmps.getD r undef]) w := by
  have hp' : tmps[p]?.getD undef = .pointer (some ⟨g, 0, none⟩) := by simpa using hp
  simp [results, h, hp', asAddr, run_loadVar_row w g ty ty cs (0, 0) d hg hu hd hi]
theorem res_c3 {P : Program} {fn : Func} {p q r s : Tmp} {ty : TypeId} (h : fn.results = #[.cell p ty, .tmp q, .tmp r, .tmp s]) (tmps : Array Value) (w : World) (g : Nat) (cs : Array Value) (d : TypeDesc) (hp : tmps.getD p undef = .pointer (some ⟨g, 0, none⟩)) (hg : Blk w g ty cs)
    (hu : P.underlying ty = some d) (hd : (match d with | .struct _ | .array _ _ => true | _ => false) = true) (hi : (P.info? ty).map (·.size) = some cs.size) : (results fn tmps).run P w = .ok (.tuple #[.agg cs, tmps.getD q undef, tmps.getD r undef, tmps.getD s undef]) w := by
  have hp' : tmps[p]?.getD undef = .pointer (some ⟨g, 0, none⟩) := by simpa using hp
  simp [results, h, hp', asAddr, run_loadVar_row w g ty ty cs (0, 0) d hg hu hd hi]
/-- the sizes of a machine that is drawn -/
def MSm (M : Mch) : Prop := M.rf.size ≤ 1001 ∧ M.rg.size ≤ 1001 ∧ M.pl.size ≤ 1001
theorem MSm.sz {M : Mch} (h : MSm M) : MSz M := by obtain ⟨a, b, c⟩ := h; exact ⟨by omega, by omega, by omega⟩
/-- the machine is laid into its variable, block b -/
theorem fin9 {w W : World} {b c : Nat} {tc : TypeId} {A : Option Addr} {M : Mch} {zs : Array Value} (hk : Blk W b tc zs) (hR : IsRots W (.slice A M.l.length c) M.l) (hne : ∀ b' o, A = some ⟨b', o, none⟩ → b' ≠ b) (hb : Below w.heap.size w W) (hw : w.heap.size ≤ b) :
    Blk (W.setRow b (mCells A c M)) b tc (mCells A c M) ∧ IsRots (W.setRow b (mCells A c M)) (.slice A M.l.length c) M.l ∧ Below w.heap.size w (W.setRow b (mCells A c M)) :=
  ⟨hk.setRow _, hR.grownR (grow_row _ _ _) hne, below_row hb hw _⟩
end
/-! DrawMach4 -/
section
open Go.RowKit

theorem res_c1 {P : Program} {fn : Func} {p q : Tmp} {ty : TypeId} (h : fn.results = #[.cell p ty, .tmp q]) (tmps : Array Value) (w : World) (g : Nat) (cs : Array Value) (d : TypeDesc) (hp : tmps.getD p undef = .pointer (some ⟨g, 0, none⟩)) (hg : Blk w g ty cs)
    (hu : P.underlying ty = some d) (hd : (match d with | .struct _ | .array _ _ => true | _ => false) = true) (hi : (P.info? ty).map (·.size) = some cs.size) : (results fn tmps).run P w = .ok (.tuple #[.agg cs, tmps.getD q undef]) w := by
  have hp' : tmps[p]?.getD undef = .pointer (some ⟨g, 0, none⟩) := by simpa using hp
  simp [results, h, hp', asAddr, run_loadVar_row w g ty ty cs (0, 0) d hg hu hd hi]
theorem c_l8Off1 (g P : Nat) (s : ByteArray) (w : World) (hr : Rd w g P) (hP : P + 10 ≤ 1000000) (hs1 : 1 ≤ s.size) (hs : s.size ≤ 1000) :
    Calls Try.prog 101 #[.pointer (some ⟨g, 0, none⟩), .string s] w fun e w' => ∃ t : ByteArray, e = .returned (.string t) ∧ 1 ≤ t.size ∧ t.size ≤ s.size + 1 ∧ Rd w' g (P + 1) ∧ w.grownBy w' (some g) := by
  have HR := Lib.hid hr
  clear hr
  go_enter Try.func101, Try.ntmps101
  go_wp2_with fail
  refine (c_pick g P _ _ HR.out (by omega) (by omega) (by omega)).mono ?_
  rintro e w1 ⟨q, rfl, hq, hr1, hg1⟩
  have R1 := Lib.hid hr1
  have G1 := Lib.hid hg1
  clear hr1 hg1
  by_cases q0 : q = 0
  · have t0 : ((q : Int) == 0) = true := by simp [q0]
    clear q0
    go_wp2_with fail
    go_ret
    exact ⟨_, rfl, by rw [ByteArray.size_append]; omega, by rw [ByteArray.size_append]; show s.size + 1 ≤ _; omega, R1.out, G1.out⟩
  · have t0 : ((q : Int) == 0) = false := by simp [q0]
    by_cases q1 : q = 1
    · have t1 : ((q : Int) == 1) = true := by simp [q1]
      have z1 := xsize s (a := 1) (b := s.size) (Nat.le_refl _)
      have i1 : (1 : Int) ≤ (s.size : Int) := by omega
      clear q0 q1
      go_wp2_with fail
      go_ret
      exact ⟨_, rfl, by rw [ByteArray.size_append, z1]; show 1 ≤ s.size - 1 + 1; omega, by rw [ByteArray.size_append, z1]; show s.size - 1 + 1 ≤ _; omega, R1.out, G1.out⟩
    · have t1 : ((q : Int) == 1) = false := by rw [beq_eq_false_iff_ne]; omega
      clear q0 q1
      go_wp2_with fail
      go_ret
      exact ⟨_, rfl, by omega, by omega, R1.out, G1.out⟩
set_option maxHeartbeats 1000000 in
set_option maxRecDepth 100000 in
theorem c_DrawKeyPerms (A0 : Option Addr) (n c : Nat) (w : World) (hc : Code_ w A0 n c) :
    Calls Try.prog 48 #[.slice A0 n c] w fun e w' => ∃ (A : Option Addr) (cA : Nat) (M : Mch) (s : ByteArray) (x : Int), e = .returned (.tuple #[mV A cA M, .string s, .int .i64 x]) ∧ IsRots w' (.slice A M.l.length cA) M.l ∧ (∀ b o, A = some ⟨b, o, none⟩ → w.heap.size ≤ b) ∧ MSm M ∧ 1 ≤ s.size ∧ s.size ≤ 1001 ∧ -1 ≤ x ∧ x ≤ 9223372036854775807 ∧ Below w.heap.size w w' := by
  have HC := Lib.hid (hc.ext (ext_alloc w (.cells #[.slice none 0 0, .string ByteArray.empty, .string ByteArray.empty, .string ByteArray.empty] 33)))
  clear hc
  go_enter Try.func48, Try.ntmps48
  go_wp2_with fail
  refine (c_l21Open A0 n c _ HC.out.1 HC.out.2.1 HC.out.2.2).mono ?_
  rintro e w1 ⟨g, rfl, hg, hr1, hb1⟩
  have hg' : w.heap.size + 1 ≤ g := by simpa using hg
  have K1 := Lib.hid ((Blk.new w 33 #[.slice none 0 0, .string ByteArray.empty, .string ByteArray.empty, .string ByteArray.empty]).ext hb1)
  have BL1 := Lib.hid ((ext_alloc w (.cells #[.slice none 0 0, .string ByteArray.empty, .string ByteArray.empty, .string ByteArray.empty] 33)).trans (hb1.mono (by simp)))
  have R1 := Lib.hid hr1
  have hgl1 := hr1.1
  clear hg hr1 hb1 HC
  go_wp2_with fail
  refine (c_l8Any g 0 _ R1.out (by omega)).mono ?_
  rintro e w2 ⟨vR, rf, s, rg, pl, m, f, rfl, hrf, hrg, hpl, hm1, hm3, hs, ho, hok, hr2, hg2⟩
  obtain ⟨gR, cR, rfl, hgR1, hgR2⟩ := ho.at0 (by omega)
  have K2 := Lib.hid ((K1.out.grown hg2 (by simp; omega)).alloc (.cells #[.slice (some ⟨gR, 0, none⟩) m cR, .string rf, .string rg, .string pl] 33))
  have KB := Lib.hid (Blk.new w2 33 #[.slice (some ⟨gR, 0, none⟩) m cR, .string rf, .string rg, .string pl])
  have O2 : Hid (OwnR (w2.alloc (.cells #[.slice (some ⟨gR, 0, none⟩) m cR, .string rf, .string rg, .string pl] 33)) (w1.heap.size + 1) (.slice (some ⟨gR, 0, none⟩) m cR) m f) := ho.ext (ext_alloc _ _)
  have R2 := Lib.hid (hr2.ext (ext_alloc w2 (.cells #[.slice (some ⟨gR, 0, none⟩) m cR, .string rf, .string rg, .string pl] 33)))
  have G2 := Lib.hid (grow_alloc hg2 (.cells #[.slice (some ⟨gR, 0, none⟩) m cR, .string rf, .string rg, .string pl] 33))
  have HOK := Lib.hid hok
  have hl2 : w1.heap.size + 1 ≤ w2.heap.size := by omega
  have hz2 : (w2.alloc (.cells #[.slice (some ⟨gR, 0, none⟩) m cR, .string rf, .string rg, .string pl] 33)).heap.size = w2.heap.size + 1 := by simp
  have HZ2 := Lib.hid hz2
  have hs1 : 1 ≤ s.size := by omega
  have hs3 : s.size ≤ 3 := by omega
  have hrg1 : 1 ≤ rg.size := by omega
  have hrg3 : rg.size ≤ 3 := by omega
  have hrf1 : rf.size ≤ 10 := by omega
  have hpl1 : pl.size ≤ 10 := by omega
  clear hr2 hg2 ho hok hz2 R1 hs hrg hrf hpl
  go_upto_region 3 with fail
  generalize w2.alloc (.cells #[.slice (some ⟨gR, 0, none⟩) m cR, .string rf, .string rg, .string pl] 33) = W2 at *
  go_wp2_with fail
  refine (c_pick g (0 + 300) _ _ R2.out (by omega) (by omega) (by omega)).mono ?_
  rintro e w3 ⟨q0, rfl, hq0, hr3, hg3⟩
  have R3 := Lib.hid hr3
  have G3 := Lib.hid hg3
  have hq0' : q0 ≤ 1000 := by omega
  clear hr3 hg3 hq0
  go_wp2_with fail
  refine (c_pick g (0 + 300 + 1) _ _ R3.out (by omega) (by omega) (by omega)).mono ?_
  rintro e w4 ⟨q, rfl, hq, hr4, hg4⟩
  have R4 := Lib.hid hr4
  have G4 := Lib.hid (G3.out.trans hg4)
  clear hr4 hg4 R3 G3
  by_cases hqq : q = 0
  all_goals
    first
      | (have tq : ((q : Int) == 0) = true := by simp [hqq]
         clear hqq
         go_wp2_with fail
         refine (c_numL g (0 + 300 + 1 + 1) [60, 61, -1, 9223372036854775807] _ _ _ _ rfl rfl R4.out (by omega) (by decide) (by decide)).mono ?_
         rintro e w5 ⟨x, rfl, hx, hr5, hg5⟩
         have hx' : -1 ≤ x ∧ x ≤ 9223372036854775807 := (show ∀ x ∈ ([60, 61, -1, 9223372036854775807] : List Int), -1 ≤ x ∧ x ≤ 9223372036854775807 by decide) x hx
         obtain ⟨hx0, hx1⟩ := hx'
         have R5 := Lib.hid (hr5.more (show 0 + 300 + 1 + 1 + 1 ≤ 400 by omega))
         have G5 := Lib.hid (G4.out.trans hg5)
         clear hr5 hg5 R4 G4 tq hx)
      | (have tq : ((q : Int) == 0) = false := by simp [hqq]
         obtain ⟨x, hxx⟩ : ∃ x : Int, (q0 : Int) = x := ⟨_, rfl⟩
         obtain ⟨w5, hw5⟩ : ∃ w5, w5 = w4 := ⟨_, rfl⟩
         have hx0 : -1 ≤ x := by omega
         have hx1 : x ≤ 9223372036854775807 := by omega
         subst hw5
         rw [hxx]
         clear hxx
         have R5 := Lib.hid (R4.out.more (show 0 + 300 + 1 + 1 ≤ 400 by omega))
         have G5 := Lib.hid G4.out
         clear R4 G4 hqq)
    have K5 := Lib.hid (K2.out.grown G5.out (by simp; omega))
    have KB5 := Lib.hid (KB.out.grown G5.out (by simp; omega))
    have O5 := Lib.hid (O2.out.keptB G5.out (by omega))
    have G25 := Lib.hid (G2.out.trans G5.out)
    have hz5 : w2.heap.size + 1 ≤ w5.heap.size := by have := G5.out.size; have := HZ2.out; omega
    clear K2 KB O2 G2 G5 HZ2 R2
    have x0 := KB5.out.cell 0
    have x1 := KB5.out.cell 1
    have x2 := KB5.out.cell 2
    have x3 := KB5.out.cell 3
    go_wp2_with fail
    refine (c_l8Bad g (400) (w1.heap.size + 1) m _ rf rg pl f w1 _ R5.out (by omega) (by omega) G25.out hgl1 (by omega) O5.out HOK.out hm1 hm3 (by omega) (by omega) (by omega) (by omega)).mono ?_
    rintro e w6 ⟨A, cA, M, rfl, hR6, m1, m2, m3, hne, hr6, hg6⟩
    have HR6 := Lib.hid hR6
    have HNE := Lib.hid hne
    have HM : Hid (MSm M) := ⟨m1, m2, m3⟩
    have R6 := Lib.hid hr6
    have G6 := Lib.hid hg6
    clear hR6 hne m1 m2 m3 hr6 hg6 x0 x1 x2 x3 KB5 O5 G25 R5
    go_wp2_with fail
    refine (c_l8Off1 g (400 + 30) s _ R6.out (by omega) (by omega) (by omega)).mono ?_
    rintro e w7 ⟨s', rfl, hs1', hs', hr7, hg7⟩
    have K7 := Lib.hid ((K1.out.grown G6.out (by simp; omega)).grown hg7 (by simp; omega))
    have HF := Lib.hid (fin9 (A := A) (c := cA) (M := M) K7.out (HR6.out.grownR hg7 (fun b o e => (HNE.out b o e).1)) (fun b o e => by have := (HNE.out b o e).2; have := BL1.out.size; omega) (below_of_grown BL1.out (G6.out.trans hg7) (by omega)) (Nat.le_refl _))
    clear hr7 hg7
    go_wp2_with (refine wpList_store_row rfl 33 _ _ rfl w.heap.size _ rfl rfl 33 _ K7.out infoM rfl (by simp [Value.oneCell']) ?_)
    obtain ⟨q1, q2, q3⟩ := HF.out
    refine bodyPost_ret (res_c2 Try.results48 _ _ w.heap.size _ _ rfl q1 Try.underlying33 rfl infoM) rfl ⟨A, cA, M, s', x, rfl, q2, fun b o e => by have := (HNE.out b o e).2; have := BL1.out.size; omega, HM.out, hs1', by omega, hx0, hx1, q3⟩
end
end Go.Proofs.Ytnfeddnkokocfaa
