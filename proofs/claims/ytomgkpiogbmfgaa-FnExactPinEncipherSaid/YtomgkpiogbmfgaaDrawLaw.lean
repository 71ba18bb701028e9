/- Contracts of l15Open, DrawPinKey, DrawPinEncipher. -/
import Derived.Test.YtomgkpiogbmfgaaDrawBad
namespace Go.Proofs.Ytomgkpiogbmfgaa
open Go.RowKit

theorem sliceS {w : World} {B : Nat} {e : TypeId} {v : Value} {l : List ByteArray} (h : Own w B e v (l.map Value.string)) : ∃ A c, v = .slice A l.length c := by
  obtain ⟨A, c, h⟩ := h.slice; exact ⟨A, c, by rw [h]; simp⟩
theorem sliceI {w : World} {B : Nat} {e : TypeId} {v : Value} {l : List Int} (h : Own w B e v (l.map (Value.int .i64))) : ∃ A c, v = .slice A l.length c := by
  obtain ⟨A, c, h⟩ := h.slice; exact ⟨A, c, by rw [h]; simp⟩
/-- what is older than block b is kept by a store into b -/
theorem below_set {a w : World} {b j : Nat} (h : Below b a w) (u : Value) : Below b a (w.setCell ⟨b, j, none⟩ u) := h.setCell (p := ⟨b, j, none⟩) (Nat.le_refl _) u

set_option maxHeartbeats 400000 in
theorem c_l15Open (g P : Nat) (w : World) (hr : Rd w g P) (hP : P + 400 ≤ 1000000) :
    Calls Try.prog 30 #[.pointer (some ⟨g, 0, none⟩)] w fun e w' => ∃ (vW vB vP : Value) (ws : List ByteArray) (bs ps : List Int), e = .returned (.tuple #[.agg #[vW, vB], vP]) ∧
      IsStrs w' vW ws ∧ IsInts w' vB bs ∧ IsInts w' vP ps ∧ vW.ownBlock ≠ some g ∧ vB.ownBlock ≠ some g ∧ vP.ownBlock ≠ some g ∧ Rd w' g (P + 200) ∧ w.grownBy w' (some g) := by
  have HR := Lib.hid hr
  have hgl := hr.1
  clear hr
  go_enter Try.func30, Try.ntmps30
  go_wp2_with fail
  refine (c_l15Some g P _ (HR.out.ext (ext_alloc _ _)) (by omega)).mono ?_
  rintro e w1 ⟨vW, vB, vP, ws, bs, ps, rfl, oW, oB, oP, hne, l1, l2, l3, l4, l5, l6, hr1, hg1⟩
  obtain ⟨AW, cW, hvW⟩ := sliceS oW
  obtain ⟨AB, cB, hvB⟩ := sliceI oB
  have K := Lib.hid ((Blk.new w 26 #[.slice none 0 0, .slice none 0 0]).grown hg1 (by simp; omega))
  have OW := Lib.hid oW
  have OB := Lib.hid oB
  have OP := Lib.hid oP
  have NE := Lib.hid hne
  have R1 := Lib.hid hr1
  have G1 := Lib.hid hg1
  have L5 := Lib.hid l5
  have L6 := Lib.hid l6
  subst hvW hvB
  have OWA := Lib.hid (OW.out.lower (B' := w.heap.size + 1) (by simp))
  have OBA := Lib.hid (OB.out.lower (B' := w.heap.size + 1) (by simp))
  have OPA := Lib.hid (OP.out.lower (B' := w.heap.size + 1) (by simp))
  clear oW oB oP hne hr1 hg1 l5 l6
  go_wp2_with fail
  refine (c_l15Bad g (P + 100) (w.heap.size + 1) _ _ _ ws bs ps (w.alloc (.cells #[.slice none 0 0, .slice none 0 0] 26)) _ (R1.out.ext (ext_alloc _ _)) (by omega) (by simp) (grow_alloc G1.out _) (by simp; omega) (by have := G1.out.size; simp at this ⊢; omega) (OWA.out.alloc _) (OBA.out.alloc _) (OPA.out.alloc _) NE.out l1 l2 l3 l4 L5.out L6.out).mono ?_
  rintro e w2 ⟨vW2, vB2, vP2, ws2, bs2, ps2, rfl, iW, iB, iP, n1, n2, n3, hr2, hg2⟩
  obtain ⟨AW2, cW2, hvW2⟩ := iW.form
  obtain ⟨AB2, cB2, hvB2⟩ := iB.form
  subst hvW2 hvB2
  have N1 := Lib.hid n1
  have N2 := Lib.hid n2
  have N3 := Lib.hid n3
  clear n1 n2 n3
  have K2 := (Blk.new w 26 #[.slice none 0 0, .slice none 0 0]).grown hg2 (by simp; omega)
  have K3 := Lib.hid ((K2.set 0 (.slice AW2 ws2.length cW2)).set 1 (.slice AB2 bs2.length cB2))
  have x0 : w2.cell? ⟨w.heap.size, 0, none⟩ = some (.slice none 0 0) := K2.cell 0
  have x1 : w2.cell? ⟨w.heap.size, 1, none⟩ = some (.slice none 0 0) := K2.cell 1
  have y0 := K2.free 0
  have y1 := K2.free 1
  have K2a := K2.set 0 (.slice AW2 ws2.length cW2)
  have IW := Lib.hid ((iW.setBox (j := 0) K2 (.slice AW2 ws2.length cW2)).setBox (j := 1) K2a (.slice AB2 bs2.length cB2))
  have IB := Lib.hid ((iB.setBox (j := 0) K2 (.slice AW2 ws2.length cW2)).setBox (j := 1) K2a (.slice AB2 bs2.length cB2))
  have IP := Lib.hid ((iP.setBox (j := 0) K2 (.slice AW2 ws2.length cW2)).setBox (j := 1) K2a (.slice AB2 bs2.length cB2))
  have R2 := Lib.hid ((hr2.setFar (p := ⟨w.heap.size, 0, none⟩) hgl (.slice AW2 ws2.length cW2)).setFar (p := ⟨w.heap.size, 1, none⟩) hgl (.slice AB2 bs2.length cB2))
  have G2 := Lib.hid (grow_new (p := ⟨w.heap.size, 1, none⟩) (grow_new (p := ⟨w.heap.size, 0, none⟩) ((grow_alloc (World.grownBy.refl w (some g)) _).trans hg2) (by simp) (.slice AW2 ws2.length cW2)) (by simp) (.slice AB2 bs2.length cB2))
  clear iW iB iP hr2 hg2 K2 K2a K OW OB OP OWA OBA OPA R1 G1
  go_wp2_with fail
  have q0 := K3.out.cell 0
  have q1 := K3.out.cell 1
  have i1 := IW.out
  have i2 := IB.out
  have i3 := IP.out
  have i4 := R2.out
  have i5 := G2.out
  generalize (w2.setCell ⟨w.heap.size, 0, none⟩ (.slice AW2 ws2.length cW2)).setCell ⟨w.heap.size, 1, none⟩ (.slice AB2 bs2.length cB2) = WF at *
  refine bodyPost_ret (v := .tuple #[.agg #[.slice AW2 ws2.length cW2, .slice AB2 bs2.length cB2], vP2]) (by simp [results, Try.results30, go_sem, q0, q1]) rfl
    ⟨_, _, _, ws2, bs2, ps2, rfl, i1, i2, i3, N1.out, N2.out, N3.out, i4.more (by omega), i5⟩

/-- the bytes of an argument -/
def Code_ (w : World) (A : Option Addr) (n c : Nat) : Prop := n ≤ 140737488355328 ∧ n ≤ c ∧ ∀ k, k < n → ∃ b o x, A = some ⟨b, o, none⟩ ∧ b < w.heap.size ∧ w.cell? ⟨b, o + k, none⟩ = some (.int .u8 x) ∧ 0 ≤ x ∧ x ≤ 255
theorem Code_.ext {w w' : World} {A : Option Addr} {n c : Nat} (h : Code_ w A n c) (hb : Below w.heap.size w w') : Code_ w' A n c := by
  refine ⟨h.1, h.2.1, fun k hk => ?_⟩
  obtain ⟨b, o, x, e, hlt, hc, hx⟩ := h.2.2 k hk
  exact ⟨b, o, x, e, Nat.lt_of_lt_of_le hlt hb.size, (hb.cell (p := ⟨b, o + k, none⟩) hlt).trans hc, hx⟩
/-- what was there before the source is as it was -/
theorem below_of_grown {w a w' : World} {g : Nat} (hb : Below w.heap.size w a) (hg : a.grownBy w' (some g)) (hw : w.heap.size ≤ g) : Below w.heap.size w w' :=
  hb.grown hg hb.size (fun k hk => by injection hk with hk; omega)

/-- the results of a draw laid into their variable -/
theorem draw_fin {w w1 W : World} {g : Nat} {tc : TypeId} {A1 A2 : Option Addr} {c1 c2 : Nat} {vP : Value} {ws : List ByteArray} {bs ps : List Int} (hb : Below w.heap.size w w1) (hg : w1.grownBy W (some g)) (hw : w.heap.size ≤ g)
    (hk : Blk W w.heap.size tc #[.slice none 0 0, .slice none 0 0]) (iW : IsStrs W (.slice A1 ws.length c1) ws) (iB : IsInts W (.slice A2 bs.length c2) bs) (iP : IsInts W vP ps) :
    ((W.setCell ⟨w.heap.size, 0, none⟩ (.slice A1 ws.length c1)).setCell ⟨w.heap.size, 1, none⟩ (.slice A2 bs.length c2)).cell? ⟨w.heap.size, 0, none⟩ = some (.slice A1 ws.length c1) ∧
    ((W.setCell ⟨w.heap.size, 0, none⟩ (.slice A1 ws.length c1)).setCell ⟨w.heap.size, 1, none⟩ (.slice A2 bs.length c2)).cell? ⟨w.heap.size, 1, none⟩ = some (.slice A2 bs.length c2) ∧
    IsStrs ((W.setCell ⟨w.heap.size, 0, none⟩ (.slice A1 ws.length c1)).setCell ⟨w.heap.size, 1, none⟩ (.slice A2 bs.length c2)) (.slice A1 ws.length c1) ws ∧
    IsInts ((W.setCell ⟨w.heap.size, 0, none⟩ (.slice A1 ws.length c1)).setCell ⟨w.heap.size, 1, none⟩ (.slice A2 bs.length c2)) (.slice A2 bs.length c2) bs ∧
    IsInts ((W.setCell ⟨w.heap.size, 0, none⟩ (.slice A1 ws.length c1)).setCell ⟨w.heap.size, 1, none⟩ (.slice A2 bs.length c2)) vP ps ∧
    Below w.heap.size w ((W.setCell ⟨w.heap.size, 0, none⟩ (.slice A1 ws.length c1)).setCell ⟨w.heap.size, 1, none⟩ (.slice A2 bs.length c2)) := by
  have k1 := hk.set 0 (.slice A1 ws.length c1)
  have k2 := k1.set 1 (.slice A2 bs.length c2)
  exact ⟨k2.cell 0, k2.cell 1, (iW.setBox hk _).setBox k1 _, (iB.setBox hk _).setBox k1 _, (iP.setBox hk _).setBox k1 _, below_set (below_set (below_of_grown hb hg hw) _) _⟩

set_option maxHeartbeats 400000 in
theorem c_DrawPinEncipher (A : Option Addr) (n c : Nat) (w : World) (hc : Code_ w A n c) :
    Calls Try.prog 24 #[.slice A n c] w fun e w' => ∃ (vW vB vP : Value) (ws : List ByteArray) (bs ps : List Int) (s : ByteArray), e = .returned (.tuple #[.agg #[vW, vB], vP, .string s]) ∧
      IsStrs w' vW ws ∧ IsInts w' vB bs ∧ IsInts w' vP ps ∧ s.size ≤ 1000000 ∧ Below w.heap.size w w' := by
  have HC := Lib.hid (hc.ext (ext_alloc w (.cells #[.slice none 0 0, .slice none 0 0] 26)))
  clear hc
  go_enter Try.func24, Try.ntmps24
  go_wp2_with fail
  refine (c_l21Open A n c _ HC.out.1 HC.out.2.1 HC.out.2.2).mono ?_
  rintro e w1 ⟨g, rfl, hg, hr1, hb1⟩
  have hg' : w.heap.size + 1 ≤ g := by simpa using hg
  have K1 := Lib.hid ((Blk.new w 26 #[.slice none 0 0, .slice none 0 0]).ext hb1)
  have BL1 := Lib.hid ((ext_alloc w (.cells #[.slice none 0 0, .slice none 0 0] 26)).trans (hb1.mono (by simp)))
  have R1 := Lib.hid hr1
  have hgl1 := hr1.1
  clear hg hr1 hb1
  go_wp2_with fail
  refine (c_l15Open g 0 _ R1.out (by omega)).mono ?_
  rintro e w2 ⟨vW, vB, vP, ws, bs, ps, rfl, iW, iB, iP, n1, n2, n3, hr2, hg2⟩
  obtain ⟨AW, cW, hvW⟩ := iW.form
  obtain ⟨AB, cB, hvB⟩ := iB.form
  subst hvW hvB
  have N1 := Lib.hid n1
  have N2 := Lib.hid n2
  have N3 := Lib.hid n3
  have IW2 := Lib.hid (iW.ext (ext_alloc _ (.cells #[.slice AW ws.length cW, .slice AB bs.length cB] 26)))
  have IB2 := Lib.hid (iB.ext (ext_alloc _ (.cells #[.slice AW ws.length cW, .slice AB bs.length cB] 26)))
  have IP2 := Lib.hid (iP.ext (ext_alloc _ (.cells #[.slice AW ws.length cW, .slice AB bs.length cB] 26)))
  have R2 := Lib.hid (hr2.ext (ext_alloc _ (.cells #[.slice AW ws.length cW, .slice AB bs.length cB] 26)))
  have hz2 : w1.heap.size ≤ w2.heap.size := hg2.size
  have G2 := Lib.hid (grow_alloc hg2 (.cells #[.slice AW ws.length cW, .slice AB bs.length cB] 26))
  have KC := Lib.hid (Blk.new w2 26 #[.slice AW ws.length cW, .slice AB bs.length cB])
  have KR := Lib.hid ((K1.out.grown hg2 (by simp; omega)).alloc (.cells #[.slice AW ws.length cW, .slice AB bs.length cB] 26))
  clear iW iB iP hr2 hg2 n1 n2 n3
  go_wp2_with fail
  refine (c_l1Word g 200 16 _ R2.out (by omega) (by omega)).mono ?_
  rintro e w3 ⟨s, rfl, hs, _, hr3, hg3⟩
  have R3 := Lib.hid hr3
  have G3 := Lib.hid hg3
  clear hr3 hg3
  go_wp2_with fail
  refine (c_pick g (200 + 16 + 1) _ _ R3.out (by omega) (by omega) (by omega)).mono ?_
  rintro e w4 ⟨m, rfl, hm, hr4, hg4⟩
  have R4 := Lib.hid hr4
  have G4 := Lib.hid (G3.out.trans hg4)
  clear hr4 hg4
  by_cases m0 : m = 0
  · have t0 : ((m : Int) == 0) = true := by simp [m0]
    clear m0
    go_wp2_with fail
    refine (c_l1Bad g (200 + 16 + 1 + 1) s _ R4.out (by omega) (by omega)).mono ?_
    rintro e w5 ⟨t, rfl, ht, hr5, hg5⟩
    have GX := Lib.hid (G4.out.trans hg5)
    clear hr5 hg5
    have HF := Lib.hid (draw_fin (w := w) (g := g) BL1.out (G2.out.trans GX.out) (by omega) (KR.out.grown GX.out (by simp; omega)) (IW2.out.grownNe GX.out N1.out) (IB2.out.grownNe GX.out N2.out) (IP2.out.grownNe GX.out N3.out))
    have KCX := KC.out.grown GX.out (by simp; omega)
    have KRX := KR.out.grown GX.out (by simp; omega)
    have c0 := KCX.cell 0
    have c1 := KCX.cell 1
    have r0 := KRX.cell 0
    have r1 := KRX.cell 1
    have s0 := KRX.free 0
    have s1 := KRX.free 1
    simp only [List.getElem?_toArray, List.getElem?_cons_zero, List.getElem?_cons_succ] at c0 c1 r0 r1
    go_wp2_with fail
    have hf := HF.out
    generalize (w5.setCell ⟨w.heap.size, 0, none⟩ (.slice AW ws.length cW)).setCell ⟨w.heap.size, 1, none⟩ (.slice AB bs.length cB) = WF at *
    obtain ⟨f0, f1, f2, f3, f4, f5⟩ := hf
    refine bodyPost_ret (v := .tuple #[.agg #[.slice AW ws.length cW, .slice AB bs.length cB], vP, .string t]) (by simp [results, Try.results24, go_sem, f0, f1]) rfl
      ⟨_, _, _, ws, bs, ps, t, rfl, f2, f3, f4, ht, f5⟩
  · have t0 : ((m : Int) == 0) = false := by simp [m0]
    clear m0
    have GX := G4
    have HF := Lib.hid (draw_fin (w := w) (g := g) BL1.out (G2.out.trans GX.out) (by omega) (KR.out.grown GX.out (by simp; omega)) (IW2.out.grownNe GX.out N1.out) (IB2.out.grownNe GX.out N2.out) (IP2.out.grownNe GX.out N3.out))
    have KCX := KC.out.grown GX.out (by simp; omega)
    have KRX := KR.out.grown GX.out (by simp; omega)
    have c0 := KCX.cell 0
    have c1 := KCX.cell 1
    have r0 := KRX.cell 0
    have r1 := KRX.cell 1
    have s0 := KRX.free 0
    have s1 := KRX.free 1
    simp only [List.getElem?_toArray, List.getElem?_cons_zero, List.getElem?_cons_succ] at c0 c1 r0 r1
    go_wp2_with fail
    have hf := HF.out
    generalize (w4.setCell ⟨w.heap.size, 0, none⟩ (.slice AW ws.length cW)).setCell ⟨w.heap.size, 1, none⟩ (.slice AB bs.length cB) = WF at *
    obtain ⟨f0, f1, f2, f3, f4, f5⟩ := hf
    refine bodyPost_ret (v := .tuple #[.agg #[.slice AW ws.length cW, .slice AB bs.length cB], vP, .string s]) (by simp [results, Try.results24, go_sem, f0, f1]) rfl
      ⟨_, _, _, ws, bs, ps, s, rfl, f2, f3, f4, by omega, f5⟩

set_option maxHeartbeats 400000 in
theorem c_DrawPinKey (A : Option Addr) (n c : Nat) (w : World) (hc : Code_ w A n c) :
    Calls Try.prog 10 #[.slice A n c] w fun e w' => ∃ (vW vB vP : Value) (ws : List ByteArray) (bs ps : List Int) (k : Int), e = .returned (.tuple #[.agg #[vW, vB], vP, .int .i64 k]) ∧
      IsStrs w' vW ws ∧ IsInts w' vB bs ∧ IsInts w' vP ps ∧ Below w.heap.size w w' := by
  have HC := Lib.hid (hc.ext (ext_alloc w (.cells #[.slice none 0 0, .slice none 0 0] 26)))
  clear hc
  go_enter Try.func10, Try.ntmps10
  go_wp2_with fail
  refine (c_l21Open A n c _ HC.out.1 HC.out.2.1 HC.out.2.2).mono ?_
  rintro e w1 ⟨g, rfl, hg, hr1, hb1⟩
  have hg' : w.heap.size + 1 ≤ g := by simpa using hg
  have K1 := Lib.hid ((Blk.new w 26 #[.slice none 0 0, .slice none 0 0]).ext hb1)
  have BL1 := Lib.hid ((ext_alloc w (.cells #[.slice none 0 0, .slice none 0 0] 26)).trans (hb1.mono (by simp)))
  have R1 := Lib.hid hr1
  have hgl1 := hr1.1
  clear hg hr1 hb1
  go_wp2_with fail
  refine (c_l15Open g 0 _ R1.out (by omega)).mono ?_
  rintro e w2 ⟨vW, vB, vP, ws, bs, ps, rfl, iW, iB, iP, n1, n2, n3, hr2, hg2⟩
  obtain ⟨AW, cW, hvW⟩ := iW.form
  obtain ⟨AB, cB, hvB⟩ := iB.form
  subst hvW hvB
  have N1 := Lib.hid n1
  have N2 := Lib.hid n2
  have N3 := Lib.hid n3
  have IW2 := Lib.hid (iW.ext (ext_alloc _ (.cells #[.slice AW ws.length cW, .slice AB bs.length cB] 26)))
  have IB2 := Lib.hid (iB.ext (ext_alloc _ (.cells #[.slice AW ws.length cW, .slice AB bs.length cB] 26)))
  have IP2 := Lib.hid (iP.ext (ext_alloc _ (.cells #[.slice AW ws.length cW, .slice AB bs.length cB] 26)))
  have R2 := Lib.hid (hr2.ext (ext_alloc _ (.cells #[.slice AW ws.length cW, .slice AB bs.length cB] 26)))
  have hz2 : w1.heap.size ≤ w2.heap.size := hg2.size
  have G2 := Lib.hid (grow_alloc hg2 (.cells #[.slice AW ws.length cW, .slice AB bs.length cB] 26))
  have KC := Lib.hid (Blk.new w2 26 #[.slice AW ws.length cW, .slice AB bs.length cB])
  have KR := Lib.hid ((K1.out.grown hg2 (by simp; omega)).alloc (.cells #[.slice AW ws.length cW, .slice AB bs.length cB] 26))
  clear iW iB iP hr2 hg2 n1 n2 n3
  go_wp2_with fail
  refine (c_pick g 200 _ _ R2.out (by omega) (by omega) (by omega)).mono ?_
  rintro e w3 ⟨q, rfl, hq, hr3, hg3⟩
  have R3 := Lib.hid hr3
  have G3 := Lib.hid hg3
  clear hr3 hg3
  go_wp2_with fail
  refine (c_pick g (200 + 1) _ _ R3.out (by omega) (by omega) (by omega)).mono ?_
  rintro e w4 ⟨m, rfl, hm, hr4, hg4⟩
  have R4 := Lib.hid hr4
  have G4 := Lib.hid (G3.out.trans hg4)
  clear hr4 hg4
  by_cases m0 : m = 0
  · have t0 : ((m : Int) == 0) = true := by simp [m0]
    clear m0
    go_wp2_with fail
    refine (c_numL g (200 + 1 + 1) [-1, 200, 201, 9223372036854775807] _ _ _ _ rfl rfl R4.out (by omega) (by simp) (by simp)).mono ?_
    rintro e w5 ⟨t, rfl, ht, hr5, hg5⟩
    have GX := Lib.hid (G4.out.trans hg5)
    clear hr5 hg5 ht
    have HF := Lib.hid (draw_fin (w := w) (g := g) BL1.out (G2.out.trans GX.out) (by omega) (KR.out.grown GX.out (by simp; omega)) (IW2.out.grownNe GX.out N1.out) (IB2.out.grownNe GX.out N2.out) (IP2.out.grownNe GX.out N3.out))
    have KCX := KC.out.grown GX.out (by simp; omega)
    have KRX := KR.out.grown GX.out (by simp; omega)
    have c0 := KCX.cell 0
    have c1 := KCX.cell 1
    have r0 := KRX.cell 0
    have r1 := KRX.cell 1
    have s0 := KRX.free 0
    have s1 := KRX.free 1
    simp only [List.getElem?_toArray, List.getElem?_cons_zero, List.getElem?_cons_succ] at c0 c1 r0 r1
    go_wp2_with fail
    have hf := HF.out
    generalize (w5.setCell ⟨w.heap.size, 0, none⟩ (.slice AW ws.length cW)).setCell ⟨w.heap.size, 1, none⟩ (.slice AB bs.length cB) = WF at *
    obtain ⟨f0, f1, f2, f3, f4, f5⟩ := hf
    refine bodyPost_ret (v := .tuple #[.agg #[.slice AW ws.length cW, .slice AB bs.length cB], vP, .int .i64 t]) (by simp [results, Try.results10, go_sem, f0, f1]) rfl
      ⟨_, _, _, ws, bs, ps, t, rfl, f2, f3, f4, f5⟩
  · have t0 : ((m : Int) == 0) = false := by simp [m0]
    clear m0
    have GX := G4
    have HF := Lib.hid (draw_fin (w := w) (g := g) BL1.out (G2.out.trans GX.out) (by omega) (KR.out.grown GX.out (by simp; omega)) (IW2.out.grownNe GX.out N1.out) (IB2.out.grownNe GX.out N2.out) (IP2.out.grownNe GX.out N3.out))
    have KCX := KC.out.grown GX.out (by simp; omega)
    have KRX := KR.out.grown GX.out (by simp; omega)
    have c0 := KCX.cell 0
    have c1 := KCX.cell 1
    have r0 := KRX.cell 0
    have r1 := KRX.cell 1
    have s0 := KRX.free 0
    have s1 := KRX.free 1
    simp only [List.getElem?_toArray, List.getElem?_cons_zero, List.getElem?_cons_succ] at c0 c1 r0 r1
    go_wp2_with fail
    have hf := HF.out
    generalize (w4.setCell ⟨w.heap.size, 0, none⟩ (.slice AW ws.length cW)).setCell ⟨w.heap.size, 1, none⟩ (.slice AB bs.length cB) = WF at *
    obtain ⟨f0, f1, f2, f3, f4, f5⟩ := hf
    refine bodyPost_ret (v := .tuple #[.agg #[.slice AW ws.length cW, .slice AB bs.length cB], vP, .int .i64 (q : Int)]) (by simp [results, Try.results10, go_sem, f0, f1]) rfl
      ⟨_, _, _, ws, bs, ps, q, rfl, f2, f3, f4, f5⟩
end Go.Proofs.Ytomgkpiogbmfgaa
