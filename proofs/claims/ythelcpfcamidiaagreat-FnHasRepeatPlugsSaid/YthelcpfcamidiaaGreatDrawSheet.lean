/- Contract of DrawSheetRow. -/
import Derived.Test.YthelcpfcamidiaaGreatDrawM
import Derived.Test.YthelcpfcamidiaaGreatQT
namespace Go.Proofs.YthelcpfcamidiaaGreat
set_option linter.unusedVariables false
set_option linter.unusedSimpArgs false
open Go.RowKit
attribute [local go_sem] Ext.cell
open BigFrame
theorem set4M {w W : World} {b cA : Nat} {tc : TypeId} {A : Option Addr} {M : Mch} {z0 z1 z2 z3 : Value} (hk : Blk W b tc #[z0, z1, z2, z3]) (hR : IsRots W (.slice A M.l.length cA) M.l) (hne : ∀ b' o, A = some ⟨b', o, none⟩ → b' ≠ b) (hb : Below w.heap.size w W) (hw : w.heap.size ≤ b) :
    Blk ((((W.setCell ⟨b, 0, none⟩ (.slice A M.l.length cA)).setCell ⟨b, 1, none⟩ (.string M.rf)).setCell ⟨b, 2, none⟩ (.string M.rg)).setCell ⟨b, 3, none⟩ (.string M.pl)) b tc (mCells A cA M) ∧ IsRots ((((W.setCell ⟨b, 0, none⟩ (.slice A M.l.length cA)).setCell ⟨b, 1, none⟩ (.string M.rf)).setCell ⟨b, 2, none⟩ (.string M.rg)).setCell ⟨b, 3, none⟩ (.string M.pl)) (.slice A M.l.length cA) M.l ∧ Below w.heap.size w ((((W.setCell ⟨b, 0, none⟩ (.slice A M.l.length cA)).setCell ⟨b, 1, none⟩ (.string M.rf)).setCell ⟨b, 2, none⟩ (.string M.rg)).setCell ⟨b, 3, none⟩ (.string M.pl)) := by
  have h1 : Blk _ b tc #[.slice A M.l.length cA, z1, z2, z3] := hk.set 0 (.slice A M.l.length cA)
  have h2 : Blk _ b tc #[.slice A M.l.length cA, .string M.rf, z2, z3] := h1.set 1 (.string M.rf)
  have h3 : Blk _ b tc #[.slice A M.l.length cA, .string M.rf, .string M.rg, z3] := h2.set 2 (.string M.rg)
  have h4 : Blk _ b tc #[.slice A M.l.length cA, .string M.rf, .string M.rg, .string M.pl] := h3.set 3 (.string M.pl)
  have g4 := grow_set (grow_set (grow_set (grow_cell W ⟨b, 0, none⟩ (.slice A M.l.length cA)) (p := ⟨b, 1, none⟩) (.inl rfl) (.string M.rf)) (p := ⟨b, 2, none⟩) (.inl rfl) (.string M.rg)) (p := ⟨b, 3, none⟩) (.inl rfl) (.string M.pl)
  exact ⟨h4, hR.grownR g4 hne, below_of_grown hb g4 hw⟩
theorem drewM {w W : World} {b cA : Nat} {tc : TypeId} {A : Option Addr} {M : Mch} (h : Blk W b tc (mCells A cA M) ∧ IsRots W (.slice A M.l.length cA) M.l ∧ Below w.heap.size w W) : Blk W.drew b tc (mCells A cA M) ∧ IsRots W.drew (.slice A M.l.length cA) M.l ∧ Below w.heap.size w W.drew :=
  ⟨h.1, h.2.1.ext (Below.refl _ _).drew, h.2.2.drew⟩
set_option maxHeartbeats 1000000 in
set_option maxRecDepth 100000 in
theorem c_DrawSheetRow (A0 : Option Addr) (n c : Nat) (w : World) (hc : Code_ w A0 n c) :
    Calls Tryz.prog 9 #[.slice A0 n c] w fun e w' => ∃ (A : Option Addr) (cA : Nat) (M : Mch) (s : ByteArray) (x : Int), e = .returned (.tuple #[mV A cA M, .string s, .int .i64 x]) ∧ IsRots w' (.slice A M.l.length cA) M.l ∧ MSm M ∧ s.size ≤ 1001 ∧ -1 ≤ x ∧ x ≤ 9223372036854775807 ∧ Below w.heap.size w w' := by
  have HC := Lib.hid (hc.ext (ext_alloc w (.cells #[.slice none 0 0, .string ⟨#[]⟩, .string ⟨#[]⟩, .string ⟨#[]⟩] 27)))
  have K0 := Lib.hid (Blk.new w 27 #[.slice none 0 0, .string ⟨#[]⟩, .string ⟨#[]⟩, .string ⟨#[]⟩])
  have B0 := Lib.hid (ext_alloc w (.cells #[.slice none 0 0, .string ⟨#[]⟩, .string ⟨#[]⟩, .string ⟨#[]⟩] 27))
  have hz0 : (w.alloc (.cells #[.slice none 0 0, .string ⟨#[]⟩, .string ⟨#[]⟩, .string ⟨#[]⟩] 27)).heap.size = w.heap.size + 1 := by simp
  have HZ0 := Lib.hid hz0
  clear hc hz0
  go_enter Tryz.func9, Tryz.ntmps9
  go_wp2_with fail
  refine (c_DrawHasRepeat A0 n c _ HC.out).mono ?_
  rintro e w1 ⟨A, cA, M, s, x, rfl, hR, hA, hM, hs1, hs, hx1, hx2, hb1⟩
  rw [HZ0.out] at hA
  have K1 := Lib.hid ((K0.out.ext hb1).alloc (.cells #[.slice A M.l.length cA, .string M.rf, .string M.rg, .string M.pl] 27))
  have L1 := Lib.hid (MW.start M (ext_trans B0.out hb1) hR)
  have HA := Lib.hid hA
  have HM := Lib.hid hM
  have x0 := L1.out.c0
  have x1 := L1.out.c1
  have x2 := L1.out.c2
  have x3 := L1.out.c3
  have hlw := L1.out.lt
  have i1 : (1 : Int) ≤ (s.size : Int) := by omega
  have i2 : 1 ≤ s.size := hs1
  have hz1 := xsize s (a := 1) (b := s.size) (Nat.le_refl _)
  have hw1 : w.heap.size < w1.heap.size := by have := hb1.size; rw [HZ0.out] at this; omega
  clear hR hA hM hb1 HC K0 B0 HZ0
  go_wp2_with fail
  generalize (w1.alloc (.cells #[.slice A M.l.length cA, .string M.rf, .string M.rg, .string M.pl] 27)) = W1 at *
  have y0 := K1.out.cell 0
  have y1 := K1.out.cell 1
  have y2 := K1.out.cell 2
  have y3 := K1.out.cell 3
  have f0 := K1.out.free 0
  have f1 := K1.out.free 1
  have f2 := K1.out.free 2
  have f3 := K1.out.free 3
  have HFF := Lib.hid (drewM (set4M (A := A) (cA := cA) (M := M) K1.out L1.out.rot (fun b o e => by have := HA.out b o e; omega) L1.out.bel (Nat.le_refl _)))
  clear K1 L1 HA hlw
  go_region
  obtain ⟨q1, q2, q3⟩ := HFF.out
  go_wp2_with fail
  exact bodyPost_ret (res_c2 Tryz.results9 _ _ w.heap.size _ _ rfl q1 Tryz.underlying27 rfl infoM) rfl ⟨A, cA, M, _, x, rfl, q2, HM.out, by omega, hx1, hx2, q3⟩
end Go.Proofs.YthelcpfcamidiaaGreat
