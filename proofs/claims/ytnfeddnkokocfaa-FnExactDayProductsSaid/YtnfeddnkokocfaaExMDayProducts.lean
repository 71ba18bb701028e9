/- The walk of the law FnExactDayProducts. -/
import Derived.Test.YtnfeddnkokocfaaExMark
import Derived.Test.YtnfeddnkokocfaaOpenMach
import Derived.Test.YtnfeddnkokocfaaSpecRep
import Derived.Test.YtnfeddnkokocfaaRepFns
namespace Go.Proofs.Ytnfeddnkokocfaa
set_option linter.unusedVariables false
set_option linter.unusedSimpArgs false
open Go.RowKit

theorem prR_smallX (M : Mch) (s : ByteArray) (k : Nat) (hk : k < (prR M s).length) : (gS (prR M s) k).size ≤ 9223372036854775807 := by
  unfold prR at hk ⊢
  split at hk
  · rename_i h; rw [if_pos h]; exact prL_small M s _ k hk
  · cases hk
theorem prR_lenX (M : Mch) (s : ByteArray) : (prR M s).length ≤ 3 := by
  unfold prR; split
  · rename_i h; rw [prL_len]; obtain ⟨a, b, c⟩ := (setB_iff M s).1 h; rw [c]; exact (rg_small a).2
  · exact Nat.zero_le _
theorem cell_of_blockDayProducts {w w' : World} {b o : Nat} (h : w'.heap[b]? = w.heap[b]?) : w'.cell? ⟨b, o, none⟩ = w.cell? ⟨b, o, none⟩ := by
  unfold World.cell?; simp only [h]
theorem IsStrs.keepGDayProducts {w0 w w' : World} {v : Value} {l : List ByteArray} {r : Option Nat} (h : IsStrs w v l) (hold : IsStrs w0 v l) (hg : w.grownBy w' r) (hr : ∀ g, r = some g → w0.heap.size ≤ g) : IsStrs w' v l := by
  obtain ⟨A, c, rfl, h1, h2, h3⟩ := h
  refine ⟨A, c, rfl, h1, h2, fun k hk => ?_⟩
  obtain ⟨b, o, e, hb, hc⟩ := h3 k hk
  obtain ⟨b', o', e', hb', _⟩ := hold.at_ hk
  have e2 : b' = b := by rw [e] at e'; injection e' with e'; injection e' with e'; exact e'.symm
  subst e2
  refine ⟨b', o, e, Nat.lt_of_lt_of_le hb hg.size, ?_⟩
  rw [← hc]
  exact cell_of_blockDayProducts (hg.block b' hb (fun e => by have := hr b' e.symm; omega))
theorem IsRots.keepGDayProducts {w0 w w' : World} {v : Value} {l : List Rot} {r : Option Nat} (h : IsRots w v l) (hold : IsRots w0 v l) (hg : w.grownBy w' r) (hr : ∀ g, r = some g → w0.heap.size ≤ g) : IsRots w' v l := by
  obtain ⟨A, c, rfl, h1, h2, h3⟩ := h
  refine ⟨A, c, rfl, h1, h2, fun k hk => ?_⟩
  obtain ⟨b, o, e, hb, hc, hd⟩ := h3 k hk
  obtain ⟨b', o', e', hb', _⟩ := hold.at_ hk
  have e2 : b' = b := by rw [e] at e'; injection e' with e'; injection e' with e'; exact e'.symm
  subst e2
  have hbl := hg.block b' hb (fun e => by have := hr b' e.symm; omega)
  exact ⟨b', o, e, Nat.lt_of_lt_of_le hb hg.size, (cell_of_blockDayProducts hbl).trans hc, (cell_of_blockDayProducts hbl).trans hd⟩
theorem Blk.keepBDayProducts {w w' : World} {b : Nat} {t : TypeId} {cs : Array Value} {r : Option Nat} (h : Blk w b t cs) (hg : w.grownBy w' r) (hr : ∀ g, r = some g → g ≠ b) : Blk w' b t cs :=
  (hg.block b h.lt (fun e => hr b e.symm rfl)).trans h
set_option maxHeartbeats 2000000 in
set_option maxRecDepth 100000 in
theorem walkx_FnExactDayProducts (A : Option Addr) (cA : Nat) (M : Mch) (s : ByteArray) (w : World) (hR : IsRots w (.slice A M.l.length cA) M.l) (hz : MSz M) (zs : s.size ≤ 9223372036854775807) :
    Calls Try.prog 8 #[mV A cA M, .string s] w fun e w' => e = .returned (.bool true) ∧ Below w.heap.size w w' := by
  have hb0 := ext_alloc w (.cells #[.slice A M.l.length cA, .string M.rf, .string M.rg, .string M.pl] 26)
  have K := Lib.hid (Blk.new w 26 #[.slice A M.l.length cA, .string M.rf, .string M.rg, .string M.pl])
  have HW0 := Lib.hid hR
  have HW := Lib.hid (hR.ext hb0)
  have B0 := Lib.hid hb0
  have HZ := Lib.hid hz
  have hle := prR_lenX M s
  clear hR hb0 hz
  by_cases hs : 1048576 < s.size
  · go_enter Try.func8, Try.ntmps8
    go_wp2_with fail
    go_ret
    exact ⟨rfl, B0.out⟩
  go_enter Try.func8, Try.ntmps8
  have x0 := K.out.cell 0
  have x1 := K.out.cell 1
  have x2 := K.out.cell 2
  have x3 := K.out.cell 3
  go_wp2_with fail
  refine (c_szMachine A cA M _ HW.out HZ.out).mono ?_
  rintro e w1 ⟨r, rfl, hr0, hr1, hr2, hb1⟩
  have HR := Lib.hid hr2
  have HW1 := Lib.hid (HW.out.ext hb1)
  have K1 := Lib.hid (K.out.ext hb1)
  have B1 := Lib.hid (ext_trans B0.out hb1)
  clear hr2 hb1 HW B0 x0 x1 x2 x3 K
  by_cases hr : r < 0
  · go_wp2_with fail
    go_ret
    exact ⟨rfl, B1.out⟩
  obtain ⟨hl1, hl2⟩ := HR.out (by omega)
  have HL2 := Lib.hid hl2
  clear hl2
  have x0 : w1.cell? ⟨w.heap.size, 0, none⟩ = some (.slice A M.l.length cA) := K1.out.cell 0
  have x1 : w1.cell? ⟨w.heap.size, 1, none⟩ = some (.string M.rf) := K1.out.cell 1
  have x2 : w1.cell? ⟨w.heap.size, 2, none⟩ = some (.string M.rg) := K1.out.cell 2
  have x3 : w1.cell? ⟨w.heap.size, 3, none⟩ = some (.string M.pl) := K1.out.cell 3
  go_wp2_with fail
  refine (c_toMachine A cA M _ HW1.out hl1 HL2.out).mono ?_
  rintro e w2 ⟨A2, c2, rfl, i2, _, hb2⟩
  have I2 := Lib.hid i2
  have HW2 := Lib.hid (HW1.out.ext hb2)
  have K2 := Lib.hid (K1.out.ext hb2)
  have B2 := Lib.hid (ext_trans B1.out hb2)
  clear i2 hb2 x0 x1 x2 x3 HW1 K1 B1
  go_wp2_with fail
  refine (c_sDayProducts A2 c2 M s _ I2.out HZ.out (by omega)).mono ?_
  rintro e w3 ⟨v3, rfl, hv3, hb3⟩
  have V3 := Lib.hid hv3
  have HW3 := Lib.hid (HW2.out.ext hb3)
  have K3 := Lib.hid (K2.out.ext hb3)
  have B3 := Lib.hid (ext_trans B2.out hb3)
  have hw3 : w.heap.size < w3.heap.size := K3.out.lt
  clear hv3 hb3 HW2 K2 B2 I2
  have x0 : w3.cell? ⟨w.heap.size, 0, none⟩ = some (.slice A M.l.length cA) := K3.out.cell 0
  have x1 : w3.cell? ⟨w.heap.size, 1, none⟩ = some (.string M.rf) := K3.out.cell 1
  have x2 : w3.cell? ⟨w.heap.size, 2, none⟩ = some (.string M.rg) := K3.out.cell 2
  have x3 : w3.cell? ⟨w.heap.size, 3, none⟩ = some (.string M.pl) := K3.out.cell 3
  go_wp2_with fail
  refine (c_toMachineO A cA M _ HW3.out hl1 HL2.out).mono ?_
  rintro e w5 ⟨A5, c5, rfl, i5, hb5⟩
  have hb6 := ext_alloc w5 (.cells #[.slice A5 M.l.length c5, .string M.rf, .string M.rg, .string M.pl] 33)
  have KX := Lib.hid (Blk.new w5 33 #[.slice A5 M.l.length c5, .string M.rf, .string M.rg, .string M.pl])
  have hb56 := ext_trans hb5 hb6
  have O5 : Hid (OwnR (w5.alloc (.cells #[.slice A5 M.l.length c5, .string M.rf, .string M.rg, .string M.pl] 33)) w3.heap.size (.slice A5 M.l.length c5) M.l.length (gR M.l)) := i5.ext hb6
  have I5 := Lib.hid (O5.out.rots (by omega) (fun k hk => by have := HL2.out k hk; omega))
  have HG5 : Hid (∀ g, (Value.slice A5 M.l.length c5).ownBlock = some g → w3.heap.size ≤ g ∧ g < w5.heap.size) := fun g hg => i5.blk_lt hg
  have HW5 := Lib.hid (HW3.out.ext hb56)
  have V5 := Lib.hid (V3.out.ext hb56)
  have K5 := Lib.hid (K3.out.ext hb56)
  have B5 := Lib.hid (ext_trans B3.out hb56)
  have hw5 : w3.heap.size ≤ w5.heap.size := hb5.size
  have hz5 : (w5.alloc (.cells #[.slice A5 M.l.length c5, .string M.rf, .string M.rg, .string M.pl] 33)).heap.size = w5.heap.size + 1 := by simp
  have HZ5 := Lib.hid hz5
  clear i5 hb5 hb6 hb56 x0 x1 x2 x3 HW3 K3 B3 hz5
  go_wp2_with fail
  refine (c_DayProducts A5 c5 M s _ I5.out HZ.out (by omega)).mono ?_
  rintro e w7 ⟨v7, rfl, hO7, hb7⟩
  have O7 := Lib.hid hO7
  have HG7 : Hid (∀ g, v7.ownBlock = some g → w5.heap.size + 1 ≤ g) := fun g hg => by have := (hO7.blk_lt hg).1; rw [HZ5.out] at this; exact this
  have S7 := Lib.hid (hO7.strs (by omega) (prR_smallX M s))
  have OR7 : Hid (OwnR w7 w3.heap.size (.slice A5 M.l.length c5) M.l.length (gR M.l)) := O5.out.ext hb7
  have L1 := Lib.hid (I5.out.ext hb7)
  have HW7 := Lib.hid (HW5.out.ext hb7)
  have V7 := Lib.hid (V5.out.ext hb7)
  have K7 := Lib.hid (K5.out.ext hb7)
  have KX7 := Lib.hid (KX.out.ext hb7)
  have B7 := Lib.hid (ext_trans B5.out hb7)
  clear hO7 hb7 HW5 K5 KX B5 I5 O5 V5
  go_wp2_with fail
  refine (c_eqStringS v7 v3 (prR M s) _ S7.out V7.out).mono ?_
  rintro e w70 ⟨rfl, hb70⟩
  have O70 := Lib.hid (O7.out.ext hb70)
  have S70 := Lib.hid (S7.out.ext hb70)
  have OR70 : Hid (OwnR w70 w3.heap.size (.slice A5 M.l.length c5) M.l.length (gR M.l)) := OR7.out.ext hb70
  have L70 := Lib.hid (L1.out.ext hb70)
  have HW70 := Lib.hid (HW7.out.ext hb70)
  have V70 := Lib.hid (V7.out.ext hb70)
  have K70 := Lib.hid (K7.out.ext hb70)
  have KX70 := Lib.hid (KX7.out.ext hb70)
  have B70 := Lib.hid (ext_trans B7.out hb70)
  clear hb70 O7 S7 OR7 L1 HW7 V7 K7 KX7 B7
  have x0 : w70.cell? ⟨w5.heap.size, 0, none⟩ = some (.slice A5 M.l.length c5) := KX70.out.cell 0
  have x1 : w70.cell? ⟨w5.heap.size, 1, none⟩ = some (.string M.rf) := KX70.out.cell 1
  have x2 : w70.cell? ⟨w5.heap.size, 2, none⟩ = some (.string M.rg) := KX70.out.cell 2
  have x3 : w70.cell? ⟨w5.heap.size, 3, none⟩ = some (.string M.pl) := KX70.out.cell 3
  have y0 : w70.cell? ⟨w.heap.size, 0, none⟩ = some (.slice A M.l.length cA) := K70.out.cell 0
  have y1 : w70.cell? ⟨w.heap.size, 1, none⟩ = some (.string M.rf) := K70.out.cell 1
  have y2 : w70.cell? ⟨w.heap.size, 2, none⟩ = some (.string M.rg) := K70.out.cell 2
  have y3 : w70.cell? ⟨w.heap.size, 3, none⟩ = some (.string M.pl) := K70.out.cell 3
  go_wp2_with fail
  go_region_held3 (fun w' => w'.cell? ⟨w5.heap.size, 0, none⟩ = some (.slice A5 M.l.length c5) ∧ w'.cell? ⟨w5.heap.size, 1, none⟩ = some (.string M.rf) ∧ w'.cell? ⟨w5.heap.size, 2, none⟩ = some (.string M.rg) ∧ w'.cell? ⟨w5.heap.size, 3, none⟩ = some (.string M.pl) ∧ w'.cell? ⟨w.heap.size, 0, none⟩ = some (.slice A M.l.length cA) ∧ w'.cell? ⟨w.heap.size, 1, none⟩ = some (.string M.rf) ∧ w'.cell? ⟨w.heap.size, 2, none⟩ = some (.string M.rg) ∧ w'.cell? ⟨w.heap.size, 3, none⟩ = some (.string M.pl))
    (first | exact hkeep2 | exact hkeep1 | exact ⟨x0, x1, x2, x3, y0, y1, y2, y3⟩ | go_keep)
    (first
      | (go_at_call 15
         refine (c_toMachine A cA M _ (HW70.out.ext (Below.refl _ _).drew) hl1 HL2.out).mono ?_
         rintro e w8 ⟨A8, c8, rfl, i8, _, hb8⟩
         have hkeep1 : w8.cell? ⟨w5.heap.size, 0, none⟩ = some (.slice A5 M.l.length c5) ∧ w8.cell? ⟨w5.heap.size, 1, none⟩ = some (.string M.rf) ∧ w8.cell? ⟨w5.heap.size, 2, none⟩ = some (.string M.rg) ∧ w8.cell? ⟨w5.heap.size, 3, none⟩ = some (.string M.pl) ∧ w8.cell? ⟨w.heap.size, 0, none⟩ = some (.slice A M.l.length cA) ∧ w8.cell? ⟨w.heap.size, 1, none⟩ = some (.string M.rf) ∧ w8.cell? ⟨w.heap.size, 2, none⟩ = some (.string M.rg) ∧ w8.cell? ⟨w.heap.size, 3, none⟩ = some (.string M.pl) :=
           ⟨(KX70.out.drew.ext hb8).cell 0, (KX70.out.drew.ext hb8).cell 1, (KX70.out.drew.ext hb8).cell 2, (KX70.out.drew.ext hb8).cell 3, (K70.out.drew.ext hb8).cell 0, (K70.out.drew.ext hb8).cell 1, (K70.out.drew.ext hb8).cell 2, (K70.out.drew.ext hb8).cell 3⟩
         have HB8 := Lib.hid ((Below.refl w70.heap.size w70).drew.trans hb8))
      | (go_at_call 17
         refine (c_eqMachine A5 A8 c5 c8 M _ (L70.out.ext HB8.out) i8).mono ?_
         rintro e w9 ⟨rfl, hb9⟩
         have hkeep2 : w9.cell? ⟨w5.heap.size, 0, none⟩ = some (.slice A5 M.l.length c5) ∧ w9.cell? ⟨w5.heap.size, 1, none⟩ = some (.string M.rf) ∧ w9.cell? ⟨w5.heap.size, 2, none⟩ = some (.string M.rg) ∧ w9.cell? ⟨w5.heap.size, 3, none⟩ = some (.string M.pl) ∧ w9.cell? ⟨w.heap.size, 0, none⟩ = some (.slice A M.l.length cA) ∧ w9.cell? ⟨w.heap.size, 1, none⟩ = some (.string M.rf) ∧ w9.cell? ⟨w.heap.size, 2, none⟩ = some (.string M.rg) ∧ w9.cell? ⟨w.heap.size, 3, none⟩ = some (.string M.pl) :=
           ⟨((KX70.out.ext HB8.out).ext hb9).cell 0, ((KX70.out.ext HB8.out).ext hb9).cell 1, ((KX70.out.ext HB8.out).ext hb9).cell 2, ((KX70.out.ext HB8.out).ext hb9).cell 3, ((K70.out.ext HB8.out).ext hb9).cell 0, ((K70.out.ext HB8.out).ext hb9).cell 1, ((K70.out.ext HB8.out).ext hb9).cell 2, ((K70.out.ext HB8.out).ext hb9).cell 3⟩))
  have hbb := ext_trans HB8.out hb9
  have O9 := Lib.hid (O70.out.ext hbb)
  have S9 := Lib.hid (S70.out.ext hbb)
  have OR9 : Hid (OwnR w9 w3.heap.size (.slice A5 M.l.length c5) M.l.length (gR M.l)) := OR70.out.ext hbb
  have HW9 := Lib.hid (HW70.out.ext hbb)
  have V9 := Lib.hid (V70.out.ext hbb)
  have K9 := Lib.hid (K70.out.ext hbb)
  have KX9 := Lib.hid (KX70.out.ext hbb)
  have B9 := Lib.hid (ext_trans B70.out hbb)
  clear hkeep1 hkeep2 hb8 hb9 HB8 hbb x0 x1 x2 x3 y0 y1 y2 y3 O70 S70 OR70 L70 HW70 V70 K70 KX70 B70 i8
  have x0 : w9.cell? ⟨w5.heap.size, 0, none⟩ = some (.slice A5 M.l.length c5) := KX9.out.cell 0
  have x1 : w9.cell? ⟨w5.heap.size, 1, none⟩ = some (.string M.rf) := KX9.out.cell 1
  have x2 : w9.cell? ⟨w5.heap.size, 2, none⟩ = some (.string M.rg) := KX9.out.cell 2
  have x3 : w9.cell? ⟨w5.heap.size, 3, none⟩ = some (.string M.pl) := KX9.out.cell 3
  obtain ⟨q1, hq1⟩ : ∃ q, 1 + 2 * M.l.length = q := ⟨_, rfl⟩
  have HQ1 := Lib.hid hq1
  have j1 : ¬ (q1 : Int) < 0 := by omega
  clear hq1
  go_wp2_with fail
  refine (c_markMachine A5 c5 w3.heap.size 1 M _ ⟨_, OR9.out⟩ (by omega) (by omega) hl1).mono ?_
  rintro e w10 ⟨rfl, hg10⟩
  rw [HQ1.out]
  have O10 := Lib.hid (O9.out.kept hg10 (fun g hg => by have := HG5.out g hg; rw [HZ5.out]; omega))
  have S10 := Lib.hid (O10.out.strs (by omega) (prR_smallX M s))
  have HW10 := Lib.hid (HW9.out.keepGDayProducts HW0.out hg10 (fun g hg => by have := HG5.out g hg; omega))
  have V10 := Lib.hid (V9.out.keepGDayProducts V3.out hg10 (fun g hg => (HG5.out g hg).1))
  have K10 : Hid (Blk w10 w.heap.size 26 #[.slice A M.l.length cA, .string M.rf, .string M.rg, .string M.pl]) := K9.out.keepBDayProducts hg10 (fun g hg => by have := HG5.out g hg; omega)
  have B10 := Lib.hid (B9.out.grown hg10 B9.out.size (fun g hg => by have := HG5.out g hg; omega))
  clear hg10 x0 x1 x2 x3 O9 S9 HW9 V9 K9 KX9 B9 OR9
  go_wp2_with fail
  refine (c_eqStringS v7 v3 (prR M s) _ S10.out V10.out).mono ?_
  rintro e w11 ⟨rfl, hb11⟩
  have O11 := Lib.hid (O10.out.ext hb11)
  have HW11 := Lib.hid (HW10.out.ext hb11)
  have V11 := Lib.hid (V10.out.ext hb11)
  have K11 := Lib.hid (K10.out.ext hb11)
  have B11 := Lib.hid (ext_trans B10.out hb11)
  clear hb11 O10 S10 HW10 V10 K10 B10
  obtain ⟨q2, hq2⟩ : ∃ q, 1 + ((prR M s)).length = q := ⟨_, rfl⟩
  have HQ2 := Lib.hid hq2
  have j2 : ¬ (q2 : Int) < 0 := by omega
  clear hq2
  go_wp2_with fail
  refine (c_markStringS v7 ((prR M s)).length _ 1 _ ⟨_, by rw [List.length_map], O11.out⟩ (by omega) (by omega) (by omega)).mono ?_
  rintro e w12 ⟨rfl, hS12, hg12⟩
  rw [HQ2.out]
  have S12 := Lib.hid hS12
  have HW12 := Lib.hid (HW11.out.keepGDayProducts HW0.out hg12 (fun g hg => by have := HG7.out g hg; omega))
  have V12 := Lib.hid (V11.out.keepGDayProducts V3.out hg12 (fun g hg => by have := HG7.out g hg; omega))
  have K12 : Hid (Blk w12 w.heap.size 26 #[.slice A M.l.length cA, .string M.rf, .string M.rg, .string M.pl]) := K11.out.keepBDayProducts hg12 (fun g hg => by have := HG7.out g hg; omega)
  have B12 := Lib.hid (B11.out.grown hg12 B11.out.size (fun g hg => by have := HG7.out g hg; omega))
  clear hS12 hg12 O11 HW11 V11 K11 B11
  go_wp2_with fail
  refine (c_heldStringS v7 ((prR M s)).length 1 _ S12.out (by omega) (by omega) (by omega)).mono ?_
  rintro e w13 ⟨rfl, hb13⟩
  rw [HQ2.out]
  have S13 := Lib.hid (S12.out.ext hb13)
  have HW13 := Lib.hid (HW12.out.ext hb13)
  have V13 := Lib.hid (V12.out.ext hb13)
  have K13 := Lib.hid (K12.out.ext hb13)
  have B13 := Lib.hid (ext_trans B12.out hb13)
  clear hb13 S12 HW12 V12 K12 B12
  have x0 : w13.cell? ⟨w.heap.size, 0, none⟩ = some (.slice A M.l.length cA) := K13.out.cell 0
  have x1 : w13.cell? ⟨w.heap.size, 1, none⟩ = some (.string M.rf) := K13.out.cell 1
  have x2 : w13.cell? ⟨w.heap.size, 2, none⟩ = some (.string M.rg) := K13.out.cell 2
  have x3 : w13.cell? ⟨w.heap.size, 3, none⟩ = some (.string M.pl) := K13.out.cell 3
  go_wp2_with fail
  refine (c_toMachine A cA M _ HW13.out hl1 HL2.out).mono ?_
  rintro e w14 ⟨A14, c14, rfl, i14, _, hb14⟩
  have I14 := Lib.hid i14
  have S14 := Lib.hid (S13.out.ext hb14)
  have V14 := Lib.hid (V13.out.ext hb14)
  have B14 := Lib.hid (ext_trans B13.out hb14)
  clear i14 hb14 x0 x1 x2 x3 S13 HW13 V13 K13 B13
  go_wp2_with fail
  refine (c_DayProducts A14 c14 M s _ I14.out HZ.out (by omega)).mono ?_
  rintro e w15 ⟨v15, rfl, hO15, hb15⟩
  have R15 := Lib.hid (hO15.strs (by omega) (prR_smallX M s))
  have S15 := Lib.hid (S14.out.ext hb15)
  have V15 := Lib.hid (V14.out.ext hb15)
  have B15 := Lib.hid (ext_trans B14.out hb15)
  clear hO15 hb15 S14 V14 B14 I14
  go_wp2_with fail
  refine (c_eqStringS v15 v3 (prR M s) _ R15.out V15.out).mono ?_
  rintro e w16 ⟨rfl, hb16⟩
  have S16 := Lib.hid (S15.out.ext hb16)
  have B16 := Lib.hid (ext_trans B15.out hb16)
  clear hb16 S15 B15
  go_wp2_with fail
  refine (c_heldStringS v7 ((prR M s)).length 1 _ S16.out (by omega) (by omega) (by omega)).mono ?_
  rintro e w17 ⟨rfl, hb17⟩
  rw [HQ2.out]
  have B17 := Lib.hid (ext_trans B16.out hb17)
  clear hb17
  go_wp2_with fail
  go_ret
  exact ⟨rfl, B17.out⟩
theorem walk_FnExactDayProducts (v0 : Value) (x0 : Mch) (a1 : ByteArray) (w : World) (w0 : IsMachine w v0 x0) (w1 : a1.size ≤ maxLen) :
    Calls Try.prog 8 #[v0, .string a1] w fun e w' => e = .returned (.bool true) ∧ Below w.heap.size w w' := by
  obtain ⟨A, c, rfl, h1, h2⟩ := w0
  exact walkx_FnExactDayProducts A c x0 a1 w h1 h2 (by unfold maxLen at w1; omega)
end Go.Proofs.Ytnfeddnkokocfaa
