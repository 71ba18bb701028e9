/- Contract of CheckMenu (spec). -/
import Derived.Test.YtnfeddnkokocfaaMenuPlain
namespace Go.Proofs.Ytnfeddnkokocfaa
set_option linter.unusedVariables false
set_option linter.unusedSimpArgs false
open Go.RowKit
attribute [local go_sem] Ext.cell
open BigFrame

set_option maxHeartbeats 1000000 in
set_option maxRecDepth 100000 in
theorem c_sCheckMenu (A AL : Option Addr) (cA cL : Nat) (M : Mch) (s : ByteArray) (l : List Lnk) (w : World) (hR : IsRots w (.slice A M.l.length cA) M.l) (hz : MSz M) (hs : s.size ≤ 9223372036854775807) (hL : IsLinks w (.slice AL l.length cL) l) :
    Calls Try.prog 35 #[mV A cA M, .string s, .slice AL l.length cL] w fun e w' => e = .returned (.bool (chkB M s l)) ∧ Below w.heap.size w w' := by
  have L0 := Lib.hid (MW.start M (Below.refl w.heap.size w) hR)
  have V0 := Lib.hid (hL.ext (ext_alloc w (.cells #[.slice A M.l.length cA, .string M.rf, .string M.rg, .string M.pl] 33)))
  have HZ := Lib.hid hz
  clear hR hz hL
  go_enter Try.func35, Try.ntmps35
  have y0 := L0.out.c0
  have y1 := L0.out.c1
  have y2 := L0.out.c2
  have y3 := L0.out.c3
  go_wp2_with fail
  refine (c_l13Fits A cA M s _ l _ L0.out.rot HZ.out hs V0.out).mono ?_
  rintro e w1 ⟨rfl, hb1⟩
  have L1 := Lib.hid (L0.out.ext hb1)
  have V1 := Lib.hid (V0.out.ext hb1)
  clear hb1 y0 y1 y2 y3 L0 V0
  cases h12 : (setB M s && menuB l) with
  | false =>
    have HE := Lib.hid (chkB_no h12)
    clear h12
    go_wp2_with fail
    go_ret
    exact ⟨by rw [HE.out]; rfl, L1.out.bel⟩
  | true =>
    have hh := Bool.and_eq_true_iff.1 h12
    have H1 := Lib.hid hh.1
    have HM := Lib.hid hh.2
    have HE := Lib.hid (chkB_ok hh.1 hh.2)
    have hl12 := (menuB_facts hh.2).2.1
    clear h12 hh
    have y0 := L1.out.c0
    have y1 := L1.out.c1
    have y2 := L1.out.c2
    have y3 := L1.out.c3
    go_wp2_with fail
    refine (c_l13Bare A AL cA cL M s l _ L1.out.rot V1.out H1.out HM.out).mono ?_
    rintro e w2 ⟨vP, rfl, hPs, hb2⟩
    obtain ⟨AP, cP, rfl⟩ := hPs.form
    have PS := Lib.hid hPs
    have L2 := Lib.hid (L1.out.ext hb2)
    have V2 := Lib.hid (V1.out.ext hb2)
    have HLN := Lib.hid (barL_len M s l l.length)
    clear hb2 hPs L1 V1 y0 y1 y2 y3
    rw [HLN.out] at PS ⊢
    go_wp2_with fail
    go_loopw [8] (fun i wr => ∃ k : Nat, k ≤ l.length ∧ i = .int .i64 k ∧ allB k (keptB M s l) = true ∧ Below w2.heap.size w2 wr) (fun i _ => l.length - (intOf i).toNat)
    case atStart => exact ⟨0, Nat.zero_le _, rfl, rfl, Below.refl _ _⟩
    case round =>
      obtain ⟨k, hk, rfl, ha, hbr⟩ := hrel
      have HA := Lib.hid ha
      have HB := Lib.hid hbr
      clear ha hbr
      by_cases hlt : k < l.length
      · obtain ⟨b, o, rfl, hb, c0, c1, _⟩ := (V2.out.ext HB.out).at_ hlt
        obtain ⟨g, u, hAP, hg, hp⟩ := (PS.out.ext HB.out).at_ (k := k) (by rw [HLN.out]; exact hlt)
        subst hAP
        rw [barL_at M s l hlt] at hp
        obtain ⟨⟨wf, f1⟩, wt, t1⟩ := link_letters HM.out hlt
        have hx := (dn_spec wf (i := 0) (by omega)).1
        have hy := (dn_spec wt (i := 0) (by omega)).1
        have hkb := keptB_spec (s := s) ((setB_iff M s).1 H1.out).1 hx hy
        have hPk := bar_perm s l ((setB_iff M s).1 H1.out).1 k
        have hpl := ((plugB_iff _).1 ((mB_iff M).1 ((setB_iff M s).1 H1.out).1).2).1
        obtain ⟨⟨f, t, n⟩, hgl⟩ : ∃ x, gL l k = x := ⟨_, rfl⟩
        rw [hgl] at c0 c1 wf f1 wt t1 hx hy hkb
        simp only at c0 c1 wf f1 wt t1 hx hy hkb
        have hx2 := (isP_pn hpl).1 _ hx
        have hy2 := (isP_pn hpl).1 _ hy
        have HX := Lib.hid hx
        have HY := Lib.hid hy
        have HPl := Lib.hid hpl
        have HPk := Lib.hid hPk
        obtain ⟨p, hpe⟩ : ∃ p, barF M s l k = p := ⟨_, rfl⟩
        rw [hpe] at hp hkb HPk
        obtain ⟨x, hxe⟩ : ∃ x, pn M.pl (dn f 0) = x := ⟨_, rfl⟩
        obtain ⟨y, hye⟩ : ∃ y, pn M.pl (dn t 0) = y := ⟨_, rfl⟩
        have HXE := Lib.hid hxe
        have HYE := Lib.hid hye
        rw [hxe] at hx2 hkb
        rw [hye] at hkb
        have HKB := Lib.hid hkb
        have WF := Lib.hid wf
        have WT := Lib.hid wt
        have F1 := Lib.hid f1
        have T1 := Lib.hid t1
        have M3 := Lib.hid (L2.out.ext HB.out)
        have y3 := M3.out.c3
        have hml := M3.out.lt
        have i1 : (0 : Int) ≤ (k : Int) := by omega
        have i2 : (k : Int) < (l.length : Int) := by omega
        clear wf f1 wt t1 hkb hpe hxe hye hgl hPk hpl hx hy hy2
        go_wp2_with fail
        refine wp_region_ext (by kernel_rfl) (by kernel_rfl) ?_
        repeat (go_big_quiet_step (first
          | (go_at_call 79; exact Ext.same _ (c_l1DigitD f 0 _ WF.out (by have := F1.out; omega)))
          | (go_at_call 78; exact Ext.same _ (c_l2ImageP M.pl (dn f 0) _ HPl.out HX.out))))
        refine wpQuiet_nil ?_
        rintro _ ⟨⟨w6, hb6⟩, rfl⟩
        rename World => w6
        rw [HXE.out]
        have M6 := Lib.hid (M3.out.ext hb6)
        have c6 := (hb6.cell (p := ⟨b, o + k * 3 + 1, none⟩) hb).trans c1
        have p6 := (hb6.cell (p := ⟨g, u + k, none⟩) hg).trans hp
        have hb7 : b < w6.heap.size := Nat.lt_of_lt_of_le hb hb6.size
        have hg7 : g < w6.heap.size := Nat.lt_of_lt_of_le hg hb6.size
        have B6 := Lib.hid (HB.out.trans (hb6.mono HB.out.size))
        clear hb6 y3 hml hb hg c0 c1 hp M3
        have y3 := M6.out.c3
        have hml := M6.out.lt
        go_wp2_with fail
        refine wp_region_ext (by kernel_rfl) (by kernel_rfl) ?_
        repeat (go_big_quiet_step (first
          | (go_at_call 79; exact Ext.same _ (c_l1DigitD t 0 _ WT.out (by have := T1.out; omega)))
          | (go_at_call 78; exact Ext.same _ (c_l2ImageP M.pl (dn t 0) _ HPl.out HY.out))))
        refine wpQuiet_nil ?_
        rintro _ ⟨⟨w7, hb8⟩, rfl⟩
        rename World => w7
        rw [HYE.out]
        have p7 := (hb8.cell (p := ⟨g, u + k, none⟩) hg7).trans p6
        have B7 := Lib.hid (B6.out.trans (hb8.mono B6.out.size))
        clear hb8 y3 hml c6 p6 B6
        go_wp2_with fail
        refine (c_l2ImageP p x _ HPk.out hx2).mono ?_
        rintro e w8 ⟨rfl, rfl⟩
        by_cases he : pn p x = y
        · have q1 : ((pn p x : Int) == (y : Int)) = true := by rw [beq_iff_eq]; omega
          have HG := Lib.hid (HKB.out.1 he)
          clear he
          go_wp2_with fail
          exact ⟨⟨k + 1, by omega, by go_num, allB_step HA.out HG.out, B7.out⟩, by simp [intOf]; omega⟩
        · have q1 : ((pn p x : Int) == (y : Int)) = false := by rw [beq_eq_false_iff_ne]; omega
          have HG : Hid (keptB M s l k = false) := by
            show keptB M s l k = false
            cases hq : keptB M s l k with
            | false => rfl
            | true => exact absurd (HKB.out.2 hq) he
          clear he
          go_wp2_with fail
          go_ret
          exact ⟨by rw [HE.out, allB_false hlt HG.out]; rfl, ext_trans L2.out.bel B7.out⟩
      · have e : k = l.length := by omega
        subst e
        go_wp2_with fail
        go_ret
        exact ⟨by rw [HE.out, HA.out]; rfl, ext_trans L2.out.bel HB.out⟩
end Go.Proofs.Ytnfeddnkokocfaa
