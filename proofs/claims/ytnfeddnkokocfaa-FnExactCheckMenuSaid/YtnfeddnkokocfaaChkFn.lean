/- Contract of CheckMenu (impl). -/
import Derived.Test.YtnfeddnkokocfaaMenuFn
namespace Go.Proofs.Ytnfeddnkokocfaa
set_option linter.unusedVariables false
set_option linter.unusedSimpArgs false
open Go.RowKit
attribute [local go_sem] Ext.cell
open BigFrame

theorem idx_intM {P : Program} (t : TypeId) (s : ByteArray) (i : Int) (h : P.underlying t = some .string) (h0 : 0 ≤ i) (h1 : i < s.size) (w : World) :
    (Instr.index t (.string s) (.int .i64 i)).run P w = .ok (.int .u8 (bt s i.toNat)) w := by
  rw [run_index_string, dif_pos ⟨h0, h1⟩, bt_get]
  exact h
theorem idx_letter {t : ByteArray} (h : wv t = true) (h1 : t.size = 1) (w : World) : (Instr.index 9 (.string t) (.int .i64 0)).run Try.prog w = .ok (.int .u8 (97 + (dn t 0 : Int))) w := by
  rw [idx_intM 9 t 0 Try.underlying9 (by omega) (by omega) w, show (0 : Int).toNat = 0 from rfl, (dn_spec h (i := 0) (by omega)).2]
theorem permAt_cell {w : World} {g o x : Nat} {f : Nat → Int} (h : PermAt w g o f) (hx : x < 10) : w.cell? ⟨g, o + x, none⟩ = some (.int .u8 (f x)) :=
  h.2 x _ (by rw [List.getElem?_map, List.getElem?_range hx]; rfl)
set_option maxHeartbeats 1000000 in
set_option maxRecDepth 100000 in
theorem c_CheckMenu (A AL : Option Addr) (cA cL : Nat) (M : Mch) (s : ByteArray) (l : List Lnk) (w : World) (hR : IsRots w (.slice A M.l.length cA) M.l) (hz : MSz M) (hs : s.size ≤ 9223372036854775807) (hL : IsLinks w (.slice AL l.length cL) l) :
    Calls Try.prog 37 #[mV A cA M, .string s, .slice AL l.length cL] w fun e w' => e = .returned (.bool (chkB M s l)) ∧ Below w.heap.size w w' := by
  have L0 := Lib.hid (MW.start M (Below.refl w.heap.size w) hR)
  have V0 := Lib.hid (hL.ext (ext_alloc w (.cells #[.slice A M.l.length cA, .string M.rf, .string M.rg, .string M.pl] 33)))
  have HZ := Lib.hid hz
  clear hR hz hL
  go_enter Try.func37, Try.ntmps37
  have y0 := L0.out.c0
  have y1 := L0.out.c1
  have y2 := L0.out.c2
  have y3 := L0.out.c3
  go_wp2_with fail
  refine (c_settingValid A cA M s _ L0.out.rot HZ.out hs).mono ?_
  rintro e w1 ⟨rfl, hb1⟩
  have L1 := Lib.hid (L0.out.ext hb1)
  have V1 := Lib.hid (V0.out.ext hb1)
  clear hb1 y0 y1 y2 y3 L0 V0
  cases h1 : setB M s with
  | false =>
    have HE := Lib.hid (chkB_no (M := M) (s := s) (l := l) (by rw [h1]; rfl))
    clear h1
    go_wp2_with fail
    go_ret
    exact ⟨by rw [HE.out]; rfl, L1.out.bel⟩
  | true =>
    have H1 := Lib.hid h1
    clear h1
    go_wp2_with fail
    refine (c_MenuValid _ l _ V1.out).mono ?_
    rintro e w2 ⟨rfl, hb2⟩
    have L2 := Lib.hid (L1.out.ext hb2)
    have V2 := Lib.hid (V1.out.ext hb2)
    clear hb2 L1 V1
    cases h2 : menuB l with
    | false =>
      have HE := Lib.hid (chkB_no (M := M) (s := s) (l := l) (by rw [h2]; simp))
      clear h2
      go_wp2_with fail
      go_ret
      exact ⟨by rw [HE.out]; rfl, L2.out.bel⟩
    | true =>
      have HM := Lib.hid h2
      have HE := Lib.hid (chkB_ok H1.out h2)
      have h12 := (menuB_facts h2).2.1
      clear h2
      have y0 := L2.out.c0
      have y1 := L2.out.c1
      have y2 := L2.out.c2
      have y3 := L2.out.c3
      go_wp2_with fail
      refine (c_menuKeys A AL cA cL M s l _ L2.out.rot V2.out H1.out HM.out).mono ?_
      rintro e w3 ⟨vP, rfl, hPs, hb3⟩
      obtain ⟨AP, cP, rfl⟩ := Own.slice' hPs
      have PS := Lib.hid (ownP_is hPs (by omega))
      have B3 := Lib.hid (L2.out.ext hb3).bel
      have V3 := Lib.hid (V2.out.ext hb3)
      clear hb3 hPs L2 V2 y0 y1 y2 y3
      go_wp2_with fail
      go_loopw [25] (fun i wr => ∃ k : Nat, k ≤ l.length ∧ i = .int .i64 k ∧ allB k (keptB M s l) = true ∧ Below w3.heap.size w3 wr) (fun i _ => l.length - (intOf i).toNat)
      case atStart => exact ⟨0, Nat.zero_le _, rfl, rfl, Below.refl _ _⟩
      case round =>
        obtain ⟨k, hk, rfl, ha, hbr⟩ := hrel
        have HA := Lib.hid ha
        have HB := Lib.hid hbr
        clear ha hbr
        by_cases hlt : k < l.length
        · obtain ⟨b, o, rfl, hb, c0, c1, c2⟩ := (V3.out.ext HB.out).at_ hlt
          obtain ⟨g, rfl, hg, hp⟩ := (PS.out.ext HB.out).at_ hlt
          obtain ⟨⟨wf, f1⟩, wt, t1⟩ := link_letters HM.out hlt
          have hkb : keptB M s l k = decide (mkF M s l k (dn (gL l k).1 0) = dn (gL l k).2.1 0) := rfl
          have hPk := mkF_P s l ((setB_iff M s).1 H1.out).1 k
          obtain ⟨⟨f, t, n⟩, hgl⟩ : ∃ x, gL l k = x := ⟨_, rfl⟩
          rw [hgl] at c0 c1 c2 wf f1 wt t1 hkb
          simp only at c0 c1 c2 wf f1 wt t1 hkb
          have ix1 := idx_letter wf f1
          have ix2 := idx_letter wt t1
          have hx := (dn_spec wf (i := 0) (by omega)).1
          have hy := (dn_spec wt (i := 0) (by omega)).1
          obtain ⟨x, hxe⟩ : ∃ x, dn f 0 = x := ⟨_, rfl⟩
          obtain ⟨y, hye⟩ : ∃ y, dn t 0 = y := ⟨_, rfl⟩
          rw [hxe] at ix1 hx hkb
          rw [hye] at ix2 hy hkb
          have hv := hPk.1 x hx
          have p0 := permAt_cell hp hx
          obtain ⟨v, hve⟩ : ∃ v, mkF M s l k x = v := ⟨_, rfl⟩
          rw [hve] at hv hkb p0
          have HKB := Lib.hid hkb
          have B2 := Lib.hid (HB.out.trans ((ext_alloc wr (.cells #[.string f, .string t, .int .i64 n] 110)).mono HB.out.size))
          have KN := Lib.hid (Blk.new wr 110 #[.string f, .string t, .int .i64 n])
          have z0 : (wr.alloc (.cells #[.string f, .string t, .int .i64 n] 110)).cell? ⟨wr.heap.size, 0, none⟩ = some (.string f) := KN.out.cell 0
          have z1 : (wr.alloc (.cells #[.string f, .string t, .int .i64 n] 110)).cell? ⟨wr.heap.size, 1, none⟩ = some (.string t) := KN.out.cell 1
          have p1 : (wr.alloc (.cells #[.string f, .string t, .int .i64 n] 110)).cell? ⟨g, k * 10 + x, none⟩ = some (.int .u8 (v : Int)) := ((ext_alloc wr (.cells #[.string f, .string t, .int .i64 n] 110)).cell (p := ⟨g, k * 10 + x, none⟩) hg).trans p0
          have hnw : wr.heap.size < (wr.alloc (.cells #[.string f, .string t, .int .i64 n] 110)).heap.size := by simp
          have hg1 : g < (wr.alloc (.cells #[.string f, .string t, .int .i64 n] 110)).heap.size := by simp; omega
          have i1 : (0 : Int) ≤ (k : Int) := by omega
          have i2 : (k : Int) < (l.length : Int) := by omega
          have i3 : (0 : Int) ≤ (x : Int) := by omega
          have i4 : (x : Int) < 10 := by omega
          clear wf f1 wt t1 hp p0 hkb hve hxe hye hgl hPk KN
          by_cases he : v = y
          · have q1 : ((v : Int) == (y : Int)) = true := by rw [beq_iff_eq]; omega
            have HG := Lib.hid (HKB.out.trans (decide_eq_true he))
            clear he
            go_wp2_with fail
            refine wp_region_ext (by kernel_rfl) (by kernel_rfl) ?_
            repeat (go_big_quiet_step ((go_at_call 83; exact Ext.same _ (c_numD _ _ (by first | exact hx | exact hy)))))
            refine wpQuiet_nil ?_
            rintro _ ⟨⟨w6, hb6⟩, rfl⟩
            have B6 := Lib.hid (B2.out.trans (hb6.mono B2.out.size))
            clear hb6
            go_wp2_with fail
            exact ⟨⟨k + 1, by omega, by go_num, allB_step HA.out HG.out, B6.out⟩, by simp [intOf]; omega⟩
          · have q1 : ((v : Int) == (y : Int)) = false := by rw [beq_eq_false_iff_ne]; omega
            have HG := Lib.hid (HKB.out.trans (decide_eq_false he))
            clear he
            go_wp2_with fail
            refine wp_region_ext (by kernel_rfl) (by kernel_rfl) ?_
            repeat (go_big_quiet_step ((go_at_call 83; exact Ext.same _ (c_numD _ _ (by first | exact hx | exact hy)))))
            refine wpQuiet_nil ?_
            rintro _ ⟨⟨w6, hb6⟩, rfl⟩
            have B6 := Lib.hid (B2.out.trans (hb6.mono B2.out.size))
            clear hb6
            go_wp2_with fail
            go_ret
            exact ⟨by rw [HE.out, allB_false hlt HG.out]; rfl, ext_trans B3.out B6.out⟩
        · have e : k = l.length := by omega
          subst e
          go_wp2_with fail
          go_ret
          exact ⟨by rw [HE.out, HA.out]; rfl, ext_trans B3.out HB.out⟩
end Go.Proofs.Ytnfeddnkokocfaa
