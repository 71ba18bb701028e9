/- MenuValid (spec). -/
import Derived.Test.YtnfeddnkokocfaaLinks
import Derived.Test.YtnfeddnkokocfaaKitA
namespace Go.Proofs.Ytnfeddnkokocfaa
set_option linter.unusedVariables false
set_option linter.unusedSimpArgs false
open Go.RowKit
attribute [local go_sem] Ext.cell
open BigFrame

def oneB (t : ByteArray) : Bool := decide (t.size = 1) && isL (bt t 0)
theorem oneB_iff (t : ByteArray) : oneB t = true ↔ t.size = 1 ∧ 97 ≤ bt t 0 ∧ bt t 0 < 107 := by
  unfold oneB; rw [Bool.and_eq_true, decide_eq_true_eq, isL_iff]
theorem wv_two {f t : ByteArray} (h1 : f.size = 1) (h2 : t.size = 1) : wv (f ++ t) = (oneB f && oneB t) := by
  rw [Bool.eq_iff_iff, wv_iff, Bool.and_eq_true, oneB_iff, oneB_iff, ByteArray.size_append, h1, h2]
  constructor
  · rintro ⟨_, h⟩
    have a := h 0 (by omega)
    have b := h 1 (by omega)
    rw [bt_append, if_pos (by omega)] at a
    rw [bt_append, if_neg (by omega), h1] at b
    exact ⟨⟨rfl, a⟩, ⟨rfl, b⟩⟩
  · rintro ⟨⟨_, a⟩, ⟨_, b⟩⟩
    refine ⟨by omega, fun k hk => ?_⟩
    rw [bt_append]
    by_cases hk0 : k < f.size
    · rw [if_pos hk0, show k = 0 by omega]; exact a
    · rw [if_neg hk0, show k - f.size = 0 by omega]; exact b
/-- a link in the order of the specification's conditions -/
theorem linkB_sp {last : Int} {f t : ByteArray} {n : Int} (h0 : 0 ≤ last) : linkB last (f, t, n) = (oneB f && (oneB t && (decide (f ≠ t) && (inB n 1 60 && decide (last < n))))) := by
  rw [Bool.eq_iff_iff, linkB_iff]
  simp only [Bool.and_eq_true, decide_eq_true_eq]
  constructor
  · rintro ⟨h1, h2, h3, h4, h5, h6⟩
    rw [wv_two h1 h2, Bool.and_eq_true] at h3
    exact ⟨h3.1, h3.2, h4, inB_true (by omega) h6, h5⟩
  · rintro ⟨h1, h2, h3, h4, h5⟩
    have a := (oneB_iff f).1 h1
    have b := (oneB_iff t).1 h2
    have c : 1 ≤ n ∧ n ≤ 60 := Decidable.byContradiction fun hc => by rw [inB_false hc] at h4; cases h4
    exact ⟨a.1, b.1, by show wv (f ++ t) = true; rw [wv_two a.1 b.1, h1, h2]; rfl, h3, h5, c.2⟩
theorem lastL_pos {l : List Lnk} {k : Nat} (h : allB k (fun k => linkB (lastL l k) (gL l k)) = true) : 0 ≤ lastL l k ∧ (0 < k → 1 ≤ lastL l k) := by
  induction k with
  | zero => exact ⟨by unfold lastL; simp, fun h => by omega⟩
  | succ k ih =>
    rw [allB_succ, Bool.and_eq_true] at h
    have hp := (ih h.1).1
    have := ((linkB_iff _ _).1 h.2).2.2.2.2.1
    have e : lastL l (k + 1) = (gL l k).2.2 := rfl
    rw [e]
    exact ⟨by omega, fun _ => by omega⟩
theorem c_l1IsB (t : ByteArray) (w : World) (hz : t.size ≤ 9223372036854775807) : Calls Try.prog 153 #[.string t] w fun e w' => e = .returned (.bool (oneB t)) ∧ w = w' := by
  by_cases h1 : t.size = 1
  · have hpos : 0 < t.size := by omega
    have hb := bt_get t 0 hpos
    have HB : Hid (oneB t = isL (bt t 0)) := by show oneB t = _; unfold oneB; rw [decide_eq_true h1]; rfl
    have i0 : (0 : Int) < t.size := by omega
    have i1 : (t.size : Int) = 1 := by omega
    by_cases h97 : 97 ≤ bt t 0
    · by_cases h107 : bt t 0 < 107
      · have HI := Lib.hid (isL_true h97 h107)
        go_enter Try.func153, Try.ntmps153
        go_wp2_with fail
        go_ret
        exact ⟨by rw [HB.out, HI.out]; simp [h107], rfl⟩
      · have HI := Lib.hid (isL_false (x := bt t 0) (by omega))
        go_enter Try.func153, Try.ntmps153
        go_wp2_with fail
        go_ret
        exact ⟨by rw [HB.out, HI.out]; first | (simp; done) | (simp; omega), rfl⟩
    · have HI := Lib.hid (isL_false (x := bt t 0) (by omega))
      go_enter Try.func153, Try.ntmps153
      go_wp2_with fail
      go_ret
      exact ⟨by rw [HB.out, HI.out]; first | (simp; done) | (simp; omega), rfl⟩
  · have HB : Hid (oneB t = false) := by show oneB t = _; unfold oneB; rw [decide_eq_false h1]; rfl
    have i1 : ¬ (t.size : Int) = 1 := by omega
    have i2 : ((t.size : Int) == 1) = false := by rw [beq_eq_false_iff_ne]; exact i1
    go_enter Try.func153, Try.ntmps153
    go_wp2_with fail
    go_ret
    exact ⟨by rw [HB.out]; simp [h1], rfl⟩
set_option maxHeartbeats 2000000 in
set_option maxRecDepth 100000 in
theorem c_sMenuValid (v : Value) (l : List Lnk) (w : World) (hl : IsLinks w v l) : Calls Try.prog 121 #[v] w fun e w' => e = .returned (.bool (menuB l)) ∧ Below w.heap.size w w' := by
  have HL := Lib.hid hl
  have hll := hl.len_le
  obtain ⟨A, c, rfl⟩ := hl.form
  clear hl
  go_enter Try.func121, Try.ntmps121
  go_wp2_with fail
  go_loopw [3] (fun i wr => ∃ k : Nat, k ≤ l.length ∧ i = .int .i64 k ∧ allB k (fun k => linkB (lastL l k) (gL l k)) = true ∧ Below w.heap.size w wr) (fun i _ => l.length - (intOf i).toNat)
  case atStart => exact ⟨0, Nat.zero_le _, rfl, rfl, Below.refl _ _⟩
  case round =>
    obtain ⟨k, hk, rfl, ha, hbr⟩ := hrel
    have HA := Lib.hid ha
    have HB := Lib.hid hbr
    have hpos := lastL_pos ha
    by_cases hlt : k < l.length
    · obtain ⟨b, o, rfl, hb, c0, c1, c2⟩ := (HL.out.ext hbr).at_ hlt
      have hprev : k ≠ 0 → wr.cell? ⟨b, o + (k - 1) * 3 + 2, none⟩ = some (.int .i64 (lastL l k)) := fun h0 => by
        obtain ⟨b', o', e, _, _, _, c3⟩ := (HL.out.ext hbr).at_ (k := k - 1) (by omega)
        injection e with e
        injection e with e1 e2
        subst e1 e2
        rw [c3]
        unfold lastL
        rw [if_neg h0]
      have hz := HL.out.sizes hlt
      obtain ⟨last, hlast⟩ : ∃ z, lastL l k = z := ⟨_, rfl⟩
      rw [hlast] at hpos hprev
      have hlast0 := hlast
      obtain ⟨⟨f, t, n⟩, hg⟩ : ∃ x, gL l k = x := ⟨_, rfl⟩
      rw [hg] at c0 c1 c2 hz
      simp only at c0 c1 c2 hz
      have hsp := linkB_sp (f := f) (t := t) (n := n) hpos.1
      have hbad : Hid (linkB last (f, t, n) = false → menuB l = false) := fun h => menuB_bad hlt (by rw [hlast, hg]; exact h)
      have hok : Hid (linkB last (f, t, n) = true → allB (k + 1) (fun k => linkB (lastL l k) (gL l k)) = true) := fun h => allB_step HA.out (by rw [hlast, hg]; exact h)
      have HSP := Lib.hid hsp
      have B2 := Lib.hid (HB.out.trans ((ext_alloc wr (.cells #[.string f, .string t, .int .i64 n] 110)).mono HB.out.size))
      have KN := Lib.hid (Blk.new wr 110 #[.string f, .string t, .int .i64 n])
      have hwz : (wr.alloc (.cells #[.string f, .string t, .int .i64 n] 110)).heap.size = wr.heap.size + 1 := by simp
      have y0 : (wr.alloc (.cells #[.string f, .string t, .int .i64 n] 110)).cell? ⟨wr.heap.size, 0, none⟩ = some (.string f) := KN.out.cell 0
      have y1 : (wr.alloc (.cells #[.string f, .string t, .int .i64 n] 110)).cell? ⟨wr.heap.size, 1, none⟩ = some (.string t) := KN.out.cell 1
      have y2 : (wr.alloc (.cells #[.string f, .string t, .int .i64 n] 110)).cell? ⟨wr.heap.size, 2, none⟩ = some (.int .i64 n) := KN.out.cell 2
      have i3 : (0 : Int) ≤ k := by omega
      have i4 : (k : Int) < l.length := by omega
      obtain ⟨hz1, hz2⟩ := hz
      have hb' : b < (wr.alloc (.cells #[.string f, .string t, .int .i64 n] 110)).heap.size := by rw [hwz]; omega
      have hnw : wr.heap.size < (wr.alloc (.cells #[.string f, .string t, .int .i64 n] 110)).heap.size := by rw [hwz]; omega
      have hprev2 : k ≠ 0 → (wr.alloc (.cells #[.string f, .string t, .int .i64 n] 110)).cell? ⟨b, o + (k - 1) * 3 + 2, none⟩ = some (.int .i64 last) := fun h0 => by
        rw [← hprev h0]
        exact (ext_alloc wr _).cell (p := ⟨b, o + (k - 1) * 3 + 2, none⟩) hb
      have HPR : Hid (k ≠ 0 → (wr.alloc (.cells #[.string f, .string t, .int .i64 n] 110)).cell? ⟨b, o + (k - 1) * 3 + 2, none⟩ = some (.int .i64 last)) := hprev2
      clear ha hbr hprev hprev2 hlast hg hsp hwz KN
      cases hf : oneB f with
      | false =>
        have HM := Lib.hid (hbad.out (by rw [HSP.out, hf]; simp))
        go_wp2_with fail
        refine wp_region_ext (by kernel_rfl) (by kernel_rfl) ?_
        repeat (go_big_quiet_step ((first | (go_at_call 153; exact Ext.same _ (c_l1IsB _ _ (by first | exact hz1 | exact hz2))) | (go_at_call 53; exact Ext.same _ (c_l1In _ _ _ _)))))
        refine wpQuiet_nil ?_
        rintro _ ⟨⟨w6, hb6⟩, rfl⟩
        have B6 := Lib.hid (ext_trans B2.out hb6)
        clear hb6
        go_wp2_with fail
        go_ret
        exact ⟨by rw [HM.out]; simp, B6.out⟩
      | true =>
        cases ht : oneB t with
        | false =>
          have HM := Lib.hid (hbad.out (by rw [HSP.out, ht]; simp))
          go_wp2_with fail
          refine wp_region_ext (by kernel_rfl) (by kernel_rfl) ?_
          repeat (go_big_quiet_step ((first | (go_at_call 153; exact Ext.same _ (c_l1IsB _ _ (by first | exact hz1 | exact hz2))) | (go_at_call 53; exact Ext.same _ (c_l1In _ _ _ _)))))
          refine wpQuiet_nil ?_
          rintro _ ⟨⟨w6, hb6⟩, rfl⟩
          have B6 := Lib.hid (ext_trans B2.out hb6)
          clear hb6
          go_wp2_with fail
          go_ret
          exact ⟨by rw [HM.out]; simp, B6.out⟩
        | true =>
          by_cases he : f = t
          · subst he
            have be : (f.toList == f.toList) = true := by simp
            have bd : decide (f ≠ f) = false := by simp
            have HM := Lib.hid (hbad.out (by rw [HSP.out, bd]; simp))
            go_wp2_with fail
            refine wp_region_ext (by kernel_rfl) (by kernel_rfl) ?_
            repeat (go_big_quiet_step ((first | (go_at_call 153; exact Ext.same _ (c_l1IsB _ _ (by first | exact hz1 | exact hz2))) | (go_at_call 53; exact Ext.same _ (c_l1In _ _ _ _)))))
            refine wpQuiet_nil ?_
            rintro _ ⟨⟨w6, hb6⟩, rfl⟩
            have B6 := Lib.hid (ext_trans B2.out hb6)
            clear hb6
            go_wp2_with fail
            go_ret
            exact ⟨by rw [HM.out]; simp, B6.out⟩
          · have be := bs_no he
            have bq : decide (f = t) = false := decide_eq_false he
            have bd : decide (f ≠ t) = true := by simp [he]
            cases hn : inB n 1 60 with
            | false =>
              have HM := Lib.hid (hbad.out (by rw [HSP.out, hn]; simp))
              go_wp2_with fail
              refine wp_region_ext (by kernel_rfl) (by kernel_rfl) ?_
              repeat (go_big_quiet_step ((first | (go_at_call 153; exact Ext.same _ (c_l1IsB _ _ (by first | exact hz1 | exact hz2))) | (go_at_call 53; exact Ext.same _ (c_l1In _ _ _ _)))))
              refine wpQuiet_nil ?_
              rintro _ ⟨⟨w6, hb6⟩, rfl⟩
              have B6 := Lib.hid (ext_trans B2.out hb6)
              clear hb6
              go_wp2_with fail
              go_ret
              exact ⟨by rw [HM.out]; simp, B6.out⟩
            | true =>
              by_cases h0 : k = 0
              · have hl0 : last = 0 := by rw [← hlast0]; unfold lastL; rw [if_pos h0]
                have hn1 : 1 ≤ n := (Decidable.byContradiction fun hc => by rw [inB_false (by omega)] at hn; cases hn)
                have HM := Lib.hid (hok.out (by rw [HSP.out, hf, ht, bd, hn, decide_eq_true (show last < n by omega)]; rfl))
                have q0 : ¬ (0 : Int) < k := by omega
                have q1 : decide ((0 : Int) < (k : Int)) = false := decide_eq_false q0
                have q2 : decide (0 < k) = false := decide_eq_false (by omega)
                clear h0 hl0
                go_wp2_with fail
                refine wp_region_ext (by kernel_rfl) (by kernel_rfl) ?_
                repeat (go_big_quiet_step ((first | (go_at_call 153; exact Ext.same _ (c_l1IsB _ _ (by first | exact hz1 | exact hz2))) | (go_at_call 53; exact Ext.same _ (c_l1In _ _ _ _)))))
                refine wpQuiet_nil ?_
                rintro _ ⟨⟨w6, hb6⟩, rfl⟩
                have B6 := Lib.hid (ext_trans B2.out hb6)
                clear hb6
                go_wp2_with fail
                exact ⟨⟨k + 1, by omega, by go_num, HM.out, B6.out⟩, by simp [intOf]; omega⟩
              · have hpc := HPR.out h0
                have q0 : (0 : Int) < k := by omega
                have q1 : decide ((0 : Int) < (k : Int)) = true := decide_eq_true q0
                have q2 : decide (0 < k) = true := decide_eq_true (by omega)
                obtain ⟨k1, hk1⟩ : ∃ k1, k - 1 = k1 := ⟨_, rfl⟩
                have e1 : (k : Int) - 1 = (k1 : Int) := by omega
                have i5 : (0 : Int) ≤ k1 := by omega
                have i6 : (k1 : Int) < l.length := by omega
                rw [hk1] at hpc
                by_cases hlast2 : n ≤ last
                · have bl : decide (last < n) = false := decide_eq_false (by omega)
                  clear hk1
                  have HM := Lib.hid (hbad.out (by rw [HSP.out, bl]; simp))
                  go_wp2_with fail
                  refine wp_region_ext (by kernel_rfl) (by kernel_rfl) ?_
                  repeat (go_big_quiet_step ((first | (go_at_call 153; exact Ext.same _ (c_l1IsB _ _ (by first | exact hz1 | exact hz2))) | (go_at_call 53; exact Ext.same _ (c_l1In _ _ _ _)))))
                  refine wpQuiet_nil ?_
                  rintro _ ⟨⟨w6, hb6⟩, rfl⟩
                  have B6 := Lib.hid (ext_trans B2.out hb6)
                  clear hb6
                  go_wp2_with fail
                  go_ret
                  exact ⟨by rw [HM.out]; simp, B6.out⟩
                · have HM := Lib.hid (hok.out (by rw [HSP.out, hf, ht, bd, hn, decide_eq_true (show last < n by omega)]; rfl))
                  clear hk1
                  go_wp2_with fail
                  refine wp_region_ext (by kernel_rfl) (by kernel_rfl) ?_
                  repeat (go_big_quiet_step ((first | (go_at_call 153; exact Ext.same _ (c_l1IsB _ _ (by first | exact hz1 | exact hz2))) | (go_at_call 53; exact Ext.same _ (c_l1In _ _ _ _)))))
                  refine wpQuiet_nil ?_
                  rintro _ ⟨⟨w6, hb6⟩, rfl⟩
                  have B6 := Lib.hid (ext_trans B2.out hb6)
                  clear hb6
                  go_wp2_with fail
                  exact ⟨⟨k + 1, by omega, by go_num, HM.out, B6.out⟩, by simp [intOf]; omega⟩
    · have e : k = l.length := by omega
      subst e
      have HM : Hid (menuB l = inB (l.length : Int) 1 12) := by
        show menuB l = _
        by_cases h : 1 ≤ l.length ∧ l.length ≤ 12
        · rw [menuB_good h HA.out, inB_true (by omega) (by omega)]
        · rw [menuB_len h, inB_false (by omega)]
      clear ha hbr hpos
      go_wp2_with fail
      refine (c_l1In _ _ _ _).mono ?_
      rintro e w' ⟨rfl, rfl⟩
      go_wp2_with fail
      go_ret
      exact ⟨by rw [HM.out]; rfl, HB.out⟩
end Go.Proofs.Ytnfeddnkokocfaa
