/- The walk of FnWholeSteps. -/
import Derived.Test.YtnfeddnkokocfaaScrFns
import Derived.Test.YtnfeddnkokocfaaFixFns
import Derived.Test.YtnfeddnkokocfaaLawMa
namespace Go.Proofs.Ytnfeddnkokocfaa
set_option linter.unusedVariables false
set_option linter.unusedSimpArgs false
open Go.RowKit
attribute [local go_sem] Ext.cell
open BigFrame

theorem LW.grownW {w w0 W W' : World} {b : Nat} {r : Option Nat} {A : Option Addr} {cA : Nat} {l : List Rot} {rf : ByteArray} (h : LW w b A cA l rf W) (hold : IsRots w0 (.slice A l.length cA) l) (hg : W.grownBy W' r) (hr : ∀ g, r = some g → w0.heap.size ≤ g ∧ g ≠ b ∧ w.heap.size ≤ g) : LW w b A cA l rf W' :=
  have hbl := hg.block b h.lt (fun e => (hr b e.symm).2.1 rfl)
  ⟨(cell_of_blockS hbl).trans h.c0, (cell_of_blockS hbl).trans h.c1, Nat.lt_of_lt_of_le h.lt hg.size, rots_keepS h.rot hold hg (fun g e => (hr g e).1), h.bel.grown hg h.bel.size (fun g e => (hr g e).2.2)⟩
/-- the scrambler of step j -/
noncomputable def sgA (l : List Rot) (rf s : ByteArray) (j : Nat) : Nat → Nat := scrF l rf (dn (it (stepS l) (j + 1) s))
theorem sgA_facts {l : List Rot} {rf s : ByteArray} (h : winB l rf s = true) (j : Nat) : IsP (sgA l rf s j) ∧ (∀ x, x < 10 → sgA l rf s j (sgA l rf s j x) = x) ∧ ∀ x, x < 10 → sgA l rf s j x ≠ x := by
  obtain ⟨h1, h2, h3⟩ := (winB_iff _ _ _).1 h
  obtain ⟨_, _, h5, h6⟩ := wheelsB_facts h1
  have hof : ∀ i, i < l.length → dn (it (stepS l) (j + 1) s) i < 10 := fun i hi => (dn_spec (it_wv l (j + 1) h2) (by rw [it_size]; omega)).1
  obtain ⟨r1, r2, r3⟩ := refl_facts h5
  have hw := IsP.way h6 hof IsP.id
  exact ⟨scrF_P h1 hof, fun x hx => turn_invol hw r1 r2 hx, fun x hx => turn_ne hw r1 r3 hx⟩
/-- what comes out of the first k letters -/
noncomputable def outW (l : List Rot) (rf s t : ByteArray) (k : Nat) : ByteArray := mkS k (fun j => 97 + (sgA l rf s j (dn t j) : Int))
theorem outW_size (l : List Rot) (rf s t : ByteArray) (k : Nat) : (outW l rf s t k).size = k := mkS_size _ _
theorem outW_bt {l : List Rot} {rf s t : ByteArray} (h : winB l rf s = true) (ht : wv t = true) {k j : Nat} (hk : k ≤ t.size) (hj : j < k) : bt (outW l rf s t k) j = 97 + (sgA l rf s j (dn t j) : Int) := by
  have := (sgA_facts h j).1.1 _ (dn_spec ht (i := j) (by omega)).1
  exact bt_mkS _ _ _ hj (by omega) (by omega)
theorem app_one {f : Nat → Nat} (hf : IsP f) {t : ByteArray} (ht : wv t = true) {k : Nat} (hk : k < t.size) : appS (pS f) (t.extract k (k + 1)) = strOfNums [97 + (f (dn t k) : Int)] := by
  have z := x1size t (a := k) (b := k + 1) (by omega)
  have hd := (dn_spec ht hk).1
  have hl := hf.1 _ hd
  have v := x1wv ht k (k + 1) (by omega)
  apply bt_ext
  · rw [appS_size, z, strOfNums_size]; simp
  · intro j hj
    rw [appS_size, z] at hj
    obtain rfl : j = 0 := by omega
    rw [appS_bt (pS_perm hf) v (by omega), dn_extract (by omega) (by omega), show k + 0 = k from rfl, pn_pS hf hd, bt_one (by omega) (by omega)]
theorem outW_succ {l : List Rot} {rf s t : ByteArray} (h : winB l rf s = true) (ht : wv t = true) {k : Nat} (hk : k < t.size) : outW l rf s t k ++ appS (pS (sgA l rf s k)) (t.extract k (k + 1)) = outW l rf s t (k + 1) := by
  rw [app_one (sgA_facts h k).1 ht hk]
  unfold outW; rw [mkS_succ]
theorem back_one {l : List Rot} {rf s t : ByteArray} (h : winB l rf s = true) (ht : wv t = true) {k : Nat} (hk : k < t.size) : t.extract 0 k ++ appS (pS (sgA l rf s k)) ((outW l rf s t (k + 1)).extract k (k + 1)) = t.extract 0 (k + 1) := by
  obtain ⟨hP, hi, _⟩ := sgA_facts h k
  have hd := (dn_spec ht hk)
  have hl := hP.1 _ hd.1
  have hoz := outW_size l rf s t (k + 1)
  have hob := outW_bt (k := k + 1) h ht (by omega) (j := k) (by omega)
  have hov : wv (outW l rf s t (k + 1)) = true := by
    rw [wv_iff, hoz]
    have := ((wv_iff t).1 ht).1
    refine ⟨by omega, fun j hj => ?_⟩
    rw [outW_bt h ht (by omega) hj]
    have := (sgA_facts h j).1.1 _ (dn_spec ht (i := j) (by omega)).1
    omega
  have hdk : dn (outW l rf s t (k + 1)) k = sgA l rf s k (dn t k) := by unfold dn; rw [hob]; unfold dn; omega
  rw [app_one hP hov (by omega), hdk, hi _ hd.1, ← hd.2]
  have z := x1size t (a := 0) (b := k) (by omega)
  have z1 := x1size t (a := 0) (b := k + 1) (by omega)
  apply bt_ext
  · rw [ByteArray.size_append, z, z1, strOfNums_size]; simp
  · intro j hj
    rw [ByteArray.size_append, z, strOfNums_size] at hj
    simp at hj
    have hr := bt_range t k
    have hR : bt (t.extract 0 (k + 1)) j = bt t j := by rw [x1bt t (a := 0) (b := k + 1) (by omega) (by omega), Nat.zero_add]
    rw [hR, bt_append, z]
    by_cases hj2 : j < k
    · rw [if_pos (by omega), x1bt t (by omega) (by omega), Nat.zero_add]
    · obtain rfl : j = k := by omega
      rw [if_neg (by omega), show j - (j - 0) = 0 by omega, bt_one hr.1 hr.2]
theorem ext00 (t : ByteArray) : t.extract 0 0 = ⟨#[]⟩ := by
  have z := x1size t (a := 0) (b := 0) (by omega)
  apply bt_ext
  · rw [z]; rfl
  · intro i hi; omega
theorem extAll (t : ByteArray) : t.extract 0 t.size = t := by
  have z := x1size t (a := 0) (b := t.size) (Nat.le_refl _)
  apply bt_ext
  · rw [z]; omega
  · intro i hi
    rw [x1bt t (Nat.le_refl _) (by omega), Nat.zero_add]
theorem out_ne {l : List Rot} {rf s t : ByteArray} (h : winB l rf s = true) (ht : wv t = true) {j : Nat} (hj : j < t.size) : bt (outW l rf s t t.size) j ≠ bt t j := by
  have hd := dn_spec ht hj
  have := (sgA_facts h j).2.2 _ hd.1
  rw [outW_bt h ht (Nat.le_refl _) hj]
  omega
theorem idx_intS {P : Program} (t : TypeId) (s : ByteArray) (i : Int) (h : P.underlying t = some .string) (h0 : 0 ≤ i) (h1 : i < s.size) (w : World) :
    (Instr.index t (.string s) (.int .i64 i)).run P w = .ok (.int .u8 (bt s i.toNat)) w := by
  rw [run_index_string, dif_pos ⟨h0, h1⟩, bt_get]
  exact h
attribute [local go_sem high] idx_intS
set_option maxHeartbeats 2000000 in
set_option maxRecDepth 100000 in
theorem walk_FnWholeSteps (a0 : Option Addr) (len0 cap0 : Nat) (z0 : List Int) (a1 : Option Addr) (len1 cap1 : Nat) (z1 : List Int) (w : World) (w0 : IsRowB w a0 len0 cap0 z0) (w1 : IsRowB w a1 len1 cap1 z1) :
    Calls Try.prog 10 #[.slice a0 len0 cap0, .slice a1 len1 cap1] w fun e w' => e = .returned (.bool true) ∧ Below w.heap.size w w' := by
  by_cases hl0 : 1048576 < len0
  · clear w0 w1
    go_enter Try.func10, Try.ntmps10
    go_wp2_with fail
    go_ret
    exact ⟨rfl, Below.refl _ _⟩
  by_cases hl1 : 1048576 < len1
  · clear w0 w1
    go_enter Try.func10, Try.ntmps10
    go_wp2_with fail
    go_ret
    exact ⟨rfl, Below.refl _ _⟩
  have HC := Lib.hid (code_of w0 (by omega))
  have HD := Lib.hid (code_of w1 (by omega))
  clear w0 w1
  go_enter Try.func10, Try.ntmps10
  go_wp2_with fail
  refine (c_DrawStepWindows a0 len0 cap0 _ HC.out).mono ?_
  rintro e w1 ⟨vR, rf, s, l, rfl, hR, hrf, hs, hb1⟩
  obtain ⟨A, cA, rfl⟩ := hR.form
  have HR1 := Lib.hid hR
  have L1 := Lib.hid (LW.start rf hb1 hR)
  have D1 := Lib.hid ((HD.out.ext hb1).ext (ext_alloc w1 (.cells #[.slice A l.length cA, .string rf] 31)))
  have hw1 : w.heap.size ≤ w1.heap.size := hb1.size
  clear hR hb1 HC HD
  have x0 := L1.out.c0
  have x1 := L1.out.c1
  go_wp2_with fail
  refine (c_StepWindows _ l rf s _ L1.out.rot (by omega) (by omega)).mono ?_
  rintro e w2 ⟨rfl, hb2⟩
  rw [manyR_st, many1]
  have L2 := Lib.hid (L1.out.ext hb2)
  have D2 := Lib.hid (D1.out.ext hb2)
  clear hb2 x0 x1 L1 D1
  have x0 := L2.out.c0
  have x1 := L2.out.c1
  go_wp2_with fail
  refine (c_sStepWindows _ l rf s _ L2.out.rot (by omega) (by omega)).mono ?_
  rintro e w3 ⟨rfl, hb3⟩
  rw [manyR_st, many1]
  have L3 := Lib.hid (L2.out.ext hb3)
  have D3 := Lib.hid (D2.out.ext hb3)
  clear hb3 x0 x1 L2 D2
  go_wp2_with fail
  refine (c_DrawApplyPerm a1 len1 cap1 _ D3.out).mono ?_
  rintro e w4 ⟨p, t, rfl, hp, ht, hb4⟩
  have L4 := Lib.hid (L3.out.ext hb4)
  clear hb4 L3 D3
  have HWV := Lib.hid (fun w => c_WordValid t w (by omega))
  cases hwin : winB l rf s with
  | false =>
    clear hwin
    go_wp2_with fail
    go_ret
    exact ⟨by simp, L4.out.bel⟩
  | true =>
    have HWIN := Lib.hid hwin
    have HST := Lib.hid (stR_ok hwin (n := 1) (by omega))
    cases hwv : wv t with
    | false =>
      have HV := Lib.hid hwv
      clear hwin hwv
      go_wp2_with (go_at_call 43; refine (HWV.out _).mono ?_; rintro e w' ⟨rfl, rfl⟩; rw [HV.out])
      go_ret
      exact ⟨by simp, L4.out.bel⟩
    | true =>
      have HV := Lib.hid hwv
      clear hwin hwv
      by_cases hlt : 20 < t.size
      · go_wp2_with (go_at_call 43; refine (HWV.out _).mono ?_; rintro e w' ⟨rfl, rfl⟩; rw [HV.out])
        go_ret
        exact ⟨by simp, L4.out.bel⟩
      · have hsl : s.size = l.length := ((winB_iff _ _ _).1 HWIN.out).2.2
        have hwb := ((winB_iff _ _ _).1 HWIN.out).1
        have hl3 := (wheelsB_facts hwb).2.1
        have HWB := Lib.hid hwb
        have HSL := Lib.hid hsl
        clear hwb hsl
        go_wp2_with (go_at_call 43; refine (HWV.out _).mono ?_; rintro e w' ⟨rfl, rfl⟩; rw [HV.out])
        go_loopw [13, 14, 15, 16] (fun x y z i wr => ∃ k : Nat, k ≤ t.size ∧ i = .int .i64 k ∧ x = .string (outW l rf s t k) ∧ y = .string (t.extract 0 k) ∧ z = .string (it (stepS l) k s) ∧ LW w w1.heap.size A cA l rf wr) (fun _ _ _ i _ => t.size - (intOf i).toNat)
        case atStart => exact ⟨0, Nat.zero_le _, rfl, rfl, by rw [ext00], rfl, L4.out⟩
        case round =>
          clear L4
          obtain ⟨k, hk, rfl, rfl, rfl, rfl, hL⟩ := hrel
          have L5 := Lib.hid hL
          clear hL
          by_cases hkt : k < t.size
          · have hwk := it_win k HWIN.out
            have hman : manyR l rf (it (stepS l) k s) 1 = .tuple #[.string (it (stepS l) (k + 1) s), .bool true] := manyR_one hwk
            have hz1 := it_size l (k + 1) s
            have hwv1 := it_wv l (k + 1) ((winB_iff _ _ _).1 HWIN.out).2.1
            have hzk := it_size l k s
            obtain ⟨u, hu⟩ : ∃ u, it (stepS l) (k + 1) s = u := ⟨_, rfl⟩
            rw [hu] at hman hz1 hwv1
            have HU := Lib.hid hu
            have HMAN := Lib.hid hman
            have HWV1 := Lib.hid hwv1
            have hul : u.size = l.length := by rw [hz1]; exact HSL.out
            have hu3 : u.size ≤ 3 := by omega
            have HUL := Lib.hid hul
            have hoz := outW_size l rf s t k
            have hez := x1size t (a := 0) (b := k) (by omega)
            have HSUC := Lib.hid (outW_succ (s := s) HWIN.out HV.out hkt)
            have HBK := Lib.hid (back_one (s := s) HWIN.out HV.out hkt)
            have x0 := L5.out.c0
            have x1 := L5.out.c1
            clear hwk hman hu hwv1 hul hz1
            go_wp2_with fail
            refine (c_StepWindows _ l rf _ _ L5.out.rot (by omega) (by omega)).mono ?_
            rintro e w6 ⟨rfl, hb6⟩
            rw [HMAN.out]
            have L6 := Lib.hid ((L5.out.ext hb6).ext (ext_alloc w6 (.cells #[] 3)))
            have O6 := Lib.hid (own_empty w6 3)
            have hw6 : w1.heap.size < w6.heap.size := (L5.out.ext hb6).lt
            clear hb6 x0 x1 L5
            go_wp2_with fail
            go_loopw [17, 18] (fun v i wr => ∃ j : Nat, j ≤ u.size ∧ i = .int .i64 j ∧ Own wr w6.heap.size 3 v ((ofX (dn u) j).map (Value.int .i64)) ∧ LW w w1.heap.size A cA l rf wr ∧ w6.heap.size ≤ wr.heap.size) (fun _ i _ => u.size - (intOf i).toNat)
            case atStart => exact ⟨0, Nat.zero_le _, rfl, O6.out, L6.out, by simp⟩
            case round =>
              clear L6 O6
              obtain ⟨j, hj, rfl, hO, hL, hws⟩ := hrel
              have hlen := ofX_len (dn u) j
              have hsucc : Hid ((ofX (dn u) (j + 1)).map (Value.int .i64) = (ofX (dn u) j).map (Value.int .i64) ++ [.int .i64 (dn u j : Int)]) := by
                show _ = _
                unfold ofX; rw [List.range_succ, List.map_append, List.map_append]; rfl
              obtain ⟨AO, cO, rfl⟩ := hO.slice
              rw [List.length_map, hlen] at hO ⊢
              have O := Lib.hid hO
              have L := Lib.hid hL
              clear hO hL
              by_cases hju : j < u.size
              · have hd := dn_spec HWV1.out hju
                have z1 := x1size u (a := j) (b := j + 1) (by omega)
                have hbt : bt (u.extract j (j + 1)) 0 = 97 + (dn u j : Int) := by rw [x1bt u (by omega) (by omega), show j + 0 = j from rfl]; exact hd.2
                have hv := x1wv HWV1.out j (j + 1) (by omega)
                have HCV := Lib.hid (c_WordValue1 (u.extract j (j + 1)) (dn u j) · (by omega) hv hbt hd.1)
                have i0 : (0 : Int) ≤ j := by omega
                have i1 : (j : Int) + 1 ≤ u.size := by omega
                have i2 : j + 1 ≤ u.size := by omega
                have hll : ((ofX (dn u) j).map (Value.int .i64)).length ≤ 1000000000 := by rw [List.length_map, hlen]; omega
                clear hd z1 hbt hv hlen
                go_wp2_with fail
                refine (HCV.out _).mono ?_
                rintro e w' ⟨rfl, rfl⟩
                go_wp2_with (at_builtin; refine app1 _ rfl _ _ _ rfl w6.heap.size 3 Try.underlying69 info_int rfl _ _ rfl O.out _ rfl rfl hll (by omega) hws ?_; intro v' w8 hown8 hgr8)
                have L8 := Lib.hid (L.out.grownW HR1.out hgr8 (fun g e => by have := (O.out.blk_lt e).1; omega))
                have hs8 := hgr8.size
                have O8 := Lib.hid hown8
                clear hown8 hgr8
                go_wp2_with fail
                refine ⟨⟨j + 1, by omega, by go_num, ?_, L8.out, Nat.le_trans hws hs8⟩, by simp [intOf]; omega⟩
                rw [hsucc.out]
                exact O8.out
              · have e : j = u.size := by omega
                have hI : IsInts wr (.slice AO l.length cO) (ofX (dn u) l.length) := by
                  have h := O.out.ints (by rw [hlen]; omega)
                  rw [e, HUL.out] at h
                  exact h
                have I := Lib.hid hI
                have hju' : j = l.length := by rw [e]; exact HUL.out
                have hof : ∀ i, i < l.length → dn u i < 10 := fun i hi => (dn_spec HWV1.out (by rw [HUL.out]; exact hi)).1
                have hsg : scrF l rf (dn u) = sgA l rf s k := by unfold sgA; rw [HU.out]
                have HSG := Lib.hid hsg
                have HOF : Hid (∀ i, i < l.length → dn u i < 10) := hof
                have hju0 : ¬ (j : Int) < u.size := by omega
                have hju1 : ¬ j < u.size := by omega
                have x0 := L.out.c0
                have x1 := L.out.c1
                have hbnd : (pS (sgA l rf s k)).size = 10 := pS_size _
                have HPP := Lib.hid (pS_perm (sgA_facts HWIN.out k).1)
                have hv1 := x1wv HV.out k (k + 1) (by omega)
                have HVV := Lib.hid hv1
                have hoz1 := outW_size l rf s t (k + 1)
                have hvo : Hid (wv ((outW l rf s t (k + 1)).extract k (k + 1)) = true) := by
                  refine x1wv ?_ _ _ (by omega)
                  rw [wv_iff, hoz1]
                  refine ⟨by omega, fun q hq => ?_⟩
                  rw [outW_bt HWIN.out HV.out (by omega) hq]
                  have := (sgA_facts HWIN.out q).1.1 _ (dn_spec HV.out (i := q) (by omega)).1
                  omega
                obtain ⟨P, hP⟩ : ∃ P, pS (sgA l rf s k) = P := ⟨_, rfl⟩
                obtain ⟨o1, ho1⟩ : ∃ o, outW l rf s t (k + 1) = o := ⟨_, rfl⟩
                have HSUC2 := Lib.hid HSUC.out
                have HBK2 := Lib.hid HBK.out
                rw [hP] at HPP HSUC2 HBK2
                rw [ho1] at HSUC2 HBK2 hoz1 hvo
                have z3 := x1size t (a := k) (b := k + 1) (by omega)
                have z4 := appS_size P (t.extract k (k + 1))
                have z5 := appS_size P (o1.extract k (k + 1))
                have z6 := x1size o1 (a := k) (b := k + 1) (by omega)
                have HP := Lib.hid hP
                have HO1 := Lib.hid ho1
                have j0 : (0 : Int) ≤ k := by omega
                have j1 : (k : Int) + 1 ≤ t.size := by omega
                have j2 : k + 1 ≤ t.size := by omega
                have j3 : (k : Int) ≤ o1.size := by omega
                have j4 : k ≤ o1.size := by omega
                have hA1 : (appS P (t.extract k (k + 1))).size = 1 := by omega
                have hA2 : (appS P (o1.extract k (k + 1))).size = 1 := by omega
                have n1 : ¬ 9223372036854775807 < k + 1 := by omega
                subst hju'
                clear hI hof hsg hbnd hv1 hP ho1 O hlen e HSUC HBK z4 z5
                go_wp2_with fail
                refine (c_rcScramble A AO cA cO l rf (dn u) _ L.out.rot I.out HWB.out HOF.out (by omega)).mono ?_
                rintro e w9 ⟨rfl, hb9⟩
                rw [HSG.out, HP.out]
                have L9 := Lib.hid (L.out.ext hb9)
                clear hb9 x0 x1 L I
                go_wp2_with fail
                refine (c_ApplyPerm P (t.extract k (k + 1)) _ HPP.out HVV.out).mono ?_
                rintro e w10 ⟨rfl, hb10⟩
                have L10 := Lib.hid (L9.out.ext hb10)
                have hsuc := HSUC2.out
                have hbk := HBK2.out
                clear hb10 L9
                go_wp2_with fail
                refine (c_ApplyPerm P (o1.extract k (k + 1)) _ HPP.out hvo.out).mono ?_
                rintro e w11 ⟨rfl, hb11⟩
                have L11 := Lib.hid (L10.out.ext hb11)
                clear hb11 L10
                go_wp2_with fail
                exact ⟨⟨k + 1, by omega, by go_num, by rw [HO1.out], rfl, by rw [HU.out], L11.out⟩, by simp [intOf]; omega⟩
          · have e : k = t.size := by omega
            subst e
            rw [extAll]
            have hoz := outW_size l rf s t t.size
            have hne : Hid (∀ j, j < t.size → bt (outW l rf s t t.size) j ≠ bt t j) := fun j hj => out_ne HWIN.out HV.out hj
            have hstr := stR_ok HWIN.out (n := t.size) (by omega)
            obtain ⟨o, ho⟩ : ∃ o, outW l rf s t t.size = o := ⟨_, rfl⟩
            obtain ⟨z, hz⟩ : ∃ z, it (stepS l) t.size s = z := ⟨_, rfl⟩
            rw [ho] at hoz hne ⊢
            rw [hz] at hstr ⊢
            have HOZ := Lib.hid hoz
            have HSTR := Lib.hid hstr
            clear hoz hstr ho hz
            go_wp2_with fail
            go_loopw [22] (fun i wr => ∃ j : Nat, j ≤ t.size ∧ i = .int .i64 j ∧ LW w w1.heap.size A cA l rf wr) (fun i _ => t.size - (intOf i).toNat)
            case atStart => exact ⟨0, Nat.zero_le _, rfl, L5.out⟩
            case round =>
              clear L5
              obtain ⟨j, hj, rfl, hL⟩ := hrel
              have L := Lib.hid hL
              clear hL
              by_cases hjt : j < t.size
              · have hb : (bt o j == bt t j) = false := by rw [beq_eq_false_iff_ne]; exact hne.out j hjt
                have i0 : (0 : Int) ≤ j := by omega
                have i1 : (j : Int) < t.size := by omega
                have i2 : (j : Int) < o.size := by have := HOZ.out; omega
                have i3 : j < o.size := by have := HOZ.out; omega
                go_wp2_with fail
                go_quiet (fail)
                go_wp2_with fail
                exact ⟨⟨j + 1, by omega, by go_num, L.out.ext (below_drewN (Below.refl _ _) _)⟩, by simp [intOf]; omega⟩
              · have e : j = t.size := by omega
                subst e
                have x0 := L.out.c0
                have x1 := L.out.c1
                have hoz := HOZ.out
                go_wp2_with fail
                refine (c_rcSteps A cA l rf s _ _ L.out.rot (by omega) (by omega)).mono ?_
                rintro e w12 ⟨rfl, hb12⟩
                rw [HSTR.out]
                have B12 := Lib.hid (L.out.ext hb12).bel
                clear hb12
                go_wp2_with fail
                go_ret
                exact ⟨by simp, B12.out⟩
end Go.Proofs.Ytnfeddnkokocfaa
