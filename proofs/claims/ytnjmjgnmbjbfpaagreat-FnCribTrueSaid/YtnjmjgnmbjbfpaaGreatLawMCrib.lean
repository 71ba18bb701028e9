/- CribFits and CribPlaces at what was enciphered; the walk of FnCribTrue. -/
import Derived.Test.YtnjmjgnmbjbfpaaGreatLawMach2
namespace Go.Proofs.YtnjmjgnmbjbfpaaGreat
set_option linter.unusedVariables false
set_option linter.unusedSimpArgs false
open Go.RowKit
attribute [local go_sem] Ext.cell
open BigFrame

theorem ne_empty {k : ByteArray} (h : 0 < k.size) : k ≠ ByteArray.empty := by rintro rfl; exact absurd h (by decide)
set_option maxHeartbeats 1000000 in
set_option maxRecDepth 100000 in
theorem c_CribFits_yes (c k : ByteArray) (at_ : Nat) (w : World) (hc : wv c = true) (hk : wv k = true) (h0 : 0 < k.size) (ha : at_ + k.size ≤ c.size) (hd : ∀ i, i < k.size → bt k i ≠ bt c (at_ + i)) :
    Calls Tryz.prog 9 #[.string c, .string k, .int .i64 at_] w fun e w' => e = .returned (.bool true) ∧ Below w.heap.size w w' := by
  have HC := Lib.hid hc
  have HK := Lib.hid hk
  have HD := Lib.hid hd
  have zc := ((wv_iff c).1 hc).1
  have te := bs_no (ne_empty h0)
  have te2 := bs_no (b := ⟨#[]⟩) (ne_empty h0)
  have te3 : k.toList.isEmpty = false := by
    have h := te2
    cases hk : k.toList with
    | nil => rw [hk] at h; simp at h
    | cons a b => rfl
  have i1 : (0 : Int) ≤ (at_ : Int) := by omega
  have i2 : (at_ : Int) ≤ (c.size : Int) - (k.size : Int) := by omega
  have y1 : c.size ≤ 9223372036854775807 := by omega
  have y2 : k.size ≤ 9223372036854775807 := by omega
  clear hc hk hd
  go_enter Tryz.func9, Tryz.ntmps9
  go_wp2_with (go_at_call 24; refine (c_WordValid _ _ (by first | exact y1 | exact y2)).mono ?_; rintro e w' ⟨rfl, rfl⟩; first | rw [HC.out] | rw [HK.out])
  go_loopw [35] (fun i wr => ∃ q : Nat, q ≤ k.size ∧ i = .int .i64 q ∧ Below w.heap.size w wr) (fun i _ => k.size - (intOf i).toNat)
  case atStart => exact ⟨0, Nat.zero_le _, rfl, Below.refl _ _⟩
  case round =>
    obtain ⟨q, hq, rfl, hbw⟩ := hrel
    have HBW := Lib.hid hbw
    clear hbw
    by_cases hlt : q < k.size
    · have hc2 : at_ + q < c.size := by omega
      have j1 : (0 : Int) ≤ (q : Int) := by omega
      have j2 : (q : Int) < (k.size : Int) := by omega
      have j3 : (0 : Int) ≤ (at_ : Int) + (q : Int) := by omega
      have j4 : (at_ : Int) + (q : Int) < (c.size : Int) := by omega
      have t1 : (((k[q]'hlt).toNat : Int) == ((c[at_ + q]'hc2).toNat : Int)) = false := by rw [bt_get _ q hlt, bt_get _ (at_ + q) hc2, beq_eq_false_iff_ne]; exact HD.out q hlt
      go_wp2_with fail
      go_quiet (fail)
      go_wp2_with fail
      exact ⟨⟨q + 1, by omega, by go_num, below_drewN HBW.out _⟩, by simp [intOf]; omega⟩
    · go_wp2_with fail
      go_ret
      exact ⟨rfl, HBW.out⟩
set_option maxRecDepth 100000 in
theorem c_CribFits_no (c k : ByteArray) (at_ : Nat) (w : World) (hc : wv c = true) (hk : wv k = true) (h0 : 0 < k.size) (ha : c.size < at_ + k.size) (ha2 : at_ ≤ 1000) :
    Calls Tryz.prog 9 #[.string c, .string k, .int .i64 at_] w fun e w' => e = .returned (.bool false) ∧ Below w.heap.size w w' := by
  have HC := Lib.hid hc
  have HK := Lib.hid hk
  have zc := ((wv_iff c).1 hc).1
  have zk := ((wv_iff k).1 hk).1
  have te := bs_no (ne_empty h0)
  have te2 := bs_no (b := ⟨#[]⟩) (ne_empty h0)
  have te3 : k.toList.isEmpty = false := by
    have h := te2
    cases hk : k.toList with
    | nil => rw [hk] at h; simp at h
    | cons a b => rfl
  have i1 : (0 : Int) ≤ (at_ : Int) := by omega
  have i2 : (c.size : Int) - (k.size : Int) < (at_ : Int) := by omega
  have y1 : c.size ≤ 9223372036854775807 := by omega
  have y2 : k.size ≤ 9223372036854775807 := by omega
  clear hc hk
  go_enter Tryz.func9, Tryz.ntmps9
  go_wp2_with (go_at_call 24; refine (c_WordValid _ _ (by first | exact y1 | exact y2)).mono ?_; rintro e w' ⟨rfl, rfl⟩; first | rw [HC.out] | rw [HK.out])
  go_ret
  exact ⟨rfl, Below.refl _ _⟩
set_option maxHeartbeats 1000000 in
theorem c_CribPlacesE (c k : ByteArray) (w : World) (hc : wv c = true) (hk : wv k = true) (hz : c.size = k.size) (hd : ∀ i, i < k.size → bt k i ≠ bt c i) :
    Calls Tryz.prog 10 #[.string c, .string k] w fun e w' => ∃ (A : Option Addr) (n cap : Nat), e = .returned (.slice A n cap) ∧ (0 < k.size → 0 < n) ∧ n ≤ 1000 ∧ Below w.heap.size w w' := by
  have HC := Lib.hid hc
  have HK := Lib.hid hk
  have HD : Hid (∀ i, i < k.size → bt k i ≠ bt c (0 + i)) := by intro i hi; rw [Nat.zero_add]; exact hd i hi
  have zc := ((wv_iff c).1 hc).1
  clear hc hk hd
  go_enter Tryz.func10, Tryz.ntmps10
  go_wp2_with fail
  go_loopw [5, 9] (fun v i wr => ∃ (q : Nat) (l : List Int), q ≤ c.size ∧ i = .int .i64 q ∧ Own wr w.heap.size 3 v (l.map (.int .i64)) ∧ l.length ≤ q ∧ (0 < q → 0 < l.length) ∧ Below w.heap.size w wr) (fun _ i _ => c.size - (intOf i).toNat)
  case atStart => exact ⟨0, [], Nat.zero_le _, rfl, Own.nil _ _ _, Nat.le_refl _, fun h => absurd h (by omega), Below.refl _ _⟩
  case round =>
    obtain ⟨q, l, hq, rfl, ho, hl1, hl2, hbw⟩ := hrel
    have HO := Lib.hid ho
    have HBW := Lib.hid hbw
    have HL2 := Lib.hid hl2
    have hszr := hbw.size
    clear ho hbw hl2
    by_cases hlt : q < c.size
    · by_cases hq0 : q = 0
      · subst hq0
        go_wp2_with fail
        refine (c_CribFits_yes c k 0 _ HC.out HK.out (by omega) (by omega) HD.out).mono ?_
        rintro e w2 ⟨rfl, hb2⟩
        have HO2 := Lib.hid (HO.out.ext hb2)
        have HB2 := Lib.hid (ext_trans HBW.out hb2)
        have hz2 : w.heap.size ≤ w2.heap.size := HB2.out.size
        clear hb2
        go_wp2_with (at_builtin; refine app1 _ rfl _ _ _ rfl w.heap.size 3 Tryz.underlying33 info_int rfl _ _ rfl HO2.out _ rfl rfl (by simp; omega) (by omega) hz2 ?_; intro v' w4 hown4 hgr4)
        have HO4 := Lib.hid (show Own w4 w.heap.size 3 v' ((l ++ [(0 : Int)]).map (.int .i64)) by rw [List.map_append]; exact hown4)
        have HB4 := Lib.hid (HO2.out.below (Nat.le_refl _) hz2 HB2.out hgr4)
        clear hown4 hgr4
        go_wp2_with fail
        exact ⟨⟨1, l ++ [(0 : Int)], by omega, by go_num, HO4.out, by rw [List.length_append]; simp only [List.length_cons, List.length_nil]; omega, fun _ => by simp, HB4.out⟩, by simp [intOf]; omega⟩
      · go_wp2_with fail
        refine (c_CribFits_no c k q _ HC.out HK.out (by omega) (by omega) (by omega)).mono ?_
        rintro e w2 ⟨rfl, hb2⟩
        have HO2 := Lib.hid (HO.out.ext hb2)
        have HB2 := Lib.hid (ext_trans HBW.out hb2)
        clear hb2
        go_wp2_with fail
        exact ⟨⟨q + 1, l, by omega, by go_num, HO2.out, by omega, fun _ => HL2.out (by omega), HB2.out⟩, by simp [intOf]; omega⟩
    · obtain ⟨A, cap, rfl⟩ := HO.out.slice
      go_wp2_with fail
      go_ret
      exact ⟨A, _, cap, rfl, fun h => by rw [List.length_map]; exact HL2.out (by omega), by rw [List.length_map]; omega, HBW.out⟩

set_option maxHeartbeats 1000000 in
set_option maxRecDepth 100000 in
theorem walk_FnCribTrue (a0 : Option Addr) (len0 cap0 : Nat) (z0 : List Int) (a1 : Option Addr) (len1 cap1 : Nat) (z1 : List Int) (w : World) (w0 : IsRowB w a0 len0 cap0 z0) (w1 : IsRowB w a1 len1 cap1 z1) :
    Calls Tryz.prog 3 #[.slice a0 len0 cap0, .slice a1 len1 cap1] w fun e w' => e = .returned (.bool true) ∧ Below w.heap.size w w' := by
  by_cases hl0 : 1048576 < len0
  · clear w0 w1
    go_enter Tryz.func3, Tryz.ntmps3
    go_wp2_with fail
    go_ret
    exact ⟨rfl, Below.refl _ _⟩
  · by_cases hl1 : 1048576 < len1
    · clear w0 w1
      go_enter Tryz.func3, Tryz.ntmps3
      go_wp2_with fail
      go_ret
      exact ⟨rfl, Below.refl _ _⟩
    have HC := Lib.hid (code_of w0 (by omega))
    clear w0 w1
    go_enter Tryz.func3, Tryz.ntmps3
    go_wp2_with fail
    refine (c_DrawEncipher a0 len0 cap0 _ HC.out).mono ?_
    rintro e w1 ⟨A, cA, M, s, t, rfl, hR, hM, hs, ht, hb1⟩
    have L1 := Lib.hid (MW.start M hb1 hR)
    have HM := Lib.hid hM.sz
    clear hR hb1 HC hM
    have x0 := L1.out.c0
    have x1 := L1.out.c1
    have x2 := L1.out.c2
    have x3 := L1.out.c3
    go_wp2_with fail
    refine (c_Encipher A cA M s t _ L1.out.rot HM.out (by omega) (by omega)).mono ?_
    rintro e w2 ⟨rfl, hb2⟩
    have L2 := Lib.hid (L1.out.ext hb2)
    clear hb2 x0 x1 x2 x3 L1
    have x0 := L2.out.c0
    have x1 := L2.out.c1
    have x2 := L2.out.c2
    have x3 := L2.out.c3
    rcases encR_cases M s t with ⟨h1, hr⟩ | ⟨h1, h2, hr⟩
    · rw [hr]
      have HR := Lib.hid hr
      clear h1 hr
      go_wp2_with fail
      refine (c_sEncipher A cA M s t _ L2.out.rot HM.out (by omega) (by omega)).mono ?_
      rintro e w3 ⟨rfl, hb3⟩
      rw [HR.out]
      have L3 := Lib.hid (L2.out.ext hb3)
      clear hb3 x0 x1 x2 x3 L2
      go_wp2_with fail
      go_ret
      exact ⟨rfl, L3.out.bel⟩
    · rw [hr]
      have H1 := Lib.hid h1
      have H2 := Lib.hid h2
      have hB := ((setB_iff _ _).1 h1).1
      have HWT := Lib.hid h2
      have HWC := Lib.hid (encW_wv (s := s) hB h2)
      have HZ := Lib.hid (encW_size M s t)
      have HNE : Hid (∀ i, i < t.size → bt t i ≠ bt (encW M s t) i) := fun i hi => (encW_ne hB h2 hi).symm
      obtain ⟨p, hp⟩ : ∃ p, encW M s t = p := ⟨_, rfl⟩
      obtain ⟨r, hr1⟩ : ∃ p, it (stepS M.l) t.size s = p := ⟨_, rfl⟩
      have zt := ((wv_iff t).1 h2).1
      clear H1 H2
      rw [hp, hr1] at hr
      rw [hp] at HNE HZ HWC
      rw [hp, hr1]
      have HR := Lib.hid hr
      clear h1 h2 hr hp hr1 hB
      go_wp2_with fail
      refine (c_sEncipher A cA M s t _ L2.out.rot HM.out (by omega) (by omega)).mono ?_
      rintro e w3 ⟨rfl, hb3⟩
      rw [HR.out]
      have L3 := Lib.hid (L2.out.ext hb3)
      clear hb3 x0 x1 x2 x3 L2
      go_wp2_with fail
      go_loopw [14] (fun i wr => ∃ k : Nat, k ≤ t.size ∧ i = .int .i64 k ∧ Below w.heap.size w wr) (fun i _ => t.size - (intOf i).toNat)
      case atStart => exact ⟨0, Nat.zero_le _, rfl, L3.out.bel⟩
      case round =>
        clear L3
        obtain ⟨i, hi, rfl, hbw⟩ := hrel
        have HBW := Lib.hid hbw
        clear hbw
        by_cases hlt : i < t.size
        · obtain ⟨q, hq⟩ : ∃ q, len1 % (t.size - i) = q := ⟨_, rfl⟩
          have hq9 : q < t.size - i := by rw [← hq]; exact Nat.mod_lt _ (by omega)
          have hmod : (len1 : Int) % ((t.size : Int) - (i : Int)) = (q : Int) := by rw [← hq, show (t.size : Int) - (i : Int) = ((t.size - i : Nat) : Int) by omega]; simp
          have HMO := Lib.hid hmod
          have hpos : (t.size : Int) - (i : Int) ≠ 0 := by omega
          have hm1 : (0 : Int) ≤ (len1 : Int) % ((t.size : Int) - (i : Int)) := by rw [hmod]; omega
          have hm2 : (len1 : Int) % ((t.size : Int) - (i : Int)) ≤ 1000 := by rw [hmod]; omega
          clear hq hmod
          go_upto_region 12 with fail
          clear hm1 hm2
          rw [HMO.out]
          have j1 : (0 : Int) ≤ (i : Int) := by omega
          have j2 : (i : Int) ≤ (i : Int) + (1 + (q : Int)) := by omega
          have j3 : (i : Int) + (1 + (q : Int)) ≤ (t.size : Int) := by omega
          have z1 : (t.extract i (i + (1 + q))).size = 1 + q := by rw [x1size t (by omega)]; omega
          go_wp2_with fail
          refine (c_CribFits_yes p (t.extract i (i + (1 + q))) i _ HWC.out (x1wv HWT.out _ _ (by omega)) (by omega) (by rw [z1, HZ.out]; omega) (fun j hj => by rw [z1] at hj; rw [x1bt t (by omega) (by omega)]; exact HNE.out _ (by omega))).mono ?_
          rintro e w4 ⟨rfl, hb4⟩
          have HB4 := Lib.hid (ext_trans HBW.out hb4)
          clear hb4
          go_wp2_with fail
          exact ⟨⟨i + 1, by omega, by go_num, HB4.out⟩, by simp [intOf]; omega⟩
        · go_wp2_with fail
          refine (c_CribPlacesE p t _ HWC.out HWT.out HZ.out HNE.out).mono ?_
          rintro e w4 ⟨AP, n, cap, rfl, hn0, hn9, hb4⟩
          have HB4 := Lib.hid (ext_trans HBW.out hb4)
          clear hb4
          by_cases ht0 : t.size = 0
          · have te : t = ByteArray.empty := ByteArray.ext (Array.eq_empty_of_size_eq_zero ht0)
            have t1 := bs_yes te
            have t2 := bs_yes (b := ⟨#[]⟩) te
            by_cases hn : n = 0
            · subst hn
              go_wp2_with fail
              go_ret
              exact ⟨ret_bool (by simp), HB4.out⟩
            · have t3 : (0 : Int) < (n : Int) := by omega
              go_wp2_with fail
              go_ret
              exact ⟨rfl, HB4.out⟩
          · have t3 : (0 : Int) < (n : Int) := by have := hn0 (by omega); omega
            go_wp2_with fail
            go_ret
            exact ⟨rfl, HB4.out⟩
end Go.Proofs.YtnjmjgnmbjbfpaaGreat
