/- The walk of FnDoubleProduct. -/
import Derived.Test.YthelcpfcamidiaaFixFns
import Derived.Test.YthelcpfcamidiaaKeyPermsFn
import Derived.Test.YthelcpfcamidiaaSpecKeys
import Derived.Test.YthelcpfcamidiaaLawMa
import Derived.Test.YthelcpfcamidiaaDrawM
namespace Go.Proofs.Ythelcpfcamidiaa
set_option linter.unusedVariables false
set_option linter.unusedSimpArgs false
open Go.RowKit
attribute [local go_sem] Ext.cell
open BigFrame

theorem dn_app1 (a b : ByteArray) {i : Nat} (hi : i < a.size) : dn (a ++ b) i = dn a i := by unfold dn; rw [bt_append, if_pos hi]
theorem dn_app2 (a b : ByteArray) (i : Nat) : dn (a ++ b) (i + a.size) = dn b i := by unfold dn; rw [bt_append, if_neg (by omega), show i + a.size - a.size = i by omega]
theorem dbl_prod {M : Mch} {s t : ByteArray} (h : setB M s = true) (ht : setB M t = true) {i : Nat} (hi : i < t.size) :
    appS (pS (fun j => pn (pS (kF M (it (stepS M.l) (i + t.size + 1) s))) (pn (pS (kF M (it (stepS M.l) (i + 1) s))) j))) ((encW M s (t ++ t)).extract i (i + 1)) = (encW M s (t ++ t)).extract (i + t.size) (i + t.size + 1) := by
  obtain ⟨hm, _, _⟩ := (setB_iff M s).1 h
  obtain ⟨_, hw, _⟩ := (setB_iff M t).1 ht
  have hz := (setB_size ht).2.1
  have hl : (t ++ t).size = t.size + t.size := ByteArray.size_append
  have hww : wv (t ++ t) = true := by
    rw [wv_iff, hl]
    refine ⟨by omega, fun j hj => ?_⟩
    rw [bt_append]
    split
    · exact ((wv_iff t).1 hw).2 j (by omega)
    · exact ((wv_iff t).1 hw).2 _ (by omega)
  have hP1 := kF_P (it (stepS M.l) (i + 1) s) hm
  have hP2 := kF_P (it (stepS M.l) (i + t.size + 1) s) hm
  have hpz : (encW M s (t ++ t)).size = t.size + t.size := by rw [encW_size, hl]
  have hpw : wv (encW M s (t ++ t)) = true := encW_wv hm hww
  have e1 := encW_dn (s := s) hm hww (i := i) (by omega)
  have e2 := (encW_bt (s := s) hm hww (i := i + t.size) (by omega)).1
  rw [dn_app1 t t hi] at e1
  rw [dn_app2 t t i] at e2
  have hc := (dn_spec hw hi).1
  obtain ⟨p, hp⟩ : ∃ p, encW M s (t ++ t) = p := ⟨_, rfl⟩
  rw [hp] at hpz hpw e1 e2 ⊢
  have z1 : (p.extract i (i + 1)).size = 1 := by rw [x1size p (by omega)]; omega
  have z2 : (p.extract (i + t.size) (i + t.size + 1)).size = 1 := by rw [x1size p (by omega)]; omega
  have v1 : wv (p.extract i (i + 1)) = true := x1wv hpw _ _ (by omega)
  have hTP : IsP (fun j => pn (pS (kF M (it (stepS M.l) (i + t.size + 1) s))) (pn (pS (kF M (it (stepS M.l) (i + 1) s))) j)) := (isP_pn (pS_perm hP1)).comp (isP_pn (pS_perm hP2))
  apply bt_ext (by rw [appS_size, z1, z2])
  intro j hj
  rw [appS_size, z1] at hj
  have hj0 : j = 0 := by omega
  subst hj0
  rw [appS_bt (pS_perm hTP) v1 (by omega), dn_extract (by omega) (by omega), show i + 0 = i from rfl, e1, pn_pS hTP (hP1.1 _ hc), pn_pS hP1 (hP1.1 _ hc), kF_invol _ hm hc, pn_pS hP2 hc, x1bt p (by omega) (by omega), show i + t.size + 0 = i + t.size from rfl, e2]
theorem kpR_smallD (M : Mch) (s : ByteArray) (n : Int) (k : Nat) (hk : k < (kpR M s n).length) : (gS (kpR M s n) k).size ≤ 9223372036854775807 := by
  unfold kpR at hk ⊢
  split at hk
  · rename_i h; rw [if_pos h]; exact kpL_small M s _ k hk
  · cases hk
set_option maxHeartbeats 1000000 in
set_option maxRecDepth 100000 in
theorem walk_FnDoubleProduct (a0 : Option Addr) (len0 cap0 : Nat) (z0 : List Int) (w : World) (w0 : IsRowB w a0 len0 cap0 z0) :
    Calls Try.prog 4 #[.slice a0 len0 cap0] w fun e w' => e = .returned (.bool true) ∧ Below w.heap.size w w' := by
  by_cases hl0 : 1048576 < len0
  · clear w0
    go_enter Try.func4, Try.ntmps4
    go_wp2_with fail
    go_ret
    exact ⟨rfl, Below.refl _ _⟩
  · have HC := Lib.hid (code_of w0 (by omega))
    clear w0
    go_enter Try.func4, Try.ntmps4
    go_wp2_with fail
    refine (c_DrawDoubleIndicator a0 len0 cap0 _ HC.out).mono ?_
    rintro e w1 ⟨A, cA, M, s, t, rfl, hR, hM, hs, ht, hb1⟩
    have L1 := Lib.hid (MW.start M hb1 hR)
    have HM := Lib.hid hM.sz
    clear hR hb1 HC hM
    have x0 := L1.out.c0
    have x1 := L1.out.c1
    have x2 := L1.out.c2
    have x3 := L1.out.c3
    cases hst : (setB M s && setB M t) with
    | false =>
      have HD := Lib.hid (dblR_no hst)
      clear hst
      go_wp2_with fail
      refine (c_DoubleIndicator A cA M s t _ L1.out.rot HM.out (by omega) (by omega)).mono ?_
      rintro e w2 ⟨rfl, hb2⟩
      rw [HD.out]
      have L2 := Lib.hid (L1.out.ext hb2)
      clear hb2 x0 x1 x2 x3 L1
      have x0 := L2.out.c0
      have x1 := L2.out.c1
      have x2 := L2.out.c2
      have x3 := L2.out.c3
      go_wp2_with fail
      refine (c_sDoubleIndicator A cA M s t _ L2.out.rot HM.out (by omega) (by omega)).mono ?_
      rintro e w3 ⟨rfl, hb3⟩
      rw [HD.out]
      have L3 := Lib.hid (L2.out.ext hb3)
      clear hb3 x0 x1 x2 x3 L2
      go_wp2_with fail
      go_ret
      exact ⟨rfl, L3.out.bel⟩
    | true =>
      rw [Bool.and_eq_true] at hst
      obtain ⟨h1, h2⟩ := hst
      have hd := dblR_ok h1 h2
      have hz1 := (setB_size h2).1
      have hz3 := (setB_size h2).2.1
      have hpz : (encW M s (t ++ t)).size = t.size + t.size := by rw [encW_size, ByteArray.size_append]
      have hprod : Hid (∀ i, i < t.size → appS (pS (fun j => pn (pS (kF M (it (stepS M.l) (i + t.size + 1) s))) (pn (pS (kF M (it (stepS M.l) (i + 1) s))) j))) ((encW M s (t ++ t)).extract i (i + 1)) = (encW M s (t ++ t)).extract (i + t.size) (i + t.size + 1)) := fun i hi => dbl_prod h1 h2 hi
      have hpw : Hid (wv (encW M s (t ++ t)) = true) := by
        obtain ⟨hm, _, _⟩ := (setB_iff M s).1 h1
        obtain ⟨_, hw, _⟩ := (setB_iff M t).1 h2
        refine encW_wv hm ?_
        rw [wv_iff, ByteArray.size_append]
        refine ⟨by omega, fun j hj => ?_⟩
        rw [bt_append]
        split
        · exact ((wv_iff t).1 hw).2 j (by omega)
        · exact ((wv_iff t).1 hw).2 _ (by omega)
      obtain ⟨p, hp⟩ : ∃ p, encW M s (t ++ t) = p := ⟨_, rfl⟩
      rw [hp] at hd hpz hprod hpw
      have HD := Lib.hid hd
      have HMB := Lib.hid ((setB_iff M s).1 h1).1
      have HK := Lib.hid (show kpR M s (2 * (t.size : Int)) = kpL M s (t.size + t.size) by
        rw [show 2 * (t.size : Int) = ((t.size + t.size : Nat) : Int) by omega]; exact kpR_ok h1 (by omega))
      have HPZ := Lib.hid hpz
      clear h1 h2 hd hp hpz
      go_wp2_with fail
      refine (c_DoubleIndicator A cA M s t _ L1.out.rot HM.out (by omega) (by omega)).mono ?_
      rintro e w2 ⟨rfl, hb2⟩
      rw [HD.out]
      have L2 := Lib.hid (L1.out.ext hb2)
      clear hb2 x0 x1 x2 x3 L1
      have x0 := L2.out.c0
      have x1 := L2.out.c1
      have x2 := L2.out.c2
      have x3 := L2.out.c3
      go_wp2_with fail
      refine (c_sDoubleIndicator A cA M s t _ L2.out.rot HM.out (by omega) (by omega)).mono ?_
      rintro e w3 ⟨rfl, hb3⟩
      rw [HD.out]
      have L3 := Lib.hid (L2.out.ext hb3)
      clear hb3 x0 x1 x2 x3 L2
      have x0 := L3.out.c0
      have x1 := L3.out.c1
      have x2 := L3.out.c2
      have x3 := L3.out.c3
      go_wp2_with fail
      refine (c_KeyPerms A cA M s _ _ L3.out.rot HM.out (by omega)).mono ?_
      rintro e w4 ⟨v, rfl, hO, hb4⟩
      have L4 := Lib.hid (L3.out.ext hb4)
      have hkz : (kpR M s (2 * (t.size : Int))).length = t.size + t.size := by rw [HK.out, kpL_len]
      have hV := hO.strs (by omega) (kpR_smallD M s _)
      rw [HK.out] at hV
      obtain ⟨AL, cL, rfl⟩ := hV.form
      rw [kpL_len] at hV ⊢
      have V4 := Lib.hid hV
      clear hb4 x0 x1 x2 x3 L3 hO hkz hV
      go_wp2_with fail
      go_loopw [12] (fun i wr => ∃ k : Nat, k ≤ t.size ∧ i = .int .i64 k ∧ Below w.heap.size w wr ∧ IsStrs wr (.slice AL (t.size + t.size) cL) (kpL M s (t.size + t.size))) (fun i _ => t.size - (intOf i).toNat)
      case atStart => exact ⟨0, Nat.zero_le _, rfl, L4.out.bel, V4.out⟩
      case round =>
        clear L4 V4
        obtain ⟨k, hk, rfl, hB, hV⟩ := hrel
        have B5 := Lib.hid hB
        have V5 := Lib.hid hV
        by_cases hlt : k < t.size
        · obtain ⟨b, o, rfl, hb, hc⟩ := hV.at_ (k := k) (by rw [kpL_len]; omega)
          obtain ⟨b', o', e', hb', hc'⟩ := hV.at_ (k := k + t.size) (by rw [kpL_len]; omega)
          injection e' with e'
          injection e' with e1 e2
          subst e1 e2
          rw [kpL_at M s (by omega)] at hc hc'
          have hP1 := pS_perm (kF_P (it (stepS M.l) (k + 1) s) HMB.out)
          have hP2 := pS_perm (kF_P (it (stepS M.l) (k + t.size + 1) s) HMB.out)
          have hpr := hprod.out k hlt
          have hTP := pS_perm ((isP_pn hP1).comp (isP_pn hP2))
          obtain ⟨q1, hq1⟩ : ∃ q, pS (kF M (it (stepS M.l) (k + 1) s)) = q := ⟨_, rfl⟩
          obtain ⟨q2, hq2⟩ : ∃ q, pS (kF M (it (stepS M.l) (k + t.size + 1) s)) = q := ⟨_, rfl⟩
          rw [hq1] at hc hP1 hpr hTP
          rw [hq2] at hc' hP2 hpr hTP
          obtain ⟨T, hT⟩ : ∃ T, pS (fun j => pn q2 (pn q1 j)) = T := ⟨_, rfl⟩
          rw [hT] at hpr hTP
          have hpz := HPZ.out
          have v1 : wv (p.extract k (k + 1)) = true := x1wv hpw.out _ _ (by omega)
          have z1 : (p.extract k (k + 1)).size = k + 1 - k := x1size p (by omega)
          have HP1 := Lib.hid hP1
          have HP2 := Lib.hid hP2
          have HT := Lib.hid hT
          have HTP := Lib.hid hTP
          have HPR := Lib.hid hpr
          have V1 := Lib.hid v1
          have i0 : (0 : Int) ≤ k := by omega
          have i1 : (k : Int) < (t.size : Int) + (t.size : Int) := by omega
          have i2 : (k : Int) + (t.size : Int) < (t.size : Int) + (t.size : Int) := by omega
          have i3 : (k : Int) + 1 ≤ p.size := by omega
          have i4 : (k : Int) + (t.size : Int) + 1 ≤ p.size := by omega
          have j1 : k < t.size + t.size := by omega
          have j2 : k + t.size < t.size + t.size := by omega
          have j3 : k + 1 ≤ p.size := by omega
          have j4 : k + t.size + 1 ≤ p.size := by omega
          clear hB hV hP1 hP2 hpr hTP hq1 hq2 hT hpz v1 z1
          go_wp2_with fail
          refine wp_region_ext (by kernel_rfl) (by kernel_rfl) ?_
          repeat (go_big_quiet_step ((first
            | (go_at_call 15; exact Ext.callv _ (c_rcThen q1 q2 _ HP1.out HP2.out) (congrArg Value.string HT.out))
            | (go_at_call 14; exact Ext.callv _ (c_ApplyPerm T (p.extract k (k + 1)) _ HTP.out V1.out) (congrArg Value.string HPR.out)))))
          refine wpQuiet_nil ?_
          rintro _ ⟨⟨w6, hb6⟩, rfl⟩
          have B6 := Lib.hid (ext_trans B5.out hb6)
          have V6 := Lib.hid (V5.out.ext hb6)
          clear hb6
          go_wp2_with fail
          exact ⟨⟨k + 1, by omega, by go_num, B6.out, V6.out⟩, by simp [intOf]; omega⟩
        · have e : k = t.size := by omega
          subst e
          go_wp2_with fail
          go_ret
          exact ⟨rfl, B5.out⟩
end Go.Proofs.Ythelcpfcamidiaa
