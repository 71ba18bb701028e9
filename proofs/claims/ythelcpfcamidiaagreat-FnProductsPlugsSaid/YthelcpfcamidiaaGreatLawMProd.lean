/- The walk of FnProductsPlugs. -/
import Derived.Test.YthelcpfcamidiaaGreatTexts
import Derived.Test.YthelcpfcamidiaaGreatPlugFns
import Derived.Test.YthelcpfcamidiaaGreatSpecRep
import Derived.Test.YthelcpfcamidiaaGreatLawMa
import Derived.Test.YthelcpfcamidiaaGreatDrawM
namespace Go.Proofs.YthelcpfcamidiaaGreat
set_option linter.unusedVariables false
set_option linter.unusedSimpArgs false
open Go.RowKit
attribute [local go_sem] Ext.cell
open BigFrame

theorem prR_small (M : Mch) (s : ByteArray) (k : Nat) (hk : k < (prR M s).length) : (gS (prR M s) k).size ≤ 9223372036854775807 := by
  unfold prR at hk ⊢
  split at hk
  · rename_i h; rw [if_pos h]; exact prL_small M s _ k hk
  · cases hk
theorem prR_len (M : Mch) (s : ByteArray) (hs : s.size ≤ 1001) : (prR M s).length ≤ 1001 := by
  unfold prR; split
  · rw [prL_len]; exact hs
  · exact Nat.zero_le _
set_option maxHeartbeats 1000000 in
set_option maxRecDepth 100000 in
theorem walk_FnProductsPlugs (a0 : Option Addr) (len0 cap0 : Nat) (z0 : List Int) (w : World) (w0 : IsRowB w a0 len0 cap0 z0) :
    Calls Tryz.prog 7 #[.slice a0 len0 cap0] w fun e w' => e = .returned (.bool true) ∧ Below w.heap.size w w' := by
  by_cases hl0 : 1048576 < len0
  · clear w0
    go_enter Tryz.func7, Tryz.ntmps7
    go_wp2_with fail
    go_ret
    exact ⟨rfl, Below.refl _ _⟩
  · have HC := Lib.hid (code_of w0 (by omega))
    clear w0
    go_enter Tryz.func7, Tryz.ntmps7
    go_wp2_with fail
    refine (c_DrawDayProducts a0 len0 cap0 _ HC.out).mono ?_
    rintro e w1 ⟨A, cA, M, s, rfl, hR, _, hM, hs1, hs, hb1⟩
    have L1 := Lib.hid (MW.start M hb1 hR)
    have HM := Lib.hid hM.sz
    clear hR hb1 HC hM
    have x0 := L1.out.c0
    have x1 := L1.out.c1
    have x2 := L1.out.c2
    have x3 := L1.out.c3
    go_wp2_with fail
    refine (c_DayProducts A cA M s _ L1.out.rot HM.out (by omega)).mono ?_
    rintro e w2 ⟨v, rfl, hO, hb2⟩
    have L2 := Lib.hid (L1.out.ext hb2)
    have hle := prR_len M s hs
    have V2 := Lib.hid (hO.strs (by omega) (prR_small M s))
    obtain ⟨AL, cL, rfl⟩ := V2.out.form
    clear hb2 x0 x1 x2 x3 L1 hO
    have x0 := L2.out.c0
    have x1 := L2.out.c1
    have x2 := L2.out.c2
    have x3 := L2.out.c3
    go_wp2_with fail
    refine (c_sDayProducts A cA M s _ L2.out.rot HM.out (by omega)).mono ?_
    rintro e w3 ⟨v3, rfl, hv3, hb3⟩
    have L3 := Lib.hid (L2.out.ext hb3)
    have V3 := Lib.hid (V2.out.ext hb3)
    obtain ⟨A3, c3, rfl⟩ := hv3.form
    have U3 := Lib.hid hv3
    clear hb3 x0 x1 x2 x3 L2 V2 hv3
    go_wp2_with fail
    refine (c_rcTexts _ _ (prR M s) _ V3.out U3.out).mono ?_
    rintro e w4 ⟨rfl, hb4⟩
    have L4 := Lib.hid (L3.out.ext hb4)
    have V4 := Lib.hid (V3.out.ext hb4)
    clear hb4 L3 V3 U3
    have x0 := L4.out.c0
    have x1 := L4.out.c1
    have x2 := L4.out.c2
    have x3 := L4.out.c3
    go_wp2_with fail
    refine (c_rcBare A cA M _ L4.out.rot).mono ?_
    rintro e w5 ⟨rfl, hb5⟩
    have L5 := Lib.hid (L4.out.ext hb5)
    have V5 := Lib.hid (V4.out.ext hb5)
    have HMB : Hid (MSz (bareM M)) := ⟨HM.out.1, HM.out.2.1, by show (pS _).size ≤ _; rw [pS_size]; omega⟩
    clear hb5 L4 V4 x0 x1 x2 x3
    go_wp2_with fail
    refine (c_rcProducts A cA (bareM M) s _ L5.out.rot HMB.out (by omega)).mono ?_
    rintro e w6 ⟨v6, rfl, hO6, hb6⟩
    have L6 := Lib.hid (L5.out.ext hb6)
    have V6 := Lib.hid (V5.out.ext hb6)
    have hle6 := prR_len (bareM M) s hs
    have U6 := Lib.hid (hO6.strs (by omega) (prR_small (bareM M) s))
    obtain ⟨AB, cB, rfl⟩ := U6.out.form
    clear hb6 L5 V5 hO6
    cases h1 : setB M s with
    | false =>
      have h0 : (prR M s).length = 0 := by rw [prR_no h1]; rfl
      rw [h0]
      clear h1 h0 hle
      go_wp2_with fail
      go_loopw [7] (fun i wr => i = .int .i64 0 ∧ MW w w1.heap.size A cA M wr) (fun i _ => 0)
      case atStart => exact ⟨rfl, L6.out⟩
      case round =>
        obtain ⟨rfl, hL⟩ := hrel
        have L7 := Lib.hid hL
        go_wp2_with fail
        go_ret
        exact ⟨rfl, L7.out.bel⟩
    | true =>
      have HS := Lib.hid h1
      have hmB := ((setB_iff M s).1 h1).1
      have HMV := Lib.hid hmB
      have h3 := prR_ok h1
      have h4 : prR (bareM M) s = prL (bareM M) s s.size := prR_ok (by rw [show bareM M = plM M (pS fun i => i) from rfl, setB_pl hmB plugB_id]; exact h1)
      have V7 := Lib.hid (show IsStrs w6 (.slice AL s.size cL) (prL M s s.size) by have := V6.out; rw [h3, prL_len] at this; exact this)
      have U7 := Lib.hid (show IsStrs w6 (.slice AB s.size cB) (prL (bareM M) s s.size) by have := U6.out; rw [h4, prL_len] at this; exact this)
      have e1 : (prR M s).length = s.size := by rw [h3, prL_len]
      have e2 : (prR (bareM M) s).length = s.size := by rw [h4, prL_len]
      rw [e1, e2]
      clear h1 hmB h3 h4 V6 U6 e1 e2 hle hle6
      go_wp2_with fail
      go_loopw [7] (fun i wr => ∃ k : Nat, k ≤ s.size ∧ i = .int .i64 k ∧ MW w w1.heap.size A cA M wr ∧ IsStrs wr (.slice AL s.size cL) (prL M s s.size) ∧ IsStrs wr (.slice AB s.size cB) (prL (bareM M) s s.size)) (fun i _ => s.size - (intOf i).toNat)
      case atStart => exact ⟨0, Nat.zero_le _, rfl, L6.out, V7.out, U7.out⟩
      case round =>
        clear L6 V7 U7
        obtain ⟨k, hk, rfl, hL, hV, hU⟩ := hrel
        have L7 := Lib.hid hL
        have V7 := Lib.hid hV
        have U7 := Lib.hid hU
        by_cases hlt : k < s.size
        · obtain ⟨b, o, rfl, hb, hc⟩ := hV.at_ (k := k) (by rw [prL_len]; exact hlt)
          obtain ⟨b', o', rfl, hb', hc'⟩ := hU.at_ (k := k) (by rw [prL_len]; exact hlt)
          rw [prL_at _ s hlt] at hc hc'
          have hmb : mB (bareM M) = true := mB_pl HMV.out plugB_id
          have hre : renS (pS (prF (bareM M) s k)) M.pl = pS (prF M s k) := by
            rw [renS_of (prF_P s hmb k) ((plugB_iff _).1 ((mB_iff M).1 HMV.out).2).1]
            exact ren_bare s HMV.out k
          have hp1 : permB (pS (prF (bareM M) s k)) = true := pS_perm (prF_P s hmb k)
          have hp2 : permB M.pl = true := ((plugB_iff _).1 ((mB_iff M).1 HMV.out).2).1
          obtain ⟨q, hq⟩ : ∃ q, pS (prF (bareM M) s k) = q := ⟨_, rfl⟩
          obtain ⟨r, hr⟩ : ∃ r, pS (prF M s k) = r := ⟨_, rfl⟩
          rw [hq] at hc' hre hp1
          rw [hr] at hc hre
          have HRE := Lib.hid hre
          have HP1 := Lib.hid hp1
          have HP2 := Lib.hid hp2
          have x3 := L7.out.c3
          have hlw := L7.out.lt
          have i1 : (0 : Int) ≤ k := by omega
          have i2 : (k : Int) < s.size := by omega
          have i4 : (k : Nat) < s.size := by omega
          have t1 : decide ((s.size : Int) ≤ (k : Int)) = false := decide_eq_false (by omega)
          have t2 : decide (s.size ≤ k) = false := decide_eq_false (by omega)
          clear hL hV hU hre hp1 hp2 hq hr
          go_wp2_with fail
          refine wp_region_ext (by kernel_rfl) (by kernel_rfl) ?_
          repeat (go_big_quiet_step ((go_at_call 35; exact Ext.callv _ (c_rcRenamed q M.pl _ HP1.out HP2.out) (congrArg Value.string HRE.out))))
          refine wpQuiet_nil ?_
          rintro _ ⟨⟨w8, hb8⟩, rfl⟩
          have L8 := Lib.hid (L7.out.ext hb8)
          have V8 := Lib.hid (V7.out.ext hb8)
          have U8 := Lib.hid (U7.out.ext hb8)
          clear hb8
          go_wp2_with fail
          exact ⟨⟨k + 1, by omega, by go_num, L8.out, V8.out, U8.out⟩, by simp [intOf]; omega⟩
        · have e : k = s.size := by omega
          subst e
          go_wp2_with fail
          go_ret
          exact ⟨rfl, L7.out.bel⟩
end Go.Proofs.YthelcpfcamidiaaGreat
