/- The walk of FnHasRepeatFixed. -/
import Derived.Test.YthelcpfcamidiaaFixFns
import Derived.Test.YthelcpfcamidiaaRepFns
import Derived.Test.YthelcpfcamidiaaSpecRep
import Derived.Test.YthelcpfcamidiaaDrawM
namespace Go.Proofs.Ythelcpfcamidiaa
set_option linter.unusedVariables false
set_option linter.unusedSimpArgs false
open Go.RowKit
attribute [local go_sem] Ext.cell
open BigFrame

theorem prR_smallF (M : Mch) (s : ByteArray) (k : Nat) (hk : k < (prR M s).length) : (gS (prR M s) k).size ≤ 9223372036854775807 := by
  unfold prR at hk ⊢
  split at hk
  · rename_i h; rw [if_pos h]; exact prL_small M s _ k hk
  · cases hk
theorem prR_lenF (M : Mch) (s : ByteArray) (hs : s.size ≤ 1001) : (prR M s).length ≤ 1001 := by
  unfold prR; split
  · rw [prL_len]; exact hs
  · exact Nat.zero_le _
set_option maxHeartbeats 1000000 in
set_option maxRecDepth 100000 in
theorem walk_FnHasRepeatFixed (a0 : Option Addr) (len0 cap0 : Nat) (z0 : List Int) (w : World) (w0 : IsRowB w a0 len0 cap0 z0) :
    Calls Try.prog 3 #[.slice a0 len0 cap0] w fun e w' => e = .returned (.bool true) ∧ Below w.heap.size w w' := by
  by_cases hl0 : 1048576 < len0
  · clear w0
    go_enter Try.func3, Try.ntmps3
    go_wp2_with fail
    go_ret
    exact ⟨rfl, Below.refl _ _⟩
  · have HC := Lib.hid (code_of w0 (by omega))
    clear w0
    go_enter Try.func3, Try.ntmps3
    go_wp2_with fail
    refine (c_DrawHasRepeat a0 len0 cap0 _ HC.out).mono ?_
    rintro e w1 ⟨A, cA, M, s, x, rfl, hR, _, hM, hs1, hs, hx1, hx2, hb1⟩
    have L1 := Lib.hid (MW.start M hb1 hR)
    have HM := Lib.hid hM.sz
    clear hR hb1 HC hM
    have x0 := L1.out.c0
    have x1 := L1.out.c1
    have x2 := L1.out.c2
    have x3 := L1.out.c3
    go_wp2_with fail
    refine (c_HasRepeat A cA M s x _ L1.out.rot HM.out (by omega)).mono ?_
    rintro e w2 ⟨rfl, hb2⟩
    obtain ⟨r, hr⟩ : ∃ r, repB M s x = r := ⟨_, rfl⟩
    rw [hr]
    have HR := Lib.hid hr
    clear hr
    have L2 := Lib.hid (L1.out.ext hb2)
    clear hb2 x0 x1 x2 x3 L1
    have x0 := L2.out.c0
    have x1 := L2.out.c1
    have x2 := L2.out.c2
    have x3 := L2.out.c3
    go_wp2_with fail
    refine (c_sHasRepeat A cA M s x _ L2.out.rot HM.out (by omega)).mono ?_
    rintro e w3 ⟨rfl, hb3⟩
    rw [HR.out]
    have L3 := Lib.hid (L2.out.ext hb3)
    clear hb3 x0 x1 x2 x3 L2
    have x0 := L3.out.c0
    have x1 := L3.out.c1
    have x2 := L3.out.c2
    have x3 := L3.out.c3
    go_wp2_with fail
    refine (c_DayProducts A cA M s _ L3.out.rot HM.out (by omega)).mono ?_
    rintro e w4 ⟨v, rfl, hO, hb4⟩
    have L4 := Lib.hid (L3.out.ext hb4)
    have hle := prR_lenF M s hs
    have V4 := Lib.hid (hO.strs (by omega) (prR_smallF M s))
    obtain ⟨AL, cL, rfl⟩ := V4.out.form
    clear hb4 x0 x1 x2 x3 L3 hO
    by_cases hx : x < 0
    · have hrr : r = false := by rw [← HR.out]; exact repB_out (by omega)
      subst hrr
      go_wp2_with fail
      go_ret
      exact ⟨rfl, L4.out.bel⟩
    · obtain ⟨k, rfl⟩ : ∃ k : Nat, x = (k : Int) := ⟨x.toNat, by omega⟩
      by_cases hl : (prR M s).length ≤ k
      · have hrr : r = false := by
          rw [← HR.out]
          cases h1 : setB M s with
          | false => exact repB_no h1
          | true =>
            rw [prR_ok h1, prL_len] at hl
            exact repB_out (by omega)
        subst hrr
        have i1 : ((prR M s).length : Int) ≤ (k : Int) := by omega
        have t1 : decide (((prR M s).length : Int) ≤ (k : Int)) = true := decide_eq_true i1
        go_wp2_with fail
        go_ret
        exact ⟨rfl, L4.out.bel⟩
      · have hset : setB M s = true := by
          cases h1 : setB M s with
          | true => rfl
          | false => rw [prR_no h1] at hl; exact absurd (Nat.zero_le _) hl
        have e1 := prR_ok hset
        rw [e1, prL_len] at hl
        have hk : k < s.size := by omega
        have V5 := Lib.hid (show IsStrs w4 (.slice AL s.size cL) (prL M s s.size) by have := V4.out; rw [e1, prL_len] at this; exact this)
        have e2 : (prR M s).length = s.size := by rw [e1, prL_len]
        rw [e2]
        have hmb := ((setB_iff M s).1 hset).1
        have hrr : r = fixB (prF M s k) := by rw [← HR.out]; exact repB_at hset hk
        have hP := prF_P s hmb k
        have hpb : permB (pS (prF M s k)) = true := pS_perm hP
        have hfe : fixS (pn (pS (prF M s k))) = fixS (prF M s k) := fixS_congr fun i hi => pn_pS hP hi
        have hev := fix_even s hmb k
        have hfz := fixB_size (prF M s k)
        rw [← hrr] at hfz
        have hle10 := fixL_le (prF M s k) 10
        rw [← fixS_size] at hle10
        obtain ⟨b, o, rfl, hb, hc⟩ := V5.out.at_ (k := k) (by rw [prL_len]; exact hk)
        rw [prL_at M s hk] at hc
        obtain ⟨q, hq⟩ : ∃ q, pS (prF M s k) = q := ⟨_, rfl⟩
        rw [hq] at hc hpb hfe
        obtain ⟨z, hz⟩ : ∃ z, fixS (prF M s k) = z := ⟨_, rfl⟩
        rw [hz] at hfe hev hfz hle10
        have HPB := Lib.hid hpb
        have HFE := Lib.hid hfe
        have i0 : (0 : Int) ≤ k := by omega
        have i1 : (k : Int) < s.size := by omega
        have t1 : decide ((s.size : Int) ≤ (k : Int)) = false := decide_eq_false (by omega)
        have HEV := Lib.hid hev
        have HFZ := Lib.hid hfz
        clear hset e1 e2 hl V4 hmb hrr hP hpb hfe hq hz hev hfz hle HR
        go_wp2_with fail
        refine (c_iFixedLetters q _ HPB.out).mono ?_
        rintro e w6 ⟨rfl, hb6⟩
        rw [HFE.out]
        have B6 := Lib.hid (L4.out.ext hb6).bel
        clear hb6
        have hm2 : Int.tmod (z.size : Int) 2 = 0 := by have := HEV.out; rw [Int.tmod_eq_emod_of_nonneg (by omega)]; omega
        have hm3 : (z.size : Int) % 2 = 0 := by have := HEV.out; omega
        by_cases hz0 : z.size = 0
        · have hze : z = ⟨#[]⟩ := by
            apply bt_ext
            · rw [hz0]; rfl
            · intro i hi; omega
          subst hze
          have hrf : r = false := by
            cases r with
            | false => rfl
            | true => exact absurd hz0 (HFZ.out.1 rfl)
          subst hrf
          clear hm2 hm3 hz0
          go_wp2_with fail
          go_ret
          exact ⟨rfl, B6.out⟩
        · have hrt : r = true := HFZ.out.2 hz0
          subst hrt
          have hne : ¬ z = ⟨#[]⟩ := fun e => hz0 (by rw [e]; rfl)
          have hem : z.toList.isEmpty = false := by rw [← decide_eq_emptyBytes]; exact decide_eq_false hne
          clear hz0 HFZ
          go_wp2_with fail
          go_ret
          exact ⟨by simp, B6.out⟩
end Go.Proofs.Ythelcpfcamidiaa
