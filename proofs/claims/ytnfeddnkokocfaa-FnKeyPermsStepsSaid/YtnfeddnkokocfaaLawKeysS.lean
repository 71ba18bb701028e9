/- The walk of FnKeyPermsSteps. -/
import Derived.Test.YtnfeddnkokocfaaLawKeys
import Derived.Test.YtnfeddnkokocfaaLawMa
import Derived.Test.YtnfeddnkokocfaaDrawM
namespace Go.Proofs.Ytnfeddnkokocfaa
set_option linter.unusedVariables false
set_option linter.unusedSimpArgs false
open Go.RowKit
attribute [local go_sem] Ext.cell
open BigFrame

set_option maxHeartbeats 1000000 in
set_option maxRecDepth 100000 in
theorem walk_FnKeyPermsSteps (a0 : Option Addr) (len0 cap0 : Nat) (z0 : List Int) (w : World) (w0 : IsRowB w a0 len0 cap0 z0) :
    Calls Try.prog 12 #[.slice a0 len0 cap0] w fun e w' => e = .returned (.bool true) ∧ Below w.heap.size w w' := by
  by_cases hl0 : 1048576 < len0
  · clear w0
    go_enter Try.func12, Try.ntmps12
    go_wp2_with fail
    go_ret
    exact ⟨rfl, Below.refl _ _⟩
  · have HC := Lib.hid (code_of w0 (by omega))
    clear w0
    go_enter Try.func12, Try.ntmps12
    go_wp2_with fail
    refine (c_DrawKeyPerms a0 len0 cap0 _ HC.out).mono ?_
    rintro e w1 ⟨A, cA, M, s, x, rfl, hR, _, hM, hs1, hs, hx1, hx2, hb1⟩
    have L1 := Lib.hid (MW.start M hb1 hR)
    have HM := Lib.hid hM.sz
    clear hR hb1 HC hM
    have x0 := L1.out.c0
    have x1 := L1.out.c1
    have x2 := L1.out.c2
    have x3 := L1.out.c3
    go_wp2_with fail
    refine (c_KeyPerms A cA M s x _ L1.out.rot HM.out (by omega)).mono ?_
    rintro e w2 ⟨v, rfl, hO, hb2⟩
    have L2 := Lib.hid (L1.out.ext hb2)
    have hle := kpR_len M s x
    have V2 := Lib.hid (hO.strs (by omega) (kpR_small M s x))
    obtain ⟨AL, cL, rfl⟩ := V2.out.form
    clear hb2 x0 x1 x2 x3 L1 hO
    have x0 := L2.out.c0
    have x1 := L2.out.c1
    have x2 := L2.out.c2
    have x3 := L2.out.c3
    go_wp2_with fail
    refine (c_sKeyPerms A cA M s x _ L2.out.rot HM.out (by omega)).mono ?_
    rintro e w3 ⟨v3, rfl, hv3, hb3⟩
    have L3 := Lib.hid (L2.out.ext hb3)
    have V3 := Lib.hid (V2.out.ext hb3)
    obtain ⟨A3, c3, rfl⟩ := hv3.form
    have U3 := Lib.hid hv3
    clear hb3 x0 x1 x2 x3 L2 V2 hv3
    go_wp2_with fail
    refine (c_rcTexts _ _ (kpR M s x) _ V3.out U3.out).mono ?_
    rintro e w4 ⟨rfl, hb4⟩
    have L4 := Lib.hid (L3.out.ext hb4)
    have V4 := Lib.hid (V3.out.ext hb4)
    clear hb4 L3 V3 U3
    have x0 := L4.out.c0
    have x1 := L4.out.c1
    have x2 := L4.out.c2
    have x3 := L4.out.c3
    by_cases h0 : (kpR M s x).length = 0
    · have t1 : (((kpR M s x).length : Int) == 0) = true := by rw [beq_iff_eq]; omega
      clear h0
      go_wp2_with fail
      refine (c_sKeyPerms A cA M s x _ L4.out.rot HM.out (by omega)).mono ?_
      rintro e w5 ⟨v5, rfl, hv5, hb5⟩
      have L5 := Lib.hid (L4.out.ext hb5)
      have V5 := Lib.hid (V4.out.ext hb5)
      obtain ⟨A5, c5, rfl⟩ := hv5.form
      have U5 := Lib.hid hv5
      clear hb5 x0 x1 x2 x3 L4 V4 hv5
      go_wp2_with fail
      refine (c_rcTexts _ _ (kpR M s x) _ V5.out U5.out).mono ?_
      rintro e w6 ⟨rfl, hb6⟩
      have B6 := Lib.hid (L5.out.ext hb6).bel
      clear hb6
      go_wp2_with fail
      go_ret
      exact ⟨rfl, B6.out⟩
    · have t1 : (((kpR M s x).length : Int) == 0) = false := by rw [beq_eq_false_iff_ne]; omega
      obtain ⟨hset, N, rfl, hN0, hN, hkp⟩ := kpR_some h0
      have H1 := Lib.hid hset
      have V6 := Lib.hid (show IsStrs w4 (.slice AL N cL) (kpL M s N) by have := V4.out; rw [hkp, kpL_len] at this; exact this)
      have hlen : (kpR M s (N : Int)).length = N := by rw [hkp, kpL_len]
      rw [hlen] at *
      clear h0 hset hkp V4 hle hlen
      go_wp2_with fail
      go_loopw [7] (fun i wr => ∃ k : Nat, k ≤ N ∧ i = .int .i64 k ∧ MW w w1.heap.size A cA M wr ∧ IsStrs wr (.slice AL N cL) (kpL M s N)) (fun i _ => N - (intOf i).toNat)
      case atStart => exact ⟨0, Nat.zero_le _, rfl, L4.out, V6.out⟩
      case round =>
        clear L4 V6 x0 x1 x2 x3
        obtain ⟨k, hk, rfl, hL, hV⟩ := hrel
        have L5 := Lib.hid hL
        have V5 := Lib.hid hV
        by_cases hlt : k < N
        · obtain ⟨b, o, rfl, hb, hc⟩ := hV.at_ (k := k) (by rw [kpL_len]; exact hlt)
          rw [kpL_at M s hlt] at hc
          have hst := stR_ok (setB_win H1.out) (n := k + 1) (by omega)
          have hz := it_size M.l (k + 1) s
          have hky := kyR_ok (setB_it H1.out (k + 1))
          obtain ⟨q, hq⟩ : ∃ q, it (stepS M.l) (k + 1) s = q := ⟨_, rfl⟩
          rw [hq] at hst hky hc hz
          have hzq : q.size ≤ 9223372036854775807 := by omega
          have HST : Hid (stR M.l M.rf s ((k : Int) + 1) = q) := by have h := hst; push_cast at h; exact h
          have HKY := Lib.hid hky
          have x0 := L5.out.c0
          have x1 := L5.out.c1
          have x2 := L5.out.c2
          have x3 := L5.out.c3
          have hlw := L5.out.lt
          have i1 : (0 : Int) ≤ k := by omega
          have i2 : (k : Int) < N := by omega
          clear hL hV hst hky hq
          go_wp2_with fail
          refine wp_region_ext (by kernel_rfl) (by kernel_rfl) ?_
          repeat (go_big_quiet_step ((first
            | (go_at_call 47; exact Ext.callv _ (c_rcSteps A cA M.l M.rf s _ _ (L5.out.rot.ext (Subtype.property _)) HM.out.1 (by omega)) (congrArg Value.string HST.out))
            | (go_at_call 50; exact Ext.callv _ (c_rcKey A cA M q _ (L5.out.rot.ext (Subtype.property _)) HM.out hzq) (congrArg Value.string HKY.out)))))
          refine wpQuiet_nil ?_
          rintro _ ⟨⟨w6, hb6⟩, rfl⟩
          have L6 := Lib.hid (L5.out.ext hb6)
          have V6 := Lib.hid (V5.out.ext hb6)
          clear hb6
          go_wp2_with fail
          exact ⟨⟨k + 1, by omega, by go_num, L6.out, V6.out⟩, by simp [intOf]; omega⟩
        · have e : k = N := by omega
          subst e
          go_wp2_with fail
          go_ret
          exact ⟨rfl, L5.out.bel⟩
end Go.Proofs.Ytnfeddnkokocfaa
