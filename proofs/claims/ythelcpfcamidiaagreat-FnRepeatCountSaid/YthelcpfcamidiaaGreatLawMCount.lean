/- The walk of FnRepeatCount. -/
import Derived.Test.YthelcpfcamidiaaGreatLawMa
import Derived.Test.YthelcpfcamidiaaGreatRowFns
import Derived.Test.YthelcpfcamidiaaGreatSpecRep
import Derived.Test.YthelcpfcamidiaaGreatDrawM
namespace Go.Proofs.YthelcpfcamidiaaGreat
set_option linter.unusedVariables false
set_option linter.unusedSimpArgs false
open Go.RowKit
attribute [local go_sem] Ext.cell
open BigFrame

set_option maxHeartbeats 1000000 in
set_option maxRecDepth 100000 in
theorem walk_FnRepeatCount (a0 : Option Addr) (len0 cap0 : Nat) (z0 : List Int) (w : World) (w0 : IsRowB w a0 len0 cap0 z0) :
    Calls Tryz.prog 5 #[.slice a0 len0 cap0] w fun e w' => e = .returned (.bool true) ∧ Below w.heap.size w w' := by
  by_cases hl0 : 1048576 < len0
  · clear w0
    go_enter Tryz.func5, Tryz.ntmps5
    go_wp2_with fail
    go_ret
    exact ⟨rfl, Below.refl _ _⟩
  · have HC := Lib.hid (code_of w0 (by omega))
    clear w0
    go_enter Tryz.func5, Tryz.ntmps5
    go_wp2_with fail
    refine (c_DrawRepeatCount a0 len0 cap0 _ HC.out).mono ?_
    rintro e w1 ⟨A, cA, M, s, rfl, hR, _, hM, hs1, hs, hb1⟩
    have L1 := Lib.hid (MW.start M hb1 hR)
    have HM := Lib.hid hM.sz
    clear hR hb1 HC hM
    have x0 := L1.out.c0
    have x1 := L1.out.c1
    have x2 := L1.out.c2
    have x3 := L1.out.c3
    go_wp2_with fail
    refine (c_RepeatCount A cA M s _ L1.out.rot HM.out (by omega)).mono ?_
    rintro e w2 ⟨rfl, hb2⟩
    have L2 := Lib.hid (L1.out.ext hb2)
    clear hb2 x0 x1 x2 x3 L1
    have x0 := L2.out.c0
    have x1 := L2.out.c1
    have x2 := L2.out.c2
    have x3 := L2.out.c3
    cases h1 : setB M s with
    | false =>
      have HS := Lib.hid h1
      have HC := Lib.hid (cntI_no h1)
      rw [HC.out]
      clear h1
      go_wp2_with fail
      refine (c_sRepeatCount A cA M s _ L2.out.rot HM.out (by omega)).mono ?_
      rintro e w3 ⟨rfl, hb3⟩
      rw [HC.out]
      have L3 := Lib.hid (L2.out.ext hb3)
      clear hb3 x0 x1 x2 x3 L2
      have x0 := L3.out.c0
      have x1 := L3.out.c1
      have x2 := L3.out.c2
      have x3 := L3.out.c3
      go_wp2_with fail
      refine (c_rcFits A cA M s _ L3.out.rot HM.out (by omega)).mono ?_
      rintro e w4 ⟨rfl, hb4⟩
      rw [HS.out]
      have L4 := Lib.hid (L3.out.ext hb4)
      clear hb4 x0 x1 x2 x3 L3
      have x0 := L4.out.c0
      have x1 := L4.out.c1
      have x2 := L4.out.c2
      have x3 := L4.out.c3
      go_wp2_with fail
      refine (c_sRepeatCount A cA M s _ L4.out.rot HM.out (by omega)).mono ?_
      rintro e w5 ⟨rfl, hb5⟩
      rw [HC.out]
      have L5 := Lib.hid (L4.out.ext hb5)
      clear hb5 x0 x1 x2 x3 L4
      have x0 := L5.out.c0
      have x1 := L5.out.c1
      have x2 := L5.out.c2
      have x3 := L5.out.c3
      go_wp2_with fail
      refine (c_rcFits A cA M s _ L5.out.rot HM.out (by omega)).mono ?_
      rintro e w6 ⟨rfl, hb6⟩
      rw [HS.out]
      have L6 := Lib.hid (L5.out.ext hb6)
      clear hb6 x0 x1 x2 x3 L5
      go_wp2_with fail
      go_ret
      exact ⟨rfl, L6.out.bel⟩
    | true =>
      have HS := Lib.hid h1
      have HC := Lib.hid (cntI_ok h1)
      rw [HC.out]
      have hle := cntF_le M s s.size
      obtain ⟨c, hc⟩ : ∃ c, cntF M s s.size = c := ⟨_, rfl⟩
      rw [hc] at hle HC ⊢
      have HCC := Lib.hid hc
      have i0 : (0 : Int) ≤ (c : Int) := by omega
      have i1 : ¬ (c : Int) < 0 := by omega
      clear h1 hc
      go_wp2_with fail
      refine (c_sRepeatCount A cA M s _ L2.out.rot HM.out (by omega)).mono ?_
      rintro e w3 ⟨rfl, hb3⟩
      rw [HC.out]
      have L3 := Lib.hid (L2.out.ext hb3)
      clear hb3 x0 x1 x2 x3 L2
      have x0 := L3.out.c0
      have x1 := L3.out.c1
      have x2 := L3.out.c2
      have x3 := L3.out.c3
      go_wp2_with fail
      refine (c_rcFits A cA M s _ L3.out.rot HM.out (by omega)).mono ?_
      rintro e w4 ⟨rfl, hb4⟩
      rw [HS.out]
      have L4 := Lib.hid (L3.out.ext hb4)
      clear hb4 x0 x1 x2 x3 L3
      go_wp2_with fail
      clear i0 i1
      go_loopw [5, 6] (fun g i wr => ∃ k : Nat, k ≤ s.size ∧ i = .int .i64 k ∧ g = .int .i64 ((c : Int) - (cntF M s k : Int)) ∧ MW w w1.heap.size A cA M wr) (fun _ i _ => s.size - (intOf i).toNat)
      case atStart => exact ⟨0, Nat.zero_le _, rfl, by unfold cntF; simp, L4.out⟩
      case round =>
        clear L4
        obtain ⟨k, hk, rfl, rfl, hL⟩ := hrel
        have L5 := Lib.hid hL
        have hck := cntF_le M s k
        have hx : cntF M s (k + 1) = cntF M s k + (if fixB (prF M s k) = true then 1 else 0) := rfl
        obtain ⟨d, hd⟩ : ∃ d, cntF M s k = d := ⟨_, rfl⟩
        rw [hd] at hck hx ⊢
        have HX := Lib.hid hx
        clear hL hx
        by_cases hlt : k < s.size
        · have i2 : (k : Int) < s.size := by omega
          have HRP := Lib.hid (repB_at HS.out hlt)
          have x0 := L5.out.c0
          have x1 := L5.out.c1
          have x2 := L5.out.c2
          have x3 := L5.out.c3
          clear hd
          go_wp2_with fail
          refine (c_HasRepeat A cA M s k _ L5.out.rot HM.out (by omega)).mono ?_
          rintro e w6 ⟨rfl, hb6⟩
          rw [HRP.out]
          have L6 := Lib.hid (L5.out.ext hb6)
          clear hb6 x0 x1 x2 x3
          cases hf : fixB (prF M s k) with
          | true =>
            have hx : cntF M s (k + 1) = d + 1 := by rw [HX.out, if_pos hf]
            have HX2 := Lib.hid hx
            clear hf hx
            go_wp2_with fail
            exact ⟨⟨k + 1, by omega, by go_num, by rw [HX2.out]; push_cast; go_num, L6.out⟩, by simp [intOf]; omega⟩
          | false =>
            have hx : cntF M s (k + 1) = d := by rw [HX.out, if_neg (by rw [hf]; simp), Nat.add_zero]
            have HX2 := Lib.hid hx
            clear hf hx
            go_wp2_with fail
            exact ⟨⟨k + 1, by omega, by go_num, by rw [HX2.out], L6.out⟩, by simp [intOf]; omega⟩
        · have e : k = s.size := by omega
          subst e
          have e2 : c = d := by rw [← HCC.out, hd]
          subst e2
          clear hd
          have e3 : (c : Int) - (c : Int) = 0 := by omega
          rw [e3]
          go_wp2_with fail
          go_ret
          exact ⟨rfl, L5.out.bel⟩
end Go.Proofs.YthelcpfcamidiaaGreat
