/- The walk of FnSheetRow. -/
import Derived.Test.YthelcpfcamidiaaGreatLawMRepKey
import Derived.Test.YthelcpfcamidiaaGreatDrawSheet
namespace Go.Proofs.YthelcpfcamidiaaGreat
set_option linter.unusedVariables false
set_option linter.unusedSimpArgs false
open Go.RowKit
attribute [local go_sem] Ext.cell
open BigFrame

theorem inB_ofR {n a b : Int} (h : inB n a b = true) : a ≤ n ∧ n ≤ b := Decidable.byContradiction fun hc => by rw [inB_false hc] at h; cases h
theorem grd_a (s : ByteArray) : grd s 0 = s ++ ⟨#[97]⟩ := rfl
attribute [local go_sem high] idx_int
set_option maxHeartbeats 1000000 in
set_option maxRecDepth 100000 in
theorem walk_FnSheetRow (a0 : Option Addr) (len0 cap0 : Nat) (z0 : List Int) (w : World) (w0 : IsRowB w a0 len0 cap0 z0) :
    Calls Tryz.prog 3 #[.slice a0 len0 cap0] w fun e w' => e = .returned (.bool true) ∧ Below w.heap.size w w' := by
  by_cases hl0 : 1048576 < len0
  · clear w0
    go_enter Tryz.func3, Tryz.ntmps3
    go_wp2_with fail
    go_ret
    exact ⟨rfl, Below.refl _ _⟩
  · have HC := Lib.hid (code_of w0 (by omega))
    clear w0
    go_enter Tryz.func3, Tryz.ntmps3
    go_wp2_with fail
    refine (c_DrawSheetRow a0 len0 cap0 _ HC.out).mono ?_
    rintro e w1 ⟨A, cA, M, s, x, rfl, hR, hM, hs, hx1, hx2, hb1⟩
    have L1 := Lib.hid (MW.start M hb1 hR)
    have HM := Lib.hid hM.sz
    clear hR hb1 HC hM
    have x0 := L1.out.c0
    have x1 := L1.out.c1
    have x2 := L1.out.c2
    have x3 := L1.out.c3
    go_wp2_with fail
    refine (c_SheetRow A cA M s x _ L1.out.rot HM.out (by omega)).mono ?_
    rintro e w2 ⟨rfl, hb2⟩
    obtain ⟨r, hr⟩ : ∃ r, rowR M s x = r := ⟨_, rfl⟩
    rw [hr]
    have HR := Lib.hid hr
    have L2 := Lib.hid (L1.out.ext hb2)
    clear hb2 x0 x1 x2 x3 L1 hr
    have x0 := L2.out.c0
    have x1 := L2.out.c1
    have x2 := L2.out.c2
    have x3 := L2.out.c3
    go_wp2_with fail
    refine (c_sSheetRow A cA M s x _ L2.out.rot HM.out (by omega)).mono ?_
    rintro e w3 ⟨rfl, hb3⟩
    rw [HR.out]
    have L3 := Lib.hid (L2.out.ext hb3)
    clear hb3 x0 x1 x2 x3 L2
    have x0 := L3.out.c0
    have x1 := L3.out.c1
    have x2 := L3.out.c2
    have x3 := L3.out.c3
    have hsum : ¬ 9223372036854775807 < s.size + 1 := by omega
    have hza : (s ++ ⟨#[97]⟩ : ByteArray).size ≤ 9223372036854775807 := by rw [← grd_a, grd_size]; omega
    have hset : setB M (s ++ ⟨#[97]⟩) = preB M s := by rw [← grd_a]; exact grd_set M s (by omega)
    have HSET := Lib.hid hset
    clear hset
    go_wp2_with fail
    refine (c_rcFits A cA M _ _ L3.out.rot HM.out hza).mono ?_
    rintro e w4 ⟨rfl, hb4⟩
    rw [HSET.out]
    have L4 := Lib.hid (L3.out.ext hb4)
    clear hb4 x0 x1 x2 x3 L3
    by_cases hf : (preB M s && inB x 0 s.size) = true
    · rw [Bool.and_eq_true] at hf
      obtain ⟨h1, h2⟩ := hf
      have h3 := inB_ofR h2
      obtain ⟨k, rfl⟩ : ∃ k : Nat, x = (k : Int) := ⟨x.toNat, by omega⟩
      have hk : k ≤ s.size := by omega
      have hrow := rowR_ok h1 hk
      rw [HR.out] at hrow
      have hrz : r.size = 10 := by rw [hrow, rowS_size]
      have HROW := Lib.hid hrow
      have HP := Lib.hid h1
      have i0 : (0 : Int) ≤ k := by omega
      have i1 : (k : Int) ≤ s.size := by omega
      rw [h1]
      clear h1 h2 h3 hrow
      have HRZ := Lib.hid hrz
      clear hrz
      go_wp2_with fail
      go_loopw [8] (fun i wr => ∃ j : Nat, j ≤ 10 ∧ i = .int .i64 j ∧ MW w w1.heap.size A cA M wr) (fun i _ => 10 - (intOf i).toNat)
      case atStart => exact ⟨0, by omega, rfl, L4.out⟩
      case round =>
        clear L4
        obtain ⟨j, hj, rfl, hL⟩ := hrel
        have L5 := Lib.hid hL
        clear hL
        by_cases hlt : j < 10
        · have hsetj : setB M (grd s j) = true := by rw [grd_set M s hlt]; exact HP.out
          have hrp : repB M (grd s j) (k : Int) = fixB (prF M (grd s j) k) := repB_at hsetj (by rw [grd_size]; omega)
          have hbt : bt r j = if fixB (prF M (grd s j) k) = true then 49 else 48 := by rw [HROW.out]; exact rowS_bt M s k hlt
          have hlet : strOfNums [97 + (j : Int) % 10] = strOfNums [97 + (j : Int)] := by rw [show (j : Int) % 10 = j by omega]
          have HLET := Lib.hid hlet
          have z1 := size_one (97 + (j : Int))
          have hzj : (s ++ strOfNums [97 + (j : Int)]).size ≤ 9223372036854775807 := by have := grd_size s j; unfold grd at this; omega
          have hrp2 : repB M (s ++ strOfNums [97 + (j : Int)]) (k : Int) = fixB (prF M (grd s j) k) := hrp
          have x0 := L5.out.c0
          have x1 := L5.out.c1
          have x2 := L5.out.c2
          have x3 := L5.out.c3
          have hlw := L5.out.lt
          have hrz := HRZ.out
          have j0 : (0 : Int) ≤ j := by omega
          have j1 : j < r.size := by omega
          have j2 : (j : Int) < (r.size : Int) := by omega
          have t1 : decide ((r.size : Int) ≤ (j : Int)) = false := decide_eq_false (by omega)
          have t2 : decide (r.size ≤ j) = false := decide_eq_false (by omega)
          clear hrz hlet hrp hsetj
          cases hf : fixB (prF M (grd s j) k) with
          | true =>
            rw [hf] at hbt hrp2
            rw [if_pos rfl] at hbt
            have HRP := Lib.hid hrp2
            clear hf hrp2
            go_wp2_with fail
            refine wp_region_ext (by kernel_rfl) (by kernel_rfl) ?_
            repeat (go_big_quiet_step ((first
              | (go_at_call 14; exact Ext.callv _ (c_rcLetterM _ _ (by omega) (by omega)) (congrArg Value.string HLET.out))
              | (go_at_call 13; exact Ext.callv _ (c_HasRepeat A cA M _ _ _ (L5.out.rot.ext (Subtype.property _)) HM.out hzj) (congrArg Value.bool HRP.out)))))
            refine wpQuiet_nil ?_
            rintro _ ⟨⟨w6, hb6⟩, rfl⟩
            have L6 := Lib.hid (L5.out.ext hb6)
            clear hb6
            go_wp2_with fail
            exact ⟨⟨j + 1, by omega, by go_num, L6.out⟩, by simp [intOf]; omega⟩
          | false =>
            rw [hf] at hbt hrp2
            rw [if_neg (by simp)] at hbt
            have HRP := Lib.hid hrp2
            clear hf hrp2
            go_wp2_with fail
            refine wp_region_ext (by kernel_rfl) (by kernel_rfl) ?_
            repeat (go_big_quiet_step ((first
              | (go_at_call 14; exact Ext.callv _ (c_rcLetterM _ _ (by omega) (by omega)) (congrArg Value.string HLET.out))
              | (go_at_call 13; exact Ext.callv _ (c_HasRepeat A cA M _ _ _ (L5.out.rot.ext (Subtype.property _)) HM.out hzj) (congrArg Value.bool HRP.out)))))
            refine wpQuiet_nil ?_
            rintro _ ⟨⟨w6, hb6⟩, rfl⟩
            have L6 := Lib.hid (L5.out.ext hb6)
            clear hb6
            go_wp2_with fail
            exact ⟨⟨j + 1, by omega, by go_num, L6.out⟩, by simp [intOf]; omega⟩
        · have e : j = 10 := by omega
          subst e
          have hrz : (r.size : Int) = 10 := by have := HRZ.out; omega
          go_wp2_with fail
          go_ret
          exact ⟨by simp [hrz], L5.out.bel⟩
    · have he := rowR_no (M := M) (s := s) (n := x) (by simpa using hf)
      rw [HR.out] at he
      subst he
      cases h1 : preB M s with
      | false =>
        go_wp2_with fail
        go_ret
        exact ⟨rfl, L4.out.bel⟩
      | true =>
        rw [h1, Bool.true_and] at hf
        have hx : ¬ (0 ≤ x ∧ x ≤ s.size) := fun h => hf (inB_true h.1 h.2)
        clear hf h1
        by_cases hx0 : x < 0
        · clear hx
          go_wp2_with fail
          go_ret
          exact ⟨rfl, L4.out.bel⟩
        · have i0 : (0 : Int) ≤ x := by omega
          have i1 : ¬ x ≤ (s.size : Int) := by omega
          have t1 : decide (x ≤ (s.size : Int)) = false := decide_eq_false i1
          clear hx
          go_wp2_with fail
          go_ret
          exact ⟨rfl, L4.out.bel⟩
end Go.Proofs.YthelcpfcamidiaaGreat
