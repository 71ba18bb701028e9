/- Contracts of CageValid, of the program and of the reference. -/
import Derived.Test.YthelcpfcamidiaaDoorKitA
namespace Go.Proofs.YthelcpfcamidiaaDoor
set_option linter.unusedVariables false
set_option linter.unusedSimpArgs false
open Go.RowKit

def isBit (x : Int) : Bool := x == 48 || x == 49
def wheelB (s : ByteArray) : Bool := decide (2 ≤ s.size) && decide (s.size ≤ 9) && allB s.size (fun k => isBit (bt s k))
theorem wheelB_iff (s : ByteArray) : wheelB s = true ↔ (2 ≤ s.size ∧ s.size ≤ 9) ∧ ∀ k, k < s.size → bt s k = 48 ∨ bt s k = 49 := by
  unfold wheelB; rw [Bool.and_eq_true, Bool.and_eq_true, allB_iff]; simp [isBit]
theorem wheelB_len {s : ByteArray} (h : ¬ (2 ≤ s.size ∧ s.size ≤ 9)) : wheelB s = false := by
  cases e : wheelB s with
  | false => rfl
  | true => exact absurd ((wheelB_iff s).1 e).1 h
theorem wheelB_bad {s : ByteArray} {k : Nat} (hk : k < s.size) (h : isBit (bt s k) = false) : wheelB s = false := by
  unfold wheelB; rw [allB_false hk h]; simp
theorem wheelB_good {s : ByteArray} (h : 2 ≤ s.size ∧ s.size ≤ 9) (ha : allB s.size (fun k => isBit (bt s k)) = true) : wheelB s = true := by
  unfold wheelB; rw [ha]; simp; exact h

def cageB (ws : List ByteArray) (bs : List Int) : Bool :=
  decide (1 ≤ ws.length) && decide (ws.length ≤ 4) && decide (1 ≤ bs.length) && decide (bs.length ≤ 9) &&
    allB ws.length (fun k => wheelB (gS ws k)) && allB bs.length (fun k => decide (0 ≤ gI bs k) && decide (gI bs k < 2 ^ ws.length))

set_option maxHeartbeats 400000 in
theorem c_wheelValid (s : ByteArray) (w : World) : Calls Tryd.prog 22 #[.string s] w fun e w' => e = .returned (.bool (wheelB s)) ∧ w = w' := by
  by_cases h : 2 ≤ s.size ∧ s.size ≤ 9
  · have h1 : decide ((s.size : Int) < 2) = false := by simp; omega
    have h2 : decide (9 < (s.size : Int)) = false := by simp; omega
    go_enter Tryd.func22, Tryd.ntmps22
    go_wp2_with fail
    go_loop [14] (fun i => ∃ k : Nat, k ≤ s.size ∧ i = .int .i64 k ∧ allB k (fun k => isBit (bt s k)) = true) (fun i => s.size - (intOf i).toNat)
    case atStart => exact ⟨0, Nat.zero_le _, rfl, rfl⟩
    case round =>
      obtain ⟨k, hk, rfl, ha⟩ := hrel
      have HA := Lib.hid ha
      clear ha
      by_cases hlt : k < s.size
      · have hr := bt_range s k
        have hb := bt_get s k hlt
        by_cases q1 : bt s k = 48
        · have t1 : (bt s k != 48) = false := by simp [q1]
          have hq : isBit (bt s k) = true := by simp [isBit, q1]
          have HQ := Lib.hid hq
          clear q1 hq
          go_wp2_with fail
          exact ⟨⟨k + 1, by omega, by go_num, allB_step HA.out HQ.out⟩, by simp [intOf]; omega⟩
        · have t1 : (bt s k != 48) = true := by simp [q1]
          by_cases q2 : bt s k = 49
          · have t2 : (bt s k != 49) = false := by simp [q2]
            have hq : isBit (bt s k) = true := by simp [isBit, q2]
            have HQ := Lib.hid hq
            clear q1 q2 hq
            go_wp2_with fail
            exact ⟨⟨k + 1, by omega, by go_num, allB_step HA.out HQ.out⟩, by simp [intOf]; omega⟩
          · have t2 : (bt s k != 49) = true := by simp [q2]
            have hq : isBit (bt s k) = false := by simp [isBit, q1, q2]
            have HQ := Lib.hid hq
            clear q1 q2 hq
            go_wp2_with fail
            go_ret
            exact ⟨ret_bool (wheelB_bad hlt HQ.out).symm, rfl⟩
      · go_wp2_with fail
        go_ret
        have e : k = s.size := by omega
        subst e
        exact ⟨ret_bool (wheelB_good h HA.out).symm, rfl⟩
  · have hw := Lib.hid (wheelB_len h)
    by_cases h1 : s.size < 2
    · go_enter Tryd.func22, Tryd.ntmps22
      go_wp2_with fail
      go_ret
      exact ⟨ret_bool hw.out.symm, rfl⟩
    · have h2 : decide ((s.size : Int) < 2) = false := by simp; omega
      have h3 : decide (9 < (s.size : Int)) = true := by simp; omega
      go_enter Tryd.func22, Tryd.ntmps22
      go_wp2_with fail
      go_ret
      exact ⟨ret_bool hw.out.symm, rfl⟩

theorem cageB_len {ws : List ByteArray} {bs : List Int} (h : ¬ (1 ≤ ws.length ∧ ws.length ≤ 4 ∧ 1 ≤ bs.length ∧ bs.length ≤ 9)) : cageB ws bs = false := by
  cases e : cageB ws bs with
  | false => rfl
  | true => unfold cageB at e; simp only [Bool.and_eq_true, decide_eq_true_eq] at e; exact absurd ⟨e.1.1.1.1.1, e.1.1.1.1.2, e.1.1.1.2, e.1.1.2⟩ h
theorem cageB_wheel {ws : List ByteArray} {bs : List Int} {k : Nat} (hk : k < ws.length) (h : wheelB (gS ws k) = false) : cageB ws bs = false := by
  unfold cageB; rw [allB_false hk h]; simp
theorem cageB_bar {ws : List ByteArray} {bs : List Int} {k : Nat} (hk : k < bs.length) (h : ¬ (0 ≤ gI bs k ∧ gI bs k < 2 ^ ws.length)) : cageB ws bs = false := by
  unfold cageB; rw [allB_false (k := k) hk (by simp; omega)]; simp
theorem cageB_good {ws : List ByteArray} {bs : List Int} (l1 : 1 ≤ ws.length) (l2 : ws.length ≤ 4) (l3 : 1 ≤ bs.length) (l4 : bs.length ≤ 9)
    (h1 : allB ws.length (fun k => wheelB (gS ws k)) = true) (h2 : allB bs.length (fun k => decide (0 ≤ gI bs k) && decide (gI bs k < 2 ^ ws.length)) = true) : cageB ws bs = true := by
  unfold cageB; rw [h1, h2]; simp [l1, l2, l3, l4]

set_option maxHeartbeats 400000 in
theorem c_CageValid (vW vB : Value) (ws : List ByteArray) (bs : List Int) (w : World) (hW : IsStrs w vW ws) (hB : IsInts w vB bs) :
    Calls Tryd.prog 15 #[.agg #[vW, vB]] w fun e w' => e = .returned (.bool (cageB ws bs)) ∧ Below w.heap.size w w' := by
  have HW := Lib.hid hW
  have HB := Lib.hid hB
  obtain ⟨A, cA, rfl⟩ := hW.form
  obtain ⟨B, cB, rfl⟩ := hB.form
  clear hW hB
  by_cases hl : 1 ≤ ws.length ∧ ws.length ≤ 4 ∧ 1 ≤ bs.length ∧ bs.length ≤ 9
  · obtain ⟨l1, l2, l3, l4⟩ := hl
    have d1 : decide ((ws.length : Int) < 1) = false := by simp; omega
    have d2 : decide (4 < (ws.length : Int)) = false := by simp; omega
    have d3 : decide ((bs.length : Int) < 1) = false := by simp; omega
    have d4 : decide (9 < (bs.length : Int)) = false := by simp; omega
    go_enter Tryd.func15, Tryd.ntmps15
    go_wp2_with fail
    go_loop [32] (fun i => ∃ k : Nat, k ≤ ws.length ∧ i = .int .i64 k ∧ allB k (fun k => wheelB (gS ws k)) = true) (fun i => ws.length - (intOf i).toNat)
    case atStart => exact ⟨0, Nat.zero_le _, rfl, rfl⟩
    case round =>
      obtain ⟨k, hk, rfl, ha⟩ := hrel
      have HA := Lib.hid ha
      clear ha
      by_cases hlt : k < ws.length
      · obtain ⟨b, o, rfl, hb, hc⟩ := HW.out.at_ hlt
        go_wp2_with fail
        refine (c_wheelValid _ _).mono ?_
        rintro e w' ⟨rfl, rfl⟩
        cases hq : wheelB (gS ws k) with
        | true =>
          have HQ := Lib.hid hq
          clear hq
          go_wp2_with fail
          exact ⟨⟨k + 1, by omega, by go_num, allB_step HA.out HQ.out⟩, by simp [intOf]; omega⟩
        | false =>
          have HQ := Lib.hid hq
          clear hq
          go_wp2_with fail
          go_ret
          exact ⟨ret_bool (cageB_wheel hlt HQ.out).symm, ext_alloc _ _⟩
      · have e : k = ws.length := by omega
        have HA2 : Hid (allB ws.length (fun k => wheelB (gS ws k)) = true) := e ▸ HA.out
        clear e HA
        go_wp2_with fail
        go_loop [43] (fun i => ∃ k : Nat, k ≤ bs.length ∧ i = .int .i64 k ∧ allB k (fun k => decide (0 ≤ gI bs k) && decide (gI bs k < 2 ^ ws.length)) = true) (fun i => bs.length - (intOf i).toNat)
        case atStart => exact ⟨0, Nat.zero_le _, rfl, rfl⟩
        case round =>
          obtain ⟨k, hk, rfl, ha⟩ := hrel
          have HA := Lib.hid ha
          clear ha
          by_cases hlt : k < bs.length
          · obtain ⟨b, o, rfl, hb, hc⟩ := HB.out.at_ hlt
            by_cases q1 : gI bs k < 0
            · go_wp2_with fail
              go_ret
              exact ⟨ret_bool (cageB_bar hlt (by omega)).symm, ext_alloc _ _⟩
            · have t1 : decide (gI bs k < 0) = false := by simpa using q1
              go_wp2_with fail
              · have h2 : wrap64 (2 ^ ws.length) ≤ gI bs k := by assumption
                rw [pow_wrap l2] at h2
                go_ret
                exact ⟨ret_bool (cageB_bar hlt (by omega)).symm, ext_alloc _ _⟩
              · have h2 : gI bs k < wrap64 (2 ^ ws.length) := by assumption
                rw [pow_wrap l2] at h2
                exact ⟨⟨k + 1, by omega, by go_num, allB_step HA.out (by simp; omega)⟩, by simp [intOf]; omega⟩
          · go_wp2_with fail
            go_ret
            have e : k = bs.length := by omega
            subst e
            exact ⟨ret_bool (cageB_good l1 l2 l3 l4 HA2.out HA.out).symm, ext_alloc _ _⟩
  · have HC := Lib.hid (cageB_len hl)
    have hcase : ws.length < 1 ∨ (1 ≤ ws.length ∧ 4 < ws.length) ∨ (1 ≤ ws.length ∧ ws.length ≤ 4 ∧ bs.length < 1) ∨ (1 ≤ ws.length ∧ ws.length ≤ 4 ∧ 1 ≤ bs.length ∧ 9 < bs.length) := by omega
    clear hl
    rcases hcase with h1 | ⟨h1, h2⟩ | ⟨h1, h2, h3⟩ | ⟨h1, h2, h3, h4⟩
    all_goals
      go_enter Tryd.func15, Tryd.ntmps15
      go_wp2_with fail
      go_ret
      exact ⟨ret_bool HC.out.symm, ext_alloc _ _⟩

set_option maxHeartbeats 400000 in
theorem c_l15Bits (s : ByteArray) (w : World) (hs : s.size ≤ 9223372036854775807) : Calls Tryd.prog 21 #[.string s] w fun e w' => e = .returned (.bool (wheelB s)) ∧ w = w' := by
  go_enter Tryd.func21, Tryd.ntmps21
  go_wp2_with fail
  go_loop [3] (fun i => ∃ k : Nat, k ≤ s.size ∧ i = .int .i64 k ∧ allB k (fun k => isBit (bt s k)) = true) (fun i => s.size - (intOf i).toNat)
  case atStart => exact ⟨0, Nat.zero_le _, rfl, rfl⟩
  case round =>
    obtain ⟨k, hk, rfl, ha⟩ := hrel
    have HA := Lib.hid ha
    clear ha
    by_cases hlt : k < s.size
    · have hr := bt_range s k
      have hb := bt_get s k hlt
      by_cases q1 : bt s k = 48
      · have t1 : (bt s k != 48) = false := by simp [q1]
        have hq : isBit (bt s k) = true := by simp [isBit, q1]
        have HQ := Lib.hid hq
        clear q1 hq
        go_wp2_with fail
        exact ⟨⟨k + 1, by omega, by go_num, allB_step HA.out HQ.out⟩, by simp [intOf]; omega⟩
      · have t1 : (bt s k != 48) = true := by simp [q1]
        by_cases q2 : bt s k = 49
        · have t2 : (bt s k != 49) = false := by simp [q2]
          have hq : isBit (bt s k) = true := by simp [isBit, q2]
          have HQ := Lib.hid hq
          clear q1 q2 hq
          go_wp2_with fail
          exact ⟨⟨k + 1, by omega, by go_num, allB_step HA.out HQ.out⟩, by simp [intOf]; omega⟩
        · have t2 : (bt s k != 49) = true := by simp [q2]
          have hq : isBit (bt s k) = false := by simp [isBit, q1, q2]
          have HQ := Lib.hid hq
          clear q1 q2 hq
          go_wp2_with fail
          go_ret
          exact ⟨ret_bool (wheelB_bad hlt HQ.out).symm, rfl⟩
    · go_wp2_with fail
      refine (c_l1In _ _ _ _).mono ?_
      rintro e w' ⟨rfl, rfl⟩
      go_wp2_with fail
      go_ret
      have e : k = s.size := by omega
      subst e
      refine ⟨ret_bool ?_, rfl⟩
      by_cases h : 2 ≤ s.size ∧ s.size ≤ 9
      · rw [wheelB_good h HA.out, inB_true (by omega) (by omega)]
      · rw [wheelB_len h, inB_false (by omega)]

set_option maxHeartbeats 400000 in
theorem c_specCageValid (vW vB : Value) (ws : List ByteArray) (bs : List Int) (w : World) (hW : IsStrs w vW ws) (hB : IsInts w vB bs) :
    Calls Tryd.prog 11 #[.agg #[vW, vB]] w fun e w' => e = .returned (.bool (cageB ws bs)) ∧ Below w.heap.size w w' := by
  have HW := Lib.hid hW
  have HB := Lib.hid hB
  obtain ⟨A, cA, rfl⟩ := hW.form
  obtain ⟨B, cB, rfl⟩ := hB.form
  clear hW hB
  by_cases hl : 1 ≤ ws.length ∧ ws.length ≤ 4 ∧ 1 ≤ bs.length ∧ bs.length ≤ 9
  · obtain ⟨l1, l2, l3, l4⟩ := hl
    have d1 : inB (ws.length : Int) 1 4 = true := inB_true (by omega) (by omega)
    have d2 : inB (bs.length : Int) 1 9 = true := inB_true (by omega) (by omega)
    go_enter Tryd.func11, Tryd.ntmps11
    go_wp2_with (go_at_call 20; refine (c_l1In _ _ _ _).mono ?_; rintro e w' ⟨rfl, rfl⟩)
    go_loop [3] (fun i => ∃ k : Nat, k ≤ ws.length ∧ i = .int .i64 k ∧ allB k (fun k => wheelB (gS ws k)) = true) (fun i => ws.length - (intOf i).toNat)
    case atStart => exact ⟨0, Nat.zero_le _, rfl, rfl⟩
    case round =>
      obtain ⟨k, hk, rfl, ha⟩ := hrel
      have HA := Lib.hid ha
      clear ha
      by_cases hlt : k < ws.length
      · obtain ⟨b, o, rfl, hb, hc⟩ := HW.out.at_ hlt
        go_wp2_with fail
        refine (c_l15Bits _ _ (HW.out.size_le hlt)).mono ?_
        rintro e w' ⟨rfl, rfl⟩
        cases hq : wheelB (gS ws k) with
        | true =>
          have HQ := Lib.hid hq
          clear hq
          go_wp2_with fail
          exact ⟨⟨k + 1, by omega, by go_num, allB_step HA.out HQ.out⟩, by simp [intOf]; omega⟩
        | false =>
          have HQ := Lib.hid hq
          clear hq
          go_wp2_with fail
          go_ret
          exact ⟨ret_bool (cageB_wheel hlt HQ.out).symm, ext_alloc _ _⟩
      · have e : k = ws.length := by omega
        have HA2 : Hid (allB ws.length (fun k => wheelB (gS ws k)) = true) := e ▸ HA.out
        clear e HA
        go_wp2_with fail
        go_loopw [4] (fun i wr => ∃ k : Nat, k ≤ bs.length ∧ i = .int .i64 k ∧ allB k (fun k => decide (0 ≤ gI bs k) && decide (gI bs k < 2 ^ ws.length)) = true ∧ Below (w.heap.size + 1) (w.alloc (.cells #[.slice A ws.length cA, .slice B bs.length cB] 28)) wr) (fun i _ => bs.length - (intOf i).toNat)
        case atStart => exact ⟨0, Nat.zero_le _, rfl, rfl, Below.refl _ _⟩
        case round =>
          obtain ⟨k, hk, rfl, ha, hbw⟩ := hrel
          obtain ⟨x0, x1, hbe, hsz⟩ := box2 hbw
          have HA := Lib.hid ha
          have HBW := Lib.hid hbw
          have HBE := Lib.hid hbe
          clear ha hbw hbe
          by_cases hlt : k < bs.length
          · obtain ⟨b, o, rfl, hb, hc⟩ := (HB.out.ext HBE.out).at_ hlt
            have i1 : (0 : Int) ≤ k := by omega
            have i2 : (k : Int) < bs.length := by omega
            have e1 : IntKind.i64.wrap (2 ^ ws.length) = 2 ^ ws.length := IntWalk.i64_in _ (by have := pow_le4 l2; omega)
            have e2 : IntKind.i64.wrap (2 ^ ws.length - 1) = 2 ^ ws.length - 1 := IntWalk.i64_in _ (by have := pow_le4 l2; omega)
            have e3 : IntKind.u64.wrap (ws.length : Int) = ws.length := IntWalk.u64_in _ (by omega)
            go_wp2_with fail
            refine wp_region_still_lit (by kernel_rfl) (by kernel_rfl) ?_
            repeat still_step
            still_call (still (c_l1In _ _ _ _))
            repeat still_step
            refine wpStill_nil ?_
            clear e1 e2 e3
            by_cases hq : 0 ≤ gI bs k ∧ gI bs k < 2 ^ ws.length
            · have t1 : inB (gI bs k) 0 (2 ^ ws.length - 1) = true := inB_true (by omega) (by omega)
              rw [t1]
              clear t1
              go_wp2_with fail
              exact ⟨⟨k + 1, by omega, by go_num, allB_step HA.out (by simp; omega), HBW.out.drew⟩, by simp [intOf]; omega⟩
            · have t1 : inB (gI bs k) 0 (2 ^ ws.length - 1) = false := inB_false (by omega)
              rw [t1]
              clear t1
              go_wp2_with fail
              go_ret
              exact ⟨ret_bool (cageB_bar hlt hq).symm, HBE.out.drew⟩
          · go_wp2_with fail
            go_ret
            have e : k = bs.length := by omega
            subst e
            exact ⟨ret_bool (cageB_good l1 l2 l3 l4 HA2.out HA.out).symm, HBE.out⟩
  · have HC := Lib.hid (cageB_len hl)
    have hcase : inB (ws.length : Int) 1 4 = false ∨ (inB (ws.length : Int) 1 4 = true ∧ inB (bs.length : Int) 1 9 = false) := by
      by_cases h : 1 ≤ ws.length ∧ ws.length ≤ 4
      · exact .inr ⟨inB_true (by omega) (by omega), inB_false (by omega)⟩
      · exact .inl (inB_false (by omega))
    clear hl
    rcases hcase with h1 | ⟨h1, h2⟩
    all_goals
      go_enter Tryd.func11, Tryd.ntmps11
      go_wp2_with (go_at_call 20; refine (c_l1In _ _ _ _).mono ?_; rintro e w' ⟨rfl, rfl⟩)
      go_ret
      exact ⟨ret_bool HC.out.symm, ext_alloc _ _⟩

end Go.Proofs.YthelcpfcamidiaaDoor
