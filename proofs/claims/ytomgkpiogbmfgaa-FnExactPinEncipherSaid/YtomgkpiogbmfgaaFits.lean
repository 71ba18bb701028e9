/- Contracts of positionsValid (program), l15Fits (reference), rcCageFits (laws). -/
import Derived.Test.YtomgkpiogbmfgaaCage
namespace Go.Proofs.Ytomgkpiogbmfgaa
open Go.RowKit

def fitB (ws : List ByteArray) (bs ps : List Int) : Bool :=
  cageB ws bs && decide (ps.length = ws.length) && allB ps.length (fun k => decide (0 ≤ gI ps k) && decide (gI ps k < (gS ws k).size))
theorem fitB_no {ws : List ByteArray} {bs ps : List Int} (h : cageB ws bs = false) : fitB ws bs ps = false := by unfold fitB; rw [h]; rfl
theorem fitB_len {ws : List ByteArray} {bs ps : List Int} (h : ps.length ≠ ws.length) : fitB ws bs ps = false := by unfold fitB; simp [h]
theorem fitB_at {ws : List ByteArray} {bs ps : List Int} {k : Nat} (hk : k < ps.length) (h : ¬ (0 ≤ gI ps k ∧ gI ps k < (gS ws k).size)) : fitB ws bs ps = false := by
  unfold fitB; rw [allB_false (k := k) hk (by simp; omega)]; simp
theorem fitB_good {ws : List ByteArray} {bs ps : List Int} (h : cageB ws bs = true) (hl : ps.length = ws.length)
    (ha : allB ps.length (fun k => decide (0 ≤ gI ps k) && decide (gI ps k < (gS ws k).size)) = true) : fitB ws bs ps = true := by
  unfold fitB; rw [h, ha]; simp [hl]

set_option maxHeartbeats 400000 in
theorem c_positionsValid (vW vB vP : Value) (ws : List ByteArray) (bs ps : List Int) (w : World) (hW : IsStrs w vW ws) (hB : IsInts w vB bs) (hP : IsInts w vP ps) :
    Calls Try.prog 33 #[.agg #[vW, vB], vP] w fun e w' => e = .returned (.bool (fitB ws bs ps)) ∧ Below w.heap.size w w' := by
  have HW := Lib.hid hW
  have HB := Lib.hid hB
  have HP := Lib.hid hP
  obtain ⟨A, cA, rfl⟩ := hW.form
  obtain ⟨B, cB, rfl⟩ := hB.form
  obtain ⟨C, cC, rfl⟩ := hP.form
  have hpl := hP.len_le
  clear hW hB hP
  go_enter Try.func33, Try.ntmps33
  go_wp2_with fail
  refine (c_CageValid _ _ ws bs _ (HW.out.ext (ext_alloc _ _)) (HB.out.ext (ext_alloc _ _))).mono ?_
  rintro e w1 ⟨rfl, hb1⟩
  have hbw : Below (w.heap.size + 1) (w.alloc (.cells #[.slice A ws.length cA, .slice B bs.length cB] 26)) w1 := by simpa using hb1
  obtain ⟨x0, x1, hbe, hsz⟩ := box2 hbw
  have HBE := Lib.hid hbe
  clear hbw hb1 hbe
  cases hv : cageB ws bs with
  | false =>
    have HV := Lib.hid hv
    clear hv
    go_wp2_with fail
    go_ret
    exact ⟨ret_bool (fitB_no HV.out).symm, HBE.out⟩
  | true =>
    have HV := Lib.hid hv
    clear hv
    by_cases hl : ps.length = ws.length
    · have d1 : ((ps.length : Int) != (ws.length : Int)) = false := by simp [hl]
      have HL := Lib.hid hl
      have hl' : ps.length ≤ ws.length := by omega
      clear hl
      go_wp2_with fail
      go_loop [20] (fun i => ∃ k : Nat, k ≤ ps.length ∧ i = .int .i64 k ∧ allB k (fun k => decide (0 ≤ gI ps k) && decide (gI ps k < (gS ws k).size)) = true) (fun i => ps.length - (intOf i).toNat)
      case atStart => exact ⟨0, Nat.zero_le _, rfl, rfl⟩
      case round =>
        obtain ⟨k, hk, rfl, ha⟩ := hrel
        have HA := Lib.hid ha
        clear ha
        by_cases hlt : k < ps.length
        · obtain ⟨b, o, rfl, hb, hc⟩ := (HP.out.ext HBE.out).at_ hlt
          have hlt2 : k < ws.length := by omega
          obtain ⟨b2, o2, rfl, hb2, hc2⟩ := (HW.out.ext HBE.out).at_ hlt2
          by_cases q1 : gI ps k < 0
          · go_wp2_with fail
            go_ret
            exact ⟨ret_bool (fitB_at hlt (by omega)).symm, HBE.out⟩
          · have t1 : decide (gI ps k < 0) = false := by simpa using q1
            by_cases q2 : gI ps k < (gS ws k).size
            · go_wp2_with fail
              exact ⟨⟨k + 1, by omega, by go_num, allB_step HA.out (by simp; omega)⟩, by simp [intOf]; omega⟩
            · go_wp2_with fail
              go_ret
              exact ⟨ret_bool (fitB_at hlt (by omega)).symm, HBE.out⟩
        · go_wp2_with fail
          go_ret
          have e : k = ps.length := by omega
          subst e
          exact ⟨ret_bool (fitB_good HV.out HL.out HA.out).symm, HBE.out⟩
    · have d1 : ((ps.length : Int) != (ws.length : Int)) = true := by simp; omega
      have HL := Lib.hid hl
      clear hl
      go_wp2_with fail
      go_ret
      exact ⟨ret_bool (fitB_len HL.out).symm, HBE.out⟩

set_option maxHeartbeats 400000 in
theorem c_l15Fits (vW vB vP : Value) (ws : List ByteArray) (bs ps : List Int) (w : World) (hW : IsStrs w vW ws) (hB : IsInts w vB bs) (hP : IsInts w vP ps) :
    Calls Try.prog 38 #[.agg #[vW, vB], vP] w fun e w' => e = .returned (.bool (fitB ws bs ps)) ∧ Below w.heap.size w w' := by
  have HW := Lib.hid hW
  have HB := Lib.hid hB
  have HP := Lib.hid hP
  obtain ⟨A, cA, rfl⟩ := hW.form
  obtain ⟨B, cB, rfl⟩ := hB.form
  obtain ⟨C, cC, rfl⟩ := hP.form
  have hpl := hP.len_le
  clear hW hB hP
  go_enter Try.func38, Try.ntmps38
  go_wp2_with fail
  refine (c_specCageValid _ _ ws bs _ (HW.out.ext (ext_alloc _ _)) (HB.out.ext (ext_alloc _ _))).mono ?_
  rintro e w1 ⟨rfl, hb1⟩
  have hbw : Below (w.heap.size + 1) (w.alloc (.cells #[.slice A ws.length cA, .slice B bs.length cB] 26)) w1 := by simpa using hb1
  obtain ⟨x0, x1, hbe, hsz⟩ := box2 hbw
  have HBE := Lib.hid hbe
  have HBW := Lib.hid hbw
  clear hbw hb1 hbe
  cases hv : cageB ws bs with
  | false =>
    have HV := Lib.hid hv
    clear hv
    go_wp2_with fail
    go_ret
    exact ⟨ret_bool (fitB_no HV.out).symm, HBE.out⟩
  | true =>
    have HV := Lib.hid hv
    clear hv
    by_cases hl : ps.length = ws.length
    · have d1 : ((ps.length : Int) != (ws.length : Int)) = false := by simp [hl]
      have HL := Lib.hid hl
      have hl' : ps.length ≤ ws.length := by omega
      clear hl
      go_wp2_with fail
      go_loopw [5] (fun i wr => ∃ k : Nat, k ≤ ps.length ∧ i = .int .i64 k ∧ allB k (fun k => decide (0 ≤ gI ps k) && decide (gI ps k < (gS ws k).size)) = true ∧ Below (w.heap.size + 1) (w.alloc (.cells #[.slice A ws.length cA, .slice B bs.length cB] 26)) wr) (fun i _ => ps.length - (intOf i).toNat)
      case atStart => exact ⟨0, Nat.zero_le _, rfl, rfl, HBW.out⟩
      case round =>
        clear x0 x1 hsz HBE HBW
        obtain ⟨k, hk, rfl, ha, hbw⟩ := hrel
        obtain ⟨x0, x1, hbe, hsz⟩ := box2 hbw
        have HBE := Lib.hid hbe
        have HBW := Lib.hid hbw
        have HA := Lib.hid ha
        clear ha hbw hbe
        by_cases hlt : k < ps.length
        · obtain ⟨b, o, rfl, hb, hc⟩ := (HP.out.ext HBE.out).at_ hlt
          have hlt2 : k < ws.length := by omega
          obtain ⟨b2, o2, rfl, hb2, hc2⟩ := (HW.out.ext HBE.out).at_ hlt2
          have i1 : (0 : Int) ≤ k := by omega
          have i2 : (k : Int) < ps.length := by omega
          have i3 : (k : Int) < ws.length := by omega
          by_cases q1 : gI ps k < 0
          · have t1 : decide (gI ps k < 0) = true := by simpa using q1
            go_wp2_with fail
            go_quiet (fail)
            go_wp2_with fail
            go_ret
            exact ⟨ret_bool (fitB_at hlt (by omega)).symm, (below_drewN HBE.out _)⟩
          · have t1 : decide (gI ps k < 0) = false := by simpa using q1
            by_cases q2 : gI ps k < (gS ws k).size
            · have t2 : decide ((gS ws k).size ≤ gI ps k) = false := by simp; omega
              go_wp2_with fail
              go_quiet (fail)
              go_wp2_with fail
              exact ⟨⟨k + 1, by omega, by go_num, allB_step HA.out (by simp; omega), (below_drewN HBW.out _)⟩, by simp [intOf]; omega⟩
            · have t2 : decide ((gS ws k).size ≤ gI ps k) = true := by simp; omega
              go_wp2_with fail
              go_quiet (fail)
              go_wp2_with fail
              go_ret
              exact ⟨ret_bool (fitB_at hlt (by omega)).symm, (below_drewN HBE.out _)⟩
        · go_wp2_with fail
          go_ret
          have e : k = ps.length := by omega
          subst e
          exact ⟨ret_bool (fitB_good HV.out HL.out HA.out).symm, HBE.out⟩
    · have d1 : ((ps.length : Int) != (ws.length : Int)) = true := by simp; omega
      have HL := Lib.hid hl
      clear hl
      go_wp2_with fail
      go_ret
      exact ⟨ret_bool (fitB_len HL.out).symm, HBE.out⟩

set_option maxHeartbeats 400000 in
theorem c_rcCageFits (vW vB vP : Value) (ws : List ByteArray) (bs ps : List Int) (w : World) (hW : IsStrs w vW ws) (hB : IsInts w vB bs) (hP : IsInts w vP ps) :
    Calls Try.prog 28 #[.agg #[vW, vB], vP] w fun e w' => e = .returned (.bool (fitB ws bs ps)) ∧ Below w.heap.size w w' := by
  have HW := Lib.hid hW
  have HB := Lib.hid hB
  have HP := Lib.hid hP
  obtain ⟨A, cA, rfl⟩ := hW.form
  obtain ⟨B, cB, rfl⟩ := hB.form
  obtain ⟨C, cC, rfl⟩ := hP.form
  have hpl := hP.len_le
  clear hW hB hP
  go_enter Try.func28, Try.ntmps28
  go_wp2_with fail
  refine (c_CageValid _ _ ws bs _ (HW.out.ext (ext_alloc _ _)) (HB.out.ext (ext_alloc _ _))).mono ?_
  rintro e w1 ⟨rfl, hb1⟩
  have hbw : Below (w.heap.size + 1) (w.alloc (.cells #[.slice A ws.length cA, .slice B bs.length cB] 26)) w1 := by simpa using hb1
  obtain ⟨x0, x1, hbe, hsz⟩ := box2 hbw
  have HBE := Lib.hid hbe
  have HBW := Lib.hid hbw
  clear hbw hb1 hbe
  cases hv : cageB ws bs with
  | false =>
    have HV := Lib.hid hv
    clear hv
    go_wp2_with fail
    go_ret
    exact ⟨ret_bool (fitB_no HV.out).symm, HBE.out⟩
  | true =>
    have HV := Lib.hid hv
    clear hv
    by_cases hl : ps.length = ws.length
    · have d1 : ((ps.length : Int) != (ws.length : Int)) = false := by simp [hl]
      have HL := Lib.hid hl
      have hl' : ps.length ≤ ws.length := by omega
      clear hl
      go_wp2_with fail
      go_loopw [5] (fun i wr => ∃ k : Nat, k ≤ ps.length ∧ i = .int .i64 k ∧ allB k (fun k => decide (0 ≤ gI ps k) && decide (gI ps k < (gS ws k).size)) = true ∧ Below (w.heap.size + 1) (w.alloc (.cells #[.slice A ws.length cA, .slice B bs.length cB] 26)) wr) (fun i _ => ps.length - (intOf i).toNat)
      case atStart => exact ⟨0, Nat.zero_le _, rfl, rfl, HBW.out⟩
      case round =>
        clear x0 x1 hsz HBE HBW
        obtain ⟨k, hk, rfl, ha, hbw⟩ := hrel
        obtain ⟨x0, x1, hbe, hsz⟩ := box2 hbw
        have HBE := Lib.hid hbe
        have HBW := Lib.hid hbw
        have HA := Lib.hid ha
        clear ha hbw hbe
        by_cases hlt : k < ps.length
        · obtain ⟨b, o, rfl, hb, hc⟩ := (HP.out.ext HBE.out).at_ hlt
          have hlt2 : k < ws.length := by omega
          obtain ⟨b2, o2, rfl, hb2, hc2⟩ := (HW.out.ext HBE.out).at_ hlt2
          have i1 : (0 : Int) ≤ k := by omega
          have i2 : (k : Int) < ps.length := by omega
          have i3 : (k : Int) < ws.length := by omega
          by_cases q1 : gI ps k < 0
          · have t1 : decide (gI ps k < 0) = true := by simpa using q1
            go_wp2_with fail
            go_quiet (fail)
            go_wp2_with fail
            go_ret
            exact ⟨ret_bool (fitB_at hlt (by omega)).symm, (below_drewN HBE.out _)⟩
          · have t1 : decide (gI ps k < 0) = false := by simpa using q1
            by_cases q2 : gI ps k < (gS ws k).size
            · have t2 : decide ((gS ws k).size ≤ gI ps k) = false := by simp; omega
              go_wp2_with fail
              go_quiet (fail)
              go_wp2_with fail
              exact ⟨⟨k + 1, by omega, by go_num, allB_step HA.out (by simp; omega), (below_drewN HBW.out _)⟩, by simp [intOf]; omega⟩
            · have t2 : decide ((gS ws k).size ≤ gI ps k) = true := by simp; omega
              go_wp2_with fail
              go_quiet (fail)
              go_wp2_with fail
              go_ret
              exact ⟨ret_bool (fitB_at hlt (by omega)).symm, (below_drewN HBE.out _)⟩
        · go_wp2_with fail
          go_ret
          have e : k = ps.length := by omega
          subst e
          exact ⟨ret_bool (fitB_good HV.out HL.out HA.out).symm, HBE.out⟩
    · have d1 : ((ps.length : Int) != (ws.length : Int)) = true := by simp; omega
      have HL := Lib.hid hl
      clear hl
      go_wp2_with fail
      go_ret
      exact ⟨ret_bool (fitB_len HL.out).symm, HBE.out⟩

end Go.Proofs.Ytomgkpiogbmfgaa
