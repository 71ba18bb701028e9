/- Contracts of the reference's StepWindows, StepMany, LeftMoves, StepsTo, PeriodOf, LeadIn. -/
import Derived.Test.YtlcanmofgjbcbaaSpecSteps
namespace Go.Proofs.Ytlcanmofgjbcbaa
set_option linter.unusedVariables false
set_option linter.unusedSimpArgs false
open Go.RowKit

theorem manyOk_in (l : List Rot) (rf s : ByteArray) (n : Int) : (winB l rf s = false ∧ manyOk l rf s n = false) ∨ (winB l rf s = true ∧ inB n 0 2000 = false ∧ manyOk l rf s n = false) ∨ (winB l rf s = true ∧ inB n 0 2000 = true ∧ ∃ N : Nat, n = N ∧ N ≤ 2000 ∧ manyOk l rf s n = true) := by
  rcases manyOk_cases l rf s n with ⟨h1, hr⟩ | ⟨h1, h2, hr⟩ | ⟨h1, h2, h3, hr⟩ | ⟨h1, N, rfl, h2, hr⟩
  · exact .inl ⟨h1, hr⟩
  · exact .inr (.inl ⟨h1, inB_false (by omega), hr⟩)
  · exact .inr (.inl ⟨h1, inB_false (by omega), hr⟩)
  · exact .inr (.inr ⟨h1, inB_true (by omega) (by omega), N, rfl, h2, hr⟩)
set_option maxHeartbeats 400000 in
theorem c_sStepWindows (vR : Value) (l : List Rot) (rf s : ByteArray) (w : World) (hR : IsRots w vR l) (hf : rf.size ≤ 9223372036854775807) (hs : s.size ≤ 9223372036854775807) : Calls Try.prog 32 #[.agg #[vR, .string rf], .string s] w fun e w' => e = .returned (manyR l rf s 1) ∧ Below w.heap.size w w' := by
  obtain ⟨A, cA, rfl⟩ := hR.form
  have I0 := Lib.hid (WInv.start rf hR)
  clear hR
  cases h1 : winB l rf s
  all_goals
    have H1 := Lib.hid h1
    go_enter Try.func32, Try.ntmps32
    go_wp2_with fail
    refine (c_l7Windows _ l rf s _ I0.out.rot (by omega) (by omega)).mono ?_
    rintro e w1 ⟨rfl, hb1⟩
    rw [h1]
    have I1 := Lib.hid (I0.out.ext hb1)
    have y0 := I1.out.c0
    have y1 := I1.out.c1
    clear hb1 h1
  · have HM := Lib.hid (show manyOk l rf s 1 = false by unfold manyOk; rw [H1.out]; rfl)
    go_wp2_with fail
    go_ret2
    exact ⟨by rw [manyR_no HM.out]; rfl, I1.out.bel⟩
  · have HM := Lib.hid (show manyOk l rf s 1 = true by unfold manyOk; rw [H1.out]; rfl)
    obtain ⟨f1, f2, f3, f4⟩ := win_facts H1.out
    have F3 := Lib.hid f3
    have F4 := Lib.hid f4
    clear f3 f4
    go_wp2_with fail
    refine (c_l7Step A cA l rf s _ I1.out.rot f1 f2 F3.out F4.out).mono ?_
    rintro e w2 ⟨rfl, hb2⟩
    have I2 := Lib.hid (I1.out.ext hb2)
    clear hb2 y0 y1
    go_wp2_with fail
    go_ret2
    exact ⟨by rw [manyR_ok HM.out]; rfl, I2.out.bel⟩
set_option maxHeartbeats 400000 in
theorem c_sStepMany (vR : Value) (l : List Rot) (rf s : ByteArray) (n : Int) (w : World) (hR : IsRots w vR l) (hf : rf.size ≤ 9223372036854775807) (hs : s.size ≤ 9223372036854775807) : Calls Try.prog 21 #[.agg #[vR, .string rf], .string s, .int .i64 n] w fun e w' => e = .returned (manyR l rf s n) ∧ Below w.heap.size w w' := by
  obtain ⟨A, cA, rfl⟩ := hR.form
  have I0 := Lib.hid (WInv.start rf hR)
  clear hR
  rcases manyOk_in l rf s n with ⟨h1, hr⟩ | ⟨h1, h2, hr⟩ | ⟨h1, h2, N, rfl, h3, hr⟩
  all_goals
    have HR := Lib.hid hr
    have H1 := Lib.hid h1
    clear hr
    go_enter Try.func21, Try.ntmps21
    go_wp2_with fail
    refine (c_l7Windows _ l rf s _ I0.out.rot (by omega) (by omega)).mono ?_
    rintro e w1 ⟨rfl, hb1⟩
    rw [h1]
    have I1 := Lib.hid (I0.out.ext hb1)
    have y0 := I1.out.c0
    have y1 := I1.out.c1
    clear hb1 h1
  · go_wp2_with fail
    go_ret2
    exact ⟨by rw [manyR_no HR.out]; rfl, I1.out.bel⟩
  · go_wp2_with (go_at_call 50; refine (c_l1In _ _ _ _).mono ?_; rintro e w' ⟨rfl, rfl⟩; rw [h2])
    go_ret2
    exact ⟨by rw [manyR_no HR.out]; rfl, I1.out.bel⟩
  · go_wp2_with (go_at_call 50; refine (c_l1In _ _ _ _).mono ?_; rintro e w' ⟨rfl, rfl⟩; rw [h2])
    refine (c_l7Walk A cA l rf s 0 N _ I1.out.rot H1.out (by omega)).mono ?_
    rintro e w2 ⟨rfl, hb2⟩
    have I2 := Lib.hid (I1.out.ext hb2)
    clear hb2 y0 y1
    go_wp2_with fail
    go_ret2
    exact ⟨by rw [manyR_ok HR.out]; simp, I2.out.bel⟩
set_option maxHeartbeats 400000 in
theorem c_sLeftMoves (vR : Value) (l : List Rot) (rf s : ByteArray) (n : Int) (w : World) (hR : IsRots w vR l) (hf : rf.size ≤ 9223372036854775807) (hs : s.size ≤ 9223372036854775807) : Calls Try.prog 27 #[.agg #[vR, .string rf], .string s, .int .i64 n] w fun e w' => e = .returned (.int .i64 (leftR l rf s n)) ∧ Below w.heap.size w w' := by
  obtain ⟨A, cA, rfl⟩ := hR.form
  have I0 := Lib.hid (WInv.start rf hR)
  clear hR
  rcases manyOk_in l rf s n with ⟨h1, hr⟩ | ⟨h1, h2, hr⟩ | ⟨h1, h2, N, rfl, h3, hr⟩
  all_goals
    have HR := Lib.hid hr
    have H1 := Lib.hid h1
    clear hr
    go_enter Try.func27, Try.ntmps27
    go_wp2_with fail
    refine (c_l7Windows _ l rf s _ I0.out.rot (by omega) (by omega)).mono ?_
    rintro e w1 ⟨rfl, hb1⟩
    rw [h1]
    have I1 := Lib.hid (I0.out.ext hb1)
    clear hb1 h1
  · go_wp2_with fail
    go_ret
    exact ⟨by unfold leftR; rw [if_neg (by rw [HR.out]; simp)]; rfl, I1.out.bel⟩
  · go_wp2_with (go_at_call 50; refine (c_l1In _ _ _ _).mono ?_; rintro e w' ⟨rfl, rfl⟩; rw [h2])
    go_ret
    exact ⟨by unfold leftR; rw [if_neg (by rw [HR.out]; simp)]; rfl, I1.out.bel⟩
  · go_wp2_with (go_at_call 50; refine (c_l1In _ _ _ _).mono ?_; rintro e w' ⟨rfl, rfl⟩; rw [h2])
    go_loopw [1, 2, 7] (fun x i m wr => ∃ k q : Nat, k + q = N ∧ i = .int .i64 q ∧ m = .int .i64 (leftN l s k) ∧ x = .string (it (stepS l) k s) ∧ WInv w wr A cA l rf) (fun _ i _ _ => (intOf i).toNat)
    case atStart => exact ⟨0, N, by omega, rfl, rfl, rfl, I1.out⟩
    case round =>
      obtain ⟨k, q, hk, rfl, rfl, rfl, hi⟩ := hrel
      have HI := Lib.hid hi
      have y0 := hi.c0
      have y1 := hi.c1
      have hle := leftN_le l s k
      clear hi
      by_cases hq : 0 < q
      · obtain ⟨f1, f2, f3, f4⟩ := win_facts (it_win k H1.out)
        have F3 := Lib.hid f3
        clear f3 f4
        go_wp2_with fail
        refine (c_l7Moves A cA l rf (it (stepS l) k s) 0 _ HI.out.rot (by omega) F3.out f2).mono ?_
        rintro e w2 ⟨rfl, hb2⟩
        have HI2 := Lib.hid (HI.out.ext hb2)
        clear hb2 y0 y1
        have y0 := HI2.out.c0
        have y1 := HI2.out.c1
        have HLS : Hid (leftN l s (k + 1) = leftN l s k + (if mvB l (it (stepS l) k s) 0 = true then 1 else 0)) := rfl
        cases hmv : mvB l (it (stepS l) k s) 0
        all_goals
          have HMV := Lib.hid hmv
          clear hmv
          go_wp2_with fail
          refine (c_l7StepIt A cA l rf s k _ HI2.out.rot H1.out).mono ?_
          rintro e w3 ⟨rfl, hb3⟩
          have HI3 := Lib.hid (HI2.out.ext hb3)
          clear hb3 y0 y1
          go_wp2_with fail
        · exact ⟨⟨k + 1, q - 1, by omega, by congr 1; omega, by rw [HLS.out, if_neg (by rw [HMV.out]; simp)]; rfl, rfl, HI3.out⟩, by simp [intOf]; omega⟩
        · exact ⟨⟨k + 1, q - 1, by omega, by congr 1; omega, by rw [HLS.out, if_pos HMV.out]; go_num, rfl, HI3.out⟩, by simp [intOf]; omega⟩
      · have e : q = 0 := by omega
        subst e
        have e2 : k = N := by omega
        subst e2
        go_wp2_with fail
        go_ret
        exact ⟨by unfold leftR; rw [if_pos HR.out]; simp, HI.out.bel⟩
def HeldW (w : World) (A : Option Addr) (cA : Nat) (l : List Rot) (rf : ByteArray) (wr : World) : Prop := wr.cell? ⟨w.heap.size, 0, none⟩ = some (.slice A l.length cA) ∧ wr.cell? ⟨w.heap.size, 1, none⟩ = some (.string rf) ∧ WInv w wr A cA l rf
theorem c_l7WalkHeld (w wr : World) (A : Option Addr) (cA : Nat) (l : List Rot) (rf s : ByteArray) (j n : Nat) (h : winB l rf s = true) (hn : n ≤ 9223372036854775807) (hS : HeldW w A cA l rf wr) : Calls Try.prog 43 #[.agg #[.slice A l.length cA, .string rf], .string (it (stepS l) j s), .int .i64 n] wr fun e w' => e = .returned (.string (it (stepS l) (n + j) s)) ∧ HeldW w A cA l rf w' := by
  refine (c_l7Walk A cA l rf s j n wr hS.2.2.rot h hn).mono ?_
  rintro e w' ⟨rfl, hb⟩
  have := hS.2.2.ext hb
  exact ⟨rfl, this.c0, this.c1, this⟩
set_option maxHeartbeats 800000 in
theorem c_l7Period (A : Option Addr) (cA : Nat) (l : List Rot) (rf s : ByteArray) (w : World) (hR : IsRots w (.slice A l.length cA) l) (h : winB l rf s = true) : Calls Try.prog 42 #[.agg #[.slice A l.length cA, .string rf], .string (it (stepS l) 0 s)] w fun e w' => e = .returned (.int .i64 (perN' (stepS l) s)) ∧ Below w.heap.size w w' := by
  have I0 := Lib.hid (WInv.start rf hR)
  have H := Lib.hid h
  obtain ⟨hr, hle, hle2⟩ := win_rho' h
  generalize perN' (stepS l) s = p at *
  generalize leadN (stepS l) s = m at *
  have HR := Lib.hid hr
  have hp1 := hr.1
  obtain ⟨f1, f2, f3, f4⟩ := win_facts h
  have HP := Lib.hid (pow10 f1 f2)
  have hsz : (it (stepS l) 0 s).size ≤ 3 := f2
  have HSZ := Lib.hid (show (it (stepS l) 0 s).size = s.size from rfl)
  obtain ⟨N, hN⟩ : ∃ N : Nat, 10 ^ (it (stepS l) 0 s).size = N := ⟨_, rfl⟩
  have hN2 : N ≤ 1000 := by rw [← hN, HSZ.out]; exact HP.out.1
  have hN3 : m + p ≤ N := by rw [← hN, HSZ.out]; exact hle
  have HN := Lib.hid hN
  have y0 := I0.out.c0
  have y1 := I0.out.c1
  clear hR h hr f3 f4 hN hle
  go_enter Try.func42, Try.ntmps42
  go_wp2_with fail
  go_region_held3 (fun w' => w'.cell? ⟨w.heap.size, 0, none⟩ = some (.slice A l.length cA) ∧ w'.cell? ⟨w.heap.size, 1, none⟩ = some (.string rf) ∧ WInv w w' A cA l rf)
    (first | assumption | exact ⟨y0, y1, I0.out.drew⟩)
    (first
      | (go_at_call 55; refine (c_l7Size _ _ hsz).mono ?_; rintro e w7 ⟨rfl, rfl⟩; rw [HN.out])
      | (go_at_call 43; refine (c_l7WalkHeld w _ A cA l rf s 0 N H.out (by omega) (by assumption)).mono ?_; rintro e w8 ⟨rfl, hk8⟩))
  have I1 := Lib.hid hk8.2.2
  clear hk8 y0 y1
  have y0 := I1.out.c0
  have y1 := I1.out.c1
  go_wp2_with fail
  refine (c_l7StepIt A cA l rf s _ _ I1.out.rot H.out).mono ?_
  rintro e w2 ⟨rfl, hb2⟩
  have I2 := Lib.hid (I1.out.ext hb2)
  clear hb2 y0 y1
  go_wp2_with fail
  go_loopg [6, 7] (p - 1) (fun gk c b wr => ∃ j : Nat, 1 ≤ j ∧ j + gk = p ∧ b = .string (it (stepS l) (N + j) s) ∧ c = .int .i64 j ∧ WInv w wr A cA l rf)
  case atStart => exact ⟨1, by omega, by omega, rfl, rfl, I2.out⟩
  case round =>
    obtain ⟨j, hj1, hj, rfl, rfl, hi3⟩ := hrel
    have HI3 := Lib.hid hi3
    have y0 := hi3.c0
    have y1 := hi3.c1
    clear hi3
    have HQ := Lib.hid (HR.out.2 N (N + j) (by omega))
    by_cases he3 : it (stepS l) (N + j) s = it (stepS l) N s
    · have hd := (HQ.out.1 he3.symm).2
      rw [show N + j - N = j by omega] at hd
      have hj2 : j = p := by have := Nat.le_of_dvd (by omega) hd; omega
      subst hj2
      have t3 := bs_yes he3
      clear he3 hd
      go_wp2_with fail
      go_ret
      exact ⟨rfl, HI3.out.bel⟩
    · have hj2 : j ≠ p := fun e => he3 (HQ.out.2 ⟨by omega, by rw [show N + j - N = j by omega, e]; exact Nat.dvd_refl _⟩).symm
      have t3 := bs_no he3
      clear he3
      go_wp2_with fail
      refine (c_l7StepIt A cA l rf s _ _ HI3.out.rot H.out).mono ?_
      rintro e w6 ⟨rfl, hb6⟩
      have HI6 := Lib.hid (HI3.out.ext hb6)
      clear hb6 y0 y1
      go_wp2_with fail
      go_roundg (p - (j + 1))
      case measure => omega
      case rel => exact ⟨j + 1, by omega, by omega, rfl, by go_num, HI6.out⟩
set_option maxHeartbeats 400000 in
theorem c_sPeriodOf (vR : Value) (l : List Rot) (rf s : ByteArray) (w : World) (hR : IsRots w vR l) (hf : rf.size ≤ 9223372036854775807) (hs : s.size ≤ 9223372036854775807) : Calls Try.prog 14 #[.agg #[vR, .string rf], .string s] w fun e w' => e = .returned (.int .i64 (perR l rf s)) ∧ Below w.heap.size w w' := by
  obtain ⟨A, cA, rfl⟩ := hR.form
  have I0 := Lib.hid (WInv.start rf hR)
  clear hR
  cases h1 : winB l rf s
  all_goals
    have H1 := Lib.hid h1
    go_enter Try.func14, Try.ntmps14
    go_wp2_with fail
    refine (c_l7Windows _ l rf s _ I0.out.rot (by omega) (by omega)).mono ?_
    rintro e w1 ⟨rfl, hb1⟩
    rw [h1]
    have I1 := Lib.hid (I0.out.ext hb1)
    have y0 := I1.out.c0
    have y1 := I1.out.c1
    clear hb1 h1
  · go_wp2_with fail
    go_ret
    exact ⟨by unfold perR; rw [if_neg (by rw [H1.out]; simp)]; rfl, I1.out.bel⟩
  · go_wp2_with fail
    refine (c_l7Period A cA l rf s _ I1.out.rot H1.out).mono ?_
    rintro e w2 ⟨rfl, hb2⟩
    have I2 := Lib.hid (I1.out.ext hb2)
    clear hb2 y0 y1
    go_wp2_with fail
    go_ret
    exact ⟨by unfold perR; rw [if_pos H1.out]; rfl, I2.out.bel⟩
theorem c_l7PeriodHeld (w wr : World) (A : Option Addr) (cA : Nat) (l : List Rot) (rf s : ByteArray) (h : winB l rf s = true) (hS : HeldW w A cA l rf wr) : Calls Try.prog 42 #[.agg #[.slice A l.length cA, .string rf], .string (it (stepS l) 0 s)] wr fun e w' => e = .returned (.int .i64 (perN' (stepS l) s)) ∧ HeldW w A cA l rf w' := by
  refine (c_l7Period A cA l rf s wr hS.2.2.rot h).mono ?_
  rintro e w' ⟨rfl, hb⟩
  have := hS.2.2.ext hb
  exact ⟨rfl, this.c0, this.c1, this⟩
set_option maxHeartbeats 800000 in
theorem sLeadIn_it (A : Option Addr) (cA : Nat) (l : List Rot) (rf s : ByteArray) (w : World) (hR : IsRots w (.slice A l.length cA) l) (hf : rf.size ≤ 9223372036854775807) (hs : (it (stepS l) 0 s).size ≤ 9223372036854775807) : Calls Try.prog 18 #[.agg #[.slice A l.length cA, .string rf], .string (it (stepS l) 0 s)] w fun e w' => e = .returned (.int .i64 (leadR l rf s)) ∧ Below w.heap.size w w' := by
  have I0 := Lib.hid (WInv.start rf hR)
  clear hR
  cases h1 : winB l rf s
  all_goals
    have H1 := Lib.hid h1
    go_enter Try.func18, Try.ntmps18
    go_wp2_with fail
    refine (c_l7Windows _ l rf (it (stepS l) 0 s) _ I0.out.rot (by omega) (by omega)).mono ?_
    rintro e w1 ⟨rfl, hb1⟩
    rw [show winB l rf (it (stepS l) 0 s) = winB l rf s from rfl, h1]
    have I1 := Lib.hid (I0.out.ext hb1)
    have y0 := I1.out.c0
    have y1 := I1.out.c1
    clear hb1 h1
  · go_wp2_with fail
    go_ret
    exact ⟨by unfold leadR; rw [if_neg (by rw [H1.out]; simp)]; rfl, I1.out.bel⟩
  · have HLR := Lib.hid (show leadR l rf s = (leadN (stepS l) s : Int) by unfold leadR; rw [if_pos H1.out])
    obtain ⟨hr, hle, hle2⟩ := win_rho' H1.out
    have HR := Lib.hid hr
    have hp1 := hr.1
    have HPH := Lib.hid (fun wr hS => c_l7PeriodHeld w wr A cA l rf s H1.out hS)
    generalize perN' (stepS l) s = p at *
    generalize leadN (stepS l) s = m at *
    clear hr hle
    go_wp2_with fail
    go_region_held3 (fun w' => w'.cell? ⟨w.heap.size, 0, none⟩ = some (.slice A l.length cA) ∧ w'.cell? ⟨w.heap.size, 1, none⟩ = some (.string rf) ∧ WInv w w' A cA l rf)
      (first | assumption | exact ⟨y0, y1, I1.out.drew⟩)
      (first
        | (go_at_call 42; refine (HPH.out _ (by assumption)).mono ?_; rintro e w7 ⟨rfl, hk7⟩)
        | (go_at_call 43; refine (c_l7WalkHeld w _ A cA l rf s 0 p H1.out (by omega) (by assumption)).mono ?_; rintro e w8 ⟨rfl, hk8⟩))
    have I2 := Lib.hid hk8.2.2
    clear hk8 y0 y1
    go_wp2_with fail
    go_loopg [1, 5, 6] m (fun gk a c b wr => ∃ i : Nat, i + gk = m ∧ a = .string (it (stepS l) i s) ∧ b = .string (it (stepS l) (p + i) s) ∧ c = .int .i64 i ∧ WInv w wr A cA l rf)
    case atStart => exact ⟨0, by omega, rfl, rfl, rfl, I2.out⟩
    case round =>
      obtain ⟨i, hi, rfl, rfl, rfl, hi2⟩ := hrel
      have HI2 := Lib.hid hi2
      have y0 := hi2.c0
      have y1 := hi2.c1
      clear hi2
      have HL := Lib.hid (rho_lead HR.out (c := p) hp1 (Nat.dvd_refl _) i)
      by_cases he2 : it (stepS l) (p + i) s = it (stepS l) i s
      · have hm : i = m := by have := HL.out.1 he2.symm; omega
        subst hm
        have t2 := bs_yes he2
        clear he2
        go_wp2_with fail
        go_ret
        exact ⟨by rw [HLR.out]; rfl, HI2.out.bel⟩
      · have hm : i ≠ m := fun e => he2 (HL.out.2 (by omega)).symm
        have t2 := bs_no he2
        clear he2
        go_wp2_with fail
        refine (c_l7StepIt A cA l rf s _ _ HI2.out.rot H1.out).mono ?_
        rintro e w3 ⟨rfl, hb3⟩
        have HI3 := Lib.hid (HI2.out.ext hb3)
        clear hb3 y0 y1
        have y0 := HI3.out.c0
        have y1 := HI3.out.c1
        go_wp2_with fail
        refine (c_l7StepIt A cA l rf s _ _ HI3.out.rot H1.out).mono ?_
        rintro e w4 ⟨rfl, hb4⟩
        have HI4 := Lib.hid (HI3.out.ext hb4)
        clear hb4 y0 y1
        go_wp2_with fail
        go_roundg (m - (i + 1))
        case measure => omega
        case rel => exact ⟨i + 1, by omega, rfl, rfl, by go_num, HI4.out⟩
theorem c_sLeadIn (vR : Value) (l : List Rot) (rf s : ByteArray) (w : World) (hR : IsRots w vR l) (hf : rf.size ≤ 9223372036854775807) (hs : s.size ≤ 9223372036854775807) : Calls Try.prog 18 #[.agg #[vR, .string rf], .string s] w fun e w' => e = .returned (.int .i64 (leadR l rf s)) ∧ Below w.heap.size w w' := by
  obtain ⟨A, cA, rfl⟩ := hR.form
  exact sLeadIn_it A cA l rf s w hR hf hs
set_option maxHeartbeats 800000 in
theorem c_sStepsTo (vR : Value) (l : List Rot) (rf s t : ByteArray) (w : World) (hR : IsRots w vR l) (hf : rf.size ≤ 9223372036854775807) (hs : s.size ≤ 9223372036854775807) (ht : t.size ≤ 9223372036854775807) : Calls Try.prog 29 #[.agg #[vR, .string rf], .string s, .string t] w fun e w' => e = .returned (.int .i64 (toR l rf s t)) ∧ Below w.heap.size w w' := by
  obtain ⟨A, cA, rfl⟩ := hR.form
  have I0 := Lib.hid (WInv.start rf hR)
  clear hR
  cases h1 : winB l rf s
  all_goals
    have H1 := Lib.hid h1
    go_enter Try.func29, Try.ntmps29
    go_wp2_with fail
    refine (c_l7Windows _ l rf s _ I0.out.rot (by omega) (by omega)).mono ?_
    rintro e w1 ⟨rfl, hb1⟩
    rw [h1]
    have I1 := Lib.hid (I0.out.ext hb1)
    have y0 := I1.out.c0
    have y1 := I1.out.c1
    clear hb1 h1
  · go_wp2_with fail
    go_ret
    exact ⟨by unfold toR; rw [if_neg (by rw [H1.out]; simp)]; rfl, I1.out.bel⟩
  · cases h2 : winB l rf t
    all_goals
      have H2 := Lib.hid h2
      go_wp2_with fail
      refine (c_l7Windows _ l rf t _ I1.out.rot (by omega) (by omega)).mono ?_
      rintro e w2 ⟨rfl, hb2⟩
      rw [h2]
      have I2 := Lib.hid (I1.out.ext hb2)
      clear hb2 h2 y0 y1
    · go_wp2_with fail
      go_ret
      exact ⟨by unfold toR; rw [if_neg (by rw [H2.out]; simp)]; rfl, I2.out.bel⟩
    · obtain ⟨f1, f2, f3, f4⟩ := win_facts H1.out
      have HT := Lib.hid (show toR l rf s t = findTo (stepS l) s t (10 ^ s.size) by unfold toR; rw [if_pos ⟨H1.out, H2.out⟩])
      have HP := Lib.hid (pow10 f1 f2)
      obtain ⟨N, hN⟩ : ∃ N : Nat, 10 ^ s.size = N := ⟨_, rfl⟩
      have hN2 : N ≤ 1000 := by rw [← hN]; exact HP.out.1
      rw [hN] at HT
      have HN := Lib.hid hN
      clear f3 f4 hN
      go_wp2_with fail
      go_loopw [1, 7] (fun x i wr => ∃ k : Nat, k ≤ N ∧ i = .int .i64 k ∧ x = .string (it (stepS l) k s) ∧ (∀ j, j < k → it (stepS l) j s ≠ t) ∧ WInv w wr A cA l rf) (fun _ i _ => N - (intOf i).toNat)
      case atStart => exact ⟨0, by omega, rfl, rfl, fun j hj => by omega, I2.out⟩
      case round =>
        obtain ⟨k, hk, rfl, rfl, hne, hi⟩ := hrel
        have HI := Lib.hid hi
        have HNE := Lib.hid hne
        have y0 := hi.c0
        have y1 := hi.c1
        have hsz : (it (stepS l) k s).size ≤ 3 := by rw [it_size]; exact f2
        have HNK := Lib.hid (show 10 ^ (it (stepS l) k s).size = N by rw [it_size]; exact HN.out)
        clear hi hne
        by_cases hlt : k < N
        · by_cases he : it (stepS l) k s = t
          · have t1 := bs_yes he
            have HE := Lib.hid he
            clear he
            go_wp2_with (go_at_call 55; refine (c_l7Size _ _ hsz).mono ?_; rintro e w' ⟨rfl, rfl⟩; rw [HNK.out])
            go_ret
            exact ⟨by rw [HT.out, findTo_some hlt HE.out HNE.out]; rfl, HI.out.bel⟩
          · have t1 := bs_no he
            have HE := Lib.hid he
            clear he
            go_wp2_with (go_at_call 55; refine (c_l7Size _ _ hsz).mono ?_; rintro e w' ⟨rfl, rfl⟩; rw [HNK.out])
            refine (c_l7StepIt A cA l rf s k _ HI.out.rot H1.out).mono ?_
            rintro e w4 ⟨rfl, hb4⟩
            have HI4 := Lib.hid (HI.out.ext hb4)
            clear hb4 y0 y1
            go_wp2_with fail
            refine ⟨⟨k + 1, by omega, by go_num, rfl, fun j hj => ?_, HI4.out⟩, by simp [intOf]; omega⟩
            by_cases e : j = k
            · rw [e]; exact HE.out
            · exact HNE.out j (by omega)
        · have e : k = N := by omega
          subst e
          go_wp2_with (go_at_call 55; refine (c_l7Size _ _ hsz).mono ?_; rintro e w' ⟨rfl, rfl⟩; rw [HNK.out])
          go_ret
          exact ⟨by rw [HT.out, findTo_none HNE.out]; rfl, HI.out.bel⟩
end Go.Proofs.Ytlcanmofgjbcbaa
