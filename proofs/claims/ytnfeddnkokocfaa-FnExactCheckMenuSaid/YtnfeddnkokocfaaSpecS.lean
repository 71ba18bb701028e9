/- Cycle, Period, SpecSteps, SpecSteps2, in one text. -/
import Derived.Test.YtnfeddnkokocfaaKitS
import Derived.Test.YtnfeddnkokocfaaKitA
import Derived.Test.YtnfeddnkokocfaaSpecP
namespace Go.Proofs.Ytnfeddnkokocfaa
set_option linter.unusedVariables false
set_option linter.unusedSimpArgs false
/-! Cycle -/
section
open Go.RowKit

section
variable {α : Type}
/-- where the two walkers meet first -/
theorem rho_meet {f : α → α} {x : α} {m p : Nat} (h : Rho f x m p) : ∃ K, 1 ≤ K ∧ K ≤ m + p ∧ it f K x = it f (2 * K) x := by
  obtain ⟨h1, h2⟩ := h
  have hex : ∃ K, 1 ≤ K ∧ m ≤ K ∧ K ≤ m + p ∧ p ∣ K := by
    by_cases hm : m = 0
    · exact ⟨p, h1, by omega, by omega, Nat.dvd_refl _⟩
    · have hd := Nat.mod_add_div (m + p - 1) p
      have hl := Nat.mod_lt (m + p - 1) (show 0 < p by omega)
      refine ⟨p * ((m + p - 1) / p), by omega, by omega, by omega, Nat.dvd_mul_right _ _⟩
  obtain ⟨K, a, b, c, d⟩ := hex
  exact ⟨K, a, c, (h2 K (2 * K) (by omega)).2 ⟨b, by rw [show 2 * K - K = K by omega]; exact d⟩⟩
theorem rho_meet_at {f : α → α} {x : α} {m p k : Nat} (h : Rho f x m p) (hk : 1 ≤ k) (e : it f k x = it f (2 * k) x) : m ≤ k ∧ p ∣ k := by
  have := (h.2 k (2 * k) (by omega)).1 e
  rw [show 2 * k - k = k by omega] at this
  exact this
/-- from a meeting on, the walkers from the start and from there meet at the lead-in first -/
theorem rho_lead {f : α → α} {x : α} {m p c : Nat} (h : Rho f x m p) (hc : 1 ≤ c) (hp : p ∣ c) (i : Nat) : it f i x = it f (c + i) x ↔ m ≤ i := by
  rw [h.2 i (c + i) (by omega)]
  rw [show c + i - i = c by omega]
  exact ⟨fun h => h.1, fun h => ⟨h, hp⟩⟩
theorem rho_round {f : α → α} {x : α} {m p : Nat} (h : Rho f x m p) {j : Nat} (hj : 1 ≤ j) : it f (m + j) x = it f m x ↔ p ∣ j := by
  rw [eq_comm, h.2 m (m + j) (by omega), show m + j - m = j by omega]
  exact ⟨fun h => h.2, fun h => ⟨Nat.le_refl _, h⟩⟩
end
end
/-! Period -/
section
open Go.RowKit

theorem win_rho' {l : List Rot} {rf s : ByteArray} (h : winB l rf s = true) : Rho (stepS l) s (leadN (stepS l) s) (perN' (stepS l) s) ∧ leadN (stepS l) s + perN' (stepS l) s ≤ 10 ^ s.size ∧ leadN (stepS l) s + perN' (stepS l) s ≤ 1000 := by
  obtain ⟨h1, h2, h3, h4⟩ := win_facts h
  obtain ⟨m, p, hr, hle⟩ := win_rho l h4 h1 h2
  obtain ⟨e1, e2⟩ := rho_spec hr
  have := (pow10 h1 h2).1
  rw [e1, e2]
  exact ⟨hr, hle, by omega⟩
noncomputable def perR (l : List Rot) (rf s : ByteArray) : Int := if winB l rf s = true then (perN' (stepS l) s : Int) else 0
noncomputable def leadR (l : List Rot) (rf s : ByteArray) : Int := if winB l rf s = true then (leadN (stepS l) s : Int) else -1
def toR (l : List Rot) (rf a b : ByteArray) : Int := if winB l rf a = true ∧ winB l rf b = true then findTo (stepS l) a b (10 ^ a.size) else -1
end
/-! SpecSteps -/
section
open Go.RowKit

theorem winB_cases2 (l : List Rot) (rf s : ByteArray) : (wheelsB l rf = false ∧ winB l rf s = false) ∨ (wheelsB l rf = true ∧ wv s = false ∧ winB l rf s = false) ∨ (wheelsB l rf = true ∧ wv s = true ∧ winB l rf s = decide (s.size = l.length)) := by
  unfold winB
  cases h1 : wheelsB l rf
  · left; exact ⟨rfl, rfl⟩
  · right
    cases h2 : wv s
    · left; exact ⟨rfl, rfl, rfl⟩
    · right; exact ⟨rfl, rfl, by simp⟩
theorem eq_cast (a b : Nat) : ((a : Int) == (b : Int)) = decide (a = b) := by
  rw [Bool.eq_iff_iff, beq_iff_eq, decide_eq_true_eq]; omega
set_option maxHeartbeats 400000 in
theorem c_l7Windows (vR : Value) (l : List Rot) (rf s : ByteArray) (w : World) (hR : IsRots w vR l) (hf : rf.size ≤ 9223372036854775807) (hs : s.size ≤ 9223372036854775807) : Calls Try.prog 87 #[.agg #[vR, .string rf], .string s] w fun e w' => e = .returned (.bool (winB l rf s)) ∧ Below w.heap.size w w' := by
  have hll := hR.len_le
  obtain ⟨A, cA, rfl⟩ := hR.form
  have I0 := Lib.hid (WInv.start rf hR)
  clear hR
  rcases winB_cases2 l rf s with ⟨h1, hr⟩ | ⟨h1, h2, hr⟩ | ⟨h1, h2, hr⟩
  all_goals
    have HR := Lib.hid hr
    clear hr
    go_enter Try.func87, Try.ntmps87
    go_wp2_with fail
    refine (c_sWheelsValid _ l rf _ I0.out.rot (by omega)).mono ?_
    rintro e w1 ⟨rfl, hb1⟩
    rw [h1]
    have I1 := Lib.hid (I0.out.ext hb1)
    have y0 := I1.out.c0
    clear hb1 h1
  · go_wp2_with fail
    go_ret
    exact ⟨by rw [HR.out]; rfl, I1.out.bel⟩
  · go_wp2_with (go_at_call 105; refine (c_specWordValid _ _ (by omega)).mono ?_; rintro e w' ⟨rfl, rfl⟩; rw [h2])
    go_ret
    exact ⟨by rw [HR.out]; rfl, I1.out.bel⟩
  · have HQ := Lib.hid (eq_cast s.size l.length)
    go_wp2_with (go_at_call 105; refine (c_specWordValid _ _ (by omega)).mono ?_; rintro e w' ⟨rfl, rfl⟩; rw [h2])
    go_ret
    exact ⟨by rw [HR.out]; exact ret_bool HQ.out, I1.out.bel⟩
set_option maxHeartbeats 400000 in
theorem c_l7At (A : Option Addr) (cA : Nat) (l : List Rot) (rf s : ByteArray) (i : Nat) (w : World) (hR : IsRots w (.slice A l.length cA) l) (hi : i < s.size) (hl : i < l.length) (hs : s.size ≤ 3) : Calls Try.prog 158 #[.agg #[.slice A l.length cA, .string rf], .string s, .int .i64 i] w fun e w' => e = .returned (.bool (atN l s i)) ∧ Below w.heap.size w w' := by
  have I0 := Lib.hid (WInv.start rf hR)
  obtain ⟨b, o, rfl, hb, hc0, hc1⟩ := I0.out.rot.at_ hl
  have hsz := (hR.size_le hl).2
  clear hR hc0
  have y0 := I0.out.c0
  have hbi := bt_get s i hi
  have HX := Lib.hid (fnd_has (gR l i).2 (bt s i))
  have hll : l.length < 9223372036854775807 ∨ True := .inr trivial
  have i1 : (0 : Int) ≤ (i : Int) := by omega
  have i2 : (i : Int) < (l.length : Int) := by omega
  have i3 : (i : Int) < (s.size : Int) := by omega
  clear hll
  go_enter Try.func158, Try.ntmps158
  go_wp2_with fail
  go_quiet ((go_at_call 166; refine Calls.quiet_of_same (still (c_l21Find _ _ _ (by omega)))))
  go_wp2_with fail
  go_ret
  exact ⟨ret_bool HX.out, below_drewN I0.out.bel nq⟩
theorem c_l7AtJ (A : Option Addr) (cA : Nat) (l : List Rot) (rf s : ByteArray) (j : Int) (i : Nat) (w : World) (hj : j = i) (hR : IsRots w (.slice A l.length cA) l) (hi : i < s.size) (hl : i < l.length) (hs : s.size ≤ 3) : Calls Try.prog 158 #[.agg #[.slice A l.length cA, .string rf], .string s, .int .i64 j] w fun e w' => e = .returned (.bool (atN l s i)) ∧ Below w.heap.size w w' := by
  subst hj; exact c_l7At A cA l rf s i w hR hi hl hs
theorem mvB_cases (l : List Rot) (s : ByteArray) (i : Nat) : (i + 1 = s.size ∧ mvB l s i = true) ∨ (i + 1 ≠ s.size ∧ atN l s (i + 1) = true ∧ mvB l s i = true) ∨ (i + 1 ≠ s.size ∧ atN l s (i + 1) = false ∧ ¬ 0 < i ∧ mvB l s i = false) ∨ (i + 1 ≠ s.size ∧ atN l s (i + 1) = false ∧ 0 < i ∧ mvB l s i = atN l s i) := by
  unfold mvB
  by_cases h1 : i + 1 = s.size
  · left; exact ⟨h1, by rw [decide_eq_true h1]; rfl⟩
  · right
    rw [decide_eq_false h1]
    cases h2 : atN l s (i + 1)
    · right
      by_cases h3 : ¬ 0 < i
      · left; exact ⟨h1, rfl, h3, by rw [decide_eq_false h3]; rfl⟩
      · right; exact ⟨h1, rfl, by omega, by rw [decide_eq_true (show 0 < i by omega)]; rfl⟩
    · left; exact ⟨h1, rfl, rfl⟩
set_option maxHeartbeats 400000 in
theorem c_l7Moves (A : Option Addr) (cA : Nat) (l : List Rot) (rf s : ByteArray) (i : Nat) (w : World) (hR : IsRots w (.slice A l.length cA) l) (hi : i < s.size) (hl : s.size = l.length) (hs : s.size ≤ 3) : Calls Try.prog 126 #[.agg #[.slice A l.length cA, .string rf], .string s, .int .i64 i] w fun e w' => e = .returned (.bool (mvB l s i)) ∧ Below w.heap.size w w' := by
  have I0 := Lib.hid (WInv.start rf hR)
  have hle : s.size ≤ l.length := by omega
  clear hR hl
  have y0 := I0.out.c0
  have y1 := I0.out.c1
  rcases mvB_cases l s i with ⟨h1, hr⟩ | ⟨h1, h2, hr⟩ | ⟨h1, h2, h3, hr⟩ | ⟨h1, h2, h3, hr⟩
  · have HR := Lib.hid hr
    have t1 : ((i : Int) == (s.size : Int) - 1) = true := by rw [beq_iff_eq]; omega
    clear hr h1
    go_enter Try.func126, Try.ntmps126
    go_wp2_with fail
    go_ret
    exact ⟨by rw [HR.out]; rfl, I0.out.bel⟩
  all_goals
    have HR := Lib.hid hr
    have t1 : ((i : Int) == (s.size : Int) - 1) = false := by rw [beq_eq_false_iff_ne]; omega
    clear hr
    go_enter Try.func126, Try.ntmps126
    go_wp2_with fail
    refine (c_l7AtJ A cA l rf s _ (i + 1) _ (by omega) I0.out.rot (by omega) (by omega) (by omega)).mono ?_
    rintro e w1 ⟨rfl, hb1⟩
    rw [h2]
    have I1 := Lib.hid (I0.out.ext hb1)
    clear hb1 y0 y1 h2
    have y0 := I1.out.c0
    have y1 := I1.out.c1
  · go_wp2_with fail
    go_ret
    exact ⟨by rw [HR.out]; rfl, I1.out.bel⟩
  · have t2 : decide ((0 : Int) < (i : Int)) = false := by rw [decide_eq_false]; omega
    have H3 := Lib.hid h3
    clear h3
    go_wp2_with fail
    go_ret
    exact ⟨by rw [HR.out]; rfl, I1.out.bel⟩
  · have t2 : (0 : Int) < (i : Int) := by omega
    go_wp2_with fail
    refine (c_l7At A cA l rf s i _ I1.out.rot (by omega) (by omega) (by omega)).mono ?_
    rintro e w2 ⟨rfl, hb2⟩
    have I2 := Lib.hid (I1.out.ext hb2)
    clear hb2
    go_wp2_with fail
    go_ret
    exact ⟨by rw [HR.out]; rfl, I2.out.bel⟩
set_option maxHeartbeats 800000 in
theorem c_l7Step (A : Option Addr) (cA : Nat) (l : List Rot) (rf s : ByteArray) (w : World) (hR : IsRots w (.slice A l.length cA) l) (h1 : 1 ≤ s.size) (h3 : s.size ≤ 3) (hl : s.size = l.length) (hv : wv s = true) : Calls Try.prog 88 #[.agg #[.slice A l.length cA, .string rf], .string s] w fun e w' => e = .returned (.string (stepS l s)) ∧ Below w.heap.size w w' := by
  have I0 := Lib.hid (WInv.start rf hR)
  have HRO := Lib.hid hR
  have HV := Lib.hid ((wv_iff s).1 hv)
  have HL := Lib.hid hl
  clear hR hv hl
  go_enter Try.func88, Try.ntmps88
  go_wp2_with (refine wpList_bytes _ rfl 9 61 5 _ rfl Try.underlying9 Try.underlying61 Try.underlying5 _ rfl ?_; intro cap w1 hrow hbw)
  have I1 := Lib.hid (I0.out.ext hbw)
  have hzz : (w.alloc (.cells #[.slice A l.length cA, .string rf] 31)).heap.size = w.heap.size + 1 := by simp
  rw [hzz] at hrow
  have HR1 := Lib.hid hrow
  clear hrow hbw
  go_loopw [6] (fun i wr => ∃ k : Nat, k ≤ s.size ∧ i = .int .i64 k ∧ Row wr (w.heap.size + 1) s.size (fun j => if j < k then (if mvB l s j = true then 97 + (bt s j - 97 + 1) % 10 else bt s j) else bt s j) ∧ WInv w wr A cA l rf) (fun i _ => 3 - (intOf i).toNat)
  case atStart => exact ⟨0, by omega, rfl, HR1.out.congr (fun i _ => by simp), I1.out⟩
  case round =>
    obtain ⟨k, hk, rfl, hrow, hi⟩ := hrel
    have HRW := Lib.hid hrow
    have HI := Lib.hid hi
    have y0 := hi.c0
    have y1 := hi.c1
    clear hrow hi
    by_cases hlt : k < s.size
    · have r1 := HV.out.2 k hlt
      go_wp2_with fail
      refine (c_l7Moves A cA l rf s k _ HI.out.rot hlt HL.out (by omega)).mono ?_
      rintro e w2 ⟨rfl, hb2⟩
      have I2 := Lib.hid (HI.out.ext hb2)
      have HR2 := Lib.hid (HRW.out.ext hb2)
      clear hb2 y0 y1
      cases hb : mvB l s k with
      | true =>
        have HMV := Lib.hid hb
        clear hb
        go_wp2_with (go_at_call 79; refine (c_l1Digit s k _ hlt (by omega)).mono ?_; rintro e w' ⟨rfl, rfl⟩)
        refine (c_l1Letter _ _ (by omega) (by omega)).mono ?_
        rintro e w3 ⟨rfl, hb3⟩
        have I3 := Lib.hid (I2.out.ext hb3)
        have HR3 := Lib.hid (HR2.out.ext hb3)
        clear hb3
        have hcell := HR3.out.cell hlt
        simp only [Nat.lt_irrefl, if_false] at hcell
        have hfree := HR3.out.free hlt
        have z1 := size_one (97 + (bt s k - 97 + 1) % 10)
        have hz0 : 0 < (strOfNums [97 + (bt s k - 97 + 1) % 10]).size := by omega
        have b0 : (((strOfNums [97 + (bt s k - 97 + 1) % 10])[0]'hz0).toNat : Int) = 97 + (bt s k - 97 + 1) % 10 := by rw [bt_get _ 0 hz0, bt_one (by omega) (by omega)]
        go_wp2_with fail
        refine ⟨⟨k + 1, by omega, by go_num, (HR3.out.set hlt _).congr (fun j _ => ?_), ⟨I3.out.box.far (p := ⟨w.heap.size + 1, k, none⟩) (by simp) _, HRO.out.ext (I3.out.bel.setCell (p := ⟨w.heap.size + 1, k, none⟩) (by simp) _), I3.out.bel.setCell (p := ⟨w.heap.size + 1, k, none⟩) (by simp) _⟩⟩, by simp [intOf]; omega⟩
        by_cases e : j = k
        · subst e; simp [HMV.out]
        · by_cases e2 : j < k
          · rw [if_neg e, if_pos e2, if_pos (show j < k + 1 by omega)]
          · rw [if_neg e, if_neg e2, if_neg (by omega)]
      | false =>
        have HMV := Lib.hid hb
        clear hb
        go_wp2_with fail
        refine ⟨⟨k + 1, by omega, by go_num, HR2.out.congr (fun j _ => ?_), I2.out⟩, by simp [intOf]; omega⟩
        by_cases e : j = k
        · subst e; simp [HMV.out]
        · by_cases e2 : j < k
          · rw [if_pos e2, if_pos (show j < k + 1 by omega)]
          · rw [if_neg e2, if_neg (by omega)]
    · have hcv := conv_row (P := Try.prog) HRW.out 61 9 5 cap Try.underlying61 Try.underlying5 Try.underlying9
      go_wp2_with fail
      go_ret
      have e : k = s.size := by omega
      subst e
      exact ⟨ret_str (by unfold stepS; exact mkS_congr (fun j hj => if_pos hj)), HI.out.bel⟩
theorem c_l7StepIt (A : Option Addr) (cA : Nat) (l : List Rot) (rf s : ByteArray) (n : Nat) (w : World) (hR : IsRots w (.slice A l.length cA) l) (h : winB l rf s = true) : Calls Try.prog 88 #[.agg #[.slice A l.length cA, .string rf], .string (it (stepS l) n s)] w fun e w' => e = .returned (.string (it (stepS l) (n + 1) s)) ∧ Below w.heap.size w w' := by
  obtain ⟨h1, h2, h3, h4⟩ := win_facts (it_win n h)
  exact c_l7Step A cA l rf _ w hR h1 h2 h3 h4
end
/-! SpecSteps2 -/
section
open Go.RowKit

theorem manyOk_in (l : List Rot) (rf s : ByteArray) (n : Int) : (winB l rf s = false ∧ manyOk l rf s n = false) ∨ (winB l rf s = true ∧ inB n 0 2000 = false ∧ manyOk l rf s n = false) ∨ (winB l rf s = true ∧ inB n 0 2000 = true ∧ ∃ N : Nat, n = N ∧ N ≤ 2000 ∧ manyOk l rf s n = true) := by
  rcases manyOk_cases l rf s n with ⟨h1, hr⟩ | ⟨h1, h2, hr⟩ | ⟨h1, h2, h3, hr⟩ | ⟨h1, N, rfl, h2, hr⟩
  · exact .inl ⟨h1, hr⟩
  · exact .inr (.inl ⟨h1, inB_false (by omega), hr⟩)
  · exact .inr (.inl ⟨h1, inB_false (by omega), hr⟩)
  · exact .inr (.inr ⟨h1, inB_true (by omega) (by omega), N, rfl, h2, hr⟩)
set_option maxHeartbeats 400000 in
theorem c_sStepWindows (vR : Value) (l : List Rot) (rf s : ByteArray) (w : World) (hR : IsRots w vR l) (hf : rf.size ≤ 9223372036854775807) (hs : s.size ≤ 9223372036854775807) : Calls Try.prog 41 #[.agg #[vR, .string rf], .string s] w fun e w' => e = .returned (manyR l rf s 1) ∧ Below w.heap.size w w' := by
  obtain ⟨A, cA, rfl⟩ := hR.form
  have I0 := Lib.hid (WInv.start rf hR)
  clear hR
  cases h1 : winB l rf s
  all_goals
    have H1 := Lib.hid h1
    go_enter Try.func41, Try.ntmps41
    go_wp2_with fail
    refine (c_l7Windows _ l rf s _ I0.out.rot (by omega) (by omega)).mono ?_
    rintro e w1 ⟨rfl, hb1⟩
    rw [h1]
    have I1 := Lib.hid (I0.out.ext hb1)
    have y0 := I1.out.c0
    have y1 := I1.out.c1
    clear hb1 h1
  · have HM := Lib.hid (show manyOk l rf s 1 = false by unfold manyOk; rw [H1.out]; rfl)
    go_wp2_with fail
    go_ret2
    exact ⟨by rw [manyR_no HM.out]; rfl, I1.out.bel⟩
  · have HM := Lib.hid (show manyOk l rf s 1 = true by unfold manyOk; rw [H1.out]; rfl)
    obtain ⟨f1, f2, f3, f4⟩ := win_facts H1.out
    have F3 := Lib.hid f3
    have F4 := Lib.hid f4
    clear f3 f4
    go_wp2_with fail
    refine (c_l7Step A cA l rf s _ I1.out.rot f1 f2 F3.out F4.out).mono ?_
    rintro e w2 ⟨rfl, hb2⟩
    have I2 := Lib.hid (I1.out.ext hb2)
    clear hb2 y0 y1
    go_wp2_with fail
    go_ret2
    exact ⟨by rw [manyR_ok HM.out]; rfl, I2.out.bel⟩
end
end Go.Proofs.Ytnfeddnkokocfaa
