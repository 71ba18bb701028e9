/- Contracts of PinPeriod, TurnPins, Displacement, PinEncipher, rcLetter. -/
import Derived.Test.YtomgkpiogbmfgaaPinKey
namespace Go.Proofs.Ytomgkpiogbmfgaa
open Go.RowKit

theorem lcm_eq (a b g : Nat) (h : g = Nat.gcd a b) : a / g * b = Nat.lcm a b := by
  subst h
  unfold Nat.lcm
  exact Nat.div_mul_right_comm (Nat.gcd_dvd_left a b) b
theorem c_leastMultiple (a b : Nat) (w : World) (ha : 1 ≤ a) (ha2 : a ≤ 1000000) (_hb : 1 ≤ b) (hb2 : b ≤ 1000) :
    Calls Try.prog 43 #[.int .i64 a, .int .i64 b] w fun e w' => e = .returned (.int .i64 (Nat.lcm a b)) ∧ Below w.heap.size w w' := by
  go_enter Try.func43, Try.ntmps43
  go_wp2_with fail
  go_loopw [5, 6] (fun x y wr => ∃ X Y : Nat, x = .int .i64 X ∧ y = .int .i64 Y ∧ Nat.gcd X Y = Nat.gcd a b ∧ 1 ≤ X ∧ X ≤ 1000000 ∧ Y ≤ 1000 ∧ Below w.heap.size w wr) (fun _ y _ => (intOf y).toNat)
  case atStart => exact ⟨a, b, rfl, rfl, rfl, ha, ha2, hb2, Below.refl _ _⟩
  case round =>
    obtain ⟨X, Y, rfl, rfl, hgcd, hx, hx2, hy, hbw⟩ := hrel
    have HG := Lib.hid hgcd
    have HB := Lib.hid hbw
    clear hgcd hbw
    by_cases hy0 : Y = 0
    · have t1 : ((Y : Int) != 0) = false := by simp [hy0]
      have hg : X = Nat.gcd a b := by rw [← HG.out, hy0, Nat.gcd_zero_right]
      have HL := Lib.hid (lcm_eq a b X hg)
      have hdvd : X ≤ a := Nat.le_of_dvd (by omega) (by rw [hg]; exact Nat.gcd_dvd_left a b)
      have hq : a / X ≤ a := Nat.div_le_self a X
      have hm : (a / X) * b ≤ 1000000 * 1000 := Nat.mul_le_mul (by omega) hb2
      have hm' : ((a : Int) / (X : Int)) * (b : Int) ≤ 1000000 * 1000 := by
        have : (((a / X) * b : Nat) : Int) ≤ 1000000 * 1000 := by omega
        simpa using this
      have hm0 : 0 ≤ ((a : Int) / (X : Int)) * (b : Int) := by
        have : 0 ≤ (((a / X) * b : Nat) : Int) := by omega
        simpa using this
      clear hy0 hg hm
      go_wp2_with fail
      go_ret
      refine ⟨ret_int ?_, HB.out⟩
      have q0 : 0 ≤ (a : Int) / (X : Int) := Int.ediv_nonneg (by omega) (by omega)
      have q1 : (a : Int) / (X : Int) ≤ 1000000 := by
        have : ((a / X : Nat) : Int) ≤ 1000000 := by omega
        simpa using this
      rw [IntWalk.wrap64_in ((a : Int) / (X : Int)) ⟨by omega, by omega⟩, IntWalk.wrap64_in _ ⟨by omega, by omega⟩, ← HL.out]; simp
    · have t1 : ((Y : Int) != 0) = true := by simp [hy0]
      have e1 : ¬ (Y : Int) = 0 := by omega
      have e2 : ((Y : Int) == 0) = false := by rw [beq_eq_false_iff_ne]; omega
      have hlt : X % Y < Y := Nat.mod_lt _ (by omega)
      have e3 : (X : Int).tmod (Y : Int) = ((X % Y : Nat) : Int) := by
        rw [Int.tmod_eq_emod_of_nonneg (by omega)]; simp
      go_wp2_with fail
      go_quiet (fail)
      clear e1 e2 e3
      go_wp2_with fail
      refine ⟨⟨Y, X % Y, rfl, rfl, ?_, by omega, by omega, by omega, below_drewN HB.out _⟩, by simp [intOf]; omega⟩
      rw [← HG.out, Nat.gcd_comm Y, ← Nat.gcd_rec, Nat.gcd_comm]

/-- the period of the wheels -/
def perN (ws : List ByteArray) : Nat → Nat
  | 0 => 1
  | k + 1 => Nat.lcm (perN ws k) (gS ws k).size
theorem perN_dvd (ws : List ByteArray) (n : Nat) : ∀ k, k < n → (gS ws k).size ∣ perN ws n := by
  induction n with
  | zero => intro k hk; omega
  | succ n ih =>
    intro k hk
    rw [perN]
    rcases Nat.lt_succ_iff_lt_or_eq.1 hk with h | h
    · exact Nat.dvd_trans (ih k h) (Nat.dvd_lcm_left _ _)
    · subst h; exact Nat.dvd_lcm_right _ _
theorem perN_bd (ws : List ByteArray) (n : Nat) (h : ∀ k, k < n → 2 ≤ (gS ws k).size ∧ (gS ws k).size ≤ 9) : 1 ≤ perN ws n ∧ perN ws n ≤ 9 ^ n := by
  induction n with
  | zero => exact ⟨Nat.le_refl _, Nat.le_refl _⟩
  | succ n ih =>
    obtain ⟨h1, h2⟩ := ih (fun k hk => h k (by omega))
    obtain ⟨s1, s2⟩ := h n (by omega)
    rw [perN]
    refine ⟨Nat.lcm_pos (by omega) (by omega), ?_⟩
    rw [Nat.pow_succ]
    refine Nat.le_trans (Nat.le_of_dvd (Nat.mul_pos (by omega) (by omega)) (Nat.lcm_dvd_mul _ _)) (Nat.mul_le_mul h2 s2)
theorem perN_le (ws : List ByteArray) {n : Nat} (hn : n ≤ 4) (h : ∀ k, k < n → 2 ≤ (gS ws k).size ∧ (gS ws k).size ≤ 9) : 1 ≤ perN ws n ∧ perN ws n ≤ 6561 := by
  have := perN_bd ws n h
  have h9 : 9 ^ n ≤ 9 ^ 4 := Nat.pow_le_pow_right (by omega) hn
  omega

set_option maxHeartbeats 400000 in
theorem c_PinPeriod (vW vB : Value) (ws : List ByteArray) (bs : List Int) (w : World) (hW : IsStrs w vW ws) (hB : IsInts w vB bs) (hc : cageB ws bs = true) :
    Calls Try.prog 13 #[.agg #[vW, vB]] w fun e w' => e = .returned (.int .i64 (perN ws ws.length)) ∧ Below w.heap.size w w' := by
  have HW := Lib.hid hW
  have HC := Lib.hid hc
  have HCV := Lib.hid (c_CageValid vW vB ws bs (w.alloc (.cells #[vW, vB] 26)) (hW.ext (ext_alloc _ _)) (hB.ext (ext_alloc _ _)))
  obtain ⟨A, cA, rfl⟩ := hW.form
  obtain ⟨B, cB, rfl⟩ := hB.form
  obtain ⟨f1, f2, f3, f4, f5⟩ := cageB_facts hc
  have F5 := Lib.hid f5
  clear hW hB hc f5
  go_enter Try.func13, Try.ntmps13
  go_wp2_with fail
  refine HCV.out.mono ?_
  rintro e w1 ⟨rfl, hb1⟩
  have hbw : Below (w.heap.size + 1) (w.alloc (.cells #[.slice A ws.length cA, .slice B bs.length cB] 26)) w1 := by simpa using hb1
  obtain ⟨x0, x1, hbe, hsz⟩ := box2 hbw
  have HBE := Lib.hid hbe
  clear hbw hb1 hbe
  rw [HC.out]
  go_wp2_with fail
  go_loopw [3, 12] (fun p i wr => ∃ k : Nat, k ≤ ws.length ∧ i = .int .i64 k ∧ p = .int .i64 (perN ws k) ∧ Below w1.heap.size w1 wr) (fun _ i _ => ws.length - (intOf i).toNat)
  case atStart => exact ⟨0, Nat.zero_le _, rfl, rfl, Below.refl _ _⟩
  case round =>
    obtain ⟨k, hk, rfl, rfl, hbr⟩ := hrel
    have HBR := Lib.hid hbr
    clear hbr
    by_cases hlt : k < ws.length
    · obtain ⟨b, o, rfl, hb, hc⟩ := (HW.out.ext (ext_trans HBE.out HBR.out)).at_ hlt
      have hp := perN_le ws (n := k) (by omega) (fun j hj => F5.out j (by omega))
      have hs := F5.out k hlt
      go_wp2_with fail
      refine (c_leastMultiple _ _ _ (by omega) (by omega) (by omega) (by omega)).mono ?_
      rintro e w2 ⟨rfl, hb2⟩
      go_wp2_with fail
      exact ⟨⟨k + 1, by omega, by go_num, rfl, ext_trans HBR.out hb2⟩, by simp [intOf]; omega⟩
    · go_wp2_with fail
      go_ret
      have e : k = ws.length := by omega
      subst e
      exact ⟨rfl, ext_trans HBE.out HBR.out⟩

def turnL (ws : List ByteArray) (ps : List Int) (t : Nat) : List Int := (List.range ws.length).map (posF ws ps t)
theorem turnL_len (ws : List ByteArray) (ps : List Int) (t : Nat) : (turnL ws ps t).length = ws.length := by simp [turnL]
theorem turnL_at (ws : List ByteArray) (ps : List Int) (t : Nat) {i : Nat} (h : i < ws.length) : gI (turnL ws ps t) i = posF ws ps t i := by
  unfold gI turnL
  rw [List.getD_eq_getElem?_getD, List.getElem?_map, List.getElem?_range h]; rfl

set_option maxHeartbeats 400000 in
theorem c_TurnPins (vW vB vP : Value) (ws : List ByteArray) (bs ps : List Int) (t : Nat) (w : World) (hW : IsStrs w vW ws) (hB : IsInts w vB bs) (hP : IsInts w vP ps) (hfit : fitB ws bs ps = true) (ht : t ≤ 2000) :
    Calls Try.prog 14 #[.agg #[vW, vB], vP, .int .i64 t] w fun e w' => ∃ v, e = .returned (.tuple #[v, .bool true]) ∧ IsInts w' v (turnL ws ps t) ∧ Below w.heap.size w w' := by
  have HW := Lib.hid hW
  have HP := Lib.hid hP
  have HPV := Lib.hid (c_positionsValid vW vB vP ws bs ps (w.alloc (.cells #[vW, vB] 26)) (hW.ext (ext_alloc _ _)) (hB.ext (ext_alloc _ _)) (hP.ext (ext_alloc _ _)))
  obtain ⟨A, cA, rfl⟩ := hW.form
  obtain ⟨B, cB, rfl⟩ := hB.form
  obtain ⟨C, cC, rfl⟩ := hP.form
  obtain ⟨g1, g2, g3⟩ := fitB_facts hfit
  obtain ⟨f1, f2, f3, f4, f5⟩ := cageB_facts g1
  have HF := Lib.hid hfit
  have G2 := Lib.hid g2
  have G3 := Lib.hid g3
  have F5 := Lib.hid f5
  have g2' : ps.length ≤ ws.length := by omega
  clear hW hB hP hfit g1 g2 g3 f5
  have d1 : decide ((t : Int) < 0) = false := by simp
  have d2 : decide (2000 < (t : Int)) = false := by simp; omega
  go_enter Try.func14, Try.ntmps14
  go_wp2_with fail
  refine HPV.out.mono ?_
  rintro e w1 ⟨rfl, hb1⟩
  have hbw : Below (w.heap.size + 1) (w.alloc (.cells #[.slice A ws.length cA, .slice B bs.length cB] 26)) w1 := by simpa using hb1
  obtain ⟨x0, x1, hbe, hsz⟩ := box2 hbw
  have HBE := Lib.hid hbe
  clear hbw hb1 hbe
  rw [HF.out]
  go_wp2_with (at_make; refine make0 _ rfl _ _ _ rfl w1.heap.size 3 Try.underlying24 info_int _ _ _ rfl rfl (by omega) (by omega) (by omega) (Nat.le_refl _) ?_; intro v w3 hown hb3)
  have HO := Lib.hid hown
  have HB3 := Lib.hid hb3
  clear hown hb3
  go_loopw [8, 28] (fun v i wr => ∃ k : Nat, k ≤ ps.length ∧ i = .int .i64 k ∧ Own wr w1.heap.size 3 v (((List.range k).map (posF ws ps t)).map (.int .i64)) ∧ Below w1.heap.size w1 wr) (fun _ i _ => ps.length - (intOf i).toNat)
  case atStart => exact ⟨0, Nat.zero_le _, rfl, HO.out, HB3.out⟩
  case round =>
    clear HO HB3
    obtain ⟨k, hk, rfl, hown, hbr⟩ := hrel
    obtain ⟨y0, y1⟩ := bcell hbr
    have y2 := (y0 w.heap.size 0 hsz).trans x0
    have HO := Lib.hid hown
    have HBR := Lib.hid hbr
    have hszr := hbr.size
    clear hown hbr y0 y1
    by_cases hlt : k < ps.length
    · obtain ⟨b, o, rfl, hb, hc⟩ := (HP.out.ext (ext_trans HBE.out HBR.out)).at_ hlt
      have hlt2 : k < ws.length := by omega
      obtain ⟨b2, o2, rfl, hb2, hc2⟩ := (HW.out.ext (ext_trans HBE.out HBR.out)).at_ hlt2
      obtain ⟨r1, r2⟩ := G3.out k hlt2
      obtain ⟨s1, s2⟩ := F5.out k hlt2
      go_wp2_with (at_builtin; refine app1 _ rfl _ _ _ rfl w1.heap.size 3 Try.underlying24 info_int rfl _ _ rfl HO.out _ rfl rfl (by simp; omega) (by omega) hszr ?_; intro v' w4 hown4 hgr4)
      have HO4 := Lib.hid hown4
      have HB4 := Lib.hid (HO.out.below (Nat.le_refl _) hszr HBR.out hgr4)
      clear hown4 hgr4
      go_wp2_with fail
      refine ⟨⟨k + 1, by omega, by go_num, ?_, HB4.out⟩, by simp [intOf]; omega⟩
      rw [List.range_succ, List.map_append, List.map_append]
      exact HO4.out
    · go_wp2_with fail
      go_ret2
      have e : k = ps.length := by omega
      subst e
      refine ⟨_, rfl, ?_, ext_trans HBE.out HBR.out⟩
      have h2 := G2.out
      rw [h2] at HO
      exact HO.out.ints (by simp; omega)

theorem c_Displacement (vW vB vP : Value) (ws : List ByteArray) (bs ps : List Int) (w : World) (hW : IsStrs w vW ws) (hB : IsInts w vB bs) (hP : IsInts w vP ps) (hfit : fitB ws bs ps = true) :
    Calls Try.prog 15 #[.agg #[vW, vB], vP] w fun e w' => e = .returned (.tuple #[.int .i64 (disp ws bs (gI ps)), .bool true]) ∧ Below w.heap.size w w' := by
  have HW := Lib.hid hW
  have HB := Lib.hid hB
  have HP := Lib.hid hP
  have HF := Lib.hid hfit
  have HPV := Lib.hid (c_positionsValid vW vB vP ws bs ps (w.alloc (.cells #[vW, vB] 26)) (hW.ext (ext_alloc _ _)) (hB.ext (ext_alloc _ _)) (hP.ext (ext_alloc _ _)))
  obtain ⟨A, cA, rfl⟩ := hW.form
  obtain ⟨B, cB, rfl⟩ := hB.form
  clear hW hB hP hfit
  go_enter Try.func15, Try.ntmps15
  go_wp2_with fail
  refine HPV.out.mono ?_
  rintro e w1 ⟨rfl, hb1⟩
  have hbw : Below (w.heap.size + 1) (w.alloc (.cells #[.slice A ws.length cA, .slice B bs.length cB] 26)) w1 := by simpa using hb1
  obtain ⟨x0, x1, hbe, hsz⟩ := box2 hbw
  have HBE := Lib.hid hbe
  clear hbw hb1 hbe
  rw [HF.out]
  have h4 : ws.length ≤ 4 := (cageB_facts (fitB_facts HF.out).1).2.1
  go_wp2_with fail
  refine (c_newPins _ _ _ ws bs ps _ (HW.out.ext HBE.out) (HB.out.ext HBE.out) (HP.out.ext HBE.out) (by have := (fitB_facts HF.out).2.1; omega)).mono ?_
  rintro e w2 ⟨g, rfl, hg, hpin, hb2⟩
  have HPIN := Lib.hid hpin
  have HB2 := Lib.hid hb2
  clear hpin hb2
  go_wp2_with fail
  refine (c_displacement g _ _ ws bs _ _ HPIN.out (HW.out.ext (ext_trans HBE.out HB2.out)) (HB.out.ext (ext_trans HBE.out HB2.out)) h4 (fitB_facts HF.out).2.2).mono ?_
  rintro e w' ⟨rfl, rfl⟩
  go_wp2_with fail
  go_ret2
  exact ⟨rfl, ext_trans HBE.out HB2.out⟩

/-- what PinEncipher returns -/
def encR (ws : List ByteArray) (bs ps : List Int) (s : ByteArray) : Value :=
  if keyOk ws bs ps s.size = true then mixR (keyS ws bs ps s.size) s (-1) else .tuple #[.string ByteArray.empty, .bool false]
theorem encR_no {ws : List ByteArray} {bs ps : List Int} {s : ByteArray} (h : keyOk ws bs ps s.size = false) : encR ws bs ps s = .tuple #[.string ByteArray.empty, .bool false] := by unfold encR; rw [if_neg (by rw [h]; simp)]
theorem encR_ok {ws : List ByteArray} {bs ps : List Int} {s : ByteArray} (h : keyOk ws bs ps s.size = true) : encR ws bs ps s = mixR (keyS ws bs ps s.size) s (-1) := by unfold encR; rw [if_pos h]

set_option maxHeartbeats 400000 in
theorem c_PinEncipher (vW vB vP : Value) (ws : List ByteArray) (bs ps : List Int) (s : ByteArray) (w : World) (hW : IsStrs w vW ws) (hB : IsInts w vB bs) (hP : IsInts w vP ps) (hs : s.size ≤ 9223372036854775807) :
    Calls Try.prog 21 #[.agg #[vW, vB], vP, .string s] w fun e w' => e = .returned (encR ws bs ps s) ∧ Below w.heap.size w w' := by
  have HK := Lib.hid (c_PinKey vW vB vP ws bs ps s.size (w.alloc (.cells #[vW, vB] 26)) (hW.ext (ext_alloc _ _)) (hB.ext (ext_alloc _ _)) (hP.ext (ext_alloc _ _)))
  obtain ⟨A, cA, rfl⟩ := hW.form
  obtain ⟨B, cB, rfl⟩ := hB.form
  clear hW hB hP
  go_enter Try.func21, Try.ntmps21
  go_wp2_with fail
  refine HK.out.mono ?_
  rintro e w1 ⟨rfl, hb1⟩
  have hbe := ext_trans (ext_alloc w _) hb1
  have HBE := Lib.hid hbe
  clear hb1 hbe HK
  cases hk : keyOk ws bs ps s.size with
  | false =>
    have HKO := Lib.hid hk
    rw [keyR_no hk]
    clear hk
    go_wp2_with fail
    go_ret2
    exact ⟨by rw [encR_no HKO.out]; rfl, HBE.out⟩
  | true =>
    have HKO := Lib.hid hk
    rw [keyR_ok hk, Int.toNat_natCast]
    clear hk
    have hks : (keyS ws bs ps s.size).size ≤ 9223372036854775807 := by unfold keyS; rw [mkS_size]; exact hs
    go_wp2_with fail
    refine (c_SubtractWords _ s _ hks hs).mono ?_
    rintro e w2 ⟨rfl, hb2⟩
    rcases hm : mixOk (keyS ws bs ps s.size) s with _ | _
    · have HM := Lib.hid hm
      rw [mixR_no hm]
      clear hm
      go_wp2_with fail
      go_ret2
      exact ⟨by rw [encR_ok HKO.out, mixR_no HM.out]; rfl, ext_trans HBE.out hb2⟩
    · have HM := Lib.hid hm
      rw [mixR_ok hm]
      clear hm
      go_wp2_with fail
      go_ret2
      exact ⟨by rw [encR_ok HKO.out, mixR_ok HM.out]; rfl, ext_trans HBE.out hb2⟩

set_option maxHeartbeats 400000 in
theorem c_specPinEncipher (vW vB vP : Value) (ws : List ByteArray) (bs ps : List Int) (s : ByteArray) (w : World) (hW : IsStrs w vW ws) (hB : IsInts w vB bs) (hP : IsInts w vP ps) (hs : s.size ≤ 9223372036854775807) :
    Calls Try.prog 18 #[.agg #[vW, vB], vP, .string s] w fun e w' => e = .returned (encR ws bs ps s) ∧ Below w.heap.size w w' := by
  have HK := Lib.hid (c_specPinKey vW vB vP ws bs ps s.size (w.alloc (.cells #[vW, vB] 26)) (hW.ext (ext_alloc _ _)) (hB.ext (ext_alloc _ _)) (hP.ext (ext_alloc _ _)))
  obtain ⟨A, cA, rfl⟩ := hW.form
  obtain ⟨B, cB, rfl⟩ := hB.form
  clear hW hB hP
  go_enter Try.func18, Try.ntmps18
  go_wp2_with fail
  refine HK.out.mono ?_
  rintro e w1 ⟨rfl, hb1⟩
  have hbe := ext_trans (ext_alloc w _) hb1
  have HBE := Lib.hid hbe
  clear hb1 hbe HK
  cases hk : keyOk ws bs ps s.size with
  | false =>
    have HKO := Lib.hid hk
    rw [keyR_no hk]
    clear hk
    go_wp2_with fail
    go_ret2
    exact ⟨by rw [encR_no HKO.out]; rfl, HBE.out⟩
  | true =>
    have HKO := Lib.hid hk
    rw [keyR_ok hk, Int.toNat_natCast]
    clear hk
    have hks : (keyS ws bs ps s.size).size ≤ 9223372036854775807 := by unfold keyS; rw [mkS_size]; exact hs
    go_wp2_with fail
    refine (c_specSubtractWords _ s _ hks hs).mono ?_
    rintro e w2 ⟨rfl, hb2⟩
    rcases hm : mixOk (keyS ws bs ps s.size) s with _ | _
    · have HM := Lib.hid hm
      rw [mixR_no hm]
      clear hm
      go_wp2_with fail
      go_ret2
      exact ⟨by rw [encR_ok HKO.out, mixR_no HM.out]; rfl, ext_trans HBE.out hb2⟩
    · have HM := Lib.hid hm
      rw [mixR_ok hm]
      clear hm
      go_wp2_with fail
      go_ret2
      exact ⟨by rw [encR_ok HKO.out, mixR_ok HM.out]; rfl, ext_trans HBE.out hb2⟩

theorem c_rcLetter (n : Int) (w : World) (h0 : 0 ≤ n) (h1 : n ≤ 1000000) : Calls Try.prog 16 #[.int .i64 n] w fun e w' => e = .returned (.string (strOfNums [97 + n % 10])) ∧ Below w.heap.size w w' := by
  have hc := fun (w : World) (x : Int) => conv_one (P := Try.prog) w x 22 9 5 Try.underlying22 Try.underlying5 Try.underlying9
  go_enter Try.func16, Try.ntmps16
  go_wp2
  go_ret
  exact ⟨rfl, ext_alloc _ _⟩
end Go.Proofs.Ytomgkpiogbmfgaa
