/- Contracts of row.String, SheetRow (impl). -/
import Derived.Test.YthelcpfcamidiaaGreatRepFns
namespace Go.Proofs.YthelcpfcamidiaaGreat
set_option linter.unusedVariables false
set_option linter.unusedSimpArgs false
open Go.RowKit
attribute [local go_sem] Ext.cell
open BigFrame

/-- a row as a number -/
def rowN (b : Nat → Bool) : Nat → Nat
  | 0 => 0
  | k + 1 => rowN b k ||| (if b k = true then 2 ^ k else 0)
theorem rowN_lt (b : Nat → Bool) (k : Nat) : rowN b k < 2 ^ k := by
  induction k with
  | zero => exact Nat.one_pos
  | succ k ih =>
    unfold rowN
    have h2 : 2 ^ k < 2 ^ (k + 1) := Nat.pow_lt_pow_right (by omega) (by omega)
    refine Nat.or_lt_two_pow (Nat.lt_trans ih h2) ?_
    split
    · exact h2
    · exact Nat.two_pow_pos _
theorem rowN_bit (b : Nat → Bool) (k i : Nat) : (rowN b k).testBit i = (decide (i < k) && b i) := by
  induction k with
  | zero => simp [rowN]
  | succ k ih =>
    unfold rowN
    rw [Nat.testBit_or, ih]
    by_cases hb : b k = true
    · rw [if_pos hb, Nat.testBit_two_pow]
      by_cases e : k = i
      · subst e; simp [hb]
      · rw [decide_eq_false e, Bool.or_false]
        congr 1
        rw [decide_eq_decide]; omega
    · rw [if_neg hb, Nat.zero_testBit, Bool.or_false]
      by_cases e : i = k
      · subst e; simp only [Bool.not_eq_true] at hb; simp [hb]
      · congr 1
        rw [decide_eq_decide]; omega
theorem rowN_10 (b : Nat → Bool) {k : Nat} (hk : k ≤ 10) : rowN b k < 1024 := Nat.lt_of_lt_of_le (rowN_lt b k) (by
  have : 2 ^ k ≤ 2 ^ 10 := Nat.pow_le_pow_right (by omega) hk
  omega)
theorem or_natU (a b : Nat) (ha : a < 2 ^ 62) (hb : b < 2 ^ 62) : bits .or .u64 (a : Int) (b : Int) = ((a ||| b : Nat) : Int) := by
  have hx : a ||| b < 2 ^ 62 := Nat.or_lt_two_pow ha hb
  show IntKind.u64.wrap ((BitVec.ofInt 64 (a : Int) ||| BitVec.ofInt 64 (b : Int)).toNat : Int) = _
  rw [BitVec.toNat_or, bv_nat a ha, bv_nat b hb]
  exact IntWalk.u64_in _ (by omega)
theorem and_natU (a b : Nat) (ha : a < 2 ^ 62) (hb : b < 2 ^ 62) : bits .and .u64 (a : Int) (b : Int) = ((a &&& b : Nat) : Int) := by
  have hx : a &&& b < 2 ^ 62 := Nat.and_lt_two_pow _ hb
  show IntKind.u64.wrap ((BitVec.ofInt 64 (a : Int) &&& BitVec.ofInt 64 (b : Int)).toNat : Int) = _
  rw [BitVec.toNat_and, bv_nat a ha, bv_nat b hb]
  exact IntWalk.u64_in _ (by omega)
theorem pow_62 {n : Nat} (h : n < 10) : 2 ^ n < 2 ^ 62 := Nat.pow_lt_pow_right (by omega) (by omega)
theorem pow_wrapU {n : Nat} (h : n < 10) : IntKind.u64.wrap ((2 : Int) ^ n) = ((2 ^ n : Nat) : Int) := by
  have h1 : 2 ^ n ≤ 2 ^ 9 := Nat.pow_le_pow_right (by omega) (by omega)
  have e : (2 : Int) ^ n = ((2 ^ n : Nat) : Int) := by norm_cast
  rw [e]
  generalize 2 ^ n = q at h1 ⊢
  exact IntWalk.u64_in _ (by omega)
theorem rowN_and (b : Nat → Bool) {i : Nat} (hi : i < 10) : bits .and .u64 ((rowN b 10 : Nat) / 2 ^ i : Int) 1 = if b i = true then 1 else 0 := by
  have h10 := rowN_10 b (Nat.le_refl 10)
  have e1 : ((rowN b 10 : Nat) : Int) / 2 ^ i = ((rowN b 10 / 2 ^ i : Nat) : Int) := by norm_cast
  have h1 : rowN b 10 / 2 ^ i ≤ rowN b 10 := Nat.div_le_self _ _
  rw [e1, show (1 : Int) = ((1 : Nat) : Int) from rfl, and_natU _ _ (Nat.lt_of_le_of_lt h1 (Nat.lt_of_lt_of_le h10 (by decide))) (by decide)]
  have h2 := rowN_bit b 10 i
  rw [decide_eq_true hi, Bool.true_and] at h2
  have h3 := seen_test (rowN b 10) i
  rw [h2] at h3
  by_cases hb : b i = true
  · rw [if_pos hb, h3.2 hb]
    try rfl
  · rw [if_neg hb]
    have h4 : ¬ (rowN b 10 / 2 ^ i &&& 1 = 1) := fun e => hb (h3.1 e)
    have h5 : rowN b 10 / 2 ^ i &&& 1 ≤ 1 := Nat.and_le_right
    have : rowN b 10 / 2 ^ i &&& 1 = 0 := by omega
    rw [this]
    try rfl
set_option maxHeartbeats 400000 in
theorem c_rowString (b : Nat → Bool) (w : World) : Calls Tryz.prog 39 #[.int .u64 (rowN b 10 : Nat)] w fun e w' => e = .returned (.string (mkS 10 (fun i => if b i = true then 49 else 48))) ∧ Below w.heap.size w w' := by
  obtain ⟨R, hR⟩ : ∃ R : Int, ((rowN b 10 : Nat) : Int) = R := ⟨_, rfl⟩
  have HA : Hid (∀ i, i < 10 → bits .and .u64 (R / 2 ^ i) 1 = if b i = true then 1 else 0) := fun i hi => by rw [← hR]; exact rowN_and b hi
  have h10 := rowN_10 b (Nat.le_refl 10)
  have hR0 : 0 ≤ R := by omega
  have hR1 : R ≤ 1023 := by omega
  rw [hR]
  clear h10 hR
  go_enter Tryz.func39, Tryz.ntmps39
  go_wp2_with fail
  simp only [permA_zero]
  go_loopw [5] (fun i wr => ∃ (k : Nat), k ≤ 10 ∧ i = .int .i64 k ∧ Blk wr w.heap.size 62 (permA (fun j => if j < k then (if b j = true then 49 else 48) else 0)) ∧ Below w.heap.size w wr) (fun i _ => 10 - (intOf i).toNat)
  case atStart =>
    refine ⟨0, by omega, rfl, ?_, ext_alloc w _⟩
    have := Blk.new w 62 (permA fun _ => 0)
    simpa using this
  case round =>
    obtain ⟨k, hk, rfl, hb1, hbel⟩ := hrel
    have HB1 := Lib.hid hb1
    by_cases hlt : k < 10
    · have hcell : wr.cell? ⟨w.heap.size, k, none⟩ = some (.int .u8 0) := by rw [hb1.cell, permA_at _ hlt, if_neg (Nat.lt_irrefl k)]
      have hfree := hb1.free k
      have hand := HA.out k hlt
      clear hb1
      cases hbk : b k
      · rw [hbk] at hand
        simp only [Bool.false_eq_true, if_false] at hand
        have HBK := Lib.hid hbk
        clear hbk
        go_wp2_with fail
        refine ⟨⟨k + 1, by omega, by go_num, HB1.out.setP hlt _ (fun i _ => ?_), hbel.setCell (p := ⟨w.heap.size, k, none⟩) (by simp) _⟩, by simp [intOf]; omega⟩
        by_cases e : i = k
        · subst e; rw [if_pos rfl, if_pos (by omega), HBK.out]; rfl
        · by_cases e2 : i < k
          · rw [if_neg e, if_pos e2, if_pos (show i < k + 1 by omega)]
          · rw [if_neg e, if_neg e2, if_neg (by omega)]
      · rw [hbk] at hand
        simp only [if_true] at hand
        have HBK := Lib.hid hbk
        clear hbk
        go_wp2_with fail
        refine ⟨⟨k + 1, by omega, by go_num, HB1.out.setP hlt _ (fun i _ => ?_), hbel.setCell (p := ⟨w.heap.size, k, none⟩) (by simp) _⟩, by simp [intOf]; omega⟩
        by_cases e : i = k
        · subst e; rw [if_pos rfl, if_pos (by omega), HBK.out]; rfl
        · by_cases e2 : i < k
          · rw [if_neg e, if_pos e2, if_pos (show i < k + 1 by omega)]
          · rw [if_neg e, if_neg e2, if_neg (by omega)]
    · have e : k = 10 := by omega
      subst e
      have hcv := conv_row (P := Tryz.prog) (row_of_blk HB1.out) 22 9 5 10 Tryz.underlying22 Tryz.underlying5 Tryz.underlying9
      clear hb1
      go_wp2_with fail
      go_ret
      exact ⟨ret_str (mkS_congr (fun j hj => if_pos hj)), hbel⟩
theorem HeldM.alloc {w W : World} {A : Option Addr} {cA : Nat} {M : Mch} (h : HeldM w A cA M W) (o : Obj) : HeldM w A cA M (W.alloc o) := (h.2.2.2.2.ext (ext_alloc W o)).held
theorem c_HasRepeatHeld (w W : World) (A : Option Addr) (cA : Nat) (M : Mch) (s : ByteArray) (n : Int) (h : HeldM w A cA M W) (hz : MSz M) (hs : s.size ≤ 9223372036854775807) : Calls Tryz.prog 13 #[mV A cA M, .string s, .int .i64 n] W fun e w' => e = .returned (.bool (repB M s n)) ∧ HeldM w A cA M w' := by
  refine (c_HasRepeat A cA M s n W h.2.2.2.2.rot hz hs).mono ?_
  rintro e w' ⟨rfl, hb⟩
  exact ⟨rfl, (h.2.2.2.2.ext hb).held⟩
set_option maxHeartbeats 1000000 in
set_option maxRecDepth 100000 in
theorem c_SheetRow (A : Option Addr) (cA : Nat) (M : Mch) (s : ByteArray) (n : Int) (w : World) (hR : IsRots w (.slice A M.l.length cA) M.l) (hz : MSz M) (hs : s.size ≤ 9223372036854775800) : Calls Tryz.prog 10 #[mV A cA M, .string s, .int .i64 n] w fun e w' => e = .returned (.string (rowR M s n)) ∧ Below w.heap.size w w' := by
  have L0 := Lib.hid (MW.start M (Below.refl w.heap.size w) hR)
  have HZ := Lib.hid hz
  have hzr := hz.2.1
  have er : IntKind.i64.wrap ((M.rg.size : Int) - 1) = (M.rg.size : Int) - 1 := IntWalk.i64_in _ (by omega)
  clear hR hz
  go_enter Tryz.func10, Tryz.ntmps10
  have y0 := L0.out.c0
  have y1 := L0.out.c1
  have y2 := L0.out.c2
  have y3 := L0.out.c3
  go_wp2_with fail
  refine (c_MachineValid A cA M _ L0.out.rot HZ.out).mono ?_
  rintro e w1 ⟨rfl, hb1⟩
  have L1 := Lib.hid (L0.out.ext hb1)
  clear hb1 y0 y1 y2 y3 L0
  have y2 := L1.out.c2
  cases h1 : mB M with
  | false =>
    have HE := Lib.hid (rowR_no (M := M) (s := s) (n := n) (by unfold preB; rw [h1]; rfl))
    clear h1
    go_wp2_with fail
    go_ret
    exact ⟨by rw [HE.out]; rfl, L1.out.bel⟩
  | true =>
    have hsm := rg_small h1
    by_cases h2 : s.size + 1 = M.rg.size
    · have t1 : ((s.size : Int) != (M.rg.size : Int) - 1) = false := by rw [bne_eq_false_iff_eq]; omega
      cases h3 : wv s with
      | false =>
        have HE := Lib.hid (rowR_no (M := M) (s := s) (n := n) (by unfold preB; rw [h1, h3]; simp))
        clear h1 h2
        go_wp2_with (go_at_call 18; refine (c_WordValid _ _ (by omega)).mono ?_; rintro e w' ⟨rfl, rfl⟩; rw [h3])
        go_ret
        exact ⟨by rw [HE.out]; rfl, L1.out.bel⟩
      | true =>
        have hp : preB M s = true := (preB_iff M s).2 ⟨h1, h2, h3⟩
        by_cases hn0 : n < 0
        · have HE := Lib.hid (rowR_no (M := M) (s := s) (n := n) (by rw [inB_false (by omega)]; simp))
          clear h1 h2 hp
          go_wp2_with (go_at_call 18; refine (c_WordValid _ _ (by omega)).mono ?_; rintro e w' ⟨rfl, rfl⟩; rw [h3])
          go_ret
          exact ⟨by rw [HE.out]; rfl, L1.out.bel⟩
        · by_cases hn1 : (M.rg.size : Int) ≤ n
          · have HE := Lib.hid (rowR_no (M := M) (s := s) (n := n) (by rw [inB_false (by omega)]; simp))
            clear h1 h2 hp
            go_wp2_with (go_at_call 18; refine (c_WordValid _ _ (by omega)).mono ?_; rintro e w' ⟨rfl, rfl⟩; rw [h3])
            go_ret
            exact ⟨by rw [HE.out]; rfl, L1.out.bel⟩
          · obtain ⟨k, rfl⟩ : ∃ k : Nat, n = (k : Int) := ⟨n.toNat, by omega⟩
            have hk : k ≤ s.size := by omega
            have hs3 : s.size ≤ 2 := by omega
            have HE := Lib.hid (rowR_ok hp hk)
            have HSET : Hid (∀ i, i < 10 → setB M (grd s i) = true) := fun i hi => by rw [grd_set M s hi]; exact hp
            have d0 : decide ((k : Int) < 0) = false := decide_eq_false (by omega)
            have d1 : decide ((M.rg.size : Int) ≤ (k : Int)) = false := decide_eq_false (by omega)
            have d2 : decide (M.rg.size ≤ k) = false := decide_eq_false (by omega)
            clear h1 h2 hp hsm
            go_wp2_with (go_at_call 18; refine (c_WordValid _ _ (by omega)).mono ?_; rintro e w' ⟨rfl, rfl⟩; rw [h3])
            clear y2 er t1 h3 d0 d1 d2 hn0 hn1
            go_loopw [7, 37] (fun o i wr => ∃ j : Nat, j ≤ 10 ∧ i = .int .i64 j ∧ o = .int .u64 ((rowN (fun i => fixB (prF M (grd s i) k)) j : Nat) : Int) ∧ MW w w.heap.size A cA M wr) (fun _ i _ => 10 - (intOf i).toNat)
            case atStart => exact ⟨0, Nat.zero_le _, rfl, rfl, L1.out⟩
            case round =>
              clear L1
              obtain ⟨j, hj, rfl, rfl, hL⟩ := hrel
              have L2 := Lib.hid hL
              have hrn := rowN_10 (fun i => fixB (prF M (grd s i) k)) hj
              obtain ⟨R, hR⟩ : ∃ R, rowN (fun i => fixB (prF M (grd s i) k)) j = R := ⟨_, rfl⟩
              rw [hR] at hrn ⊢
              have HR := Lib.hid hR
              clear hL hR
              by_cases hlt : j < 10
              · have y0 := L2.out.c0
                have y1 := L2.out.c1
                have y2 := L2.out.c2
                have y3 := L2.out.c3
                have hlw := L2.out.lt
                have hzj : (grd s j).size ≤ 9223372036854775807 := by rw [grd_size]; omega
                have hkj : k < (grd s j).size := by rw [grd_size]; omega
                have hc : ∀ (w : World) (x : Int), (convert 22 9 (.slice (some ⟨w.heap.size, 0, none⟩) 1 1)).run Tryz.prog (w.alloc (.cells #[.int .u8 x] 5)).drew = .ok (.string (strOfNums [x])) (w.alloc (.cells #[.int .u8 x] 5)).drew := fun w x => conv_one (P := Tryz.prog) w.drew x 22 9 5 Tryz.underlying22 Tryz.underlying5 Tryz.underlying9
                have HRP := Lib.hid (repB_at (HSET.out j hlt) hkj)
                have z1 := size_one (97 + (j : Int))
                have hsum : ¬ 9223372036854775807 < s.size + 1 := by omega
                go_wp2_with fail
                go_region_with (first
                    | (go_at_call 38; refine (c_letter _ _ (by omega) (by omega)).mono ?_; rintro e w' ⟨rfl, rfl⟩)
                    | (go_at_call 13; refine (c_HasRepeat A cA M (grd s j) k _ (L2.out.ext (ext_alloc _ _)).drew.rot HZ.out hzj).mono ?_; rintro e w7 ⟨rfl, hb7⟩))
                all_goals
                  have L7 := Lib.hid ((L2.out.ext (ext_alloc _ _)).drew.ext hb7)
                  clear hb7
                  rw [HRP.out]
                  clear hc y0 y1 y2 y3
                  cases hf : fixB (prF M (grd s j) k) with
                  | true =>
                    have hx : rowN (fun i => fixB (prF M (grd s i) k)) (j + 1) = R ||| 2 ^ j := by unfold rowN; rw [HR.out, if_pos hf]
                    have HX := Lib.hid hx
                    have hw2 : IntKind.u64.wrap ((2 : Int) ^ j) = (2 : Int) ^ j := by rw [pow_wrapU hlt]; norm_cast
                    have HOR := Lib.hid (show bits .or .u64 (R : Int) ((2 : Int) ^ j) = ((R ||| 2 ^ j : Nat) : Int) by rw [← or_natU R (2 ^ j) (by omega) (pow_62 hlt)]; norm_cast)
                    clear hf hx
                    go_wp2_with fail
                    exact ⟨⟨j + 1, by omega, by go_num, by rw [HX.out, HOR.out], L7.out⟩, by simp [intOf]; omega⟩
                  | false =>
                    have hx : rowN (fun i => fixB (prF M (grd s i) k)) (j + 1) = R := by unfold rowN; rw [HR.out, if_neg (by rw [hf]; simp), Nat.or_zero]
                    have HX := Lib.hid hx
                    clear hf hx
                    go_wp2_with fail
                    exact ⟨⟨j + 1, by omega, by go_num, by rw [HX.out], L7.out⟩, by simp [intOf]; omega⟩
              · have e : j = 10 := by omega
                subst e
                rw [← HR.out]
                go_wp2_with fail
                refine (c_rowString (fun i => fixB (prF M (grd s i) k)) _).mono ?_
                rintro e w5 ⟨rfl, hb5⟩
                have B5 := Lib.hid (L2.out.ext hb5).bel
                clear hb5
                go_wp2_with fail
                go_ret
                exact ⟨by rw [HE.out]; rfl, B5.out⟩
    · have t1 : ((s.size : Int) != (M.rg.size : Int) - 1) = true := by rw [bne_iff_ne]; omega
      have HE := Lib.hid (rowR_no (M := M) (s := s) (n := n) (by unfold preB; rw [decide_eq_false h2]; simp))
      clear h1 h2
      go_wp2_with fail
      go_ret
      exact ⟨by rw [HE.out]; rfl, L1.out.bel⟩
end Go.Proofs.YthelcpfcamidiaaGreat
