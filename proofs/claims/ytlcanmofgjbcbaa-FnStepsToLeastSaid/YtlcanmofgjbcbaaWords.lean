/- Contracts of the functions on words, of the program and of the reference. -/
import Derived.Test.YtlcanmofgjbcbaaBase
namespace Go.Proofs.Ytlcanmofgjbcbaa
set_option linter.unusedVariables false
set_option linter.unusedSimpArgs false
open Go.RowKit

def isL (x : Int) : Bool := decide (97 ≤ x) && decide (x < 107)
theorem isL_true {x : Int} (h0 : 97 ≤ x) (h1 : x < 107) : isL x = true := by unfold isL; simp; omega
theorem isL_false {x : Int} (h : ¬ (97 ≤ x ∧ x < 107)) : isL x = false := by unfold isL; simp; omega
theorem isL_iff (x : Int) : isL x = true ↔ 97 ≤ x ∧ x < 107 := by unfold isL; simp
def wv (s : ByteArray) : Bool := decide (s.size ≤ 200) && allB s.size (fun k => isL (bt s k))
theorem wv_iff (s : ByteArray) : wv s = true ↔ s.size ≤ 200 ∧ ∀ k, k < s.size → 97 ≤ bt s k ∧ bt s k < 107 := by
  unfold wv; rw [Bool.and_eq_true, allB_iff]; simp [isL_iff]
theorem wv_long {s : ByteArray} (h : 200 < s.size) : wv s = false := by unfold wv; simp; omega
theorem wv_bad {s : ByteArray} {k : Nat} (hk : k < s.size) (h : isL (bt s k) = false) : wv s = false := by
  unfold wv; rw [allB_false hk h]; simp
theorem wv_good {s : ByteArray} (h : s.size ≤ 200) (ha : allB s.size (fun k => isL (bt s k)) = true) : wv s = true := by
  unfold wv; rw [ha]; simp; exact h

theorem c_isLetter (x : Int) (w : World) : Calls Try.prog 60 #[.int .u8 x] w fun e w' => e = .returned (.bool (isL x)) ∧ w = w' := by
  by_cases h : 97 ≤ x
  · go_enter Try.func60, Try.ntmps60
    go_wp2
    go_ret
    exact ⟨ret_bool (by unfold isL; simp [h]), rfl⟩
  · have h' : decide (97 ≤ x) = false := by simpa using h
    go_enter Try.func60, Try.ntmps60
    go_wp2
    go_ret
    exact ⟨ret_bool (by rw [isL_false (by omega)]), rfl⟩

theorem c_number (x : Int) (w : World) (h0 : 97 ≤ x) (h1 : x ≤ 255) : Calls Try.prog 61 #[.int .u8 x] w fun e w' => e = .returned (.int .i64 (x - 97)) ∧ w = w' := by
  go_enter Try.func61, Try.ntmps61
  go_wp2
  go_ret
  exact ⟨rfl, rfl⟩

theorem c_letter (x : Int) (w : World) (h0 : 0 ≤ x) (h1 : x ≤ 158) : Calls Try.prog 64 #[.int .i64 x] w fun e w' => e = .returned (.int .u8 (97 + x)) ∧ w = w' := by
  go_enter Try.func64, Try.ntmps64
  go_wp2
  go_ret
  exact ⟨rfl, rfl⟩

theorem c_l1Digit (s : ByteArray) (i : Nat) (w : World) (hi : i < s.size) (_hs : s.size ≤ 9223372036854775807) :
    Calls Try.prog 68 #[.string s, .int .i64 i] w fun e w' => e = .returned (.int .i64 (bt s i - 97)) ∧ w = w' := by
  have hb := bt_get s i hi
  have hr := bt_range s i
  go_enter Try.func68, Try.ntmps68
  go_wp2
  go_ret
  exact ⟨rfl, rfl⟩

def inB (n lo hi : Int) : Bool := decide (lo ≤ n) && decide (n ≤ hi)
theorem inB_true {n lo hi : Int} (h0 : lo ≤ n) (h1 : n ≤ hi) : inB n lo hi = true := by unfold inB; simp; omega
theorem inB_false {n lo hi : Int} (h : ¬ (lo ≤ n ∧ n ≤ hi)) : inB n lo hi = false := by unfold inB; simp; omega
theorem c_l1In (n lo hi : Int) (w : World) : Calls Try.prog 50 #[.int .i64 n, .int .i64 lo, .int .i64 hi] w fun e w' => e = .returned (.bool (inB n lo hi)) ∧ w = w' := by
  by_cases h : lo ≤ n
  · go_enter Try.func50, Try.ntmps50
    go_wp2
    go_ret
    exact ⟨ret_bool (by unfold inB; simp [h]), rfl⟩
  · have h' : decide (lo ≤ n) = false := by simpa using h
    go_enter Try.func50, Try.ntmps50
    go_wp2
    go_ret
    exact ⟨ret_bool (by rw [inB_false (by omega)]), rfl⟩

theorem tm10 (n : Int) (h0 : -1000000 ≤ n) (h1 : n ≤ 1000000) : wrap64 (97 + (wrap64 (n.tmod 10 + 10)).tmod 10) % 256 = 97 + n % 10 := by
  have h2 : n.tmod 10 = if n % 10 = 0 ∨ 0 ≤ n then n % 10 else n % 10 - 10 := by
    rw [Int.tmod_eq_emod]
    by_cases h : 0 ≤ n ∨ (10 : Int) ∣ n
    · rw [if_pos h, if_pos (by omega)]; omega
    · rw [if_neg h, if_neg (by omega)]; simp
  have h3 : wrap64 (n.tmod 10 + 10) = n.tmod 10 + 10 := IntWalk.wrap64_in _ (by rw [h2]; split <;> omega)
  have h4 : (n.tmod 10 + 10).tmod 10 = n % 10 := by
    rw [Int.tmod_eq_emod_of_nonneg (by rw [h2]; split <;> omega), h2]; split <;> omega
  rw [h3, h4, IntWalk.wrap64_in _ (by omega)]; omega

theorem c_l1Letter (n : Int) (w : World) (h0 : -1000000 ≤ n) (h1 : n ≤ 1000000) : Calls Try.prog 67 #[.int .i64 n] w fun e w' => e = .returned (.string (strOfNums [97 + n % 10])) ∧ Below w.heap.size w w' := by
  have hc := fun (w : World) (x : Int) => conv_one (P := Try.prog) w x 22 9 5 Try.underlying22 Try.underlying5 Try.underlying9
  have he := Lib.hid (tm10 n h0 h1)
  clear h0 h1
  go_enter Try.func67, Try.ntmps67
  go_wp2
  go_ret
  exact ⟨ret_str (by rw [he.out]), ext_alloc _ _⟩

theorem c_shifted (b n : Int) (w : World) (h0 : 97 ≤ b) (h1 : b < 107) (h2 : 0 ≤ n) (h3 : n ≤ 1000000) : Calls Try.prog 74 #[.int .u8 b, .int .i64 n] w fun e w' => e = .returned (.int .u8 (97 + (b - 97 + n) % 10)) ∧ w = w' := by
  go_enter Try.func74, Try.ntmps74
  go_wp2_with fail
  refine (c_number _ _ (by omega) (by omega)).mono ?_
  rintro e w' ⟨rfl, rfl⟩
  go_wp2_with fail
  refine (c_letter _ _ (by omega) (by omega)).mono ?_
  rintro e w' ⟨rfl, rfl⟩
  go_wp2
  go_ret
  exact ⟨rfl, rfl⟩

theorem c_specWordValid (s : ByteArray) (w : World) (hs : s.size ≤ 9223372036854775807) : Calls Try.prog 66 #[.string s] w fun e w' => e = .returned (.bool (wv s)) ∧ w = w' := by
  by_cases h : 200 < s.size
  · go_enter Try.func66, Try.ntmps66
    go_wp2_with fail
    go_ret
    exact ⟨ret_bool (wv_long h).symm, rfl⟩
  · go_enter Try.func66, Try.ntmps66
    go_wp2_with fail
    go_loop [3] (fun i => ∃ k : Nat, k ≤ s.size ∧ i = .int .i64 k ∧ allB k (fun k => isL (bt s k)) = true) (fun i => s.size - (intOf i).toNat)
    case atStart => exact ⟨0, Nat.zero_le _, rfl, rfl⟩
    case round =>
      obtain ⟨k, hk, rfl, ha⟩ := hrel
      have HA := Lib.hid ha
      clear ha
      by_cases hlt : k < s.size
      · have hr := bt_range s k
        go_wp2_with fail
        refine (c_l1Digit s k _ hlt hs).mono ?_
        rintro e w' ⟨rfl, rfl⟩
        go_wp2_with fail
        refine (c_l1In _ _ _ _).mono ?_
        rintro e w' ⟨rfl, rfl⟩
        by_cases hc : 97 ≤ bt s k ∧ bt s k < 107
        · rw [inB_true (by omega) (by omega)]
          go_wp2_with fail
          go_round
          case rel => exact ⟨k + 1, by omega, by go_num, allB_step HA.out (isL_true hc.1 hc.2)⟩
          case measure => simp [intOf]; omega
        · rw [inB_false (by omega)]
          go_wp2_with fail
          go_ret
          exact ⟨ret_bool (wv_bad hlt (isL_false hc)).symm, rfl⟩
      · go_wp2_with fail
        go_ret
        have e : k = s.size := by omega
        subst e
        exact ⟨ret_bool (wv_good (by omega) HA.out).symm, rfl⟩

theorem c_WordValid (s : ByteArray) (w : World) (hs : s.size ≤ 9223372036854775807) : Calls Try.prog 34 #[.string s] w fun e w' => e = .returned (.bool (wv s)) ∧ w = w' := by
  by_cases h : 200 < s.size
  · go_enter Try.func34, Try.ntmps34
    go_wp2_with fail
    go_ret
    exact ⟨ret_bool (wv_long h).symm, rfl⟩
  · go_enter Try.func34, Try.ntmps34
    go_wp2_with fail
    go_loop [9] (fun i => ∃ k : Nat, k ≤ s.size ∧ i = .int .i64 k ∧ allB k (fun k => isL (bt s k)) = true) (fun i => s.size - (intOf i).toNat)
    case atStart => exact ⟨0, Nat.zero_le _, rfl, rfl⟩
    case round =>
      obtain ⟨k, hk, rfl, ha⟩ := hrel
      have HA := Lib.hid ha
      clear ha
      by_cases hlt : k < s.size
      · have hr := bt_range s k
        have hb := bt_get s k hlt
        go_wp2_with fail
        refine (c_isLetter _ _).mono ?_
        rintro e w' ⟨rfl, rfl⟩
        by_cases hc : 97 ≤ bt s k ∧ bt s k < 107
        · have hq := isL_true hc.1 hc.2
          rw [hq]
          go_wp2_with fail
          go_round
          case rel => exact ⟨k + 1, by omega, by go_num, allB_step HA.out hq⟩
          case measure => simp [intOf]; omega
        · have hq := isL_false hc
          rw [hq]
          go_wp2_with fail
          go_ret
          exact ⟨ret_bool (wv_bad hlt hq).symm, rfl⟩
      · go_wp2_with fail
        go_ret
        have e : k = s.size := by omega
        subst e
        exact ⟨ret_bool (wv_good (by omega) HA.out).symm, rfl⟩

/-- letters of v and a multiple of those of w added up -/
def mixS (v w : ByteArray) (t : Int) : ByteArray := mkS v.size (fun k => 97 + (bt v k - 97 + t * (bt w k - 97)) % 10)
def mixOk (v w : ByteArray) : Bool := wv v && wv w && decide (v.size = w.size)
def mixR (v w : ByteArray) (t : Int) : Value := .tuple #[.string (if mixOk v w = true then mixS v w t else ByteArray.empty), .bool (mixOk v w)]
theorem mixOk_iff (v w : ByteArray) : mixOk v w = true ↔ wv v = true ∧ wv w = true ∧ v.size = w.size := by unfold mixOk; simp [and_assoc]
theorem mix_nine (v w : ByteArray) : mixS v w 9 = mixS v w (-1) := mkS_congr fun k _ => by omega
theorem mixR_nine (v w : ByteArray) : mixR v w 9 = mixR v w (-1) := by unfold mixR; rw [mix_nine]
theorem mixR_ok {v w : ByteArray} {t : Int} (h : mixOk v w = true) : mixR v w t = .tuple #[.string (mixS v w t), .bool true] := by unfold mixR; rw [if_pos h, h]
theorem mixR_no {v w : ByteArray} {t : Int} (h : mixOk v w = false) : mixR v w t = .tuple #[.string ByteArray.empty, .bool false] := by unfold mixR; rw [if_neg (by rw [h]; simp), h]
theorem mixOk_cases (v w : ByteArray) : (wv v = false ∧ mixOk v w = false) ∨ (wv v = true ∧ wv w = false ∧ mixOk v w = false) ∨
    (wv v = true ∧ wv w = true ∧ ((v.size : Int) != (w.size : Int)) = true ∧ mixOk v w = false) ∨
    (wv v = true ∧ wv w = true ∧ ((v.size : Int) != (w.size : Int)) = false ∧ mixOk v w = true) := by
  unfold mixOk
  cases h1 : wv v <;> cases h2 : wv w <;> simp
  by_cases h3 : v.size = w.size
  · right; omega
  · left; omega






end Go.Proofs.Ytlcanmofgjbcbaa
