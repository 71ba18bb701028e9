/- Contracts of ShiftWord, StepMoves (impl). -/
import Derived.Test.YtnjmjgnmbjbfpaaGreatStepMany
import Derived.Test.YtnjmjgnmbjbfpaaGreatExact
namespace Go.Proofs.YtnjmjgnmbjbfpaaGreat
set_option linter.unusedVariables false
set_option linter.unusedSimpArgs false
open Go.RowKit

def shOk (s : ByteArray) (n : Int) : Bool := wv s && (decide (0 ≤ n) && decide (n < 10))
def shS (s : ByteArray) (n : Int) : ByteArray := mkS s.size (fun k => 97 + (bt s k - 97 + n) % 10)
def shR (s : ByteArray) (n : Int) : ByteArray := if shOk s n = true then shS s n else ByteArray.empty
theorem shOk_cases (s : ByteArray) (n : Int) : (wv s = false ∧ shOk s n = false) ∨ (wv s = true ∧ n < 0 ∧ shOk s n = false) ∨ (wv s = true ∧ 0 ≤ n ∧ 10 ≤ n ∧ shOk s n = false) ∨ (wv s = true ∧ 0 ≤ n ∧ n < 10 ∧ shOk s n = true) := by
  unfold shOk
  cases h1 : wv s
  · left; exact ⟨rfl, rfl⟩
  · right
    by_cases h2 : n < 0
    · left; exact ⟨rfl, h2, by rw [decide_eq_false (by omega)]; rfl⟩
    · right
      by_cases h3 : 10 ≤ n
      · left; exact ⟨rfl, by omega, h3, by rw [decide_eq_false (show ¬ n < 10 by omega)]; simp⟩
      · right; exact ⟨rfl, by omega, by omega, by rw [decide_eq_true (show n < 10 by omega), decide_eq_true (show 0 ≤ n by omega)]; rfl⟩
theorem shR_ok {s : ByteArray} {n : Int} (h : wv s = true) (h0 : 0 ≤ n) (h1 : n < 10) : shR s n = shS s n := by
  unfold shR; rw [if_pos]; unfold shOk; rw [h, decide_eq_true h0, decide_eq_true h1]; rfl
theorem shS_size (s : ByteArray) (n : Int) : (shS s n).size = s.size := mkS_size _ _
theorem shS_bt (s : ByteArray) (n : Int) {k : Nat} (hk : k < s.size) : bt (shS s n) k = 97 + (bt s k - 97 + n) % 10 := by
  unfold shS; rw [bt_mkS _ _ _ hk (by omega) (by omega)]
theorem shR_size_le (s : ByteArray) (n : Int) : (shR s n).size ≤ s.size := by
  unfold shR
  by_cases h : shOk s n = true
  · rw [if_pos h, shS_size]; exact Nat.le_refl _
  · rw [if_neg h]; exact Nat.zero_le _
set_option maxHeartbeats 400000 in
theorem c_ShiftWord (s : ByteArray) (n : Int) (w : World) (hs : s.size ≤ 9223372036854775807) : Calls Tryz.prog 15 #[.string s, .int .i64 n] w fun e w' => e = .returned (.string (shR s n)) ∧ Below w.heap.size w w' := by
  rcases shOk_cases s n with ⟨h1, hr⟩ | ⟨h1, h2, hr⟩ | ⟨h1, h2, h3, hr⟩ | ⟨h1, h2, h3, hr⟩
  case inr.inr.inr =>
    have HR := Lib.hid hr
    have HV := Lib.hid ((wv_iff s).1 h1)
    have hle : s.size ≤ 200 := HV.out.1
    clear hr
    go_enter Tryz.func15, Tryz.ntmps15
    go_wp2_with (first | (go_at_call 24; refine (c_WordValid _ _ (by omega)).mono ?_; rintro e w' ⟨rfl, rfl⟩; rw [h1]) | (refine wpList_bytes _ rfl 9 22 5 _ rfl Tryz.underlying9 Tryz.underlying22 Tryz.underlying5 _ rfl ?_; intro cap w1 hrow hbw))
    have HR1 := Lib.hid hrow
    have HB := Lib.hid hbw
    clear hrow hbw h1
    go_loopw [22] (fun i wr => ∃ k : Nat, k ≤ s.size ∧ i = .int .i64 k ∧ Row wr w.heap.size s.size (fun j => if j < k then 97 + (bt s j - 97 + n) % 10 else bt s j) ∧ Below w.heap.size w wr) (fun i _ => s.size - (intOf i).toNat)
    case atStart => exact ⟨0, Nat.zero_le _, rfl, HR1.out.congr (fun i _ => by simp), HB.out⟩
    case round =>
      obtain ⟨k, hk, rfl, hrow, hb⟩ := hrel
      have HRW := Lib.hid hrow
      have HBL := Lib.hid hb
      by_cases hlt : k < s.size
      · have r1 := HV.out.2 k hlt
        have hcell := hrow.cell hlt
        simp only [Nat.lt_irrefl, if_false] at hcell
        have hfree := hrow.free hlt
        clear hrow hb
        go_wp2_with (go_at_call 34; refine (c_shifted _ _ _ (by omega) (by omega) (by omega) (by omega)).mono ?_; rintro e w' ⟨rfl, rfl⟩)
        refine ⟨⟨k + 1, by omega, by go_num, (HRW.out.set hlt _).congr (fun j _ => ?_), HBL.out.setCell (p := ⟨w.heap.size, k, none⟩) (Nat.le_refl _) _⟩, by simp [intOf]; omega⟩
        by_cases e : j = k
        · subst e; simp
        · by_cases e2 : j < k
          · rw [if_neg e, if_pos e2, if_pos (show j < k + 1 by omega)]
          · rw [if_neg e, if_neg e2, if_neg (by omega)]
      · clear hrow hb
        have hcv := conv_row (P := Tryz.prog) HRW.out 22 9 5 cap Tryz.underlying22 Tryz.underlying5 Tryz.underlying9
        go_wp2_with fail
        go_ret
        have e : k = s.size := by omega
        subst e
        exact ⟨ret_str (by unfold shR; rw [if_pos HR.out]; unfold shS; exact mkS_congr (fun j hj => if_pos hj)), HBL.out⟩
  all_goals
    have HR := Lib.hid hr
    clear hr
    go_enter Tryz.func15, Tryz.ntmps15
    go_wp2_with (go_at_call 24; refine (c_WordValid _ _ (by omega)).mono ?_; rintro e w' ⟨rfl, rfl⟩; rw [h1])
    go_ret
    exact ⟨by unfold shR; rw [if_neg (by rw [HR.out]; simp)]; rfl, Below.refl _ _⟩
def movR (l : List Rot) (rf s : ByteArray) : ByteArray := if winB l rf s = true then movS l s else ByteArray.empty
end Go.Proofs.YtnjmjgnmbjbfpaaGreat
