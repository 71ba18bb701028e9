/- Contracts of ShiftWord, StepMoves (impl). -/
import Derived.Test.YtbapigekpehkfaaStepMany
import Derived.Test.YtbapigekpehkfaaExact
namespace Go.Proofs.Ytbapigekpehkfaa
set_option linter.unusedVariables false
set_option linter.unusedSimpArgs false
open Go.RowKit

def shOk (s : ByteArray) (n : Int) : Bool := wv s && (decide (0 ≤ n) && decide (n < 10))
def shS (s : ByteArray) (n : Int) : ByteArray := mkS s.size (fun k => 97 + (bt s k - 97 + n) % 10)
def shR (s : ByteArray) (n : Int) : ByteArray := if shOk s n = true then shS s n else ByteArray.empty
theorem shOk_cases (s : ByteArray) (n : Int) : (wv s = false ∧ shOk s n = false) ∨ (wv s = true ∧ n < 0 ∧ shOk s n = false) ∨ (wv s = true ∧ 0 ≤ n ∧ 10 ≤ n ∧ shOk s n = false) ∨ (wv s = true ∧ 0 ≤ n ∧ n < 10 ∧ shOk s n = true) := by
  unfold shOk
  cases h1 : wv s
  · left; exact ⟨rfl, rfl⟩
  · right
    by_cases h2 : n < 0
    · left; exact ⟨rfl, h2, by rw [decide_eq_false (by omega)]; rfl⟩
    · right
      by_cases h3 : 10 ≤ n
      · left; exact ⟨rfl, by omega, h3, by rw [decide_eq_false (show ¬ n < 10 by omega)]; simp⟩
      · right; exact ⟨rfl, by omega, by omega, by rw [decide_eq_true (show n < 10 by omega), decide_eq_true (show 0 ≤ n by omega)]; rfl⟩
theorem shR_ok {s : ByteArray} {n : Int} (h : wv s = true) (h0 : 0 ≤ n) (h1 : n < 10) : shR s n = shS s n := by
  unfold shR; rw [if_pos]; unfold shOk; rw [h, decide_eq_true h0, decide_eq_true h1]; rfl
theorem shS_size (s : ByteArray) (n : Int) : (shS s n).size = s.size := mkS_size _ _
theorem shS_bt (s : ByteArray) (n : Int) {k : Nat} (hk : k < s.size) : bt (shS s n) k = 97 + (bt s k - 97 + n) % 10 := by
  unfold shS; rw [bt_mkS _ _ _ hk (by omega) (by omega)]
theorem shR_size_le (s : ByteArray) (n : Int) : (shR s n).size ≤ s.size := by
  unfold shR
  by_cases h : shOk s n = true
  · rw [if_pos h, shS_size]; exact Nat.le_refl _
  · rw [if_neg h]; exact Nat.zero_le _
set_option maxHeartbeats 400000 in
theorem c_ShiftWord (s : ByteArray) (n : Int) (w : World) (hs : s.size ≤ 9223372036854775807) : Calls Try.prog 32 #[.string s, .int .i64 n] w fun e w' => e = .returned (.string (shR s n)) ∧ Below w.heap.size w w' := by
  rcases shOk_cases s n with ⟨h1, hr⟩ | ⟨h1, h2, hr⟩ | ⟨h1, h2, h3, hr⟩ | ⟨h1, h2, h3, hr⟩
  case inr.inr.inr =>
    have HR := Lib.hid hr
    have HV := Lib.hid ((wv_iff s).1 h1)
    have hle : s.size ≤ 200 := HV.out.1
    clear hr
    go_enter Try.func32, Try.ntmps32
    go_wp2_with (first | (go_at_call 55; refine (c_WordValid _ _ (by omega)).mono ?_; rintro e w' ⟨rfl, rfl⟩; rw [h1]) | (refine wpList_bytes _ rfl 9 40 5 _ rfl Try.underlying9 Try.underlying40 Try.underlying5 _ rfl ?_; intro cap w1 hrow hbw))
    have HR1 := Lib.hid hrow
    have HB := Lib.hid hbw
    clear hrow hbw h1
    go_loopw [22] (fun i wr => ∃ k : Nat, k ≤ s.size ∧ i = .int .i64 k ∧ Row wr w.heap.size s.size (fun j => if j < k then 97 + (bt s j - 97 + n) % 10 else bt s j) ∧ Below w.heap.size w wr) (fun i _ => s.size - (intOf i).toNat)
    case atStart => exact ⟨0, Nat.zero_le _, rfl, HR1.out.congr (fun i _ => by simp), HB.out⟩
    case round =>
      obtain ⟨k, hk, rfl, hrow, hb⟩ := hrel
      have HRW := Lib.hid hrow
      have HBL := Lib.hid hb
      by_cases hlt : k < s.size
      · have r1 := HV.out.2 k hlt
        have hcell := hrow.cell hlt
        simp only [Nat.lt_irrefl, if_false] at hcell
        have hfree := hrow.free hlt
        clear hrow hb
        go_wp2_with (go_at_call 56; refine (c_shifted _ _ _ (by omega) (by omega) (by omega) (by omega)).mono ?_; rintro e w' ⟨rfl, rfl⟩)
        refine ⟨⟨k + 1, by omega, by go_num, (HRW.out.set hlt _).congr (fun j _ => ?_), HBL.out.setCell (p := ⟨w.heap.size, k, none⟩) (Nat.le_refl _) _⟩, by simp [intOf]; omega⟩
        by_cases e : j = k
        · subst e; simp
        · by_cases e2 : j < k
          · rw [if_neg e, if_pos e2, if_pos (show j < k + 1 by omega)]
          · rw [if_neg e, if_neg e2, if_neg (by omega)]
      · clear hrow hb
        have hcv := conv_row (P := Try.prog) HRW.out 40 9 5 cap Try.underlying40 Try.underlying5 Try.underlying9
        go_wp2_with fail
        go_ret
        have e : k = s.size := by omega
        subst e
        exact ⟨ret_str (by unfold shR; rw [if_pos HR.out]; unfold shS; exact mkS_congr (fun j hj => if_pos hj)), HBL.out⟩
  all_goals
    have HR := Lib.hid hr
    clear hr
    go_enter Try.func32, Try.ntmps32
    go_wp2_with (go_at_call 55; refine (c_WordValid _ _ (by omega)).mono ?_; rintro e w' ⟨rfl, rfl⟩; rw [h1])
    go_ret
    exact ⟨by unfold shR; rw [if_neg (by rw [HR.out]; simp)]; rfl, Below.refl _ _⟩
def movR (l : List Rot) (rf s : ByteArray) : ByteArray := if winB l rf s = true then movS l s else ByteArray.empty
set_option maxHeartbeats 800000 in
set_option maxRecDepth 10000 in
theorem c_StepMoves (vR : Value) (l : List Rot) (rf s : ByteArray) (w : World) (hR : IsRots w vR l) (hf : rf.size ≤ 9223372036854775807) (hs : s.size ≤ 9223372036854775807) : Calls Try.prog 35 #[.agg #[vR, .string rf], .string s] w fun e w' => e = .returned (.string (movR l rf s)) ∧ Below w.heap.size w w' := by
  obtain ⟨A, cA, rfl⟩ := hR.form
  have I0 := Lib.hid (WInv.start rf hR)
  clear hR
  cases h1 : winB l rf s
  all_goals
    have H1 := Lib.hid h1
    go_enter Try.func35, Try.ntmps35
    go_wp2_with fail
    refine (c_windowsValid _ l rf s _ I0.out.rot (by omega) (by omega)).mono ?_
    rintro e w1 ⟨rfl, hb1⟩
    rw [h1]
    have I1 := Lib.hid (I0.out.ext hb1)
    have y0 := I1.out.c0
    have y1 := I1.out.c1
    clear hb1 h1
  · go_wp2_with fail
    go_ret
    exact ⟨by unfold movR; rw [if_neg (by rw [H1.out]; simp)]; rfl, I1.out.bel⟩
  · obtain ⟨f1, f2, f3, f4⟩ := win_facts H1.out
    go_wp2_with fail
    refine (c_pawls _ l rf s _ I1.out.rot f1 f2 f3).mono ?_
    rintro e w2 ⟨rfl, hb2⟩
    have I2 := Lib.hid (I1.out.ext hb2)
    clear hb2 y0 y1 f3 f4
    have K0 := Lib.hid (Blk.new w2 71 (boolA fun _ => false))
    have hz2 : w.heap.size < w2.heap.size := I2.out.box.lt
    have B2 := Lib.hid (below_row (I2.out.bel.alloc (Nat.le_of_lt hz2) (.cells (boolA fun _ => false) 71)) (Nat.le_of_lt hz2) (boolA fun i => decide (i < s.size) && mvB l s i))
    have KM := Lib.hid (K0.out.setRow (boolA fun i => decide (i < s.size) && mvB l s i))
    have HZR := Lib.hid (show ((w2.alloc (.cells (boolA fun _ => false) 71)).setRow w2.heap.size (boolA fun i => decide (i < s.size) && mvB l s i)).heap.size = w2.heap.size + 1 by rw [setRow_size]; simp)
    go_wp2_with (first
      | (simp only [boolA_zero]; refine wpList_store_row rfl 71 _ _ rfl w2.heap.size _ rfl rfl 71 _ K0.out (by rw [boolA_size]; exact size_flags) (by simp only [boolA_size]) (boolA_one _) ?_; generalize (w2.alloc (.cells (boolA fun _ => false) 71)).setRow w2.heap.size (boolA fun i => decide (i < s.size) && mvB l s i) = w3 at *)
      | (at_make; refine makeN _ rfl _ _ _ rfl w3.heap.size 5 Try.underlying40 info_u8 rfl _ _ _ _ s.size rfl rfl rfl rfl (by omega) (by omega) (Nat.le_refl _) ?_; intro w4 hown hbw))
    have hz3 : w2.heap.size < w3.heap.size := by have := HZR.out; omega
    have hz4 : w3.heap.size < w4.heap.size := (hown.blk_lt (g := w3.heap.size) rfl).2
    have HR4 := Lib.hid (Row.ofOwn hown hz4)
    have KM4 := Lib.hid (KM.out.ext hbw)
    have HB4 := Lib.hid (B2.out.trans (hbw.mono (by omega)))
    clear hown hbw
    go_loopw [20] (fun i wr => ∃ k : Nat, k ≤ s.size ∧ i = .int .i64 k ∧ Row wr w3.heap.size s.size (fun j => if j < k then (if mvB l s j = true then 49 else 48) else 0) ∧ Blk wr w2.heap.size 71 (boolA fun i => decide (i < s.size) && mvB l s i) ∧ Below w.heap.size w wr) (fun i _ => 3 - (intOf i).toNat)
    case atStart => exact ⟨0, by omega, rfl, HR4.out.congr (fun i _ => by simp), KM4.out, HB4.out⟩
    case round =>
      obtain ⟨k, hk, rfl, hrow, hkm, hbel⟩ := hrel
      have HRW := Lib.hid hrow
      have HKM := Lib.hid hkm
      have HBL := Lib.hid hbel
      by_cases hlt : k < s.size
      · have hcell := hrow.cell hlt
        simp only [Nat.lt_irrefl, if_false] at hcell
        have hfree := hrow.free hlt
        have hset := hrow.set hlt 48
        have hcell2 := hset.cell hlt
        simp only [if_true] at hcell2
        have hfree2 := hset.free hlt
        have hm : (wr.setCell ⟨w3.heap.size, k, none⟩ (.int .u8 48)).cell? ⟨w2.heap.size, k, none⟩ = some (.bool (mvB l s k)) := by rw [(hkm.far (p := ⟨w3.heap.size, k, none⟩) (by simp; omega) _).cell, boolA_at _ (by omega), decide_eq_true hlt]; rfl
        clear hrow hkm hbel hset
        cases hb : mvB l s k with
        | true =>
          have HMV := Lib.hid hb
          rw [hb] at hm
          clear hb
          go_wp2_with fail
          refine ⟨⟨k + 1, by omega, by go_num, ((HRW.out.set hlt _).set hlt _).congr (fun j _ => ?_), (HKM.out.far (p := ⟨w3.heap.size, k, none⟩) (by simp; omega) _).far (p := ⟨w3.heap.size, k, none⟩) (by simp; omega) _, (HBL.out.setCell (p := ⟨w3.heap.size, k, none⟩) (by simp; omega) _).setCell (p := ⟨w3.heap.size, k, none⟩) (by simp; omega) _⟩, by simp [intOf]; omega⟩
          by_cases e : j = k
          · subst e; simp [HMV.out]
          · by_cases e2 : j < k
            · rw [if_neg e, if_neg e, if_pos e2, if_pos (show j < k + 1 by omega)]
            · rw [if_neg e, if_neg e, if_neg e2, if_neg (by omega)]
        | false =>
          have HMV := Lib.hid hb
          rw [hb] at hm
          clear hb
          go_wp2_with fail
          refine ⟨⟨k + 1, by omega, by go_num, (HRW.out.set hlt _).congr (fun j _ => ?_), HKM.out.far (p := ⟨w3.heap.size, k, none⟩) (by simp; omega) _, HBL.out.setCell (p := ⟨w3.heap.size, k, none⟩) (by simp; omega) _⟩, by simp [intOf]; omega⟩
          by_cases e : j = k
          · subst e; simp [HMV.out]
          · by_cases e2 : j < k
            · rw [if_neg e, if_pos e2, if_pos (show j < k + 1 by omega)]
            · rw [if_neg e, if_neg e2, if_neg (by omega)]
      · clear hrow hkm hbel
        have hcv := conv_row (P := Try.prog) HRW.out 40 9 5 s.size Try.underlying40 Try.underlying5 Try.underlying9
        go_wp2_with fail
        go_ret
        have e : k = s.size := by omega
        subst e
        exact ⟨ret_str (by unfold movR; rw [if_pos H1.out]; unfold movS; exact mkS_congr (fun j hj => if_pos hj)), HBL.out⟩
end Go.Proofs.Ytbapigekpehkfaa
