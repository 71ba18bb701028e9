/- Contract of step (impl). -/
import Derived.Test.YtnfeddnkokocfaaPawls
namespace Go.Proofs.Ytnfeddnkokocfaa
set_option linter.unusedVariables false
set_option linter.unusedSimpArgs false
open Go.RowKit

theorem setRow_size (w : World) (g : Nat) (cs : Array Value) : (w.setRow g cs).heap.size = w.heap.size := by
  simp [World.setRow]
set_option maxRecDepth 10000 in
set_option maxHeartbeats 800000 in
theorem c_step (vR : Value) (l : List Rot) (rf s : ByteArray) (w : World) (hR : IsRots w vR l) (h1 : 1 ≤ s.size) (h3 : s.size ≤ 3) (hl : s.size = l.length) (hv : wv s = true) : Calls Try.prog 117 #[.agg #[vR, .string rf], .string s] w fun e w' => e = .returned (.string (stepS l s)) ∧ Below w.heap.size w w' := by
  have B := Lib.hid (ext_alloc w (.cells #[vR, .string rf] 31))
  have HR0 := Lib.hid (hR.ext B.out)
  have HV := Lib.hid ((wv_iff s).1 hv)
  obtain ⟨A, cA, rfl⟩ := hR.form
  clear hR hv
  go_enter Try.func117, Try.ntmps117
  go_wp2_with fail
  refine (c_pawls _ l rf s _ HR0.out h1 h3 hl).mono ?_
  rintro e w1 ⟨rfl, hb1⟩
  have B1 := Lib.hid (ext_trans B.out hb1)
  have hz1 : w.heap.size < w1.heap.size := by have := hb1.size; simp at this; omega
  clear hb1
  have K0 := Lib.hid (Blk.new w1 168 (boolA fun _ => false))
  have B2 := Lib.hid (below_row (B1.out.alloc (Nat.le_of_lt hz1) (.cells (boolA fun _ => false) 168)) (Nat.le_of_lt hz1) (boolA fun i => decide (i < s.size) && mvB l s i))
  clear hl
  have KM := Lib.hid (K0.out.setRow (boolA fun i => decide (i < s.size) && mvB l s i))
  have hzr : ((w1.alloc (.cells (boolA fun _ => false) 168)).setRow w1.heap.size (boolA fun i => decide (i < s.size) && mvB l s i)).heap.size = w1.heap.size + 1 := by rw [setRow_size]; simp
  have HZR := Lib.hid hzr
  clear hzr
  go_wp2_with (first
    | (simp only [boolA_zero]; refine wpList_store_row rfl 168 _ _ rfl w1.heap.size _ rfl rfl 168 _ K0.out (by rw [boolA_size]; exact size_flags) (by simp only [boolA_size]) (boolA_one _) ?_; generalize (w1.alloc (.cells (boolA fun _ => false) 168)).setRow w1.heap.size (boolA fun i => decide (i < s.size) && mvB l s i) = w2 at *)
    | (refine wpList_bytes _ rfl 9 61 5 _ rfl Try.underlying9 Try.underlying61 Try.underlying5 _ rfl ?_; intro cap w3 hrow hbw))
  have HR3 := Lib.hid hrow
  have KM3 := Lib.hid (KM.out.ext hbw)
  have HB3 := Lib.hid (B2.out.trans (hbw.mono (by have := HZR.out; omega)))
  have hz2 : w1.heap.size < w2.heap.size := by have := HZR.out; omega
  clear hrow hbw
  go_loopw [15] (fun i wr => ∃ k : Nat, k ≤ s.size ∧ i = .int .i64 k ∧ Row wr w2.heap.size s.size (fun j => if j < k then (if mvB l s j = true then 97 + (bt s j - 97 + 1) % 10 else bt s j) else bt s j) ∧ Blk wr w1.heap.size 168 (boolA fun i => decide (i < s.size) && mvB l s i) ∧ Below w.heap.size w wr) (fun i _ => 3 - (intOf i).toNat)
  case atStart => exact ⟨0, by omega, rfl, HR3.out.congr (fun i _ => by simp), KM3.out, HB3.out⟩
  case round =>
    obtain ⟨k, hk, rfl, hrow, hkm, hbel⟩ := hrel
    have HRW := Lib.hid hrow
    have HKM := Lib.hid hkm
    have HBL := Lib.hid hbel
    by_cases hlt : k < s.size
    · have r1 := HV.out.2 k hlt
      have hcell := hrow.cell hlt
      simp only [Nat.lt_irrefl, if_false] at hcell
      have hfree := hrow.free hlt
      have hm : wr.cell? ⟨w1.heap.size, k, none⟩ = some (.bool (mvB l s k)) := by rw [hkm.cell, boolA_at _ (by omega), decide_eq_true hlt]; rfl
      clear hrow hkm hbel
      cases hb : mvB l s k with
      | true =>
        have HMV := Lib.hid hb
        rw [hb] at hm
        clear hb
        go_wp2_with (go_at_call 150; refine (c_shifted _ _ _ (by omega) (by omega) (by omega) (by omega)).mono ?_; rintro e w' ⟨rfl, rfl⟩)
        refine ⟨⟨k + 1, by omega, by go_num, (HRW.out.set hlt _).congr (fun j _ => ?_), HKM.out.far (p := ⟨w2.heap.size, k, none⟩) (by simp; omega) _, HBL.out.setCell (p := ⟨w2.heap.size, k, none⟩) (by simp; omega) _⟩, by simp [intOf]; omega⟩
        by_cases e : j = k
        · subst e; simp [HMV.out]
        · by_cases e2 : j < k
          · rw [if_neg e, if_pos e2, if_pos (show j < k + 1 by omega)]
          · rw [if_neg e, if_neg e2, if_neg (by omega)]
      | false =>
        have HMV := Lib.hid hb
        rw [hb] at hm
        clear hb
        go_wp2_with fail
        refine ⟨⟨k + 1, by omega, by go_num, HRW.out.congr (fun j _ => ?_), HKM.out, HBL.out⟩, by simp [intOf]; omega⟩
        by_cases e : j = k
        · subst e; simp [HMV.out]
        · by_cases e2 : j < k
          · rw [if_pos e2, if_pos (show j < k + 1 by omega)]
          · rw [if_neg e2, if_neg (by omega)]
    · clear hrow hkm hbel
      have hcv := conv_row (P := Try.prog) HRW.out 61 9 5 cap Try.underlying61 Try.underlying5 Try.underlying9
      go_wp2_with fail
      go_ret
      have e : k = s.size := by omega
      subst e
      exact ⟨ret_str (by unfold stepS; exact mkS_congr (fun j hj => if_pos hj)), HBL.out⟩
end Go.Proofs.Ytnfeddnkokocfaa
