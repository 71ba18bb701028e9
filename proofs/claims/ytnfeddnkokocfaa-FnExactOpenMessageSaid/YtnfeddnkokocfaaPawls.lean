/- Contract of pawls (impl). -/
import Derived.Test.YtnfeddnkokocfaaStepFns
namespace Go.Proofs.Ytnfeddnkokocfaa
set_option linter.unusedVariables false
set_option linter.unusedSimpArgs false
open Go.RowKit

theorem Blk.setB {w : World} {b : Nat} {t : TypeId} {f : Nat → Bool} (h : Blk w b t (boolA f)) {k : Nat} (hk : k < 3) (x : Bool) {g : Nat → Bool} (hg : ∀ i, i < 3 → (if i = k then x else f i) = g i) :
    Blk (w.setCell ⟨b, k, none⟩ (.bool x)) b t (boolA g) := by
  have := h.set k (.bool x)
  rw [boolA_set f hk, boolA_congr hg] at this
  exact this
theorem still' {P : Program} {f : FuncId} {args : Array Value} {w : World} {v : Value} (h : Calls P f args w fun e w' => e = .returned v ∧ w' = w) :
    Calls P f args w fun e w' => e = .returned v ∧ w = w' := h.mono fun _ _ ⟨a, b⟩ => ⟨a, b.symm⟩
theorem size_flags : (Try.prog.info? 168).map (·.size) = some 3 := by kernel_rfl
/-- what holds in the loops of pawls -/
structure PInv (w wr : World) (A : Option Addr) (cA : Nat) (l : List Rot) (rf : ByteArray) (f g : Nat → Bool) : Prop where
  box : Blk wr w.heap.size 31 #[.slice A l.length cA, .string rf]
  res : Blk wr (w.heap.size + 1) 168 (boolA fun _ => false)
  at_ : Blk wr (w.heap.size + 2) 168 (boolA f)
  mv : Blk wr (w.heap.size + 3) 168 (boolA g)
  bel : Below w.heap.size w wr
theorem PInv.start (w : World) (A : Option Addr) (cA : Nat) (l : List Rot) (rf : ByteArray) {f : Nat → Bool} (hf : f = fun _ => false := by simp) :
    PInv w ((((w.alloc (.cells #[.slice A l.length cA, .string rf] 31)).alloc (.cells (boolA fun _ => false) 168)).alloc (.cells (boolA fun _ => false) 168)).alloc (.cells (boolA fun _ => false) 168)) A cA l rf f (fun _ => false) := by
  subst hf
  have e1 : (w.alloc (.cells #[.slice A l.length cA, .string rf] 31)).heap.size = w.heap.size + 1 := by simp
  have e2 : ((w.alloc (.cells #[.slice A l.length cA, .string rf] 31)).alloc (.cells (boolA fun _ => false) 168)).heap.size = w.heap.size + 2 := by simp
  have e3 : (((w.alloc (.cells #[.slice A l.length cA, .string rf] 31)).alloc (.cells (boolA fun _ => false) 168)).alloc (.cells (boolA fun _ => false) 168)).heap.size = w.heap.size + 3 := by simp
  have b1 := ((Blk.new (w.alloc (.cells #[.slice A l.length cA, .string rf] 31)) 168 (boolA fun _ => false)).alloc (.cells (boolA fun _ => false) 168)).alloc (.cells (boolA fun _ => false) 168)
  have b2 := (Blk.new ((w.alloc (.cells #[.slice A l.length cA, .string rf] 31)).alloc (.cells (boolA fun _ => false) 168)) 168 (boolA fun _ => false)).alloc (.cells (boolA fun _ => false) 168)
  have b3 := Blk.new (((w.alloc (.cells #[.slice A l.length cA, .string rf] 31)).alloc (.cells (boolA fun _ => false) 168)).alloc (.cells (boolA fun _ => false) 168)) 168 (boolA fun _ => false)
  rw [e1] at b1
  rw [e2] at b2
  rw [e3] at b3
  exact ⟨(((Blk.new w 31 #[.slice A l.length cA, .string rf]).alloc _).alloc _).alloc _, b1, b2, b3, (((ext_alloc w _).alloc (by simp) _).alloc (by simp; omega) _).alloc (by simp; omega) _⟩
set_option maxRecDepth 10000 in
set_option maxHeartbeats 800000 in
theorem c_pawls (vR : Value) (l : List Rot) (rf s : ByteArray) (w : World) (hR : IsRots w vR l) (h1 : 1 ≤ s.size) (h3 : s.size ≤ 3) (hl : s.size = l.length) : Calls Try.prog 149 #[.agg #[vR, .string rf], .string s] w fun e w' => e = .returned (.agg (boolA (fun i => decide (i < s.size) && mvB l s i))) ∧ Below w.heap.size w w' := by
  have HR0 := Lib.hid hR
  obtain ⟨A, cA, rfl⟩ := hR.form
  have hle1 : s.size ≤ l.length := by omega
  clear hR hl
  go_enter Try.func149, Try.ntmps149
  go_wp2_with fail
  simp only [boolA_zero]
  go_loopw [15] (fun i wr => ∃ k : Nat, k ≤ s.size ∧ i = .int .i64 k ∧ PInv w wr A cA l rf (fun j => decide (j < k) && atN l s j) (fun _ => false)) (fun i _ => 3 - (intOf i).toNat)
  case atStart => exact ⟨0, by omega, rfl, PInv.start w A cA l rf⟩
  case round =>
    obtain ⟨k, hk, rfl, hinv⟩ := hrel
    have HI := Lib.hid hinv
    by_cases hlt : k < s.size
    · obtain ⟨b, o, rfl, hb, hc0, hc1⟩ := (HR0.out.ext hinv.bel).at_ (k := k) (by omega)
      have y0 : wr.cell? ⟨w.heap.size, 0, none⟩ = some (.slice (some ⟨b, o, none⟩) l.length cA) := hinv.box.cell 0
      have y1 : wr.cell? ⟨w.heap.size + 2, k, none⟩ = some (.bool false) := by rw [hinv.at_.cell, boolA_at _ (by omega)]; simp
      have y2 := hinv.at_.free k
      clear hinv
      have hlk : k < l.length := by omega
      have hbk := bt_get s k hlt
      have hbr := bt_range s k
      have HX := Lib.hid (has_index (gR l k).2 (bt s k) hbr.1 hbr.2)
      go_wp2_with fail
      go_still_tail 12, (by kernel_rfl)
      repeat still_step
      still_call (still (still' (Try.strings_IndexByte _ _ _)))
      repeat still_step
      refine wpStill_nil ?_
      rw [HX.out]
      go_wp2_with fail
      refine ⟨⟨k + 1, by omega, by go_num, ⟨(HI.out.box.far (p := ⟨w.heap.size + 2, k, none⟩) (by simp) _).drew, (HI.out.res.far (p := ⟨w.heap.size + 2, k, none⟩) (by simp) _).drew, (HI.out.at_.setB (by omega) _ (fun i _ => ?_)).drew, (HI.out.mv.far (p := ⟨w.heap.size + 2, k, none⟩) (by simp) _).drew, (HI.out.bel.setCell (p := ⟨w.heap.size + 2, k, none⟩) (by simp) _).drew⟩⟩, by simp [intOf]; omega⟩
      by_cases e : i = k
      · subst e; rw [if_pos rfl, decide_eq_true (by omega), Bool.true_and]; rfl
      · by_cases e2 : i < k
        · rw [if_neg e, decide_eq_true e2, decide_eq_true (by omega)]
        · rw [if_neg e, decide_eq_false e2, decide_eq_false (by omega)]
    · have e : k = s.size := by omega
      subst e
      clear hinv
      have hl1 : IntKind.i64.wrap ((s.size : Int) - 1) = ((s.size - 1 : Nat) : Int) := by rw [IntWalk.i64_in _ (by omega)]; omega
      go_wp2_with fail
      go_loopw [33] (fun i wr => ∃ k : Nat, k ≤ s.size - 1 ∧ i = .int .i64 k ∧ PInv w wr A cA l rf (fun j => decide (j < s.size) && atN l s j) (fun j => decide (j < k) && mvB l s j)) (fun i _ => 3 - (intOf i).toNat)
      case atStart => exact ⟨0, by omega, rfl, by simpa using HI.out⟩
      case round =>
        obtain ⟨k, hk, rfl, hinv⟩ := hrel
        have HI2 := Lib.hid hinv
        by_cases hlt : k < s.size - 1
        · have z0 : wr.cell? ⟨w.heap.size + 2, k, none⟩ = some (.bool (atN l s k)) := by rw [hinv.at_.cell, boolA_at _ (by omega), decide_eq_true (by omega)]; rfl
          have z1 : wr.cell? ⟨w.heap.size + 2, k + 1, none⟩ = some (.bool (atN l s (k + 1))) := by rw [hinv.at_.cell, boolA_at _ (by omega), decide_eq_true (by omega)]; rfl
          have z2 : wr.cell? ⟨w.heap.size + 3, k, none⟩ = some (.bool false) := by rw [hinv.mv.cell, boolA_at _ (by omega)]; simp
          have z3 := hinv.mv.free k
          clear hinv
          have fin : ∀ x, x = mvB l s k → PInv w (wr.setCell ⟨w.heap.size + 3, k, none⟩ (.bool x)) A cA l rf (fun j => decide (j < s.size) && atN l s j) (fun j => decide (j < k + 1) && mvB l s j) := by
            rintro x rfl
            refine ⟨HI2.out.box.far (p := ⟨w.heap.size + 3, k, none⟩) (by simp) _, HI2.out.res.far (p := ⟨w.heap.size + 3, k, none⟩) (by simp) _, HI2.out.at_.far (p := ⟨w.heap.size + 3, k, none⟩) (by simp) _, HI2.out.mv.setB (by omega) _ (fun i _ => ?_), HI2.out.bel.setCell (p := ⟨w.heap.size + 3, k, none⟩) (by simp) _⟩
            by_cases e : i = k
            · subst e; rw [if_pos rfl, decide_eq_true (by omega), Bool.true_and]
            · by_cases e2 : i < k
              · rw [if_neg e, decide_eq_true e2, decide_eq_true (by omega)]
              · rw [if_neg e, decide_eq_false e2, decide_eq_false (by omega)]
          have mve : mvB l s k = (atN l s (k + 1) || (decide (0 < k) && atN l s k)) := by unfold mvB; rw [decide_eq_false (by omega), Bool.false_or]
          have FIN := Lib.hid fin
          have MVE := Lib.hid mve
          clear fin mve
          cases ha1 : atN l s (k + 1) <;> cases ha0 : atN l s k <;> by_cases hk0 : 0 < k
          all_goals
            rw [ha0] at z0
            rw [ha1] at z1
            have HA1 := Lib.hid ha1
            have HA0 := Lib.hid ha0
            clear ha1 ha0
            go_wp2_with fail
            exact ⟨⟨k + 1, by omega, by go_num, FIN.out _ (by rw [MVE.out, HA1.out, HA0.out]; simp [hk0])⟩, by simp [intOf]; omega⟩
        · have e : k = s.size - 1 := by omega
          subst e
          have z2 : wr.cell? ⟨w.heap.size + 3, s.size - 1, none⟩ = some (.bool false) := by rw [hinv.mv.cell, boolA_at _ (by omega)]; simp
          have z3 := hinv.mv.free (s.size - 1)
          clear hinv
          have mv2 := HI2.out.mv.setB (k := s.size - 1) (by omega) true (g := fun i => decide (i < s.size) && mvB l s i) (fun i _ => by
            by_cases e : i = s.size - 1
            · rw [if_pos e, decide_eq_true (by omega)]; unfold mvB; rw [decide_eq_true (by omega)]; rfl
            · rw [if_neg e]
              by_cases e2 : i < s.size - 1
              · rw [decide_eq_true e2, decide_eq_true (by omega)]
              · rw [decide_eq_false e2, decide_eq_false (by omega)])
          have MV2 := Lib.hid mv2
          have RS2 := Lib.hid (HI2.out.res.far (p := ⟨w.heap.size + 3, s.size - 1, none⟩) (by simp) (.bool true))
          have BL2 := Lib.hid (HI2.out.bel.setCell (p := ⟨w.heap.size + 3, s.size - 1, none⟩) (by simp) (.bool true))
          clear mv2
          go_wp2_with (first | (refine wpList_load_row rfl 168 _ rfl (w.heap.size + 3) rfl 168 _ (0, 0) _ MV2.out Try.underlying168 rfl (by rw [boolA_size]; exact size_flags) ?_) | (refine wpList_store_row rfl 168 _ _ rfl (w.heap.size + 1) _ rfl rfl 168 _ RS2.out (by rw [boolA_size]; exact size_flags) (by simp only [boolA_size]) (boolA_one _) ?_))
          refine bodyPost_ret (results_cell_row Try.results149 _ _ (w.heap.size + 1) 168 _ (0, 0) _ rfl (RS2.out.setRow (boolA fun i => decide (i < s.size) && mvB l s i)) Try.underlying168 rfl (by rw [boolA_size]; exact size_flags)) rfl ⟨rfl, below_row BL2.out (by omega) _⟩
end Go.Proofs.Ytnfeddnkokocfaa
