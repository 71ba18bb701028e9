/- StepFns, Pawls, Step, StepMany, in one text. -/
import Derived.Test.YtnfeddnkokocfaaRotors
import Derived.Test.YtnfeddnkokocfaaShelf
import Derived.Lib.IndexAny
namespace Go.Proofs.Ytnfeddnkokocfaa
set_option linter.unusedVariables false
set_option linter.unusedSimpArgs false
/-! StepFns -/
section
open Go.RowKit

theorem winB_cases (l : List Rot) (rf s : ByteArray) : (wheelsB l rf = false ∧ winB l rf s = false) ∨ (wheelsB l rf = true ∧ s.size ≠ l.length ∧ winB l rf s = false) ∨ (wheelsB l rf = true ∧ s.size = l.length ∧ winB l rf s = wv s) := by
  unfold winB
  cases h1 : wheelsB l rf
  · left; exact ⟨rfl, rfl⟩
  · right
    by_cases h2 : s.size = l.length
    · right; exact ⟨rfl, h2, by rw [decide_eq_true h2]; simp⟩
    · left; exact ⟨rfl, h2, by rw [decide_eq_false h2]; simp⟩
set_option maxHeartbeats 400000 in
theorem c_windowsValid (vR : Value) (l : List Rot) (rf s : ByteArray) (w : World) (hR : IsRots w vR l) (hf : rf.size ≤ 9223372036854775807) (hs : s.size ≤ 9223372036854775807) : Calls Try.prog 110 #[.agg #[vR, .string rf], .string s] w fun e w' => e = .returned (.bool (winB l rf s)) ∧ Below w.heap.size w w' := by
  have K := Lib.hid (Blk.new w 31 #[vR, .string rf])
  have B := Lib.hid (ext_alloc w (.cells #[vR, .string rf] 31))
  have HR0 := Lib.hid (hR.ext B.out)
  have hll := hR.len_le
  obtain ⟨A, cA, rfl⟩ := hR.form
  clear hR
  rcases winB_cases l rf s with ⟨h1, hr⟩ | ⟨h1, h2, hr⟩ | ⟨h1, h2, hr⟩
  all_goals
    have HR := Lib.hid hr
    clear hr
    go_enter Try.func110, Try.ntmps110
    go_wp2_with fail
    refine (c_WheelsValid _ l rf _ HR0.out (by omega)).mono ?_
    rintro e w1 ⟨rfl, hb1⟩
    rw [h1]
    have B1 := Lib.hid (ext_trans B.out hb1)
    have x0 : w1.cell? ⟨w.heap.size, 0, none⟩ = some (.slice A l.length cA) := (K.out.ext hb1).cell 0
    clear hb1
  · go_wp2_with fail
    go_ret
    exact ⟨by rw [HR.out]; rfl, B1.out⟩
  · have t1 : ((s.size : Int) == (l.length : Int)) = false := by rw [beq_eq_false_iff_ne]; omega
    go_wp2_with fail
    go_ret
    exact ⟨by rw [HR.out]; rfl, B1.out⟩
  · have t1 : ((s.size : Int) == (l.length : Int)) = true := by rw [beq_iff_eq]; omega
    go_wp2_with (go_at_call 43; refine (c_WordValid _ _ (by omega)).mono ?_; rintro e w' ⟨rfl, rfl⟩)
    go_ret
    exact ⟨by rw [HR.out]; rfl, B1.out⟩
theorem has_index (n : ByteArray) (x : Int) (h0 : 0 ≤ x) (h1 : x ≤ 255) : decide (0 ≤ Lib.indexByte n.data.toList x.toNat.toUInt8) = hasB n x := by
  rw [← Lib.contains_iff_indexByte, Bool.eq_iff_iff, hasB_iff, List.contains_iff_mem, List.mem_iff_getElem]
  constructor
  · rintro ⟨j, hj, e⟩
    refine ⟨j, by simpa using hj, ?_⟩
    unfold bt
    rw [List.getD_eq_getElem?_getD, List.getElem?_eq_getElem hj, e]
    simp
    omega
  · rintro ⟨j, hj, e⟩
    have hj' : j < n.data.toList.length := by simpa using hj
    refine ⟨j, hj', ?_⟩
    unfold bt at e
    rw [List.getD_eq_getElem?_getD, List.getElem?_eq_getElem hj'] at e
    apply UInt8.toNat_inj.1
    simp at e ⊢
    omega
/-- the cells of an array of three flags -/
def boolA (f : Nat → Bool) : Array Value := ((List.range 3).map (fun i => Value.bool (f i))).toArray
theorem boolA_size (f : Nat → Bool) : (boolA f).size = 3 := by simp [boolA]
theorem boolA_at (f : Nat → Bool) {k : Nat} (hk : k < 3) : (boolA f)[k]? = some (.bool (f k)) := by simp [boolA, hk]
theorem boolA_congr {f g : Nat → Bool} (h : ∀ k, k < 3 → f k = g k) : boolA f = boolA g := by
  unfold boolA
  congr 1
  refine List.map_congr_left fun k hk => ?_
  rw [h k (List.mem_range.1 hk)]
theorem boolA_set (f : Nat → Bool) {k : Nat} (_hk : k < 3) (x : Bool) : (boolA f).setIfInBounds k (.bool x) = boolA (fun i => if i = k then x else f i) := by
  apply Array.ext_getElem?
  intro i
  rw [Array.getElem?_setIfInBounds]
  by_cases hi : i < 3
  · rw [boolA_at _ hi]
    by_cases e : k = i
    · subst e; rw [if_pos rfl, if_pos (by rw [boolA_size]; exact hi), boolA_at _ hi, if_pos rfl]
    · rw [if_neg e, boolA_at _ hi, if_neg (fun h => e h.symm)]
  · have h1 : ∀ g : Nat → Bool, (boolA g)[i]? = none := fun g => by rw [Array.getElem?_eq_none_iff, boolA_size]; omega
    rw [h1, h1]
    by_cases e : k = i
    · rw [if_pos e, if_neg (by rw [boolA_size]; omega)]
    · rw [if_neg e]
theorem boolA_one (f : Nat → Bool) : (boolA f).all (·.oneCell') = true := by
  unfold boolA
  rw [List.all_toArray, List.all_eq_true]
  intro x hx
  obtain ⟨i, _, rfl⟩ := List.mem_map.1 hx
  rfl
theorem boolA_zero : (#[.bool false, .bool false, .bool false] : Array Value) = boolA (fun _ => false) := rfl
end
/-! Pawls -/
section
open Go.RowKit

theorem Blk.setB {w : World} {b : Nat} {t : TypeId} {f : Nat → Bool} (h : Blk w b t (boolA f)) {k : Nat} (hk : k < 3) (x : Bool) {g : Nat → Bool} (hg : ∀ i, i < 3 → (if i = k then x else f i) = g i) :
    Blk (w.setCell ⟨b, k, none⟩ (.bool x)) b t (boolA g) := by
  have := h.set k (.bool x)
  rw [boolA_set f hk, boolA_congr hg] at this
  exact this
theorem still' {P : Program} {f : FuncId} {args : Array Value} {w : World} {v : Value} (h : Calls P f args w fun e w' => e = .returned v ∧ w' = w) :
    Calls P f args w fun e w' => e = .returned v ∧ w = w' := h.mono fun _ _ ⟨a, b⟩ => ⟨a, b.symm⟩
theorem size_flags : (Try.prog.info? 168).map (·.size) = some 3 := by kernel_rfl
/-- what holds in the loops of pawls -/
structure PInv (w wr : World) (A : Option Addr) (cA : Nat) (l : List Rot) (rf : ByteArray) (f g : Nat → Bool) : Prop where
  box : Blk wr w.heap.size 31 #[.slice A l.length cA, .string rf]
  res : Blk wr (w.heap.size + 1) 168 (boolA fun _ => false)
  at_ : Blk wr (w.heap.size + 2) 168 (boolA f)
  mv : Blk wr (w.heap.size + 3) 168 (boolA g)
  bel : Below w.heap.size w wr
theorem PInv.start (w : World) (A : Option Addr) (cA : Nat) (l : List Rot) (rf : ByteArray) {f : Nat → Bool} (hf : f = fun _ => false := by simp) :
    PInv w ((((w.alloc (.cells #[.slice A l.length cA, .string rf] 31)).alloc (.cells (boolA fun _ => false) 168)).alloc (.cells (boolA fun _ => false) 168)).alloc (.cells (boolA fun _ => false) 168)) A cA l rf f (fun _ => false) := by
  subst hf
  have e1 : (w.alloc (.cells #[.slice A l.length cA, .string rf] 31)).heap.size = w.heap.size + 1 := by simp
  have e2 : ((w.alloc (.cells #[.slice A l.length cA, .string rf] 31)).alloc (.cells (boolA fun _ => false) 168)).heap.size = w.heap.size + 2 := by simp
  have e3 : (((w.alloc (.cells #[.slice A l.length cA, .string rf] 31)).alloc (.cells (boolA fun _ => false) 168)).alloc (.cells (boolA fun _ => false) 168)).heap.size = w.heap.size + 3 := by simp
  have b1 := ((Blk.new (w.alloc (.cells #[.slice A l.length cA, .string rf] 31)) 168 (boolA fun _ => false)).alloc (.cells (boolA fun _ => false) 168)).alloc (.cells (boolA fun _ => false) 168)
  have b2 := (Blk.new ((w.alloc (.cells #[.slice A l.length cA, .string rf] 31)).alloc (.cells (boolA fun _ => false) 168)) 168 (boolA fun _ => false)).alloc (.cells (boolA fun _ => false) 168)
  have b3 := Blk.new (((w.alloc (.cells #[.slice A l.length cA, .string rf] 31)).alloc (.cells (boolA fun _ => false) 168)).alloc (.cells (boolA fun _ => false) 168)) 168 (boolA fun _ => false)
  rw [e1] at b1
  rw [e2] at b2
  rw [e3] at b3
  exact ⟨(((Blk.new w 31 #[.slice A l.length cA, .string rf]).alloc _).alloc _).alloc _, b1, b2, b3, (((ext_alloc w _).alloc (by simp) _).alloc (by simp; omega) _).alloc (by simp; omega) _⟩
set_option maxRecDepth 10000 in
set_option maxHeartbeats 800000 in
theorem c_pawls (vR : Value) (l : List Rot) (rf s : ByteArray) (w : World) (hR : IsRots w vR l) (h1 : 1 ≤ s.size) (h3 : s.size ≤ 3) (hl : s.size = l.length) : Calls Try.prog 149 #[.agg #[vR, .string rf], .string s] w fun e w' => e = .returned (.agg (boolA (fun i => decide (i < s.size) && mvB l s i))) ∧ Below w.heap.size w w' := by
  have HR0 := Lib.hid hR
  obtain ⟨A, cA, rfl⟩ := hR.form
  have hle1 : s.size ≤ l.length := by omega
  clear hR hl
  go_enter Try.func149, Try.ntmps149
  go_wp2_with fail
  simp only [boolA_zero]
  go_loopw [15] (fun i wr => ∃ k : Nat, k ≤ s.size ∧ i = .int .i64 k ∧ PInv w wr A cA l rf (fun j => decide (j < k) && atN l s j) (fun _ => false)) (fun i _ => 3 - (intOf i).toNat)
  case atStart => exact ⟨0, by omega, rfl, PInv.start w A cA l rf⟩
  case round =>
    obtain ⟨k, hk, rfl, hinv⟩ := hrel
    have HI := Lib.hid hinv
    by_cases hlt : k < s.size
    · obtain ⟨b, o, rfl, hb, hc0, hc1⟩ := (HR0.out.ext hinv.bel).at_ (k := k) (by omega)
      have y0 : wr.cell? ⟨w.heap.size, 0, none⟩ = some (.slice (some ⟨b, o, none⟩) l.length cA) := hinv.box.cell 0
      have y1 : wr.cell? ⟨w.heap.size + 2, k, none⟩ = some (.bool false) := by rw [hinv.at_.cell, boolA_at _ (by omega)]; simp
      have y2 := hinv.at_.free k
      clear hinv
      have hlk : k < l.length := by omega
      have hbk := bt_get s k hlt
      have hbr := bt_range s k
      have HX := Lib.hid (has_index (gR l k).2 (bt s k) hbr.1 hbr.2)
      go_wp2_with fail
      go_still_tail 12, (by kernel_rfl)
      repeat still_step
      still_call (still (still' (Try.strings_IndexByte _ _ _)))
      repeat still_step
      refine wpStill_nil ?_
      rw [HX.out]
      go_wp2_with fail
      refine ⟨⟨k + 1, by omega, by go_num, ⟨(HI.out.box.far (p := ⟨w.heap.size + 2, k, none⟩) (by simp) _).drew, (HI.out.res.far (p := ⟨w.heap.size + 2, k, none⟩) (by simp) _).drew, (HI.out.at_.setB (by omega) _ (fun i _ => ?_)).drew, (HI.out.mv.far (p := ⟨w.heap.size + 2, k, none⟩) (by simp) _).drew, (HI.out.bel.setCell (p := ⟨w.heap.size + 2, k, none⟩) (by simp) _).drew⟩⟩, by simp [intOf]; omega⟩
      by_cases e : i = k
      · subst e; rw [if_pos rfl, decide_eq_true (by omega), Bool.true_and]; rfl
      · by_cases e2 : i < k
        · rw [if_neg e, decide_eq_true e2, decide_eq_true (by omega)]
        · rw [if_neg e, decide_eq_false e2, decide_eq_false (by omega)]
    · have e : k = s.size := by omega
      subst e
      clear hinv
      have hl1 : IntKind.i64.wrap ((s.size : Int) - 1) = ((s.size - 1 : Nat) : Int) := by rw [IntWalk.i64_in _ (by omega)]; omega
      go_wp2_with fail
      go_loopw [33] (fun i wr => ∃ k : Nat, k ≤ s.size - 1 ∧ i = .int .i64 k ∧ PInv w wr A cA l rf (fun j => decide (j < s.size) && atN l s j) (fun j => decide (j < k) && mvB l s j)) (fun i _ => 3 - (intOf i).toNat)
      case atStart => exact ⟨0, by omega, rfl, by simpa using HI.out⟩
      case round =>
        obtain ⟨k, hk, rfl, hinv⟩ := hrel
        have HI2 := Lib.hid hinv
        by_cases hlt : k < s.size - 1
        · have z0 : wr.cell? ⟨w.heap.size + 2, k, none⟩ = some (.bool (atN l s k)) := by rw [hinv.at_.cell, boolA_at _ (by omega), decide_eq_true (by omega)]; rfl
          have z1 : wr.cell? ⟨w.heap.size + 2, k + 1, none⟩ = some (.bool (atN l s (k + 1))) := by rw [hinv.at_.cell, boolA_at _ (by omega), decide_eq_true (by omega)]; rfl
          have z2 : wr.cell? ⟨w.heap.size + 3, k, none⟩ = some (.bool false) := by rw [hinv.mv.cell, boolA_at _ (by omega)]; simp
          have z3 := hinv.mv.free k
          clear hinv
          have fin : ∀ x, x = mvB l s k → PInv w (wr.setCell ⟨w.heap.size + 3, k, none⟩ (.bool x)) A cA l rf (fun j => decide (j < s.size) && atN l s j) (fun j => decide (j < k + 1) && mvB l s j) := by
            rintro x rfl
            refine ⟨HI2.out.box.far (p := ⟨w.heap.size + 3, k, none⟩) (by simp) _, HI2.out.res.far (p := ⟨w.heap.size + 3, k, none⟩) (by simp) _, HI2.out.at_.far (p := ⟨w.heap.size + 3, k, none⟩) (by simp) _, HI2.out.mv.setB (by omega) _ (fun i _ => ?_), HI2.out.bel.setCell (p := ⟨w.heap.size + 3, k, none⟩) (by simp) _⟩
            by_cases e : i = k
            · subst e; rw [if_pos rfl, decide_eq_true (by omega), Bool.true_and]
            · by_cases e2 : i < k
              · rw [if_neg e, decide_eq_true e2, decide_eq_true (by omega)]
              · rw [if_neg e, decide_eq_false e2, decide_eq_false (by omega)]
          have mve : mvB l s k = (atN l s (k + 1) || (decide (0 < k) && atN l s k)) := by unfold mvB; rw [decide_eq_false (by omega), Bool.false_or]
          have FIN := Lib.hid fin
          have MVE := Lib.hid mve
          clear fin mve
          cases ha1 : atN l s (k + 1) <;> cases ha0 : atN l s k <;> by_cases hk0 : 0 < k
          all_goals
            rw [ha0] at z0
            rw [ha1] at z1
            have HA1 := Lib.hid ha1
            have HA0 := Lib.hid ha0
            clear ha1 ha0
            go_wp2_with fail
            exact ⟨⟨k + 1, by omega, by go_num, FIN.out _ (by rw [MVE.out, HA1.out, HA0.out]; simp [hk0])⟩, by simp [intOf]; omega⟩
        · have e : k = s.size - 1 := by omega
          subst e
          have z2 : wr.cell? ⟨w.heap.size + 3, s.size - 1, none⟩ = some (.bool false) := by rw [hinv.mv.cell, boolA_at _ (by omega)]; simp
          have z3 := hinv.mv.free (s.size - 1)
          clear hinv
          have mv2 := HI2.out.mv.setB (k := s.size - 1) (by omega) true (g := fun i => decide (i < s.size) && mvB l s i) (fun i _ => by
            by_cases e : i = s.size - 1
            · rw [if_pos e, decide_eq_true (by omega)]; unfold mvB; rw [decide_eq_true (by omega)]; rfl
            · rw [if_neg e]
              by_cases e2 : i < s.size - 1
              · rw [decide_eq_true e2, decide_eq_true (by omega)]
              · rw [decide_eq_false e2, decide_eq_false (by omega)])
          have MV2 := Lib.hid mv2
          have RS2 := Lib.hid (HI2.out.res.far (p := ⟨w.heap.size + 3, s.size - 1, none⟩) (by simp) (.bool true))
          have BL2 := Lib.hid (HI2.out.bel.setCell (p := ⟨w.heap.size + 3, s.size - 1, none⟩) (by simp) (.bool true))
          clear mv2
          go_wp2_with (first | (refine wpList_load_row rfl 168 _ rfl (w.heap.size + 3) rfl 168 _ (0, 0) _ MV2.out Try.underlying168 rfl (by rw [boolA_size]; exact size_flags) ?_) | (refine wpList_store_row rfl 168 _ _ rfl (w.heap.size + 1) _ rfl rfl 168 _ RS2.out (by rw [boolA_size]; exact size_flags) (by simp only [boolA_size]) (boolA_one _) ?_))
          refine bodyPost_ret (results_cell_row Try.results149 _ _ (w.heap.size + 1) 168 _ (0, 0) _ rfl (RS2.out.setRow (boolA fun i => decide (i < s.size) && mvB l s i)) Try.underlying168 rfl (by rw [boolA_size]; exact size_flags)) rfl ⟨rfl, below_row BL2.out (by omega) _⟩
end
/-! Step -/
section
open Go.RowKit

theorem setRow_size (w : World) (g : Nat) (cs : Array Value) : (w.setRow g cs).heap.size = w.heap.size := by
  simp [World.setRow]
set_option maxRecDepth 10000 in
set_option maxHeartbeats 800000 in
theorem c_step (vR : Value) (l : List Rot) (rf s : ByteArray) (w : World) (hR : IsRots w vR l) (h1 : 1 ≤ s.size) (h3 : s.size ≤ 3) (hl : s.size = l.length) (hv : wv s = true) : Calls Try.prog 117 #[.agg #[vR, .string rf], .string s] w fun e w' => e = .returned (.string (stepS l s)) ∧ Below w.heap.size w w' := by
  have B := Lib.hid (ext_alloc w (.cells #[vR, .string rf] 31))
  have HR0 := Lib.hid (hR.ext B.out)
  have HV := Lib.hid ((wv_iff s).1 hv)
  obtain ⟨A, cA, rfl⟩ := hR.form
  clear hR hv
  go_enter Try.func117, Try.ntmps117
  go_wp2_with fail
  refine (c_pawls _ l rf s _ HR0.out h1 h3 hl).mono ?_
  rintro e w1 ⟨rfl, hb1⟩
  have B1 := Lib.hid (ext_trans B.out hb1)
  have hz1 : w.heap.size < w1.heap.size := by have := hb1.size; simp at this; omega
  clear hb1
  have K0 := Lib.hid (Blk.new w1 168 (boolA fun _ => false))
  have B2 := Lib.hid (below_row (B1.out.alloc (Nat.le_of_lt hz1) (.cells (boolA fun _ => false) 168)) (Nat.le_of_lt hz1) (boolA fun i => decide (i < s.size) && mvB l s i))
  clear hl
  have KM := Lib.hid (K0.out.setRow (boolA fun i => decide (i < s.size) && mvB l s i))
  have hzr : ((w1.alloc (.cells (boolA fun _ => false) 168)).setRow w1.heap.size (boolA fun i => decide (i < s.size) && mvB l s i)).heap.size = w1.heap.size + 1 := by rw [setRow_size]; simp
  have HZR := Lib.hid hzr
  clear hzr
  go_wp2_with (first
    | (simp only [boolA_zero]; refine wpList_store_row rfl 168 _ _ rfl w1.heap.size _ rfl rfl 168 _ K0.out (by rw [boolA_size]; exact size_flags) (by simp only [boolA_size]) (boolA_one _) ?_; generalize (w1.alloc (.cells (boolA fun _ => false) 168)).setRow w1.heap.size (boolA fun i => decide (i < s.size) && mvB l s i) = w2 at *)
    | (refine wpList_bytes _ rfl 9 61 5 _ rfl Try.underlying9 Try.underlying61 Try.underlying5 _ rfl ?_; intro cap w3 hrow hbw))
  have HR3 := Lib.hid hrow
  have KM3 := Lib.hid (KM.out.ext hbw)
  have HB3 := Lib.hid (B2.out.trans (hbw.mono (by have := HZR.out; omega)))
  have hz2 : w1.heap.size < w2.heap.size := by have := HZR.out; omega
  clear hrow hbw
  go_loopw [15] (fun i wr => ∃ k : Nat, k ≤ s.size ∧ i = .int .i64 k ∧ Row wr w2.heap.size s.size (fun j => if j < k then (if mvB l s j = true then 97 + (bt s j - 97 + 1) % 10 else bt s j) else bt s j) ∧ Blk wr w1.heap.size 168 (boolA fun i => decide (i < s.size) && mvB l s i) ∧ Below w.heap.size w wr) (fun i _ => 3 - (intOf i).toNat)
  case atStart => exact ⟨0, by omega, rfl, HR3.out.congr (fun i _ => by simp), KM3.out, HB3.out⟩
  case round =>
    obtain ⟨k, hk, rfl, hrow, hkm, hbel⟩ := hrel
    have HRW := Lib.hid hrow
    have HKM := Lib.hid hkm
    have HBL := Lib.hid hbel
    by_cases hlt : k < s.size
    · have r1 := HV.out.2 k hlt
      have hcell := hrow.cell hlt
      simp only [Nat.lt_irrefl, if_false] at hcell
      have hfree := hrow.free hlt
      have hm : wr.cell? ⟨w1.heap.size, k, none⟩ = some (.bool (mvB l s k)) := by rw [hkm.cell, boolA_at _ (by omega), decide_eq_true hlt]; rfl
      clear hrow hkm hbel
      cases hb : mvB l s k with
      | true =>
        have HMV := Lib.hid hb
        rw [hb] at hm
        clear hb
        go_wp2_with (go_at_call 150; refine (c_shifted _ _ _ (by omega) (by omega) (by omega) (by omega)).mono ?_; rintro e w' ⟨rfl, rfl⟩)
        refine ⟨⟨k + 1, by omega, by go_num, (HRW.out.set hlt _).congr (fun j _ => ?_), HKM.out.far (p := ⟨w2.heap.size, k, none⟩) (by simp; omega) _, HBL.out.setCell (p := ⟨w2.heap.size, k, none⟩) (by simp; omega) _⟩, by simp [intOf]; omega⟩
        by_cases e : j = k
        · subst e; simp [HMV.out]
        · by_cases e2 : j < k
          · rw [if_neg e, if_pos e2, if_pos (show j < k + 1 by omega)]
          · rw [if_neg e, if_neg e2, if_neg (by omega)]
      | false =>
        have HMV := Lib.hid hb
        rw [hb] at hm
        clear hb
        go_wp2_with fail
        refine ⟨⟨k + 1, by omega, by go_num, HRW.out.congr (fun j _ => ?_), HKM.out, HBL.out⟩, by simp [intOf]; omega⟩
        by_cases e : j = k
        · subst e; simp [HMV.out]
        · by_cases e2 : j < k
          · rw [if_pos e2, if_pos (show j < k + 1 by omega)]
          · rw [if_neg e2, if_neg (by omega)]
    · clear hrow hkm hbel
      have hcv := conv_row (P := Try.prog) HRW.out 61 9 5 cap Try.underlying61 Try.underlying5 Try.underlying9
      go_wp2_with fail
      go_ret
      have e : k = s.size := by omega
      subst e
      exact ⟨ret_str (by unfold stepS; exact mkS_congr (fun j hj => if_pos hj)), HBL.out⟩
end
/-! StepMany -/
section
open Go.RowKit

theorem win_facts {l : List Rot} {rf s : ByteArray} (h : winB l rf s = true) : 1 ≤ s.size ∧ s.size ≤ 3 ∧ s.size = l.length ∧ wv s = true := by
  obtain ⟨h1, h2, h3⟩ := (winB_iff l rf s).1 h
  have := wheelsB_len h1
  exact ⟨by omega, by omega, h3, h2⟩
theorem c_stepIt (vR : Value) (l : List Rot) (rf s : ByteArray) (n : Nat) (w : World) (hR : IsRots w vR l) (h : winB l rf s = true) : Calls Try.prog 117 #[.agg #[vR, .string rf], .string (it (stepS l) n s)] w fun e w' => e = .returned (.string (it (stepS l) (n + 1) s)) ∧ Below w.heap.size w w' := by
  obtain ⟨h1, h2, h3, h4⟩ := win_facts (it_win n h)
  exact c_step vR l rf _ w hR h1 h2 h3 h4
/-- a box of wheels at the head of a call, and what came behind it -/
structure WInv (w wr : World) (A : Option Addr) (cA : Nat) (l : List Rot) (rf : ByteArray) : Prop where
  box : Blk wr w.heap.size 31 #[.slice A l.length cA, .string rf]
  rot : IsRots wr (.slice A l.length cA) l
  bel : Below w.heap.size w wr
theorem WInv.start {w : World} {A : Option Addr} {cA : Nat} {l : List Rot} (rf : ByteArray) (hR : IsRots w (.slice A l.length cA) l) : WInv w (w.alloc (.cells #[.slice A l.length cA, .string rf] 31)) A cA l rf :=
  ⟨Blk.new _ _ _, hR.ext (ext_alloc _ _), ext_alloc _ _⟩
theorem WInv.ext {w wr w2 : World} {A : Option Addr} {cA : Nat} {l : List Rot} {rf : ByteArray} (h : WInv w wr A cA l rf) (hb : Below wr.heap.size wr w2) : WInv w w2 A cA l rf :=
  ⟨h.box.ext hb, h.rot.ext hb, ext_trans h.bel hb⟩
theorem WInv.drew {w wr : World} {A : Option Addr} {cA : Nat} {l : List Rot} {rf : ByteArray} (h : WInv w wr A cA l rf) : WInv w wr.drew A cA l rf :=
  h.ext (Below.refl _ _).drew
theorem WInv.c0 {w wr : World} {A : Option Addr} {cA : Nat} {l : List Rot} {rf : ByteArray} (h : WInv w wr A cA l rf) : wr.cell? ⟨w.heap.size, 0, none⟩ = some (.slice A l.length cA) := h.box.cell 0
theorem WInv.c1 {w wr : World} {A : Option Addr} {cA : Nat} {l : List Rot} {rf : ByteArray} (h : WInv w wr A cA l rf) : wr.cell? ⟨w.heap.size, 1, none⟩ = some (.string rf) := h.box.cell 1

def manyOk (l : List Rot) (rf s : ByteArray) (n : Int) : Bool := winB l rf s && (decide (0 ≤ n) && decide (n ≤ 2000))
def manyR (l : List Rot) (rf s : ByteArray) (n : Int) : Value := .tuple #[.string (if manyOk l rf s n = true then it (stepS l) n.toNat s else ByteArray.empty), .bool (manyOk l rf s n)]
theorem manyR_ok {l : List Rot} {rf s : ByteArray} {n : Int} (h : manyOk l rf s n = true) : manyR l rf s n = .tuple #[.string (it (stepS l) n.toNat s), .bool true] := by unfold manyR; rw [if_pos h, h]
theorem manyR_no {l : List Rot} {rf s : ByteArray} {n : Int} (h : manyOk l rf s n = false) : manyR l rf s n = .tuple #[.string ByteArray.empty, .bool false] := by unfold manyR; rw [if_neg (by rw [h]; simp), h]
theorem manyOk_cases (l : List Rot) (rf s : ByteArray) (n : Int) : (winB l rf s = false ∧ manyOk l rf s n = false) ∨ (winB l rf s = true ∧ n < 0 ∧ manyOk l rf s n = false) ∨ (winB l rf s = true ∧ 0 ≤ n ∧ 2000 < n ∧ manyOk l rf s n = false) ∨ (winB l rf s = true ∧ ∃ N : Nat, n = N ∧ N ≤ 2000 ∧ manyOk l rf s n = true) := by
  unfold manyOk
  cases h1 : winB l rf s
  · left; exact ⟨rfl, rfl⟩
  · right
    by_cases h2 : n < 0
    · left; exact ⟨rfl, h2, by rw [decide_eq_false (by omega)]; rfl⟩
    · right
      by_cases h3 : 2000 < n
      · left; exact ⟨rfl, by omega, h3, by rw [decide_eq_false (show ¬ n ≤ 2000 by omega)]; simp⟩
      · right; exact ⟨rfl, n.toNat, by omega, by omega, by rw [decide_eq_true (show n ≤ 2000 by omega), decide_eq_true (show 0 ≤ n by omega)]; rfl⟩
set_option maxHeartbeats 400000 in
theorem c_StepMany (vR : Value) (l : List Rot) (rf s : ByteArray) (n : Int) (w : World) (hR : IsRots w vR l) (hf : rf.size ≤ 9223372036854775807) (hs : s.size ≤ 9223372036854775807) : Calls Try.prog 86 #[.agg #[vR, .string rf], .string s, .int .i64 n] w fun e w' => e = .returned (manyR l rf s n) ∧ Below w.heap.size w w' := by
  obtain ⟨A, cA, rfl⟩ := hR.form
  have I0 := Lib.hid (WInv.start rf hR)
  clear hR
  rcases manyOk_cases l rf s n with ⟨h1, hr⟩ | ⟨h1, h2, hr⟩ | ⟨h1, h2, h3, hr⟩ | ⟨h1, N, rfl, h2, hr⟩
  all_goals
    have HR := Lib.hid hr
    clear hr
    go_enter Try.func86, Try.ntmps86
    go_wp2_with fail
    refine (c_windowsValid _ l rf s _ I0.out.rot (by omega) (by omega)).mono ?_
    rintro e w1 ⟨rfl, hb1⟩
    rw [h1]
    have I1 := Lib.hid (I0.out.ext hb1)
    clear hb1
    have H1 := Lib.hid h1
    clear h1
  · go_wp2_with fail
    go_ret2
    exact ⟨by rw [manyR_no HR.out]; rfl, I1.out.bel⟩
  · go_wp2_with fail
    go_ret2
    exact ⟨by rw [manyR_no HR.out]; rfl, I1.out.bel⟩
  · go_wp2_with fail
    go_ret2
    exact ⟨by rw [manyR_no HR.out]; rfl, I1.out.bel⟩
  · go_wp2_with fail
    go_loopw [1, 21] (fun x i wr => ∃ k : Nat, k ≤ N ∧ i = .int .i64 k ∧ x = .string (it (stepS l) k s) ∧ WInv w wr A cA l rf) (fun _ i _ => N - (intOf i).toNat)
    case atStart => exact ⟨0, by omega, rfl, rfl, I1.out⟩
    case round =>
      obtain ⟨k, hk, rfl, rfl, hi⟩ := hrel
      have HI := Lib.hid hi
      have y0 := hi.c0
      have y1 := hi.c1
      clear hi
      by_cases hlt : k < N
      · go_wp2_with fail
        refine (c_stepIt _ l rf s k _ HI.out.rot H1.out).mono ?_
        rintro e w2 ⟨rfl, hb2⟩
        have HI2 := Lib.hid (HI.out.ext hb2)
        clear hb2
        go_wp2_with fail
        exact ⟨⟨k + 1, by omega, by go_num, rfl, HI2.out⟩, by simp [intOf]; omega⟩
      · have e : k = N := by omega
        subst e
        go_wp2_with fail
        go_ret2
        exact ⟨by rw [manyR_ok HR.out]; simp, HI.out.bel⟩
theorem c_StepWindows (vR : Value) (l : List Rot) (rf s : ByteArray) (w : World) (hR : IsRots w vR l) (hf : rf.size ≤ 9223372036854775807) (hs : s.size ≤ 9223372036854775807) : Calls Try.prog 40 #[.agg #[vR, .string rf], .string s] w fun e w' => e = .returned (manyR l rf s 1) ∧ Below w.heap.size w w' := by
  obtain ⟨A, cA, rfl⟩ := hR.form
  have I0 := Lib.hid (WInv.start rf hR)
  clear hR
  go_enter Try.func40, Try.ntmps40
  go_wp2_with fail
  refine (c_StepMany _ l rf s 1 _ I0.out.rot (by omega) (by omega)).mono ?_
  rintro e w1 ⟨rfl, hb1⟩
  have I1 := Lib.hid (I0.out.ext hb1)
  clear hb1
  rcases hm : manyOk l rf s 1 with _ | _
  · have HM := Lib.hid hm
    rw [manyR_no hm]
    clear hm
    go_wp2_with fail
    go_ret2
    exact ⟨by rw [manyR_no HM.out]; rfl, I1.out.bel⟩
  · have HM := Lib.hid hm
    rw [manyR_ok hm]
    clear hm
    go_wp2_with fail
    go_ret2
    exact ⟨by rw [manyR_ok HM.out]; rfl, I1.out.bel⟩
def leftOk := manyOk
def leftR (l : List Rot) (rf s : ByteArray) (n : Int) : Int := if manyOk l rf s n = true then (leftN l s n.toNat : Int) else -1
end
end Go.Proofs.Ytnfeddnkokocfaa
