/- Contracts of newPins, step, PinKey (program), l15Pins, l15Moved, PinKey (reference). -/
import Derived.Test.YtomgkpiogbmfgaaPins
namespace Go.Proofs.Ytomgkpiogbmfgaa
open Go.RowKit

/-- the positions after t steps -/
def posF (ws : List ByteArray) (ps : List Int) (t : Nat) (i : Nat) : Int := (gI ps i + t) % (gS ws i).size
def keyS (ws : List ByteArray) (bs ps : List Int) (n : Nat) : ByteArray := mkS n (fun t => 97 + (disp ws bs (posF ws ps t) : Int))
def keyOk (ws : List ByteArray) (bs ps : List Int) (n : Int) : Bool := fitB ws bs ps && inB n 0 200
def keyR (ws : List ByteArray) (bs ps : List Int) (n : Int) : Value :=
  .tuple #[.string (if keyOk ws bs ps n = true then keyS ws bs ps n.toNat else ByteArray.empty), .bool (keyOk ws bs ps n)]
theorem keyR_ok {ws : List ByteArray} {bs ps : List Int} {n : Int} (h : keyOk ws bs ps n = true) : keyR ws bs ps n = .tuple #[.string (keyS ws bs ps n.toNat), .bool true] := by unfold keyR; rw [if_pos h, h]
theorem keyR_no {ws : List ByteArray} {bs ps : List Int} {n : Int} (h : keyOk ws bs ps n = false) : keyR ws bs ps n = .tuple #[.string ByteArray.empty, .bool false] := by unfold keyR; rw [if_neg (by rw [h]; simp), h]
theorem cageB_facts {ws : List ByteArray} {bs : List Int} (h : cageB ws bs = true) : 1 ≤ ws.length ∧ ws.length ≤ 4 ∧ 1 ≤ bs.length ∧ bs.length ≤ 9 ∧
    (∀ k, k < ws.length → 2 ≤ (gS ws k).size ∧ (gS ws k).size ≤ 9) := by
  unfold cageB at h
  simp only [Bool.and_eq_true, decide_eq_true_eq] at h
  refine ⟨h.1.1.1.1.1, h.1.1.1.1.2, h.1.1.1.2, h.1.1.2, fun k hk => ?_⟩
  exact ((wheelB_iff _).1 ((allB_iff _ _).1 h.1.2 k hk)).1
theorem fitB_facts {ws : List ByteArray} {bs ps : List Int} (h : fitB ws bs ps = true) : cageB ws bs = true ∧ ps.length = ws.length ∧ ∀ k, k < ws.length → 0 ≤ gI ps k ∧ gI ps k < (gS ws k).size := by
  unfold fitB at h
  simp only [Bool.and_eq_true, decide_eq_true_eq] at h
  refine ⟨h.1.1, h.1.2, fun k hk => ?_⟩
  have := (allB_iff _ _).1 h.2 k (by rw [h.1.2]; exact hk)
  simpa using this
theorem disp_le {ws : List ByteArray} {bs : List Int} (h : cageB ws bs = true) (f : Nat → Int) : disp ws bs f ≤ 9 := by
  have h1 := movN_le bs (outN ws f ws.length) bs.length
  have h2 := (cageB_facts h).2.2.2.1
  unfold disp; omega
theorem outN_congr {ws : List ByteArray} {f f' : Nat → Int} (n : Nat) (h : ∀ i, i < n → f i = f' i) : outN ws f n = outN ws f' n := by
  induction n with
  | zero => rfl
  | succ n ih => rw [outN, outN, ih (fun i hi => h i (by omega)), h n (by omega)]
theorem disp_congr {ws : List ByteArray} {bs : List Int} {f f' : Nat → Int} (h : ∀ i, i < ws.length → f i = f' i) : disp ws bs f = disp ws bs f' := by
  unfold disp; rw [outN_congr _ h]
theorem posF_range {ws : List ByteArray} {ps : List Int} {t i : Nat} (h : 2 ≤ (gS ws i).size) : 0 ≤ posF ws ps t i ∧ posF ws ps t i < (gS ws i).size := by
  unfold posF
  exact ⟨Int.emod_nonneg _ (by omega), Int.emod_lt_of_pos _ (by omega)⟩
theorem posF_succ (ws : List ByteArray) (ps : List Int) (t i : Nat) : posF ws ps (t + 1) i = (posF ws ps t i + 1) % (gS ws i).size := by
  unfold posF
  rw [Int.emod_add_emod]
  congr 1
  omega
theorem posF_zero {ws : List ByteArray} {ps : List Int} {i : Nat} (h : 0 ≤ gI ps i ∧ gI ps i < (gS ws i).size) : posF ws ps 0 i = gI ps i := by
  unfold posF
  rw [show gI ps i + ((0 : Nat) : Int) = gI ps i by omega]
  exact Int.emod_eq_of_lt h.1 h.2

theorem pow_add4 (ws : List ByteArray) (f : Nat → Int) {k : Nat} (hk : k < 4) : wrap64 ((outN ws f k : Int) + wrap64 (2 ^ k)) = ((outN ws f k + 2 ^ k : Nat) : Int) := by
  have h1 := outN_lt ws f k
  have h2 : 2 ^ k ≤ 2 ^ 4 := Nat.pow_le_pow_right (by omega) (by omega)
  rw [pow_wrap (by omega), show ((2 : Int) ^ k) = ((2 ^ k : Nat) : Int) by simp, IntWalk.wrap64_in _ (by omega)]
  omega
theorem splice_pins (x y : Value) (ps : List Int) (h : ps.length ≤ 4) (i : Nat) (hi : i < 4) :
    ((splice [x, y, .int .i64 0, .int .i64 0, .int .i64 0, .int .i64 0] 2 (ps.map (Value.int .i64))).toArray)[2 + i]? = some (.int .i64 (gI ps i)) := by
  have : i = 0 ∨ i = 1 ∨ i = 2 ∨ i = 3 := by omega
  match ps, h with
  | [], _ => rcases this with rfl | rfl | rfl | rfl <;> rfl
  | [a], _ => rcases this with rfl | rfl | rfl | rfl <;> rfl
  | [a, b], _ => rcases this with rfl | rfl | rfl | rfl <;> rfl
  | [a, b, c], _ => rcases this with rfl | rfl | rfl | rfl <;> rfl
  | [a, b, c, d], _ => rcases this with rfl | rfl | rfl | rfl <;> rfl
  | _ :: _ :: _ :: _ :: _ :: _, h => simp at h
theorem splice_pins01 (x y : Value) (l : List Value) (ps : List Int) : ((splice (x :: y :: l) 2 (ps.map (Value.int .i64))).toArray)[0]? = some x ∧ ((splice (x :: y :: l) 2 (ps.map (Value.int .i64))).toArray)[1]? = some y := ⟨rfl, rfl⟩

theorem c_newPins (vW vB vP : Value) (ws : List ByteArray) (bs ps : List Int) (w : World) (hW : IsStrs w vW ws) (hB : IsInts w vB bs) (hP : IsInts w vP ps) (h4 : ps.length ≤ 4) :
    Calls Try.prog 34 #[.agg #[vW, vB], vP] w fun e w' => ∃ g, e = .returned (.pointer (some ⟨g, 0, none⟩)) ∧ w.heap.size ≤ g ∧ PinB w' g vW vB (gI ps) ∧ Below w.heap.size w w' := by
  have HP := Lib.hid hP
  obtain ⟨A, cA, rfl⟩ := hW.form
  obtain ⟨B, cB, rfl⟩ := hB.form
  obtain ⟨C, cC, rfl⟩ := hP.form
  clear hW hB hP
  go_enter Try.func34, Try.ntmps34
  have hsz : (Try.prog.info? 3).map (·.size) = some 1 := by kernel_rfl
  go_wp2_with (refine wpList_copy_splice rfl (.tmp 12) (.tmp 13) 24 24 rfl 3 Try.underlying24 hsz (some ⟨w.heap.size + 1, 2, none⟩) C 4 4 ps.length cC rfl rfl (w.heap.size + 1) 2 [.slice A ws.length cA, .slice B bs.length cB, .int .i64 0, .int .i64 0, .int .i64 0, .int .i64 0] 79 ?hg (ps.map (Value.int .i64)) ?hn ?hpos ?hfit ?h1 w.heap.size w ?hb ?hBg ?_; rotate_left 7; intro w1 hblk hbel)
  case hg =>
    have h1 : (w.alloc (.cells #[.slice A ws.length cA, .slice B bs.length cB] 26)).heap.size = w.heap.size + 1 := by simp
    rw [← h1]
    exact heap_alloc_new _ _
  case hn => simp [Nat.min_def]; omega
  case hpos =>
    intro hpos
    have hpos' : 0 < ps.length := by simpa using hpos
    obtain ⟨b, o, rfl, hb, hc⟩ := HP.out.at_ hpos'
    refine ⟨_, rfl, fun j v hj => ?_⟩
    have hjl : j < ps.length := by have := (List.getElem?_eq_some_iff.1 hj).1; simpa using this
    obtain ⟨b', o', e, hb', hc'⟩ := HP.out.at_ hjl
    injection e with e; injection e with e1 e2
    subst e1 e2
    have e3 : (⟨b, o, none⟩ : Addr).add j = ⟨b, o + j, none⟩ := by unfold Addr.add; split <;> simp_all
    rw [e3, World.cell?_alloc_past _ _ _ (by simp; omega), World.cell?_alloc_past _ _ _ hb', hc']
    simp [gI, List.getD_eq_getElem?_getD, hj]
  case hfit => simp; omega
  case h1 => exact ints_oneCell .i64 ps
  case hb => exact ((Below.refl _ _).alloc (Nat.le_refl _) _).alloc (by simp) _
  case hBg => omega
  go_wp2_with fail
  go_ret
  refine ⟨w.heap.size + 1, rfl, by omega, ?_, hbel⟩
  have hlt : w.heap.size + 1 < w1.heap.size := by
    have := (Array.getElem?_eq_some_iff.1 hblk.out).1; exact this
  have hcell : ∀ j, w1.cell? ⟨w.heap.size + 1, j, none⟩ = ((splice [.slice A ws.length cA, .slice B bs.length cB, .int .i64 0, .int .i64 0, .int .i64 0, .int .i64 0] 2 (ps.map (Value.int .i64))).toArray)[j]? :=
    fun j => cell_of_row w1 (w.heap.size + 1) j _ _ (0, 0) hblk.out
  refine ⟨hlt, ?_, ?_, fun i hi => ⟨?_, ?_⟩⟩
  · rw [hcell]; exact (splice_pins01 _ _ _ _).1
  · rw [hcell]; exact (splice_pins01 _ _ _ _).2
  · rw [hcell]; exact splice_pins _ _ ps h4 i hi
  · have := hblk.out; simp [World.frozen?, this]

set_option maxHeartbeats 400000 in
theorem c_step (g : Nat) (vW vB : Value) (ws : List ByteArray) (f : Nat → Int) (w0 w : World) (hp : PinB w g vW vB f) (hW : IsStrs w0 vW ws) (hb0 : Below w0.heap.size w0 w) (hg : w0.heap.size ≤ g) (h4 : ws.length ≤ 4)
    (hf : ∀ i, i < ws.length → 0 ≤ f i ∧ f i < (gS ws i).size) :
    Calls Try.prog 37 #[.pointer (some ⟨g, 0, none⟩)] w fun e w' => e = .returned (.tuple #[]) ∧ PinB w' g vW vB (fun i => if i < ws.length then (f i + 1) % (gS ws i).size else f i) ∧ w.grownBy w' (some g) := by
  have HW := Lib.hid hW
  have HF := Lib.hid hf
  have HP := Lib.hid hp
  have HB0 := Lib.hid hb0
  obtain ⟨A, cA, rfl⟩ := hW.form
  obtain ⟨p1, p2, p3, p4⟩ := hp
  clear hW hf p4 hb0
  go_enter Try.func37, Try.ntmps37
  go_wp2_with fail
  go_loopw [10] (fun i wr => ∃ k : Nat, k ≤ ws.length ∧ i = .int .i64 k ∧ PinB wr g (.slice A ws.length cA) vB (fun i => if i < k then (f i + 1) % (gS ws i).size else f i) ∧ w.grownBy wr (some g)) (fun i _ => ws.length - (intOf i).toNat)
  case atStart => exact ⟨0, Nat.zero_le _, rfl, HP.out.congr (fun i _ => by simp), World.grownBy.refl _ _⟩
  case round =>
    clear p2 p3
    obtain ⟨k, hk, rfl, hpr, hgr⟩ := hrel
    have HPR := Lib.hid hpr
    have HGR := Lib.hid hgr
    have HBR : Hid (Below w0.heap.size w0 wr) := HB0.out.grown hgr HB0.out.size (fun k hk => by injection hk with hk; omega)
    clear hpr hgr
    by_cases hlt : k < ws.length
    · obtain ⟨b, o, rfl, hb, hc⟩ := (HW.out.at_ hlt)
      obtain ⟨f0, f1⟩ := HF.out k hlt
      have hc' : wr.cell? ⟨b, o + k, none⟩ = some (.string (gS ws k)) := (HBR.out.cell (p := ⟨b, o + k, none⟩) hb).trans hc
      have hsz := HW.out.size_le hlt
      obtain ⟨q1, q2, q3, q4⟩ := HPR.out
      have hcell := (q4 k (by omega)).1
      have hfree := (q4 k (by omega)).2
      simp only [Nat.lt_irrefl, if_false] at hcell
      clear q4 hc
      have i1 : (0 : Int) ≤ k := by omega
      have i2 : (k : Int) < 4 := by omega
      have hne : b ≠ g := by omega
      go_wp2_with fail
      go_region
      all_goals go_wp2_with fail
      · have hq : (f k + 1 == ((gS ws k).size : Int)) = true := by assumption
        have hq' : f k + 1 = (gS ws k).size := by simpa using hq
        refine ⟨⟨k + 1, by omega, by go_num, ?_, ?_⟩, by simp [intOf]; omega⟩
        · refine (((HPR.out.set (k := k) (by omega) (f k + 1)).set (k := k) (by omega) 0).drew).congr (fun i _ => ?_)
          by_cases e : i = k
          · subst e; simp [hq']
          · have : (i < k + 1) = (i < k) := by apply propext; omega
            simp only [this, if_neg e]
        · exact HGR.out.trans (grow_set2 (.inl rfl) (.inl rfl))
      · have hq : (f k + 1 == ((gS ws k).size : Int)) = false := by assumption
        have hq' : f k + 1 ≠ (gS ws k).size := by simpa using hq
        refine ⟨⟨k + 1, by omega, by go_num, ?_, ?_⟩, by simp [intOf]; omega⟩
        · refine ((HPR.out.set (k := k) (by omega) (f k + 1)).drew).congr (fun i _ => ?_)
          by_cases e : i = k
          · subst e; simp; exact (Int.emod_eq_of_lt (by omega) (by omega)).symm
          · have : (i < k + 1) = (i < k) := by apply propext; omega
            simp only [this, if_neg e]
        · exact HGR.out.trans (grow_set1 (.inl rfl))
    · go_wp2_with fail
      go_end0
      have e : k = ws.length := by omega
      subst e
      exact ⟨rfl, HPR.out, HGR.out⟩

set_option maxHeartbeats 400000 in
theorem c_l15Pins (vW vB vP : Value) (ws : List ByteArray) (bs ps : List Int) (t : Nat) (w : World) (hW : IsStrs w vW ws) (hB : IsInts w vB bs) (hP : IsInts w vP ps) (hfit : fitB ws bs ps = true) (ht : t ≤ 1000000) :
    Calls Try.prog 57 #[.agg #[vW, vB], vP, .int .i64 t] w fun e w' => e = .returned (.int .i64 (outN ws (posF ws ps t) ws.length)) ∧ Below w.heap.size w w' := by
  have HW := Lib.hid hW
  have HP := Lib.hid hP
  obtain ⟨A, cA, rfl⟩ := hW.form
  obtain ⟨B, cB, rfl⟩ := hB.form
  obtain ⟨C, cC, rfl⟩ := hP.form
  obtain ⟨g1, g2, g3⟩ := fitB_facts hfit
  obtain ⟨f1, f2, f3, f4, f5⟩ := cageB_facts g1
  have G2 := Lib.hid g2
  have G3 := Lib.hid g3
  have F5 := Lib.hid f5
  have g2' : ps.length ≤ ws.length := by omega
  clear hW hB hP hfit g1 g2 g3 f5
  go_enter Try.func57, Try.ntmps57
  go_wp2_with fail
  go_loopw [7, 8] (fun s i wr => ∃ k : Nat, k ≤ ps.length ∧ i = .int .i64 k ∧ s = .int .i64 (outN ws (posF ws ps t) k) ∧ Below (w.heap.size + 1) (w.alloc (.cells #[.slice A ws.length cA, .slice B bs.length cB] 26)) wr) (fun _ i _ => ps.length - (intOf i).toNat)
  case atStart => exact ⟨0, Nat.zero_le _, rfl, rfl, Below.refl _ _⟩
  case round =>
    obtain ⟨k, hk, rfl, rfl, hbw⟩ := hrel
    obtain ⟨x0, x1, hbe, hsz⟩ := box2 hbw
    have HBE := Lib.hid hbe
    have HBW := Lib.hid hbw
    clear hbw hbe
    by_cases hlt : k < ps.length
    · obtain ⟨b, o, rfl, hb, hc⟩ := (HP.out.ext HBE.out).at_ hlt
      have hlt2 : k < ws.length := by omega
      obtain ⟨b2, o2, rfl, hb2, hc2⟩ := (HW.out.ext HBE.out).at_ hlt2
      obtain ⟨r1, r2⟩ := G3.out k hlt2
      obtain ⟨s1, s2⟩ := F5.out k hlt2
      have i1 : (0 : Int) ≤ k := by omega
      have i2 : (k : Int) < ps.length := by omega
      have i3 : (k : Int) < ws.length := by omega
      have hpr := posF_range (ps := ps) (t := t) s1
      obtain ⟨j, hj⟩ := Int.eq_ofNat_of_zero_le hpr.1
      have HJ := Lib.hid hj
      have hjl : j < (gS ws k).size := by omega
      have hbt := bt_get (gS ws k) j hjl
      have e3 : (((gS ws k).size : Int) == 0) = false := by rw [beq_eq_false_iff_ne]; omega
      have e4 : ¬ ((gS ws k).size : Int) = 0 := by omega
      have e5 : ¬ (gS ws k).size = 0 := by omega
      have i4 : (0 : Int) ≤ j := by omega
      have i5 : (j : Int) < (gS ws k).size := by omega
      have e2 : (gI ps k + t).tmod ((gS ws k).size : Int) = (j : Int) := by
        rw [Int.tmod_eq_emod_of_nonneg (by omega), ← hj]; rfl
      have e1 : IntKind.i64.wrap (gI ps k + t) = gI ps k + t := IntWalk.i64_in _ (by omega)
      clear hj hpr
      by_cases q : bt (gS ws k) j = 49
      · have t1 : (bt (gS ws k) j == 49) = true := by simp [q]
        have HQ := Lib.hid q
        clear q
        go_wp2_with fail
        go_quiet (fail)
        clear e1 e2 e3 e4 e5
        go_wp2_with fail
        refine ⟨⟨k + 1, by omega, by go_num, ?_, below_drewN HBW.out _⟩, by simp [intOf]; omega⟩
        show _ = Value.int .i64 (outN ws (posF ws ps t) (k + 1) : Nat)
        rw [outN, HJ.out, Int.toNat_natCast, if_pos HQ.out, pow_add4 ws _ (by omega)]
      · have t1 : (bt (gS ws k) j == 49) = false := by simp [q]
        have HQ := Lib.hid q
        clear q
        go_wp2_with fail
        go_quiet (fail)
        clear e1 e2 e3 e4 e5
        go_wp2_with fail
        refine ⟨⟨k + 1, by omega, by go_num, ?_, below_drewN HBW.out _⟩, by simp [intOf]; omega⟩
        show _ = Value.int .i64 (outN ws (posF ws ps t) (k + 1) : Nat)
        rw [outN, HJ.out, Int.toNat_natCast, if_neg HQ.out]
    · go_wp2_with fail
      go_ret
      have e : k = ps.length := by omega
      subst e
      exact ⟨ret_int (by rw [G2.out]), HBE.out⟩

set_option maxHeartbeats 400000 in
theorem c_l15Moved (vW vB vP : Value) (ws : List ByteArray) (bs ps : List Int) (t : Nat) (w : World) (hW : IsStrs w vW ws) (hB : IsInts w vB bs) (hP : IsInts w vP ps) (hfit : fitB ws bs ps = true) (ht : t ≤ 1000000) :
    Calls Try.prog 41 #[.agg #[vW, vB], vP, .int .i64 t] w fun e w' => e = .returned (.int .i64 (disp ws bs (posF ws ps t))) ∧ Below w.heap.size w w' := by
  have HB := Lib.hid hB
  have HC := Lib.hid (c_l15Pins vW vB vP ws bs ps t (w.alloc (.cells #[vW, vB] 26)) (hW.ext (ext_alloc _ _)) (hB.ext (ext_alloc _ _)) (hP.ext (ext_alloc _ _)) hfit ht)
  obtain ⟨A, cA, rfl⟩ := hW.form
  obtain ⟨B, cB, rfl⟩ := hB.form
  have hbl := hB.len_le
  clear hW hB hP hfit
  go_enter Try.func41, Try.ntmps41
  go_wp2_with fail
  refine HC.out.mono ?_
  rintro e w1 ⟨rfl, hb1⟩
  have hbw : Below (w.heap.size + 1) (w.alloc (.cells #[.slice A ws.length cA, .slice B bs.length cB] 26)) w1 := by simpa using hb1
  obtain ⟨x0, x1, hbe, hsz⟩ := box2 hbw
  have HBE := Lib.hid hbe
  clear hbw hb1 hbe
  go_wp2_with fail
  go_loop [7, 9] (fun n i => ∃ k : Nat, k ≤ bs.length ∧ i = .int .i64 k ∧ n = .int .i64 (movN bs (outN ws (posF ws ps t) ws.length) k)) (fun _ i => bs.length - (intOf i).toNat)
  case atStart => exact ⟨0, Nat.zero_le _, rfl, rfl⟩
  case round =>
    obtain ⟨k, hk, rfl, rfl⟩ := hrel
    have hm := movN_le bs (outN ws (posF ws ps t) ws.length) k
    by_cases hlt : k < bs.length
    · obtain ⟨b, o, rfl, hb, hc⟩ := (HB.out.ext HBE.out).at_ hlt
      cases q : (bits .and .i64 (gI bs k) (outN ws (posF ws ps t) ws.length : Int) != 0) with
      | true =>
        go_wp2_with fail
        refine ⟨⟨k + 1, by omega, by go_num, ?_⟩, by simp [intOf]; omega⟩
        show _ = Value.int .i64 (movN bs (outN ws (posF ws ps t) ws.length) (k + 1) : Nat)
        rw [movN, if_pos (show mvB _ _ = true from q)]
        go_num
      | false =>
        go_wp2_with fail
        refine ⟨⟨k + 1, by omega, by go_num, ?_⟩, by simp [intOf]; omega⟩
        show _ = Value.int .i64 (movN bs (outN ws (posF ws ps t) ws.length) (k + 1) : Nat)
        rw [movN, if_neg (show ¬ mvB _ _ = true by unfold mvB; rw [q]; simp)]
    · go_wp2_with fail
      go_ret
      have e : k = bs.length := by omega
      subst e
      exact ⟨rfl, HBE.out⟩

theorem keyOk_cases (ws : List ByteArray) (bs ps : List Int) (n : Int) : (fitB ws bs ps = false ∧ keyOk ws bs ps n = false) ∨ (fitB ws bs ps = true ∧ inB n 0 200 = false ∧ keyOk ws bs ps n = false) ∨
    (fitB ws bs ps = true ∧ inB n 0 200 = true ∧ keyOk ws bs ps n = true ∧ 0 ≤ n ∧ n ≤ 200) := by
  unfold keyOk
  cases h1 : fitB ws bs ps
  · simp
  · cases h2 : inB n 0 200
    · simp
    · unfold inB at h2; simp at h2; simp; omega

set_option maxHeartbeats 400000 in
theorem c_specPinKey (vW vB vP : Value) (ws : List ByteArray) (bs ps : List Int) (n : Int) (w : World) (hW : IsStrs w vW ws) (hB : IsInts w vB bs) (hP : IsInts w vP ps) :
    Calls Try.prog 12 #[.agg #[vW, vB], vP, .int .i64 n] w fun e w' => e = .returned (keyR ws bs ps n) ∧ Below w.heap.size w w' := by
  have HW := Lib.hid hW
  have HB := Lib.hid hB
  have HP := Lib.hid hP
  obtain ⟨A, cA, rfl⟩ := hW.form
  obtain ⟨B, cB, rfl⟩ := hB.form
  clear hW hB hP
  go_enter Try.func12, Try.ntmps12
  go_wp2_with fail
  refine (c_l15Fits _ _ _ ws bs ps _ (HW.out.ext (ext_alloc _ _)) (HB.out.ext (ext_alloc _ _)) (HP.out.ext (ext_alloc _ _))).mono ?_
  rintro e w1 ⟨rfl, hb1⟩
  have hbw : Below (w.heap.size + 1) (w.alloc (.cells #[.slice A ws.length cA, .slice B bs.length cB] 26)) w1 := by simpa using hb1
  obtain ⟨x0, x1, hbe, hsz⟩ := box2 hbw
  have HBE := Lib.hid hbe
  have HBW := Lib.hid hbw
  clear hbw hb1 hbe
  rcases keyOk_cases ws bs ps n with ⟨h1, h2⟩ | ⟨h1, h2, h3⟩ | ⟨h1, h2, h3, h4, h5⟩
  · have HK := Lib.hid h2
    clear h2
    go_wp2_with fail
    go_ret2
    exact ⟨by rw [keyR_no HK.out]; rfl, HBE.out⟩
  · have HK := Lib.hid h3
    clear h3
    go_wp2_with (go_at_call 39; refine (c_l1In _ _ _ _).mono ?_; rintro e w' ⟨rfl, rfl⟩)
    go_ret2
    exact ⟨by rw [keyR_no HK.out]; rfl, HBE.out⟩
  · have HK := Lib.hid h3
    have H1 := Lib.hid h1
    obtain ⟨m, rfl⟩ := Int.eq_ofNat_of_zero_le h4
    clear h3
    go_wp2_with (go_at_call 39; refine (c_l1In _ _ _ _).mono ?_; rintro e w' ⟨rfl, rfl⟩)
    clear h1
    go_loopw [8, 9] (fun o i wr => ∃ k : Nat, k ≤ m ∧ i = .int .i64 k ∧ o = .string (keyS ws bs ps k) ∧ Below (w.heap.size + 1) (w.alloc (.cells #[.slice A ws.length cA, .slice B bs.length cB] 26)) wr) (fun _ i _ => m - (intOf i).toNat)
    case atStart => exact ⟨0, Nat.zero_le _, rfl, rfl, HBW.out⟩
    case round =>
      clear x0 x1 hsz HBE HBW
      obtain ⟨k, hk, rfl, rfl, hbw⟩ := hrel
      obtain ⟨x0, x1, hbe, hsz⟩ := box2 hbw
      have HBE := Lib.hid hbe
      have HBW := Lib.hid hbw
      have hks : (keyS ws bs ps k).size ≤ 200 := by unfold keyS; rw [mkS_size]; omega
      have HS : Hid (keyS ws bs ps (k + 1) = keyS ws bs ps k ++ strOfNums [97 + (disp ws bs (posF ws ps k) : Int)]) := mkS_succ k _
      clear hbw hbe
      by_cases hlt : k < m
      · go_wp2_with fail
        refine (c_l15Moved _ _ _ ws bs ps k _ (HW.out.ext HBE.out) (HB.out.ext HBE.out) (HP.out.ext HBE.out) H1.out (by omega)).mono ?_
        rintro e w2 ⟨rfl, hb2⟩
        have hd := disp_le (fitB_facts H1.out).1 (posF ws ps k)
        go_wp2_with fail
        refine (c_l1Letter _ _ (by omega) (by omega)).mono ?_
        rintro e w3 ⟨rfl, hb3⟩
        have he : (disp ws bs (posF ws ps k) : Int) % 10 = disp ws bs (posF ws ps k) := by omega
        rw [he]
        have hz : (strOfNums [97 + (disp ws bs (posF ws ps k) : Int)]).size = 1 := by rw [strOfNums_size]; rfl
        clear he
        go_wp2_with fail
        exact ⟨⟨k + 1, by omega, by go_num, by rw [HS.out], HBW.out.trans (((hb2.trans (hb3.mono hb2.size))).mono hsz)⟩, by simp [intOf]; omega⟩
      · go_wp2_with fail
        go_ret2
        have e : k = m := by omega
        subst e
        exact ⟨by rw [keyR_ok HK.out]; rfl, HBE.out⟩

set_option maxHeartbeats 400000 in
theorem c_PinKey (vW vB vP : Value) (ws : List ByteArray) (bs ps : List Int) (n : Int) (w : World) (hW : IsStrs w vW ws) (hB : IsInts w vB bs) (hP : IsInts w vP ps) :
    Calls Try.prog 11 #[.agg #[vW, vB], vP, .int .i64 n] w fun e w' => e = .returned (keyR ws bs ps n) ∧ Below w.heap.size w w' := by
  have HW := Lib.hid hW
  have HB := Lib.hid hB
  have HP := Lib.hid hP
  obtain ⟨A, cA, rfl⟩ := hW.form
  obtain ⟨B, cB, rfl⟩ := hB.form
  clear hW hB hP
  go_enter Try.func11, Try.ntmps11
  go_wp2_with fail
  refine (c_positionsValid _ _ _ ws bs ps _ (HW.out.ext (ext_alloc _ _)) (HB.out.ext (ext_alloc _ _)) (HP.out.ext (ext_alloc _ _))).mono ?_
  rintro e w1 ⟨rfl, hb1⟩
  have hbw : Below (w.heap.size + 1) (w.alloc (.cells #[.slice A ws.length cA, .slice B bs.length cB] 26)) w1 := by simpa using hb1
  obtain ⟨x0, x1, hbe, hsz⟩ := box2 hbw
  have HBE := Lib.hid hbe
  clear hbw hb1 hbe
  rcases keyOk_cases ws bs ps n with ⟨h1, h2⟩ | ⟨h1, h2, h3⟩ | ⟨h1, h2, h3, h4, h5⟩
  · have HK := Lib.hid h2
    clear h2
    go_wp2_with fail
    go_ret2
    exact ⟨by rw [keyR_no HK.out]; rfl, HBE.out⟩
  · have HK := Lib.hid h3
    have hn : n < 0 ∨ (0 ≤ n ∧ 200 < n) := by unfold inB at h2; simp at h2; omega
    clear h3 h2
    rcases hn with hn | ⟨hn, hn2⟩
    all_goals
      go_wp2_with fail
      go_ret2
      exact ⟨by rw [keyR_no HK.out]; rfl, HBE.out⟩
  · have HK := Lib.hid h3
    have H1 := Lib.hid h1
    obtain ⟨m, rfl⟩ := Int.eq_ofNat_of_zero_le h4
    have d1 : decide ((m : Int) < 0) = false := by simp
    have d2 : decide (200 < (m : Int)) = false := by simp; omega
    clear h3 h2
    go_wp2_with fail
    clear h1
    refine (c_newPins _ _ _ ws bs ps _ (HW.out.ext HBE.out) (HB.out.ext HBE.out) (HP.out.ext HBE.out) (by have := (fitB_facts H1.out).2.1; have := (cageB_facts (fitB_facts H1.out).1).2.1; omega)).mono ?_
    rintro e w2 ⟨g, rfl, hg, hpin, hb2⟩
    have HPIN := Lib.hid hpin
    have HB2 := Lib.hid hb2
    have hgl : g < w2.heap.size := hpin.1
    clear hpin hb2
    go_wp2_with (at_make; refine make0 _ rfl _ _ _ rfl w2.heap.size 5 Try.underlying22 info_u8 _ _ _ rfl rfl (by omega) (by omega) (by omega) (Nat.le_refl _) ?_; intro v w3 hown hb3)
    have HO := Lib.hid hown
    have HB3 := Lib.hid hb3
    clear hown hb3
    go_loopw [9, 28] (fun v i wr => ∃ k : Nat, k ≤ m ∧ i = .int .i64 k ∧ Own wr w2.heap.size 5 v (((List.range k).map (fun t => 97 + (disp ws bs (posF ws ps t) : Int))).map (.int .u8)) ∧
      PinB wr g (.slice A ws.length cA) (.slice B bs.length cB) (fun i => if i < ws.length then posF ws ps k i else gI ps i) ∧ Below w1.heap.size w1 wr ∧ w2.heap.size ≤ wr.heap.size) (fun _ i _ => m - (intOf i).toNat)
    case atStart =>
      refine ⟨0, Nat.zero_le _, rfl, HO.out, (HPIN.out.ext HB3.out).congr (fun i _ => ?_), ext_trans HB2.out HB3.out, HB3.out.size⟩
      by_cases e : i < ws.length
      · simp only [if_pos e]; exact (posF_zero ((fitB_facts H1.out).2.2 i e)).symm
      · simp only [if_neg e]
    case round =>
      clear x0 x1 HPIN HB2 HO HB3
      obtain ⟨k, hk, rfl, hown, hpin, hbr, hszr⟩ := hrel
      have HO := Lib.hid hown
      have HPIN := Lib.hid hpin
      have HBR := Lib.hid hbr
      clear hown hpin hbr
      by_cases hlt : k < m
      · have hfr : ∀ i, i < ws.length → 0 ≤ (fun i => if i < ws.length then posF ws ps k i else gI ps i) i ∧ (fun i => if i < ws.length then posF ws ps k i else gI ps i) i < (gS ws i).size := by
          intro i hi
          simp only [if_pos hi]
          exact posF_range ((cageB_facts (fitB_facts H1.out).1).2.2.2.2 i hi).1
        have HFR := Lib.hid hfr
        have h4w : ws.length ≤ 4 := (cageB_facts (fitB_facts H1.out).1).2.1
        have hdc : disp ws bs (fun i => if i < ws.length then posF ws ps k i else gI ps i) = disp ws bs (posF ws ps k) := disp_congr (fun i hi => if_pos hi)
        have hd := disp_le (fitB_facts H1.out).1 (posF ws ps k)
        have HDC := Lib.hid hdc
        clear hfr hdc
        go_wp2_with fail
        refine (c_displacement g _ _ ws bs _ _ HPIN.out (HW.out.ext (ext_trans HBE.out HBR.out)) (HB.out.ext (ext_trans HBE.out HBR.out)) h4w HFR.out).mono ?_
        rintro e w' ⟨rfl, rfl⟩
        rw [HDC.out]
        go_wp2_with fail
        refine (c_letter _ _ (by omega) (by omega)).mono ?_
        rintro e w' ⟨rfl, rfl⟩
        go_wp2_with (at_builtin; refine app1 _ rfl _ _ _ rfl w2.heap.size 5 Try.underlying22 info_u8 rfl _ _ rfl HO.out _ rfl rfl (by simp; omega) (by omega) hszr ?_; intro v' w4 hown4 hgr4)
        have HO4 := Lib.hid hown4
        have hb4 : Below w1.heap.size w1 w4 := HO.out.below (Nat.le_trans hg (Nat.le_of_lt hgl)) (Nat.le_trans (Nat.le_trans hg (Nat.le_of_lt hgl)) hszr) HBR.out hgr4
        have hp4 := HPIN.out.block hgr4.size (HO.out.far hgr4 g (by omega) hgl)
        have HB4 := Lib.hid hb4
        have HP4 := Lib.hid hp4
        have hsz4 := hgr4.size
        clear hown4 hb4 hp4 hgr4
        refine (c_step g _ _ ws _ w1 _ HP4.out (HW.out.ext HBE.out) HB4.out hg h4w HFR.out).mono ?_
        rintro e w5 ⟨rfl, hp5, hgr5⟩
        have HP5 := Lib.hid hp5
        have HG5 := Lib.hid hgr5
        clear hp5 hgr5
        go_wp2_with fail
        refine ⟨⟨k + 1, by omega, by go_num, ?_, HP5.out.congr (fun i _ => ?_), HB4.out.grown HG5.out HB4.out.size (fun k hk => by injection hk with hk; omega), Nat.le_trans hszr (Nat.le_trans hsz4 HG5.out.size)⟩, by simp [intOf]; omega⟩
        · rw [List.range_succ, List.map_append, List.map_append]
          exact HO4.out.kept HG5.out (fun x hx => by injection hx with hx; omega)
        · by_cases e : i < ws.length
          · simp only [if_pos e]; exact (posF_succ _ _ _ _).symm
          · simp only [if_neg e]
      · have hcv := conv_own (P := Try.prog) 22 9 5 HO.out Try.underlying22 Try.underlying5 Try.underlying9
        go_wp2_with fail
        go_ret2
        have e : k = m := by omega
        subst e
        exact ⟨by rw [keyR_ok HK.out]; rfl, ext_trans HBE.out HBR.out⟩

end Go.Proofs.Ytomgkpiogbmfgaa
