/- Permutations as arrays of ten bytes: contracts of rotation, identity, then, pairs, permOf and what stands on them. -/
import Derived.Test.YtnfeddnkokocfaaKitB
import Derived.Test.YtnfeddnkokocfaaKitA
import Derived.Laws.Tables
import Derived.Laws.Rows
import Derived.Laws.CopyOwn
import Derived.Deep.WholeRow
namespace Go.Proofs.Ytnfeddnkokocfaa
set_option linter.unusedVariables false
set_option linter.unusedSimpArgs false
open Go.RowKit

/-- the cells of a permutation -/
def permA (f : Nat → Int) : Array Value := ((List.range 10).map (fun i => Value.int .u8 (f i))).toArray
theorem permA_size (f : Nat → Int) : (permA f).size = 10 := by simp [permA]
theorem permA_at (f : Nat → Int) {k : Nat} (hk : k < 10) : (permA f)[k]? = some (.int .u8 (f k)) := by simp [permA, hk]
theorem permA_congr {f g : Nat → Int} (h : ∀ k, k < 10 → f k = g k) : permA f = permA g := by
  unfold permA
  congr 1
  refine List.map_congr_left fun k hk => ?_
  rw [h k (List.mem_range.1 hk)]
theorem permA_set (f : Nat → Int) {k : Nat} (_hk : k < 10) (x : Int) : (permA f).setIfInBounds k (.int .u8 x) = permA (fun i => if i = k then x else f i) := by
  apply Array.ext_getElem?
  intro i
  rw [Array.getElem?_setIfInBounds]
  by_cases hi : i < 10
  · rw [permA_at _ hi]
    by_cases e : k = i
    · subst e; rw [if_pos rfl, if_pos (by rw [permA_size]; exact hi), permA_at _ hi, if_pos rfl]
    · rw [if_neg e, permA_at _ hi, if_neg (fun h => e h.symm)]
  · have h1 : ∀ g : Nat → Int, (permA g)[i]? = none := fun g => by rw [Array.getElem?_eq_none_iff, permA_size]; omega
    rw [h1, h1]
    by_cases e : k = i
    · rw [if_pos e, if_neg (by rw [permA_size]; omega)]
    · rw [if_neg e]
theorem permA_zero : (#[.int .u8 0, .int .u8 0, .int .u8 0, .int .u8 0, .int .u8 0, .int .u8 0, .int .u8 0, .int .u8 0, .int .u8 0, .int .u8 0] : Array Value) = permA (fun _ => 0) := rfl
theorem permA_one (f : Nat → Int) : (permA f).all (·.oneCell') = true := by
  unfold permA
  rw [List.all_toArray, List.all_eq_true]
  intro x hx
  obtain ⟨i, _, rfl⟩ := List.mem_map.1 hx
  rfl
theorem Blk.setRow {w : World} {b : Nat} {t : TypeId} {cs : Array Value} (h : Blk w b t cs) (ds : Array Value) : Blk (w.setRow b ds) b t ds := setRow_heap w b cs ds t (0, 0) h
theorem Blk.farRow {w : World} {b g : Nat} {t : TypeId} {cs : Array Value} (h : Blk w b t cs) (hg : b ≠ g) (ds : Array Value) : Blk (w.setRow g ds) b t cs := (setRow_other w g b ds hg).trans h
theorem Blk.setP {w : World} {b : Nat} {t : TypeId} {f : Nat → Int} (h : Blk w b t (permA f)) {k : Nat} (hk : k < 10) (x : Int) {g : Nat → Int} (hg : ∀ i, i < 10 → (if i = k then x else f i) = g i) :
    Blk (w.setCell ⟨b, k, none⟩ (.int .u8 x)) b t (permA g) := by
  have := h.set k (.int .u8 x)
  rw [permA_set f hk, permA_congr hg] at this
  exact this
theorem below_row {a w : World} {B g : Nat} (h : Below B a w) (hg : B ≤ g) (cs : Array Value) : Below B a (w.setRow g cs) := Go.below_setRow h hg cs
theorem size_perm : (Try.prog.info? 85).map (·.size) = some 10 := by kernel_rfl
theorem idx_perm (f : Nat → Int) {k : Nat} (hk : k < 10) (w : World) : (Instr.index 85 (.agg (permA f)) (.int .i64 (k : Int))).run Try.prog w = .ok (.int .u8 (f k)) w := by
  have hn : (0 : Int) ≤ (k : Int) ∧ (k : Int) < ((10 : Nat) : Int) := by omega
  have hat := permA_at f hk
  simp [Instr.index, run_underlying Try.underlying85, asIntOf, go_sem, hat]
  intro h; omega

set_option maxHeartbeats 400000 in
theorem c_rotation (n : Nat) (w : World) (hn : n < 10) : Calls Try.prog 148 #[.int .i64 n] w fun e w' => e = .returned (.agg (permA (fun i => ((i : Int) + n) % 10))) ∧ Below w.heap.size w w' := by
  go_enter Try.func148, Try.ntmps148
  go_wp2_with fail
  simp only [permA_zero]
  go_loopw [5] (fun i wr => ∃ k : Nat, k ≤ 10 ∧ i = .int .i64 k ∧ Blk wr (w.heap.size + 1) 85 (permA (fun j => if j < k then ((j : Int) + n) % 10 else 0)) ∧ Blk wr w.heap.size 85 (permA (fun _ => 0)) ∧ Below w.heap.size w wr) (fun i _ => 10 - (intOf i).toNat)
  case atStart =>
    refine ⟨0, by omega, rfl, ?_, ?_, ?_⟩
    · have := Blk.new (w.alloc (.cells (permA fun _ => 0) 85)) 85 (permA fun _ => 0)
      rw [show (w.alloc (.cells (permA fun _ => 0) 85)).heap.size = w.heap.size + 1 by simp] at this
      simpa using this
    · exact (Blk.new w 85 (permA fun _ => 0)).alloc _
    · exact (ext_alloc w _).alloc (by simp) _
  case round =>
    obtain ⟨k, hk, rfl, hb1, hb2, hbel⟩ := hrel
    have HB1 := Lib.hid hb1
    have HB2 := Lib.hid hb2
    by_cases hlt : k < 10
    · have hcell : wr.cell? ⟨w.heap.size + 1, k, none⟩ = some (.int .u8 0) := by
        rw [hb1.cell, permA_at _ hlt, if_neg (Nat.lt_irrefl k)]
      have hfree := hb1.free k
      clear hb1 hb2
      go_wp2_with fail
      refine ⟨⟨k + 1, by omega, by go_num, HB1.out.setP hlt _ (fun i _ => ?_), HB2.out.far (p := ⟨w.heap.size + 1, k, none⟩) (by simp) _, hbel.setCell (p := ⟨w.heap.size + 1, k, none⟩) (by simp) _⟩, by simp [intOf]; omega⟩
      by_cases e : i = k
      · subst e; rw [if_pos rfl, if_pos (by omega)]
      · by_cases e2 : i < k
        · rw [if_neg e, if_pos e2, if_pos (by omega)]
        · rw [if_neg e, if_neg e2, if_neg (by omega)]
    · clear hb1 hb2
      have e : k = 10 := by omega
      subst e
      have hc := permA_congr (f := fun j => if j < 10 then ((j : Int) + n) % 10 else 0) (g := fun i => ((i : Int) + n) % 10) (fun i hi => if_pos hi)
      have HC := Lib.hid hc
      clear hc
      go_wp2_with (first | (refine wpList_load_row rfl 85 _ rfl (w.heap.size + 1) rfl 85 _ (0, 0) _ HB1.out Try.underlying85 rfl (by rw [permA_size]; exact size_perm) ?_) | (refine wpList_store_row rfl 85 _ _ rfl w.heap.size _ rfl rfl 85 _ HB2.out (by rw [permA_size]; exact size_perm) (by rw [permA_size, permA_size]) (permA_one _) ?_))
      refine bodyPost_ret (results_cell_row Try.results148 _ _ w.heap.size 85 _ (0, 0) _ rfl (HB2.out.setRow _) Try.underlying85 rfl (by rw [permA_size]; exact size_perm)) rfl ⟨by rw [HC.out], below_row hbel (Nat.le_refl _) _⟩
theorem c_identity (w : World) : Calls Try.prog 146 #[] w fun e w' => e = .returned (.agg (permA (fun i => (i : Int)))) ∧ Below w.heap.size w w' := by
  have HC := Lib.hid (permA_congr (f := fun i => ((i : Int) + (0 : Nat)) % 10) (g := fun i => (i : Int)) (fun i hi => by omega))
  go_enter Try.func146, Try.ntmps146
  go_wp2_with fail
  simp only [permA_zero]
  refine (c_rotation 0 _ (by omega)).mono ?_
  rintro e w1 ⟨rfl, hb1⟩
  rw [HC.out]
  have K := Lib.hid ((Blk.new w 85 (permA fun _ => 0)).ext hb1)
  have B := Lib.hid (ext_trans (ext_alloc w _) hb1)
  clear hb1
  go_wp2_with (refine wpList_store_row rfl 85 _ _ rfl w.heap.size _ rfl rfl 85 _ K.out (by rw [permA_size]; exact size_perm) (by rw [permA_size, permA_size]) (permA_one _) ?_)
  refine bodyPost_ret (results_cell_row Try.results146 _ _ w.heap.size 85 _ (0, 0) _ rfl (K.out.setRow _) Try.underlying85 rfl (by rw [permA_size]; exact size_perm)) rfl ⟨rfl, below_row B.out (Nat.le_refl _) _⟩
set_option maxHeartbeats 400000 in
theorem c_then (f g : Nat → Nat) (w : World) (hf : ∀ i, i < 10 → f i < 10) : Calls Try.prog 108 #[.agg (permA fun i => (f i : Int)), .agg (permA fun i => (g i : Int))] w fun e w' => e = .returned (.agg (permA (fun i => (g (f i) : Int)))) ∧ Below w.heap.size w w' := by
  have HF := Lib.hid hf
  have k0 := Lib.hid (Blk.new w 85 (permA fun i => (f i : Int)))
  clear hf
  go_enter Try.func108, Try.ntmps108
  go_wp2_with (refine wpList_load_row rfl 85 _ rfl w.heap.size rfl 85 (permA fun i => (f i : Int)) (0, 0) _ (((k0.out.alloc _).alloc _).alloc _) Try.underlying85 rfl (by rw [permA_size]; exact size_perm) ?_)
  simp only [permA_zero]
  go_loopw [9] (fun i wr => ∃ k : Nat, k ≤ 10 ∧ i = .int .i64 k ∧ Blk wr (w.heap.size + 3) 85 (permA (fun j => if j < k then (g (f j) : Int) else 0)) ∧ Blk wr (w.heap.size + 2) 85 (permA (fun _ => 0)) ∧ Blk wr (w.heap.size + 1) 85 (permA (fun i => (g i : Int))) ∧ Below w.heap.size w wr) (fun i _ => 10 - (intOf i).toNat)
  case atStart =>
    have e1 : (w.alloc (.cells (permA fun i => (f i : Int)) 85)).heap.size = w.heap.size + 1 := by simp
    have e2 : ((w.alloc (.cells (permA fun i => (f i : Int)) 85)).alloc (.cells (permA fun i => (g i : Int)) 85)).heap.size = w.heap.size + 2 := by simp
    have e3 : (((w.alloc (.cells (permA fun i => (f i : Int)) 85)).alloc (.cells (permA fun i => (g i : Int)) 85)).alloc (.cells (permA fun _ => 0) 85)).heap.size = w.heap.size + 3 := by simp
    refine ⟨0, by omega, rfl, ?_, ?_, ?_, ?_⟩
    · have := Blk.new (((w.alloc (.cells (permA fun i => (f i : Int)) 85)).alloc (.cells (permA fun i => (g i : Int)) 85)).alloc (.cells (permA fun _ => 0) 85)) 85 (permA fun _ => 0)
      rw [e3] at this
      simpa using this
    · have := (Blk.new ((w.alloc (.cells (permA fun i => (f i : Int)) 85)).alloc (.cells (permA fun i => (g i : Int)) 85)) 85 (permA fun _ => 0)).alloc (.cells (permA fun _ => 0) 85)
      rw [e2] at this
      exact this
    · have := ((Blk.new (w.alloc (.cells (permA fun i => (f i : Int)) 85)) 85 (permA fun i => (g i : Int))).alloc (.cells (permA fun _ => 0) 85)).alloc (.cells (permA fun _ => 0) 85)
      rw [e1] at this
      exact this
    · exact (((ext_alloc w _).alloc (by simp) _).alloc (by simp; omega) _).alloc (by simp; omega) _
  case round =>
    obtain ⟨k, hk, rfl, hb1, hb2, hb3, hbel⟩ := hrel
    have HB1 := Lib.hid hb1
    have HB2 := Lib.hid hb2
    have HB3 := Lib.hid hb3
    by_cases hlt : k < 10
    · have hfk := HF.out k hlt
      have hix := idx_perm (fun i => (f i : Int)) hlt
      have hcell : wr.cell? ⟨w.heap.size + 3, k, none⟩ = some (.int .u8 0) := by
        rw [hb1.cell, permA_at _ hlt, if_neg (Nat.lt_irrefl k)]
      have hcell2 : wr.cell? ⟨w.heap.size + 1, f k, none⟩ = some (.int .u8 (g (f k))) := by
        rw [hb3.cell, permA_at _ hfk]
      have hfree := hb1.free k
      clear hb1 hb2 hb3
      go_wp2_with fail
      refine ⟨⟨k + 1, by omega, by go_num, HB1.out.setP hlt _ (fun i _ => ?_), HB2.out.far (p := ⟨w.heap.size + 3, k, none⟩) (by simp) _, HB3.out.far (p := ⟨w.heap.size + 3, k, none⟩) (by simp) _, hbel.setCell (p := ⟨w.heap.size + 3, k, none⟩) (by simp) _⟩, by simp [intOf]; omega⟩
      by_cases e : i = k
      · subst e; rw [if_pos rfl, if_pos (by omega)]
      · by_cases e2 : i < k
        · rw [if_neg e, if_pos e2, if_pos (by omega)]
        · rw [if_neg e, if_neg e2, if_neg (by omega)]
    · clear hb1 hb2 hb3
      have e : k = 10 := by omega
      subst e
      have hc := permA_congr (f := fun j => if j < 10 then (g (f j) : Int) else 0) (g := fun i => (g (f i) : Int)) (fun i hi => if_pos hi)
      have HC := Lib.hid hc
      clear hc
      go_wp2_with (first | (refine wpList_load_row rfl 85 _ rfl (w.heap.size + 3) rfl 85 _ (0, 0) _ HB1.out Try.underlying85 rfl (by rw [permA_size]; exact size_perm) ?_) | (refine wpList_store_row rfl 85 _ _ rfl (w.heap.size + 2) _ rfl rfl 85 _ HB2.out (by rw [permA_size]; exact size_perm) (by rw [permA_size, permA_size]) (permA_one _) ?_))
      refine bodyPost_ret (results_cell_row Try.results108 _ _ (w.heap.size + 2) 85 _ (0, 0) _ rfl (HB2.out.setRow _) Try.underlying85 rfl (by rw [permA_size]; exact size_perm)) rfl ⟨by rw [HC.out], below_row hbel (by omega) _⟩
set_option maxHeartbeats 400000 in
theorem c_pairs (p : ByteArray) (w : World) (hp : permB p = true) : Calls Try.prog 147 #[.agg (permA fun i => (pn p i : Int))] w fun e w' => e = .returned (.int .i64 ((moved p 10 / 2 : Nat) : Int)) ∧ Below w.heap.size w w' := by
  have HP := Lib.hid hp
  have k0 := Lib.hid (Blk.new w 85 (permA fun i => (pn p i : Int)))
  clear hp
  go_enter Try.func147, Try.ntmps147
  go_wp2_with (refine wpList_load_row rfl 85 _ rfl w.heap.size rfl 85 (permA fun i => (pn p i : Int)) (0, 0) _ k0.out Try.underlying85 rfl (by rw [permA_size]; exact size_perm) ?_)
  go_loopw [3, 7] (fun m i wr => ∃ k : Nat, k ≤ 10 ∧ i = .int .i64 k ∧ m = .int .i64 (moved p k) ∧ Below w.heap.size w wr) (fun _ i _ => 10 - (intOf i).toNat)
  case atStart => exact ⟨0, by omega, rfl, rfl, ext_alloc _ _⟩
  case round =>
    obtain ⟨k, hk, rfl, rfl, hbel⟩ := hrel
    have hml := moved_le p k
    by_cases hlt : k < 10
    · have hlt10 := pn_lt HP.out hlt
      have hix := idx_perm (fun i => (pn p i : Int)) hlt
      have hms : moved p (k + 1) = moved p k + (if pn p k = k then 0 else 1) := rfl
      have HMS := Lib.hid hms
      clear hms
      by_cases he : pn p k = k
      · have t1 : (((pn p k : Nat) : Int) == (k : Int)) = true := by rw [he]; simp
        go_wp2_with fail
        exact ⟨⟨k + 1, by omega, by go_num, by rw [HMS.out, if_pos he]; rfl, hbel⟩, by simp [intOf]; omega⟩
      · have t1 : (((pn p k : Nat) : Int) == (k : Int)) = false := by rw [beq_eq_false_iff_ne]; omega
        go_wp2_with fail
        exact ⟨⟨k + 1, by omega, by go_num, by rw [HMS.out, if_neg he]; go_num, hbel⟩, by simp [intOf]; omega⟩
    · have e : k = 10 := by omega
      subst e
      go_wp2_with fail
      go_ret
      exact ⟨ret_int (by simp), hbel⟩
end Go.Proofs.Ytnfeddnkokocfaa
