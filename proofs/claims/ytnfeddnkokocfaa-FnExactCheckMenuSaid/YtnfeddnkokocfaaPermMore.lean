/- Contracts of inverse, String and turned (impl); whole permutations loaded in a region that draws its order. -/
import Derived.Test.YtnfeddnkokocfaaPermOf
import Derived.Test.YtnfeddnkokocfaaMach
import Derived.Test.YtnfeddnkokocfaaQT
import Derived.Deep.MidRow
namespace Go.Proofs.Ytnfeddnkokocfaa
set_option linter.unusedVariables false
set_option linter.unusedSimpArgs false
open Go.RowKit
attribute [local go_sem] Ext.cell
open BigFrame

/-- a permutation as a value -/
abbrev pV (f : Nat → Nat) : Value := .agg (permA fun i => (f i : Int))
theorem pV_congr {f g : Nat → Nat} (h : ∀ i, i < 10 → f i = g i) : pV f = pV g := by
  unfold pV; rw [permA_congr (fun i hi => by rw [h i hi])]
theorem Blk.range {w : World} {b : Nat} {t : TypeId} {f : Nat → Int} (h : Blk w b t (permA f)) : w.rangeAt b 0 ((List.range 10).map (fun i => Value.int .u8 (f i))) := fun j v hv => by
  rw [Nat.zero_add, h.cell]
  unfold permA
  rw [List.getElem?_toArray]
  exact hv
/-- ten bytes in the middle of a block -/
def PermAt (w : World) (b o : Nat) (f : Nat → Int) : Prop := b < w.heap.size ∧ w.rangeAt b o ((List.range 10).map (fun i => Value.int .u8 (f i)))
theorem PermAt.ext {w w' : World} {b o : Nat} {f : Nat → Int} (h : PermAt w b o f) (hb : Below w.heap.size w w') : PermAt w' b o f :=
  ⟨Nat.lt_of_lt_of_le h.1 hb.size, fun j v hv => (hb.cell (p := ⟨b, o + j, none⟩) h.1).trans (h.2 j v hv)⟩
theorem Blk.permAt {w : World} {b : Nat} {t : TypeId} {f : Nat → Int} (h : Blk w b t (permA f)) : PermAt w b 0 f := ⟨h.lt, h.range⟩
theorem quiet_perm {W : World} {op : Oper} {a : Act} {K : Act → Prop} (x : Operand) (ho : op.op = .load 85 x) (b o : Nat) (hx : a.eval x = .pointer (some ⟨b, o, none⟩)) (f : Nat → Int) (hp : PermAt W b o f)
    (hk : K (a.put op.dst (.agg (permA f)))) : op.quiet Try.prog a (fun w' => ∃ y : Ext W, w' = y.1) K := by
  refine ⟨.agg (permA f), ?_, hk⟩
  rintro w' ⟨y, rfl⟩
  have hr := run_loadAt_mid (P := Try.prog) y.1 b o 85 ((List.range 10).map (fun i => Value.int .u8 (f i))) _ (hp.ext y.2).2 Try.underlying85 rfl (by rw [List.length_map, List.length_range]; exact size_perm)
  unfold Oper.quietAt execOp
  simp only [ho, hx, Sem.run_bind, hr, Result.andThen_ok, Sem.run_pure]
  exact ⟨rfl, rfl⟩
theorem row_of_blk {w : World} {b : Nat} {t : TypeId} {f : Nat → Int} (h : Blk w b t (permA f)) : Row w b 10 f := ⟨h.lt, fun i hi => ⟨by rw [h.cell, permA_at _ hi], h.free i⟩⟩

set_option maxHeartbeats 400000 in
theorem c_inverse (f : Nat → Nat) (w : World) (hf : IsP f) : Calls Try.prog 152 #[pV f] w fun e w' => e = .returned (pV (invF f)) ∧ Below w.heap.size w w' := by
  have HF := Lib.hid hf
  have k0 := Lib.hid (Blk.new w 85 (permA fun i => (f i : Int)))
  clear hf
  go_enter Try.func152, Try.ntmps152
  go_wp2_with (refine wpList_load_row rfl 85 _ rfl w.heap.size rfl 85 (permA fun i => (f i : Int)) (0, 0) _ ((k0.out.alloc _).alloc _) Try.underlying85 rfl (by rw [permA_size]; exact size_perm) ?_)
  simp only [permA_zero]
  go_loopw [7] (fun i wr => ∃ (k : Nat) (h : Nat → Int), k ≤ 10 ∧ i = .int .i64 k ∧ (∀ j, j < k → h (f j) = (j : Int)) ∧ Blk wr (w.heap.size + 2) 85 (permA h) ∧ Blk wr (w.heap.size + 1) 85 (permA (fun _ => 0)) ∧ Below w.heap.size w wr) (fun i _ => 10 - (intOf i).toNat)
  case atStart =>
    have e1 : (w.alloc (.cells (permA fun i => (f i : Int)) 85)).heap.size = w.heap.size + 1 := by simp
    have e2 : ((w.alloc (.cells (permA fun i => (f i : Int)) 85)).alloc (.cells (permA fun _ => 0) 85)).heap.size = w.heap.size + 2 := by simp
    refine ⟨0, fun _ => 0, by omega, rfl, fun j hj => by omega, ?_, ?_, ?_⟩
    · have := Blk.new ((w.alloc (.cells (permA fun i => (f i : Int)) 85)).alloc (.cells (permA fun _ => 0) 85)) 85 (permA fun _ => 0)
      rw [e2] at this
      exact this
    · have := (Blk.new (w.alloc (.cells (permA fun i => (f i : Int)) 85)) 85 (permA fun _ => 0)).alloc (.cells (permA fun _ => 0) 85)
      rw [e1] at this
      exact this
    · exact ((ext_alloc w _).alloc (by simp) _).alloc (by simp; omega) _
  case round =>
    obtain ⟨k, h, hk, rfl, hh, hb1, hb2, hbel⟩ := hrel
    have HH := Lib.hid hh
    have HB1 := Lib.hid hb1
    have HB2 := Lib.hid hb2
    by_cases hlt : k < 10
    · have hfk := HF.out.1 k hlt
      have hix := idx_perm (fun i => (f i : Int)) hlt
      have hcell : wr.cell? ⟨w.heap.size + 2, f k, none⟩ = some (.int .u8 (h (f k))) := by rw [hb1.cell, permA_at _ hfk]
      have hfree := hb1.free (f k)
      clear hb1 hb2 hh
      go_wp2_with fail
      refine ⟨⟨k + 1, fun i => if i = f k then (k : Int) else h i, by omega, by go_num, fun j hj => ?_, HB1.out.setP hfk _ (fun i _ => rfl), HB2.out.far (p := ⟨w.heap.size + 2, f k, none⟩) (by simp) _, hbel.setCell (p := ⟨w.heap.size + 2, f k, none⟩) (by simp) _⟩, by simp [intOf]; omega⟩
      by_cases e : j = k
      · subst e; simp
      · have hne : f j ≠ f k := fun q => e (HF.out.2 j (by omega) k hlt q)
        show (if f j = f k then (k : Int) else h (f j)) = (j : Int)
        rw [if_neg hne]; exact HH.out j (by omega)
    · clear hb1 hb2 hh
      have e : k = 10 := by omega
      subst e
      have hc : permA h = permA (fun i => (invF f i : Int)) := permA_congr (fun i hi => by
        obtain ⟨j, hj, e⟩ := HF.out.surj hi
        rw [← e, invF_of HF.out hj, HH.out j hj])
      have HC := Lib.hid hc
      clear hc
      go_wp2_with (first | (refine wpList_load_row rfl 85 _ rfl (w.heap.size + 2) rfl 85 _ (0, 0) _ HB1.out Try.underlying85 rfl (by rw [permA_size]; exact size_perm) ?_) | (refine wpList_store_row rfl 85 _ _ rfl (w.heap.size + 1) _ rfl rfl 85 _ HB2.out (by rw [permA_size]; exact size_perm) (by rw [permA_size, permA_size]) (permA_one _) ?_))
      refine bodyPost_ret (results_cell_row Try.results152 _ _ (w.heap.size + 1) 85 _ (0, 0) _ rfl (HB2.out.setRow _) Try.underlying85 rfl (by rw [permA_size]; exact size_perm)) rfl ⟨by rw [HC.out], below_row hbel (by omega) _⟩
theorem info_arr : (Try.prog.info? 84).map (·.size) = some 10 := by kernel_rfl
set_option maxHeartbeats 400000 in
theorem c_String (f : Nat → Nat) (w : World) (hf : ∀ i, i < 10 → f i < 10) : Calls Try.prog 71 #[pV f] w fun e w' => e = .returned (.string (pS f)) ∧ Below w.heap.size w w' := by
  have HF := Lib.hid hf
  have k0 := Lib.hid (Blk.new w 85 (permA fun i => (f i : Int)))
  clear hf
  go_enter Try.func71, Try.ntmps71
  go_wp2_with (refine wpList_load_row rfl 85 _ rfl w.heap.size rfl 85 (permA fun i => (f i : Int)) (0, 0) _ (k0.out.alloc _) Try.underlying85 rfl (by rw [permA_size]; exact size_perm) ?_)
  simp only [permA_zero]
  go_loopw [7] (fun i wr => ∃ (k : Nat), k ≤ 10 ∧ i = .int .i64 k ∧ Blk wr (w.heap.size + 1) 84 (permA (fun j => if j < k then 97 + (f j : Int) else 0)) ∧ Below w.heap.size w wr) (fun i _ => 10 - (intOf i).toNat)
  case atStart =>
    have e1 : (w.alloc (.cells (permA fun i => (f i : Int)) 85)).heap.size = w.heap.size + 1 := by simp
    refine ⟨0, by omega, rfl, ?_, ?_⟩
    · have := Blk.new (w.alloc (.cells (permA fun i => (f i : Int)) 85)) 84 (permA fun _ => 0)
      rw [e1] at this
      simpa using this
    · exact (ext_alloc w _).alloc (by simp) _
  case round =>
    obtain ⟨k, hk, rfl, hb1, hbel⟩ := hrel
    have HB1 := Lib.hid hb1
    by_cases hlt : k < 10
    · have hfk := HF.out k hlt
      have hix := idx_perm (fun i => (f i : Int)) hlt
      have hcell : wr.cell? ⟨w.heap.size + 1, k, none⟩ = some (.int .u8 0) := by rw [hb1.cell, permA_at _ hlt, if_neg (Nat.lt_irrefl k)]
      have hfree := hb1.free k
      clear hb1
      go_wp2_with (go_at_call 62; refine (c_letter _ _ (by omega) (by omega)).mono ?_; rintro e w' ⟨rfl, rfl⟩)
      refine ⟨⟨k + 1, by omega, by go_num, HB1.out.setP hlt _ (fun i _ => ?_), hbel.setCell (p := ⟨w.heap.size + 1, k, none⟩) (by simp) _⟩, by simp [intOf]; omega⟩
      by_cases e : i = k
      · subst e; rw [if_pos rfl, if_pos (by omega)]
      · by_cases e2 : i < k
        · rw [if_neg e, if_pos e2, if_pos (by omega)]
        · rw [if_neg e, if_neg e2, if_neg (by omega)]
    · have e : k = 10 := by omega
      subst e
      have hcv := conv_row (P := Try.prog) (row_of_blk HB1.out) 61 9 5 10 Try.underlying61 Try.underlying5 Try.underlying9
      clear hb1
      go_wp2_with fail
      go_ret
      exact ⟨ret_str (by unfold pS; exact mkS_congr (fun j hj => if_pos hj)), hbel⟩

theorem permR_ok {p : ByteArray} (h : permB p = true) : permR p = .tuple #[pV (pn p), .bool true] := by unfold permR pV; rw [h]; simp
theorem rot_pV (n : Nat) : Value.agg (permA (fun i => ((i : Int) + (n : Int)) % 10)) = pV (fun i => (i + n) % 10) := by
  show Value.agg (permA _) = Value.agg (permA _)
  rw [permA_congr (f := fun i => ((i : Int) + (n : Int)) % 10) (g := fun i => (((i + n) % 10 : Nat) : Int)) (fun i _ => by omega)]
set_option maxHeartbeats 400000 in
set_option maxRecDepth 100000 in
theorem c_turned (wi no : ByteArray) (o : Nat) (w : World) (h : permB wi = true) (ho : o < 10) : Calls Try.prog 115 #[.agg #[.string wi, .string no], .int .i64 o] w fun e w' => e = .returned (pV (rotF wi o)) ∧ Below w.heap.size w w' := by
  have K0 := Lib.hid ((Blk.new w 144 #[.string wi, .string no]).alloc (.cells (permA fun _ => 0) 85))
  have K1 : Hid (Blk ((w.alloc (.cells #[.string wi, .string no] 144)).alloc (.cells (permA fun _ => 0) 85)) (w.heap.size + 1) 85 (permA fun _ => 0)) := by
    have := Blk.new (w.alloc (.cells #[.string wi, .string no] 144)) 85 (permA fun _ => 0)
    rw [World.size_alloc] at this
    exact this
  have B0 : Hid (Below w.heap.size w ((w.alloc (.cells #[.string wi, .string no] 144)).alloc (.cells (permA fun _ => 0) 85))) := (ext_alloc w _).alloc (by simp) _
  have HP := Lib.hid h
  have hsz : wi.size ≤ 10 := by rw [permB_size h]; omega
  clear h
  go_enter Try.func115, Try.ntmps115
  go_wp2_with fail
  simp only [permA_zero]
  refine (c_permOf wi _ (by omega)).mono ?_
  rintro e w1 ⟨rfl, hb1⟩
  rw [permR_ok HP.out]
  have K2 := Lib.hid ((K1.out.ext hb1).alloc (.cells (permA fun i => (pn wi i : Int)) 85))
  have N2 := Lib.hid (Blk.new w1 85 (permA fun i => (pn wi i : Int)))
  have B2 := Lib.hid (ext_trans (ext_trans B0.out hb1) (ext_alloc w1 (.cells (permA fun i => (pn wi i : Int)) 85)))
  have e1 : IntKind.i64.wrap (10 - (o : Int)) = 10 - (o : Int) := IntWalk.i64_in _ (by omega)
  obtain ⟨q, hq⟩ : ∃ q, (10 - o) % 10 = q := ⟨_, rfl⟩
  have e2 : (10 - (o : Int)).tmod 10 = (q : Int) := by rw [Int.tmod_eq_emod_of_nonneg (by omega)]; omega
  have e3 : (10 - (o : Int)) % 10 = (q : Int) := by omega
  have hq10 : q < 10 := by omega
  have HQ := Lib.hid hq
  clear hq
  have P2 := Lib.hid N2.out.permAt
  clear hb1 K0 K1 B0
  go_wp2_with (refine wpList_store_row rfl 85 _ _ rfl w1.heap.size _ rfl rfl 85 _ (heap_alloc_new w1 _) (by rw [permA_size]; exact size_perm) (by simp only [permA_size]; rfl) (permA_one _) ?_; rw [World.setRow_alloc_new])
  refine wp_region_ext_tail 9 (by kernel_rfl) (by kernel_rfl) ?_
  dsimp only [List.take, List.drop]
  repeat (first
    | (go_big_quiet_want
       refine quiet_perm _ rfl w1.heap.size 0 rfl (fun i => (pn wi i : Int)) P2.out ?_
       simp only [Act.put, List.setIfInBounds_toArray, List.set_cons_succ, List.set_cons_zero]
       go_big_quiet_on)
    | go_big_quiet_step ((first
      | (go_at_call 148; exact Ext.callv _ (c_rotation _ _ (by assumption)) (rot_pV _))
      | (go_at_call 108; exact Ext.call _ (c_then _ _ _ (by intro i hi; first | omega | exact pn_lt HP.out (Nat.mod_lt _ (by omega))))))))
  refine wpQuiet_nil ?_
  rintro _ ⟨⟨w4, hb4⟩, rfl⟩
  have K4 := Lib.hid (K2.out.ext hb4)
  have B4 := Lib.hid (ext_trans B2.out hb4)
  clear hb4 e1 e2 e3
  go_wp2_with (refine wpList_store_row rfl 85 _ _ rfl (w.heap.size + 1) _ rfl rfl 85 _ K4.out (by rw [permA_size]; exact size_perm) (by rw [permA_size, permA_size]) (permA_one _) ?_)
  refine bodyPost_ret (results_cell_row Try.results115 _ _ (w.heap.size + 1) 85 _ (0, 0) _ rfl (K4.out.setRow _) Try.underlying85 rfl (by rw [permA_size]; exact size_perm)) rfl ⟨?_, below_row B4.out (by omega) _⟩
  refine congrArg Ending.returned (pV_congr (fun i hi => ?_))
  have := HQ.out
  unfold rotF
  omega
end Go.Proofs.Ytnfeddnkokocfaa
