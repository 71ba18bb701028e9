/- Contracts of reflectorOf and ReflectorValid (impl). -/
import Derived.Test.YtnfeddnkokocfaaPermOf
namespace Go.Proofs.Ytnfeddnkokocfaa
set_option linter.unusedVariables false
set_option linter.unusedSimpArgs false
open Go.RowKit

theorem step_load_row {P : Program} {ops : Array Oper} {o : Oper} {a : Act} {w : World} {K : Act → World → Prop} {Q : Exit → Act → World → Prop} {E : Prop} (hw : Region.wanted o (yielded ops a.tmps) = true) (ty : TypeId) (x : Operand) (ho : o.op = .load ty x)
    (g : Nat) (hx : a.eval x = .pointer (some ⟨g, 0, none⟩)) (t : TypeId) (cs : Array Value) (fr : Nat × Nat) (d : TypeDesc) (hg : w.heap[g]? = some (.cells cs t fr))
    (hu : P.underlying ty = some d) (hd : (match d with | .struct _ | .array _ _ => true | _ => false) = true) (hi : (P.info? ty).map (·.size) = some cs.size)
    (h : K (a.put o.dst (.agg cs)) w) : if Region.wanted o (yielded ops a.tmps) = true then Oper.wp P o a w K Q else E := by
  rw [if_pos hw]; exact wp_load_row ty x ho g hx t cs fr d hg hu hd hi h
theorem step_store_row {P : Program} {ops : Array Oper} {o : Oper} {a : Act} {w : World} {K : Act → World → Prop} {Q : Exit → Act → World → Prop} {E : Prop} (hw : Region.wanted o (yielded ops a.tmps) = true) (ty : TypeId) (x y : Operand) (ho : o.op = .store ty x y)
    (g : Nat) (cells : Array Value) (hx : a.eval x = .pointer (some ⟨g, 0, none⟩)) (hy : a.eval y = .agg cells)
    (t : TypeId) (old : Array Value) (hg : w.heap[g]? = some (.cells old t (0, 0))) (hi : (P.info? ty).map (·.size) = some cells.size)
    (hold : old.size = cells.size) (h1 : cells.all (·.oneCell') = true)
    (h : K (a.put o.dst undef) (w.setRow g cells)) : if Region.wanted o (yielded ops a.tmps) = true then Oper.wp P o a w K Q else E := by
  rw [if_pos hw]; exact wp_store_row ty x y ho g cells hx hy t old hg hi hold h1 h

theorem Blk.setN {w : World} {b : Nat} {t : TypeId} {f g : Nat → Int} {k : Nat} (h : Blk w b t (permA (fun i => if i < k then g i else f i))) (hk : k < 10) : Blk (w.setCell ⟨b, k, none⟩ (.int .u8 (g k))) b t (permA (fun i => if i < k + 1 then g i else f i)) :=
  h.setP hk _ fun i _ => by
    by_cases e : i = k
    · subst e; rw [if_pos rfl, if_pos (by omega)]
    · by_cases e2 : i < k
      · rw [if_neg e, if_pos e2, if_pos (by omega)]
      · rw [if_neg e, if_neg e2, if_neg (by omega)]
theorem Blk.fill10 {w : World} {b : Nat} {t : TypeId} {f : Nat → Int} (h : Blk w b t (permA f)) (g : Nat → Int) : Blk ((((((((((w.setCell ⟨b, 0, none⟩ (.int .u8 (g 0))).setCell ⟨b, 1, none⟩ (.int .u8 (g 1))).setCell ⟨b, 2, none⟩ (.int .u8 (g 2))).setCell ⟨b, 3, none⟩ (.int .u8 (g 3))).setCell ⟨b, 4, none⟩ (.int .u8 (g 4))).setCell ⟨b, 5, none⟩ (.int .u8 (g 5))).setCell ⟨b, 6, none⟩ (.int .u8 (g 6))).setCell ⟨b, 7, none⟩ (.int .u8 (g 7))).setCell ⟨b, 8, none⟩ (.int .u8 (g 8))).setCell ⟨b, 9, none⟩ (.int .u8 (g 9))) b t (permA g) := by
  have h0 : Blk w b t (permA (fun i => if i < 0 then g i else f i)) := by
    rw [permA_congr (g := f) fun i _ => if_neg (by omega)]; exact h
  have := (Blk.setN (Blk.setN (Blk.setN (Blk.setN (Blk.setN (Blk.setN (Blk.setN (Blk.setN (Blk.setN (Blk.setN h0 (k := 0) (by omega)) (k := 1) (by omega)) (k := 2) (by omega)) (k := 3) (by omega)) (k := 4) (by omega)) (k := 5) (by omega)) (k := 6) (by omega)) (k := 7) (by omega)) (k := 8) (by omega)) (k := 9) (by omega))
  rw [permA_congr (g := g) fun i hi => if_pos hi] at this
  exact this
theorem below10 {a w : World} {B b : Nat} (h : Below B a w) (hb : B ≤ b) (g : Nat → Int) : Below B a ((((((((((w.setCell ⟨b, 0, none⟩ (.int .u8 (g 0))).setCell ⟨b, 1, none⟩ (.int .u8 (g 1))).setCell ⟨b, 2, none⟩ (.int .u8 (g 2))).setCell ⟨b, 3, none⟩ (.int .u8 (g 3))).setCell ⟨b, 4, none⟩ (.int .u8 (g 4))).setCell ⟨b, 5, none⟩ (.int .u8 (g 5))).setCell ⟨b, 6, none⟩ (.int .u8 (g 6))).setCell ⟨b, 7, none⟩ (.int .u8 (g 7))).setCell ⟨b, 8, none⟩ (.int .u8 (g 8))).setCell ⟨b, 9, none⟩ (.int .u8 (g 9))) :=
  ((((((((((h.setCell (p := ⟨b, 0, none⟩) hb _).setCell (p := ⟨b, 1, none⟩) hb _).setCell (p := ⟨b, 2, none⟩) hb _).setCell (p := ⟨b, 3, none⟩) hb _).setCell (p := ⟨b, 4, none⟩) hb _).setCell (p := ⟨b, 5, none⟩) hb _).setCell (p := ⟨b, 6, none⟩) hb _).setCell (p := ⟨b, 7, none⟩) hb _).setCell (p := ⟨b, 8, none⟩) hb _).setCell (p := ⟨b, 9, none⟩) hb _)
def reflR (p : ByteArray) : Value := .tuple #[.agg (permA (fun i => if plugB p = true then (pn p i : Int) else 0)), .bool (reflB p)]
set_option maxHeartbeats 1000000 in
theorem c_reflectorOf (p : ByteArray) (w : World) (hs : p.size ≤ 9223372036854775807) : Calls Try.prog 114 #[.string p] w fun e w' => e = .returned (reflR p) ∧ Below w.heap.size w w' := by
  have KN := Lib.hid (Blk.new w 85 (permA fun _ => 0))
  have BN := Lib.hid (ext_alloc w (.cells (permA fun _ => 0) 85))
  cases hp : plugB p with
  | true =>
    have HP := Lib.hid hp
    have HQ := Lib.hid ((plugB_iff p).1 hp).1
    have hr : reflB p = decide (moved p 10 / 2 = 5) := by unfold reflB; rw [hp, Bool.true_and]
    have HR := Lib.hid hr
    clear hp hr
    go_enter Try.func114, Try.ntmps114
    go_wp2_with fail
    simp only [permA_zero]
    refine (c_plugsOf p _ (by omega)).mono ?_
    rintro e w1 ⟨rfl, hb1⟩
    unfold plugR
    rw [HP.out]
    simp only [if_true]
    have K1 := Lib.hid ((KN.out.ext hb1).alloc (.cells (permA fun i => (pn p i : Int)) 85))
    have K2 := Lib.hid (Blk.new w1 85 (permA fun i => (pn p i : Int)))
    have B1 := Lib.hid (ext_trans (ext_trans BN.out hb1) (ext_alloc w1 (.cells (permA fun i => (pn p i : Int)) 85)))
    clear hb1
    go_wp2_with (refine wpList_store_row rfl 85 _ _ rfl w1.heap.size _ rfl rfl 85 _ (heap_alloc_new w1 _) (by rw [permA_size]; exact size_perm) (by simp only [permA_size]; rfl) (permA_one _) ?_; rw [World.setRow_alloc_new])
    generalize w1.alloc (.cells (permA fun i => (pn p i : Int)) 85) = w2 at *
    have c0 : w2.cell? ⟨w1.heap.size, 0, none⟩ = some (.int .u8 (pn p 0 : Int)) := K2.out.cell 0
    have c1 : w2.cell? ⟨w1.heap.size, 1, none⟩ = some (.int .u8 (pn p 1 : Int)) := K2.out.cell 1
    have c2 : w2.cell? ⟨w1.heap.size, 2, none⟩ = some (.int .u8 (pn p 2 : Int)) := K2.out.cell 2
    have c3 : w2.cell? ⟨w1.heap.size, 3, none⟩ = some (.int .u8 (pn p 3 : Int)) := K2.out.cell 3
    have c4 : w2.cell? ⟨w1.heap.size, 4, none⟩ = some (.int .u8 (pn p 4 : Int)) := K2.out.cell 4
    have c5 : w2.cell? ⟨w1.heap.size, 5, none⟩ = some (.int .u8 (pn p 5 : Int)) := K2.out.cell 5
    have c6 : w2.cell? ⟨w1.heap.size, 6, none⟩ = some (.int .u8 (pn p 6 : Int)) := K2.out.cell 6
    have c7 : w2.cell? ⟨w1.heap.size, 7, none⟩ = some (.int .u8 (pn p 7 : Int)) := K2.out.cell 7
    have c8 : w2.cell? ⟨w1.heap.size, 8, none⟩ = some (.int .u8 (pn p 8 : Int)) := K2.out.cell 8
    have c9 : w2.cell? ⟨w1.heap.size, 9, none⟩ = some (.int .u8 (pn p 9 : Int)) := K2.out.cell 9
    have z0 : w2.cell? ⟨w.heap.size, 0, none⟩ = some (.int .u8 0) := K1.out.cell 0
    have z1 : w2.cell? ⟨w.heap.size, 1, none⟩ = some (.int .u8 0) := K1.out.cell 1
    have z2 : w2.cell? ⟨w.heap.size, 2, none⟩ = some (.int .u8 0) := K1.out.cell 2
    have z3 : w2.cell? ⟨w.heap.size, 3, none⟩ = some (.int .u8 0) := K1.out.cell 3
    have z4 : w2.cell? ⟨w.heap.size, 4, none⟩ = some (.int .u8 0) := K1.out.cell 4
    have z5 : w2.cell? ⟨w.heap.size, 5, none⟩ = some (.int .u8 0) := K1.out.cell 5
    have z6 : w2.cell? ⟨w.heap.size, 6, none⟩ = some (.int .u8 0) := K1.out.cell 6
    have z7 : w2.cell? ⟨w.heap.size, 7, none⟩ = some (.int .u8 0) := K1.out.cell 7
    have z8 : w2.cell? ⟨w.heap.size, 8, none⟩ = some (.int .u8 0) := K1.out.cell 8
    have z9 : w2.cell? ⟨w.heap.size, 9, none⟩ = some (.int .u8 0) := K1.out.cell 9
    have q0 := K1.out.free 0
    have q1 := K1.out.free 1
    have q2 := K1.out.free 2
    have q3 := K1.out.free 3
    have q4 := K1.out.free 4
    have q5 := K1.out.free 5
    have q6 := K1.out.free 6
    have q7 := K1.out.free 7
    have q8 := K1.out.free 8
    have q9 := K1.out.free 9
    have HE := Lib.hid (rfl : (#[.int .u8 (pn p 0 : Int), .int .u8 (pn p 1 : Int), .int .u8 (pn p 2 : Int), .int .u8 (pn p 3 : Int), .int .u8 (pn p 4 : Int), .int .u8 (pn p 5 : Int), .int .u8 (pn p 6 : Int), .int .u8 (pn p 7 : Int), .int .u8 (pn p 8 : Int), .int .u8 (pn p 9 : Int)] : Array Value) = permA fun i => (pn p i : Int))
    go_region_law (first
      | (go_simp; go_at_call 147; rw [HE.out]; refine (c_pairs p _ HQ.out).mono ?_; rintro e w3 ⟨rfl, hb3⟩
         have d0 : w3.cell? ⟨w1.heap.size, 0, none⟩ = some (.int .u8 (pn p 0 : Int)) := (K2.out.drew.ext hb3).cell 0
         have d1 : w3.cell? ⟨w1.heap.size, 1, none⟩ = some (.int .u8 (pn p 1 : Int)) := (K2.out.drew.ext hb3).cell 1
         have d2 : w3.cell? ⟨w1.heap.size, 2, none⟩ = some (.int .u8 (pn p 2 : Int)) := (K2.out.drew.ext hb3).cell 2
         have d3 : w3.cell? ⟨w1.heap.size, 3, none⟩ = some (.int .u8 (pn p 3 : Int)) := (K2.out.drew.ext hb3).cell 3
         have d4 : w3.cell? ⟨w1.heap.size, 4, none⟩ = some (.int .u8 (pn p 4 : Int)) := (K2.out.drew.ext hb3).cell 4
         have d5 : w3.cell? ⟨w1.heap.size, 5, none⟩ = some (.int .u8 (pn p 5 : Int)) := (K2.out.drew.ext hb3).cell 5
         have d6 : w3.cell? ⟨w1.heap.size, 6, none⟩ = some (.int .u8 (pn p 6 : Int)) := (K2.out.drew.ext hb3).cell 6
         have d7 : w3.cell? ⟨w1.heap.size, 7, none⟩ = some (.int .u8 (pn p 7 : Int)) := (K2.out.drew.ext hb3).cell 7
         have d8 : w3.cell? ⟨w1.heap.size, 8, none⟩ = some (.int .u8 (pn p 8 : Int)) := (K2.out.drew.ext hb3).cell 8
         have d9 : w3.cell? ⟨w1.heap.size, 9, none⟩ = some (.int .u8 (pn p 9 : Int)) := (K2.out.drew.ext hb3).cell 9
         have y0 : w3.cell? ⟨w.heap.size, 0, none⟩ = some (.int .u8 0) := (K1.out.drew.ext hb3).cell 0
         have y1 : w3.cell? ⟨w.heap.size, 1, none⟩ = some (.int .u8 0) := (K1.out.drew.ext hb3).cell 1
         have y2 : w3.cell? ⟨w.heap.size, 2, none⟩ = some (.int .u8 0) := (K1.out.drew.ext hb3).cell 2
         have y3 : w3.cell? ⟨w.heap.size, 3, none⟩ = some (.int .u8 0) := (K1.out.drew.ext hb3).cell 3
         have y4 : w3.cell? ⟨w.heap.size, 4, none⟩ = some (.int .u8 0) := (K1.out.drew.ext hb3).cell 4
         have y5 : w3.cell? ⟨w.heap.size, 5, none⟩ = some (.int .u8 0) := (K1.out.drew.ext hb3).cell 5
         have y6 : w3.cell? ⟨w.heap.size, 6, none⟩ = some (.int .u8 0) := (K1.out.drew.ext hb3).cell 6
         have y7 : w3.cell? ⟨w.heap.size, 7, none⟩ = some (.int .u8 0) := (K1.out.drew.ext hb3).cell 7
         have y8 : w3.cell? ⟨w.heap.size, 8, none⟩ = some (.int .u8 0) := (K1.out.drew.ext hb3).cell 8
         have y9 : w3.cell? ⟨w.heap.size, 9, none⟩ = some (.int .u8 0) := (K1.out.drew.ext hb3).cell 9
         have r0 := (K1.out.drew.ext hb3).free 0
         have r1 := (K1.out.drew.ext hb3).free 1
         have r2 := (K1.out.drew.ext hb3).free 2
         have r3 := (K1.out.drew.ext hb3).free 3
         have r4 := (K1.out.drew.ext hb3).free 4
         have r5 := (K1.out.drew.ext hb3).free 5
         have r6 := (K1.out.drew.ext hb3).free 6
         have r7 := (K1.out.drew.ext hb3).free 7
         have r8 := (K1.out.drew.ext hb3).free 8
         have r9 := (K1.out.drew.ext hb3).free 9))
    all_goals
      have NF := Lib.hid ((K1.out.drew.ext hb3).fill10 (fun i => (pn p i : Int)))
      have BF := Lib.hid (below10 (ext_trans (ext_trans B1.out (Below.refl _ _).drew) hb3) (Nat.le_refl _) (fun i => (pn p i : Int)))
      have hrb : (((moved p 10 : Nat) : Int) / 2 == 5) = reflB p := by
        rw [HR.out, Bool.eq_iff_iff, beq_iff_eq, decide_eq_true_eq]
        omega
      have HRB := Lib.hid hrb
      clear hrb
      go_wp2_with fail
      have hnf := NF.out
      have hbf := BF.out
      have hrb := HRB.out
      generalize ((((((((((w3.setCell ⟨w.heap.size, 0, none⟩ (.int .u8 (pn p 0 : Int))).setCell ⟨w.heap.size, 1, none⟩ (.int .u8 (pn p 1 : Int))).setCell ⟨w.heap.size, 2, none⟩ (.int .u8 (pn p 2 : Int))).setCell ⟨w.heap.size, 3, none⟩ (.int .u8 (pn p 3 : Int))).setCell ⟨w.heap.size, 4, none⟩ (.int .u8 (pn p 4 : Int))).setCell ⟨w.heap.size, 5, none⟩ (.int .u8 (pn p 5 : Int))).setCell ⟨w.heap.size, 6, none⟩ (.int .u8 (pn p 6 : Int))).setCell ⟨w.heap.size, 7, none⟩ (.int .u8 (pn p 7 : Int))).setCell ⟨w.heap.size, 8, none⟩ (.int .u8 (pn p 8 : Int))).setCell ⟨w.heap.size, 9, none⟩ (.int .u8 (pn p 9 : Int))) = WF at hnf hbf ⊢
      refine bodyPost_ret (results_two Try.results114 _ _ w.heap.size 85 _ (0, 0) _ rfl hnf Try.underlying85 rfl (by rw [permA_size]; exact size_perm)) rfl ⟨?_, hbf⟩
      unfold reflR
      rw [HP.out, ← hrb]
      simp only [if_true]
      rfl
  | false =>
    have HP := Lib.hid hp
    have hno : reflB p = false := by unfold reflB; rw [hp]; rfl
    have HNO := Lib.hid hno
    clear hp hno
    go_enter Try.func114, Try.ntmps114
    go_wp2_with fail
    simp only [permA_zero]
    refine (c_plugsOf p _ (by omega)).mono ?_
    rintro e w1 ⟨rfl, hb1⟩
    unfold plugR
    rw [HP.out]
    simp only [Bool.false_eq_true, if_false]
    have K1 := Lib.hid ((KN.out.ext hb1).alloc (.cells (permA fun _ => 0) 85))
    have K2 := Lib.hid (Blk.new w1 85 (permA fun _ => 0))
    have B1 := Lib.hid (ext_trans (ext_trans BN.out hb1) (ext_alloc w1 (.cells (permA fun _ => 0) 85)))
    clear hb1
    go_wp2_with (refine wpList_store_row rfl 85 _ _ rfl w1.heap.size _ rfl rfl 85 _ (heap_alloc_new w1 _) (by rw [permA_size]; exact size_perm) (by simp only [permA_size]; rfl) (permA_one _) ?_; rw [World.setRow_alloc_new])
    generalize w1.alloc (.cells (permA fun _ => 0) 85) = w2 at *
    have c0 : w2.cell? ⟨w1.heap.size, 0, none⟩ = some (.int .u8 0) := K2.out.cell 0
    have c1 : w2.cell? ⟨w1.heap.size, 1, none⟩ = some (.int .u8 0) := K2.out.cell 1
    have c2 : w2.cell? ⟨w1.heap.size, 2, none⟩ = some (.int .u8 0) := K2.out.cell 2
    have c3 : w2.cell? ⟨w1.heap.size, 3, none⟩ = some (.int .u8 0) := K2.out.cell 3
    have c4 : w2.cell? ⟨w1.heap.size, 4, none⟩ = some (.int .u8 0) := K2.out.cell 4
    have c5 : w2.cell? ⟨w1.heap.size, 5, none⟩ = some (.int .u8 0) := K2.out.cell 5
    have c6 : w2.cell? ⟨w1.heap.size, 6, none⟩ = some (.int .u8 0) := K2.out.cell 6
    have c7 : w2.cell? ⟨w1.heap.size, 7, none⟩ = some (.int .u8 0) := K2.out.cell 7
    have c8 : w2.cell? ⟨w1.heap.size, 8, none⟩ = some (.int .u8 0) := K2.out.cell 8
    have c9 : w2.cell? ⟨w1.heap.size, 9, none⟩ = some (.int .u8 0) := K2.out.cell 9
    have z0 : w2.cell? ⟨w.heap.size, 0, none⟩ = some (.int .u8 0) := K1.out.cell 0
    have z1 : w2.cell? ⟨w.heap.size, 1, none⟩ = some (.int .u8 0) := K1.out.cell 1
    have z2 : w2.cell? ⟨w.heap.size, 2, none⟩ = some (.int .u8 0) := K1.out.cell 2
    have z3 : w2.cell? ⟨w.heap.size, 3, none⟩ = some (.int .u8 0) := K1.out.cell 3
    have z4 : w2.cell? ⟨w.heap.size, 4, none⟩ = some (.int .u8 0) := K1.out.cell 4
    have z5 : w2.cell? ⟨w.heap.size, 5, none⟩ = some (.int .u8 0) := K1.out.cell 5
    have z6 : w2.cell? ⟨w.heap.size, 6, none⟩ = some (.int .u8 0) := K1.out.cell 6
    have z7 : w2.cell? ⟨w.heap.size, 7, none⟩ = some (.int .u8 0) := K1.out.cell 7
    have z8 : w2.cell? ⟨w.heap.size, 8, none⟩ = some (.int .u8 0) := K1.out.cell 8
    have z9 : w2.cell? ⟨w.heap.size, 9, none⟩ = some (.int .u8 0) := K1.out.cell 9
    have q0 := K1.out.free 0
    have q1 := K1.out.free 1
    have q2 := K1.out.free 2
    have q3 := K1.out.free 3
    have q4 := K1.out.free 4
    have q5 := K1.out.free 5
    have q6 := K1.out.free 6
    have q7 := K1.out.free 7
    have q8 := K1.out.free 8
    have q9 := K1.out.free 9
    go_region_law (fail)
    all_goals
      have NF := Lib.hid (K1.out.fill10 (fun _ => 0)).drew
      have BF := Lib.hid (below10 B1.out (Nat.le_refl _) (fun _ => 0)).drew
      go_wp2_with fail
      have hnf := NF.out
      have hbf := BF.out
      generalize ((((((((((w2.setCell ⟨w.heap.size, 0, none⟩ (.int .u8 0)).setCell ⟨w.heap.size, 1, none⟩ (.int .u8 0)).setCell ⟨w.heap.size, 2, none⟩ (.int .u8 0)).setCell ⟨w.heap.size, 3, none⟩ (.int .u8 0)).setCell ⟨w.heap.size, 4, none⟩ (.int .u8 0)).setCell ⟨w.heap.size, 5, none⟩ (.int .u8 0)).setCell ⟨w.heap.size, 6, none⟩ (.int .u8 0)).setCell ⟨w.heap.size, 7, none⟩ (.int .u8 0)).setCell ⟨w.heap.size, 8, none⟩ (.int .u8 0)).setCell ⟨w.heap.size, 9, none⟩ (.int .u8 0)).drew = WF at hnf hbf ⊢
      clear NF BF
      refine bodyPost_ret (results_two Try.results114 _ _ w.heap.size 85 _ (0, 0) _ rfl hnf Try.underlying85 rfl (by rw [permA_size]; exact size_perm)) rfl ⟨?_, hbf⟩
      unfold reflR
      rw [HP.out, HNO.out]
      rfl
theorem c_ReflectorValid (p : ByteArray) (w : World) (hs : p.size ≤ 9223372036854775807) : Calls Try.prog 168 #[.string p] w fun e w' => e = .returned (.bool (reflB p)) ∧ Below w.heap.size w w' := by
  go_enter Try.func168, Try.ntmps168
  go_wp2_with fail
  refine (c_reflectorOf p _ (by omega)).mono ?_
  rintro e w1 ⟨rfl, hb1⟩
  unfold reflR
  generalize (fun i => if plugB p = true then (pn p i : Int) else 0) = F
  have HB := Lib.hid hb1
  clear hb1
  go_wp2_with (refine wpList_store_row rfl 85 _ _ rfl w1.heap.size _ rfl rfl 85 _ (heap_alloc_new w1 _) (by rw [permA_size]; exact size_perm) (by simp only [permA_size]; rfl) (permA_one _) ?_; rw [World.setRow_alloc_new])
  go_ret
  exact ⟨rfl, ext_trans HB.out (ext_alloc _ _)⟩
end Go.Proofs.Ytnfeddnkokocfaa
