/- Contracts of permOf, PermValid, plugsOf, reflectorOf, ReflectorValid (impl). -/
import Derived.Test.YtnfeddnkokocfaaPermFns
import Derived.Stop.BytesEq
namespace Go.Proofs.Ytnfeddnkokocfaa
set_option linter.unusedVariables false
set_option linter.unusedSimpArgs false
open Go.RowKit

/-- the letters met in the first k, as a mask -/
def seenM (p : ByteArray) : Nat → Nat
  | 0 => 0
  | k + 1 => seenM p k ||| 2 ^ (pn p k)
theorem seenM_bit (p : ByteArray) (k m : Nat) : (seenM p k).testBit m = true ↔ ∃ j, j < k ∧ pn p j = m := by
  induction k with
  | zero => simp [seenM]
  | succ k ih =>
    simp only [seenM, Nat.testBit_or, Bool.or_eq_true, ih, Nat.testBit_two_pow, decide_eq_true_eq]
    constructor
    · rintro (⟨j, hj, e⟩ | e)
      · exact ⟨j, by omega, e⟩
      · exact ⟨k, by omega, e⟩
    · rintro ⟨j, hj, e⟩
      by_cases h : j = k
      · subst h; exact .inr e
      · exact .inl ⟨j, by omega, e⟩
theorem seenM_lt (p : ByteArray) (k : Nat) (h : ∀ j, j < k → pn p j < 10) : seenM p k < 1024 := by
  induction k with
  | zero => simp [seenM]
  | succ k ih =>
    simp only [seenM]
    refine Nat.or_lt_two_pow (n := 10) (ih fun j hj => h j (by omega)) ?_
    exact Nat.pow_lt_pow_right (by omega) (h k (by omega))
theorem seen_test (s m : Nat) : ((s / 2 ^ m) &&& 1 = 1) ↔ s.testBit m = true := by
  rw [Nat.testBit_eq_decide_div_mod_eq, Nat.and_one_is_mod, decide_eq_true_eq]
theorem seen_bits (s m : Nat) (hs : s < 1024) : (bits .and .i64 ((s : Int) / 2 ^ m) 1 == 1) = s.testBit m := by
  have e1 : (s : Int) / 2 ^ m = ((s / 2 ^ m : Nat) : Int) := by norm_cast
  have h1 : s / 2 ^ m ≤ s := Nat.div_le_self _ _
  rw [e1, show (1 : Int) = ((1 : Nat) : Int) from rfl, and_nat _ _ (Nat.lt_of_le_of_lt h1 (Nat.lt_of_lt_of_le hs (by decide))) (by decide)]
  cases hb : s.testBit m with
  | true => rw [(seen_test s m).2 hb]; rfl
  | false =>
    rw [beq_eq_false_iff_ne]
    intro h
    have : (s / 2 ^ m) &&& 1 = 1 := by exact_mod_cast h
    rw [(seen_test s m).1 this] at hb
    cases hb
theorem pow_wrap10 {n : Nat} (h : n < 10) : wrap64 ((2 : Int) ^ n) = ((2 ^ n : Nat) : Int) := by
  have h1 : 2 ^ n ≤ 2 ^ 9 := Nat.pow_le_pow_right (by omega) (by omega)
  have e : (2 : Int) ^ n = ((2 ^ n : Nat) : Int) := by norm_cast
  rw [e]
  generalize 2 ^ n = q at h1 ⊢
  have : q ≤ 512 := h1
  have := IntWalk.i64_in (q : Int) (by omega)
  rw [IntKind.wrap_i64] at this
  unfold wrap64
  omega
theorem or_seen (p : ByteArray) (k : Nat) (hs : seenM p k < 1024) (hp : pn p k < 10) : bits .or .i64 ((seenM p k : Nat) : Int) ((2 ^ pn p k : Nat) : Int) = ((seenM p (k + 1) : Nat) : Int) := by
  have h1 : 2 ^ pn p k ≤ 2 ^ 9 := Nat.pow_le_pow_right (by omega) (by omega)
  rw [or_nat _ _ (Nat.lt_of_lt_of_le hs (by decide)) (Nat.lt_of_le_of_lt h1 (by decide))]
  rfl
theorem built_zero (a : Act) : (Try.prog.built 85 ((#[] : Array (Nat × Operand)).map fun (i, x) => (i, a.eval x)).toList).getD #[] = permA (fun _ => 0) := by kernel_rfl
def permR (p : ByteArray) : Value := .tuple #[.agg (permA (fun i => if permB p = true then (pn p i : Int) else 0)), .bool (permB p)]
theorem load_row_g {P : Program} {ops : Array Oper} {rest : List Oper} {o : Oper} {a : Act} {w : World} {Q : Exit → Act → World → Prop} (hw : Region.wanted o (yielded ops a.tmps) = true) (ty : TypeId) (x : Operand) (ho : o.op = .load ty x)
    (g : Nat) (hx : a.eval x = .pointer (some ⟨g, 0, none⟩)) (t : TypeId) (cs : Array Value) (fr : Nat × Nat) (d : TypeDesc) (hg : w.heap[g]? = some (.cells cs t fr))
    (hu : P.underlying ty = some d) (hd : (match d with | .struct _ | .array _ _ => true | _ => false) = true) (hi : (P.info? ty).map (·.size) = some cs.size)
    (h : wpList P ops Q rest (a.put o.dst (.agg cs)) w) : wpList P ops Q (o :: rest) a w :=
  wpList_step fun _ hK => by rw [if_pos hw]; exact wp_load_row ty x ho g hx t cs fr d hg hu hd hi (hK _ _ h)
theorem results_two {P : Program} {fn : Func} {p q : Tmp} {ty : TypeId} (h : fn.results = #[.cell p ty, .tmp q]) (tmps : Array Value) (w : World) (g : Nat) (t : TypeId) (cs : Array Value) (fr : Nat × Nat) (d : TypeDesc)
    (hp : tmps.getD p undef = .pointer (some ⟨g, 0, none⟩)) (hg : w.heap[g]? = some (.cells cs t fr))
    (hu : P.underlying ty = some d) (hd : (match d with | .struct _ | .array _ _ => true | _ => false) = true) (hi : (P.info? ty).map (·.size) = some cs.size) :
    (results fn tmps).run P w = .ok (.tuple #[.agg cs, tmps.getD q undef]) w := by
  have hp' : tmps[p]?.getD undef = .pointer (some ⟨g, 0, none⟩) := by simpa using hp
  simp [results, h, hp', asAddr, run_loadVar_row w g t ty cs fr d hg hu hd hi]
set_option maxHeartbeats 400000 in
theorem c_permOf (p : ByteArray) (w : World) (hs : p.size ≤ 9223372036854775807) : Calls Try.prog 96 #[.string p] w fun e w' => e = .returned (permR p) ∧ Below w.heap.size w w' := by
  have k0 := (Blk.new w 85 (permA fun _ => 0)).alloc (.cells (permA fun _ => 0) 85)
  have k1 := Blk.new (w.alloc (.cells (permA fun _ => 0) 85)) 85 (permA fun _ => 0)
  rw [show (w.alloc (.cells (permA fun _ => 0) 85)).heap.size = w.heap.size + 1 by simp] at k1
  have hb : Below w.heap.size w ((w.alloc (.cells (permA fun _ => 0) 85)).alloc (.cells (permA fun _ => 0) 85)) := (ext_alloc w _).alloc (by simp) _
  have K0 := Lib.hid k0
  have K1 := Lib.hid k1
  have HB := Lib.hid hb
  clear k0 k1 hb
  by_cases h10 : p.size = 10
  · go_enter Try.func96, Try.ntmps96
    go_wp2_with fail
    simp only [permA_zero]
    go_loopw [5, 11] (fun s i wr => ∃ k : Nat, k ≤ 10 ∧ i = .int .i64 k ∧ s = .int .i64 (seenM p k) ∧ (∀ j, j < k → 97 ≤ bt p j ∧ bt p j < 107) ∧ (∀ i, i < k → ∀ j, j < i → bt p i ≠ bt p j) ∧ Blk wr (w.heap.size + 1) 85 (permA (fun j => if j < k then (pn p j : Int) else 0)) ∧ Blk wr w.heap.size 85 (permA (fun _ => 0)) ∧ Below w.heap.size w wr) (fun _ i _ => 10 - (intOf i).toNat)
    case atStart => exact ⟨0, by omega, rfl, rfl, fun j hj => absurd hj (by omega), fun j hj => absurd hj (by omega), by simpa using K1.out, K0.out, HB.out⟩
    case round =>
      obtain ⟨k, hk, rfl, rfl, hl, hd, hb1, hb2, hbel⟩ := hrel
      have HL := Lib.hid hl
      have HD := Lib.hid hd
      have HB1 := Lib.hid hb1
      have HB2 := Lib.hid hb2
      have hsl := seenM_lt p k (fun j hj => by have := hl j hj; unfold pn; omega)
      clear hl hd
      by_cases hlt : k < 10
      · have hks : k < p.size := by omega
        have hbk := bt_get p k hks
        have hbr := bt_range p k
        by_cases hL : 97 ≤ bt p k ∧ bt p k < 107
        · have hpn : bt p k - 97 = ((pn p k : Nat) : Int) := by unfold pn; omega
          have hpl : pn p k < 10 := by omega
          have hil := isL_true hL.1 hL.2
          have hcell : wr.cell? ⟨w.heap.size + 1, k, none⟩ = some (.int .u8 0) := by
            rw [hb1.cell, permA_at _ hlt, if_neg (Nat.lt_irrefl k)]
          have hfree := hb1.free k
          clear hb1 hb2
          have hnum := fun w' => c_number (bt p k) w' hL.1 (by omega)
          rw [hpn] at hnum
          have HN := Lib.hid hnum
          clear hnum
          have hsb := seen_bits (seenM p k) (pn p k) hsl
          have HP := Lib.hid hpn
          have HO := Lib.hid (or_seen p k hsl hpl)
          have HPW := Lib.hid (pow_wrap10 hpl)
          clear hpn
          cases hdup : (seenM p k).testBit (pn p k) with
          | true =>
            rw [hdup] at hsb
            have HDU := Lib.hid hdup
            clear hdup
            go_wp2_with (first | (go_at_call 94; refine (c_isLetter _ _).mono ?_; rintro e w' ⟨rfl, rfl⟩; rw [hil]) | (go_at_call 83; refine (HN.out _).mono ?_; rintro e w' ⟨rfl, rfl⟩) | (refine wpList_build rfl 85 #[] rfl (by kernel_rfl) ?_; rw [built_zero]) | (refine wpList_store_row rfl 85 _ _ rfl w.heap.size _ rfl rfl 85 _ HB2.out (by rw [permA_size]; exact size_perm) (by simp only [permA_size]) (permA_one _) ?_))
            have hno : permB p = false := by
              rw [Bool.eq_false_iff]
              intro hp
              obtain ⟨j, hj, e⟩ := (seenM_bit p k _).1 HDU.out
              have := pn_inj hp (by omega) hlt e
              omega
            refine bodyPost_ret (results_two Try.results96 _ _ w.heap.size 85 _ (0, 0) _ rfl (HB2.out.setRow (permA fun _ => 0)) Try.underlying85 rfl (by rw [permA_size]; exact size_perm)) rfl ⟨?_, below_row hbel (Nat.le_refl _) _⟩
            unfold permR
            rw [hno]
            rfl
          | false =>
            rw [hdup] at hsb
            have HDU := Lib.hid hdup
            clear hdup
            go_wp2_with (first | (go_at_call 94; refine (c_isLetter _ _).mono ?_; rintro e w' ⟨rfl, rfl⟩; rw [hil]) | (go_at_call 83; refine (HN.out _).mono ?_; rintro e w' ⟨rfl, rfl⟩))
            have hnd : ∀ j, j < k → pn p j ≠ pn p k := fun j hj e => by
              have := (seenM_bit p k (pn p k)).2 ⟨j, hj, e⟩
              rw [HDU.out] at this
              cases this
            refine ⟨⟨k + 1, by omega, by go_num, by rw [HPW.out, HO.out], fun j hj => ?_, fun i hi j hj => ?_, HB1.out.setP hlt _ (fun i _ => ?_), HB2.out.far (p := ⟨w.heap.size + 1, k, none⟩) (by simp) _, hbel.setCell (p := ⟨w.heap.size + 1, k, none⟩) (by simp) _⟩, by simp [intOf]; omega⟩
            · by_cases e : j = k
              · subst e; exact hL
              · exact HL.out j (by omega)
            · by_cases e : i = k
              · subst e
                intro he
                exact hnd j hj (by unfold pn; rw [he])
              · exact HD.out i (by omega) j hj
            · by_cases e : i = k
              · subst e; rw [if_pos rfl, if_pos (by omega)]
              · by_cases e2 : i < k
                · rw [if_neg e, if_pos e2, if_pos (by omega)]
                · rw [if_neg e, if_neg e2, if_neg (by omega)]
        · have hil := isL_false hL
          clear hb1 hb2
          go_wp2_with (first | (go_at_call 94; refine (c_isLetter _ _).mono ?_; rintro e w' ⟨rfl, rfl⟩; rw [hil]) | (refine wpList_build rfl 85 #[] rfl (by kernel_rfl) ?_; rw [built_zero]) | (refine wpList_store_row rfl 85 _ _ rfl w.heap.size _ rfl rfl 85 _ HB2.out (by rw [permA_size]; exact size_perm) (by simp only [permA_size]) (permA_one _) ?_))
          have hno : permB p = false := by
            rw [Bool.eq_false_iff]
            intro hp
            exact hL (permB_bt hp hlt)
          refine bodyPost_ret (results_two Try.results96 _ _ w.heap.size 85 _ (0, 0) _ rfl (HB2.out.setRow (permA fun _ => 0)) Try.underlying85 rfl (by rw [permA_size]; exact size_perm)) rfl ⟨?_, below_row hbel (Nat.le_refl _) _⟩
          unfold permR
          rw [hno]
          rfl
      · have e : k = 10 := by omega
        subst e
        clear hb1 hb2
        have hyes : permB p = true := (permB_iff p).2 ⟨h10, HL.out, HD.out⟩
        have HC := Lib.hid (permA_congr (f := fun j => if j < 10 then (pn p j : Int) else 0) (g := fun i => if permB p = true then (pn p i : Int) else 0) (fun i hi => by rw [if_pos hi, if_pos hyes]))
        have HY := Lib.hid hyes
        clear hyes
        go_wp2_with (first | (refine wpList_load_row rfl 85 _ rfl (w.heap.size + 1) rfl 85 _ (0, 0) _ HB1.out Try.underlying85 rfl (by rw [permA_size]; exact size_perm) ?_) | (refine wpList_store_row rfl 85 _ _ rfl w.heap.size _ rfl rfl 85 _ HB2.out (by rw [permA_size]; exact size_perm) (by simp only [permA_size]) (permA_one _) ?_))
        refine bodyPost_ret (results_two Try.results96 _ _ w.heap.size 85 _ (0, 0) _ rfl (HB2.out.setRow (permA fun j => if j < 10 then (pn p j : Int) else 0)) Try.underlying85 rfl (by rw [permA_size]; exact size_perm)) rfl ⟨?_, below_row hbel (Nat.le_refl _) _⟩
        unfold permR
        rw [← HC.out, HY.out]
        rfl
  · have t1 : ((p.size : Int) == 10) = false := by rw [beq_eq_false_iff_ne]; omega
    go_enter Try.func96, Try.ntmps96
    go_upto_region 3 with (fail)
    simp only [permA_zero]
    go_wp2_with (first | (refine wpList_load_row rfl 85 _ rfl (w.heap.size + 1) rfl 85 (permA fun _ => 0) (0, 0) _ K1.out Try.underlying85 rfl (by rw [permA_size]; exact size_perm) ?_) | (refine wpList_store_row rfl 85 _ _ rfl w.heap.size (permA fun _ => 0) rfl rfl 85 _ K0.out (by rw [permA_size]; exact size_perm) (by simp only [permA_size]) (permA_one _) ?_))
    have hno : permB p = false := by
      rw [Bool.eq_false_iff]
      intro hp
      exact h10 (permB_size hp)
    refine bodyPost_ret (results_two Try.results96 _ _ w.heap.size 85 _ (0, 0) _ rfl (K0.out.setRow (permA fun _ => 0)) Try.underlying85 rfl (by rw [permA_size]; exact size_perm)) rfl ⟨?_, below_row HB.out (Nat.le_refl _) _⟩
    unfold permR
    rw [hno]
    rfl
theorem c_PermValid (p : ByteArray) (w : World) (hs : p.size ≤ 9223372036854775807) : Calls Try.prog 177 #[.string p] w fun e w' => e = .returned (.bool (permB p)) ∧ Below w.heap.size w w' := by
  go_enter Try.func177, Try.ntmps177
  go_wp2_with fail
  refine (c_permOf p _ (by omega)).mono ?_
  rintro e w1 ⟨rfl, hb1⟩
  unfold permR
  generalize (fun i => if permB p = true then (pn p i : Int) else 0) = F
  have HB := Lib.hid hb1
  clear hb1
  go_wp2_with (refine wpList_store_row rfl 85 _ _ rfl w1.heap.size _ rfl rfl 85 _ (heap_alloc_new w1 _) (by rw [permA_size]; exact size_perm) (by simp only [permA_size]; rfl) (permA_one _) ?_; rw [World.setRow_alloc_new])
  go_ret
  exact ⟨rfl, ext_trans HB.out (ext_alloc _ _)⟩
theorem perm_eq {f g : Nat → Int} : permA f = permA g ↔ ∀ i, i < 10 → f i = g i := by
  constructor
  · intro h i hi
    have h1 := permA_at f hi
    rw [h, permA_at g hi] at h1
    injection h1 with h1
    injection h1 with _ h1
    exact h1.symm
  · exact permA_congr
theorem permA_cells (f : Nat → Nat) (hf : ∀ i, i < 10 → f i < 256) : permA (fun i => (f i : Int)) = (((List.range 10).map (fun i => UInt8.ofNat (f i))).map Extern.Stop.cell).toArray := by
  unfold permA
  rw [List.map_map]
  congr 1
  refine List.map_congr_left fun i hi => ?_
  have := hf i (List.mem_range.1 hi)
  simp [Extern.Stop.cell]
  omega
theorem neq_perm (f g : Nat → Nat) (hf : ∀ i, i < 10 → f i < 256) (hg : ∀ i, i < 10 → g i < 256) (b : Bool) (hb : allB 10 (fun i => decide (f i = g i)) = b) (w : World) :
    (binOp .neq 85 (.agg (permA fun i => (f i : Int))) (.agg (permA fun i => (g i : Int)))).run Try.prog w = .ok (.bool (!b)) w := by
  rw [permA_cells f hf, permA_cells g hg, run_neq_struct, run_equalIn_bytes w 9998 85 5 10 Try.underlying85 Try.underlying5 (fun w => by kernel_rfl) _ _ (by simp) (by simp)]
  have e : (((List.range 10).map fun i => UInt8.ofNat (f i)) == ((List.range 10).map fun i => UInt8.ofNat (g i))) = b := by
    rw [← hb, Bool.eq_iff_iff, allB_iff, beq_iff_eq]
    simp only [decide_eq_true_eq]
    constructor
    · intro h i hi
      have h1 : ((List.range 10).map fun i => UInt8.ofNat (f i))[i]? = ((List.range 10).map fun i => UInt8.ofNat (g i))[i]? := by rw [h]
      simp [hi] at h1
      have h2 := congrArg UInt8.toNat h1
      have := hf i hi
      have := hg i hi
      simp at h2
      omega
    · intro h
      refine List.map_congr_left fun i hi => ?_
      rw [h i (List.mem_range.1 hi)]
  rw [e]
  rfl
theorem guard_perm : Try.prog.eqGuardType Try.prog.depth 85 = false := by kernel_rfl
def plugR (p : ByteArray) : Value := .tuple #[.agg (permA (fun i => if plugB p = true then (pn p i : Int) else 0)), .bool (plugB p)]
set_option maxHeartbeats 400000 in
theorem c_plugsOf (p : ByteArray) (w : World) (hs : p.size ≤ 9223372036854775807) : Calls Try.prog 113 #[.string p] w fun e w' => e = .returned (plugR p) ∧ Below w.heap.size w w' := by
  have KN := Lib.hid (Blk.new w 85 (permA fun _ => 0))
  have BN := Lib.hid (ext_alloc w (.cells (permA fun _ => 0) 85))
  cases hp : permB p with
  | true =>
    have HP := Lib.hid hp
    have HL := Lib.hid (fun i (hi : i < 10) => pn_lt hp hi)
    clear hp
    go_enter Try.func113, Try.ntmps113
    go_wp2_with fail
    simp only [permA_zero]
    refine (c_permOf p _ (by omega)).mono ?_
    rintro e w1 ⟨rfl, hb1⟩
    unfold permR
    rw [HP.out]
    simp only [if_true]
    have K1 := Lib.hid ((KN.out.ext hb1).alloc (.cells (permA fun i => (pn p i : Int)) 85))
    have K2 := Lib.hid (Blk.new w1 85 (permA fun i => (pn p i : Int)))
    have B1 := Lib.hid (ext_trans (ext_trans BN.out hb1) (ext_alloc w1 (.cells (permA fun i => (pn p i : Int)) 85)))
    clear hb1
    go_wp2_with (first | (refine wpList_store_row rfl 85 _ _ rfl w1.heap.size _ rfl rfl 85 _ (heap_alloc_new w1 _) (by rw [permA_size]; exact size_perm) (by simp only [permA_size]; rfl) (permA_one _) ?_; rw [World.setRow_alloc_new]) | (refine load_row_g rfl 85 _ rfl w1.heap.size rfl 85 _ (0, 0) _ K2.out Try.underlying85 rfl (by rw [permA_size]; exact size_perm) ?_))
    refine (c_then (pn p) (pn p) _ (fun i hi => HL.out i hi)).mono ?_
    rintro e w2 ⟨rfl, hb2⟩
    have K1' := Lib.hid (K1.out.ext hb2)
    have K2' := Lib.hid (K2.out.ext hb2)
    have B2 := Lib.hid (ext_trans B1.out hb2)
    clear hb2
    go_wp2_with fail
    refine (c_identity _).mono ?_
    rintro e w3 ⟨rfl, hb3⟩
    have L1 := Lib.hid (K1'.out.ext hb3)
    have L2 := Lib.hid (K2'.out.ext hb3)
    have B3 := Lib.hid (ext_trans B2.out hb3)
    clear hb3
    have hq := guard_perm
    have hsa : allB 10 (fun i => decide (pn p (pn p i) = i)) = plugB p := by unfold plugB; rw [HP.out, Bool.true_and]
    have hne := neq_perm (fun i => pn p (pn p i)) (fun i => i) (fun i hi => by have := HL.out _ (HL.out i hi); omega) (fun i hi => by omega) _ hsa
    clear hsa
    cases hpl : plugB p with
    | true =>
      rw [hpl] at hne
      have HPL := Lib.hid hpl
      clear hpl
      go_wp2_with (first | (refine wpList_load_row rfl 85 _ rfl w1.heap.size rfl 85 _ (0, 0) _ L2.out Try.underlying85 rfl (by rw [permA_size]; exact size_perm) ?_) | (refine wpList_store_row rfl 85 _ _ rfl w.heap.size _ rfl rfl 85 _ L1.out (by rw [permA_size]; exact size_perm) (by simp only [permA_size]) (permA_one _) ?_))
      refine bodyPost_ret (results_two Try.results113 _ _ w.heap.size 85 _ (0, 0) _ rfl (L1.out.setRow (permA fun i => (pn p i : Int))) Try.underlying85 rfl (by rw [permA_size]; exact size_perm)) rfl ⟨?_, below_row B3.out (Nat.le_refl _) _⟩
      unfold plugR
      rw [HPL.out]
      rfl
    | false =>
      rw [hpl] at hne
      have HPL := Lib.hid hpl
      clear hpl
      go_wp2_with (first | (refine wpList_build rfl 85 #[] rfl (by kernel_rfl) ?_; rw [built_zero]) | (refine wpList_store_row rfl 85 _ _ rfl w.heap.size _ rfl rfl 85 _ L1.out (by rw [permA_size]; exact size_perm) (by simp only [permA_size]) (permA_one _) ?_))
      refine bodyPost_ret (results_two Try.results113 _ _ w.heap.size 85 _ (0, 0) _ rfl (L1.out.setRow (permA fun _ => 0)) Try.underlying85 rfl (by rw [permA_size]; exact size_perm)) rfl ⟨?_, below_row B3.out (Nat.le_refl _) _⟩
      unfold plugR
      rw [HPL.out]
      rfl
  | false =>
    have HP := Lib.hid hp
    have hno : plugB p = false := by unfold plugB; rw [hp]; rfl
    have HNO := Lib.hid hno
    clear hp hno
    go_enter Try.func113, Try.ntmps113
    go_wp2_with fail
    simp only [permA_zero]
    refine (c_permOf p _ (by omega)).mono ?_
    rintro e w1 ⟨rfl, hb1⟩
    unfold permR
    rw [HP.out]
    simp only [Bool.false_eq_true, if_false]
    have K1 := Lib.hid ((KN.out.ext hb1).alloc (.cells (permA fun _ => 0) 85))
    have K2 := Lib.hid (Blk.new w1 85 (permA fun _ => 0))
    have B1 := Lib.hid (ext_trans (ext_trans BN.out hb1) (ext_alloc w1 (.cells (permA fun _ => 0) 85)))
    clear hb1
    go_wp2_with (first | (refine wpList_store_row rfl 85 _ _ rfl w1.heap.size _ rfl rfl 85 _ (heap_alloc_new w1 _) (by rw [permA_size]; exact size_perm) (by simp only [permA_size]; rfl) (permA_one _) ?_; rw [World.setRow_alloc_new]) | (refine wpList_build rfl 85 #[] rfl (by kernel_rfl) ?_; rw [built_zero]) | (refine wpList_store_row rfl 85 _ _ rfl w.heap.size _ rfl rfl 85 _ K1.out (by rw [permA_size]; exact size_perm) (by simp only [permA_size]) (permA_one _) ?_))
    refine bodyPost_ret (results_two Try.results113 _ _ w.heap.size 85 _ (0, 0) _ rfl (K1.out.setRow (permA fun _ => 0)) Try.underlying85 rfl (by rw [permA_size]; exact size_perm)) rfl ⟨?_, below_row B1.out (Nat.le_refl _) _⟩
    unfold plugR
    rw [HNO.out]
    rfl
end Go.Proofs.Ytnfeddnkokocfaa
