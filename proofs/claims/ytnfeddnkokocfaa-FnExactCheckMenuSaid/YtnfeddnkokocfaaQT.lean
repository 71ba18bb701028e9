/- QTail, RangeSt, QTailIn, QAlloc, in one text. -/
import Derived.Test.YtnfeddnkokocfaaKitA
import Derived.StillTail
import Derived.RangeFuncNested
import Derived.RangeFuncBound
import Derived.RangeFuncCalls
import Derived.RangeFuncLeaves
import Derived.Shelf.Abstract
import Derived.Shelf.RegionOpen
import Derived.OwnWalkIn
import Derived.TacticsInMore
import Derived.LoopNIn
import Derived.LoopIn
import Derived.OrdersIn
import Derived.OrdersHeld
import Derived.Great.BuildSlice
namespace Go.Proofs.Ytnfeddnkokocfaa
set_option linter.unusedVariables false
set_option linter.unusedSimpArgs false
/-! QTail -/
section
open Go.RowKit

section
variable {P : Program} {ops : Array Oper} {md : Region.Mode} {C : World → Prop}
/-- whatever order is picked, f operations of the head come up, each quiet in the class; then L -/
def headQ (P : Program) (md : Region.Mode) (ops : Array Oper) (C : World → Prop) (n : Nat) (L : Array Bool → Act → Prop) : Nat → Array Bool → Act → Prop
  | 0, listed, a => L listed a
  | f + 1, listed, a => Region.ready md ops listed ≠ [] ∧ ∀ i ∈ Region.ready md ops listed, i < n ∧ qOp P ops C i (headQ P md ops C n L f (listed.setIfInBounds i true)) a
theorem any_of_headQ {n g : Nat} {L : Array Bool → Act → Prop} {Q' : Exit → Act → World → Prop} (hL : ∀ listed a w, C w → L listed a → wpAny P md ops Q' g listed a w) :
    ∀ (f : Nat) (listed : Array Bool) (a : Act) (w : World), C w → headQ P md ops C n L f listed a → wpAny P md ops Q' (f + g) listed a w
  | 0, listed, a, w, hw, h => by rw [Nat.zero_add]; exact hL _ _ _ hw h
  | f + 1, listed, a, w, hw, h => by
    rw [show f + 1 + g = (f + g) + 1 by omega]
    exact ⟨fun h0 => absurd h0 h.1, fun i hi => wpOp_of_qOp hw (fun a' w' hw' h' => any_of_headQ hL f _ a' w' hw' h') (h.2 i hi).2⟩
theorem headQ_first {n i : Nat} {oi : Oper} {v : Value} {L : Array Bool → Act → Prop} (hi : ops[i]? = some oi) (hsel : ∀ (j : Nat) (o : Oper) cs b, ops[j]? = some o → o.op ≠ .select cs b)
    (hs : Region.sinkB md ops n = true) (hc : Region.chainB md ops n = true) (hn : n < ops.size) (hin : i < n)
    (hdone : ∀ listed a, L listed a → ∀ j ∈ Region.ready md ops listed, n ≤ j) (f : Nat) :
    ∀ (listed : Array Bool) (a : Act), HeadInv md ops n listed →
      (∀ j oj, ops[j]? = some oj → j ≠ i → listed.getD j true = false → (∀ e ∈ oj.after, Region.binds md e = true → e.on ≠ i) → oi.apart ops oj = true) →
      i ∈ Region.ready md ops listed → YieldsIn P ops C oi v a →
      headQ P md ops C n L f (listed.setIfInBounds i true) (a.put oi.dst v) → headQ P md ops C n L (f + 1) listed a := by
  induction f with
  | zero =>
    intro listed a inv _ hr hy H
    have hun := (mem_ready.1 hr).1
    refine ⟨fun h => (by rw [h] at hr; cases hr), fun j hj => ?_⟩
    have hjn : j < n := Nat.lt_of_not_le fun h => tail_waits hs hc hn inv _ i rfl hin hun j h hj
    refine ⟨hjn, ?_⟩
    by_cases hji : j = i
    · subst hji; exact hy.qOp hi H
    · have := hdone _ _ H j (ready_mono hj hji); omega
  | succ f ih =>
    intro listed a inv hfree hr hy H
    have hun := (mem_ready.1 hr).1
    refine ⟨fun h => (by rw [h] at hr; cases hr), fun j hj => ?_⟩
    have hjn : j < n := Nat.lt_of_not_le fun h => tail_waits hs hc hn inv _ i rfl hin hun j h hj
    refine ⟨hjn, ?_⟩
    by_cases hji : j = i
    · subst hji; exact hy.qOp hi H
    · have h1 := (H.2 j (ready_mono hj hji)).2
      obtain ⟨hjun, oj, hoj, hall⟩ := mem_ready.1 hj
      have hnot : ∀ e ∈ oj.after, Region.binds md e = true → e.on ≠ i := fun e he hb heq => by
        have q := hall e he hb
        rw [heq, getD_both hun] at q
        cases q
      have h2 := qOp_put hoj (hfree j oj hoj hji hjun hnot) (fun cs b => hsel i oi cs b hi) (fun cs b => hsel j oj cs b hoj) hy h1
      refine qOp_mono (fun a' h3 => ih (listed.setIfInBounds j true) a' (inv.set hj hjn) (fun k ok hk hki hunk hno => hfree k ok hk hki ?_ hno) (ready_mono hr (Ne.symm hji)) h3.1 ?_) h2
      · by_cases hjk : j = k
        · subst hjk; exact hjun
        · rw [getD_set_ne true hjk] at hunk; exact hunk
      · rw [Array.setIfInBounds_comm _ _ hji]
        exact h3.2
theorem headQ_lex {n g : Nat} {Lq : Act → Prop} (hsel : Region.noSelect ops = true) (hs : Region.sinkB md ops n = true) (hc : Region.chainB md ops n = true) (hn : n < ops.size) :
    ∀ (l : List Oper) (k : Nat) (listed : Array Bool) (a : Act), (∀ j, j < l.length → l[j]? = ops[k + j]?) → k + l.length = n → HeadInv md ops n listed →
    Region.lexHead md ops g l.length k listed = true → wpQuiet P ops C Lq l a →
    headQ P md ops C n (fun listed' a' => Region.seqB md ops g n listed' = true ∧ Lq a') l.length listed a
  | [], k, listed, a, _, hk, _, hB, h => by
    have e : k = n := by simpa using hk
    subst e
    exact ⟨by simpa [Region.lexHead] using hB, h⟩
  | o :: l, k, listed, a, hl, hk, inv, hB, h => by
    have h0 : ops[k]? = some o := by simpa using (hl 0 (by simp)).symm
    simp only [List.length_cons, Region.lexHead, Bool.and_eq_true] at hB
    obtain ⟨⟨hr, hf⟩, hB'⟩ := hB
    have hkn : k < n := by simp only [List.length_cons] at hk; omega
    have hr' : k ∈ Region.ready md ops listed := by simpa using hr
    have hst : qOp P ops C k (wpQuiet P ops C Lq l) a := by unfold qOp; simp only [h0]; exact h
    obtain ⟨v, hy, hK⟩ := yieldsIn_of_qOp h0 hst
    exact headQ_first h0 (Region.noSelect_spec hsel) hs hc hn hkn (fun listed' a' hL => seqB_ready hL.1) l.length listed a inv (Region.free_spec h0 hf) hr' hy
      (headQ_lex hsel hs hc hn l (k + 1) _ _ (fun j hj => by have := hl (j + 1) (by simp; omega); simpa [Nat.add_assoc, Nat.add_comm 1 j] using this) (by simp only [List.length_cons] at hk; omega) (inv.set hr' hkn) hB' hK)
theorem wp_region_quiet_tail {id : Nat} {Q : Exit → Act → World → Prop} {a : Act} {w : World} {l : List Oper} (n : Nat) (hm : P.follows .mixedOrders = true) (hB : Region.lexTailB .any l.toArray n = true) (hC : C { w with drawn := w.drawn + 1 })
    (h : wpQuiet P l.toArray C (fun a' => ∀ w', C w' → wpList P l.toArray Q (l.drop n) a' w') (l.take n) a) : (Code.region id l.toArray true).wp P Q a w := by
  simp only [Region.lexTailB, Bool.and_eq_true, decide_eq_true_eq] at hB
  obtain ⟨⟨⟨⟨hsel, hn⟩, hs⟩, hc⟩, hlex⟩ := hB
  have hn' : n < l.length := by simpa using hn
  have htl : (l.take n).length = n := by simp; omega
  have hdl : (l.drop n).length = l.toArray.size - n := by simp
  have inv0 : HeadInv .any l.toArray n (Array.replicate l.toArray.size false) :=
    ⟨by simp, fun j oj _ hl => (by rw [getD_replicate_false] at hl; cases hl), fun t _ ht => getD_in (by simpa using ht) (getD_replicate_false _ _)⟩
  have H := headQ_lex (md := .any) (g := l.toArray.size - n) hsel hs hc hn (l.take n) 0 _ a (fun j hj => by
    have hj' : j < n := by rw [htl] at hj; exact hj
    simp [hj']) (by simpa using htl) inv0 (by rw [htl]; exact hlex) h
  refine wp_region_any hm ?_
  have q := any_of_headQ (Q' := Q) (g := l.toArray.size - n) (fun listed a' w' hw' hL => by
    have := wpAny_of_seq (md := .any) (Q' := Q) (l.drop n) n listed a' w' (fun j => by simp [List.getElem?_drop]) (by rw [hdl]; exact hL.1) (hL.2 w' hw')
    rwa [hdl] at this) _ _ _ _ hC H
  rw [htl, show n + (l.toArray.size - n) = l.toArray.size by omega] at q
  exact q
end
/-- the same over the worlds that extend w -/
theorem wp_region_ext_tail {P : Program} {id : Nat} {Q : Exit → Act → World → Prop} {a : Act} {w : World} {l : List Oper} (n : Nat) (hm : P.follows .mixedOrders = true) (hB : Region.lexTailB .any l.toArray n = true)
    (h : wpQuiet P l.toArray (fun w' => ∃ x : Ext w, w' = x.1) (fun a' => ∀ w', (∃ x : Ext w, w' = x.1) → wpList P l.toArray Q (l.drop n) a' w') (l.take n) a) : (Code.region id l.toArray true).wp P Q a w :=
  wp_region_quiet_tail (C := fun w' => ∃ x : Ext w, w' = x.1) n hm hB ⟨⟨_, (Below.refl _ _).drew⟩, rfl⟩ h
end
/-! RangeSt -/
section
open Go.RowKit

/-- what the iterator owes: whatever the rounds do (R: between two rounds, Rx: a round has said 'no more'), it calls yield with its values, its own cell (block Bw) going on from cw k to cw (k + 1), until a round says 'no more' -/
def ItSt (F : Fence) (n : Nat) (P : Program) (gf : Nat) (lb : Array Value) (encs : Nat → Array Value) (Bw : Nat) (cw : Nat → Value) (St : World → Prop) : Prop :=
  ∀ (l : Nat) (R Rx : Nat → World → Prop) (N : Nat) (W : World),
    (∀ k A B, R k A → A.grownBy B (some Bw) → R k B) → (∀ k A, R k A → St A) →
    (∀ k W1, k < N → R k W1 → W1.cell? ⟨Bw, 0, none⟩ = some (cw (k + 1)) → W1.frozen? ⟨Bw, 0, none⟩ = false → YieldAt F (n - 1) P l (encs k) W1 fun e W' =>
      (e = .returned (.bool true) ∧ R (k + 1) W' ∧ W'.cell? ⟨Bw, 0, none⟩ = some (cw (k + 1)) ∧ W'.frozen? ⟨Bw, 0, none⟩ = false ∧ k + 1 < N) ∨ (e = .returned (.bool false) ∧ Rx (k + 1) W')) →
    0 < N → R 0 W → W.cell? ⟨Bw, 0, none⟩ = some (cw 0) → W.frozen? ⟨Bw, 0, none⟩ = false →
    CallsIn F n P gf (#[.func (.yield l) #[] #[]] ++ lb) W fun e W' => (∃ v, e = .returned v) ∧ ∃ k, Rx k W'

/-- how the body of a round may be left: off its end, or by the break -/
def postSt (N Bw : Nat) (I : Nat → World → Prop) (Ix : Nat → World → Prop) (id k : Nat) (W : World) : Exit → Act → World → Prop
  | .normal, _, W' => KeepsOthers W W' ∧ W'.cell? ⟨Bw, 0, none⟩ = W.cell? ⟨Bw, 0, none⟩ ∧ W'.frozen? ⟨Bw, 0, none⟩ = W.frozen? ⟨Bw, 0, none⟩ ∧ k + 1 < N ∧ I (k + 1) W'
  | .exit i, _, W' => i = id ∧ KeepsOthers W W' ∧ Ix (k + 1) W'
  | _, _, _ => False

theorem wpIn_rangeFunc_st {F : Fence} {n : Nat} {P : Program} {g : Operand} {ps : Array Tmp} {assign body : Code} {Q : Exit → Act → World → Prop} {a : Act} {w : World}
    (hro : F.round = none) (h1 : 1 ≤ n) {gf : Nat} {lb : Array Value} (hg : a.eval g = .func (.func gf) #[] lb) (hFg : F.fn gf) (eg : ∀ args w, (callFunc gf args).run P w = .ok (.enter gf args) w)
    {encs : Nat → Array Value} {Bw : Nat} {cw : Nat → Value} {St : World → Prop} (hseq : ItSt F (n - 1) P gf lb encs Bw cw St) (hps : ∀ k, (encs k).size = ps.size)
    (hBw : Bw < w.heap.size) (hc0 : w.cell? ⟨Bw, 0, none⟩ = some (cw 0)) (hf0 : w.frozen? ⟨Bw, 0, none⟩ = false)
    (N id : Nat) (hN : 0 < N) (I Ix : Nat → World → Prop)
    (hI : ∀ k A B r, r = Bw ∨ (w.heap.size ≤ r ∧ r < w.heap.size + 2) → I k A → A.grownBy B (some r) → I k B) (hIx : ∀ k A B r, r = Bw ∨ (w.heap.size ≤ r ∧ r < w.heap.size + 2) → Ix k A → A.grownBy B (some r) → Ix k B)
    (hSt : ∀ k A, I k A → St A) (h0 : I 0 w) (J : Nat → Act → World → Prop)
    (hJ : ∀ k a A B r, r = Bw ∨ (w.heap.size ≤ r ∧ r < w.heap.size + 2) → J k a A → A.grownBy B (some r) → J k a B)
    (hassign : ∀ (l : Nat) (k : Nat) (W : World) (K : Act → World → Prop), I k W → k < N → w.heap.size + 2 ≤ W.heap.size → (∀ a₁ W₁, J k a₁ W₁ → Below W.heap.size W W₁ → K a₁ W₁) →
      assign.wpIn (F.inRound l) (n - 1 - 1) P (Exit.then K (fun _ _ _ => False)) { tmps := (ps.zip (encs k)).foldl (fun t (p, v) => t.setIfInBounds p v) a.tmps, defers := [] } W)
    (hbody : ∀ (l : Nat) (k : Nat) (a₁ : Act) (W : World), J k a₁ W → k < N → w.heap.size + 2 ≤ W.heap.size → W.cell? ⟨Bw, 0, none⟩ = some (cw (k + 1)) → W.frozen? ⟨Bw, 0, none⟩ = false → body.wpIn (F.inRound l) (n - 1 - 1) P (postSt N Bw I Ix id k W) a₁ W)
    (hstop : ∀ (D : Nat) (k : Nat) (W : World), Ix k W → D = w.heap.size → W.heap[D]? = some (.deferred (some [])) → (Code.exit id).wpIn F n P Q { a with defers := { target := .collected D, args := #[] } :: a.defers } W) :
    (Code.rangeFunc g ps assign body).wpIn F n P Q a w := by
  refine wpIn_rangeFunc ?_
  intro fn hfn
  rw [hro]
  obtain ⟨rec, hrec⟩ : ∃ rec : LoopState → Option Code → Loop, rec = fun st pe => { state := st, pending := pe, fn, tmps := a.tmps, params := ps, assign, body, defers := w.heap.size } := ⟨_, rfl⟩
  obtain ⟨W1, hW1⟩ : ∃ W1, (w.alloc (.deferred (some []))).alloc (.loop (rec .ready none)) = W1 := ⟨_, rfl⟩
  have hL1 : W1.heap[w.heap.size + 1]? = some (.loop (rec .ready none)) := by
    rw [← hW1]; have := World.alloc_heap_new (w.alloc (.deferred (some []))) (.loop (rec .ready none)); rwa [World.size_alloc] at this
  have hK1 : W1.heap[w.heap.size]? = some (.deferred (some [])) := by
    rw [← hW1]; exact (Below.heap_alloc _ _ _ (by simp)).trans (World.alloc_heap_new w _)
  have hg1 : w.grownBy W1 (some Bw) := by
    rw [← hW1]; exact (World.grownBy_alloc w _ _).trans (World.grownBy_alloc _ _ _)
  have hb1 : Below w.heap.size w W1 := by rw [← hW1]; exact ((Below.refl _ w).alloc (Nat.le_refl _) _).alloc (by simp) _
  have hI1 : I 0 W1 := hI 0 w W1 Bw (.inl rfl) h0 hg1
  refine ⟨w.heap.size + 1, [{ target := .collected w.heap.size, args := #[] }], W1, { target := .fn (.func gf) lb, args := #[.func (.yield (w.heap.size + 1)) #[] #[]] }, W1, gf,
    #[.func (.yield (w.heap.size + 1)) #[] #[]] ++ lb, W1, ?_, ?_, ?_, ?_, fun _ => h1, ?_⟩
  · rw [← hW1, hrec]; exact run_enterLoop_outer _ _ _ _ _
  · simp only [resolve, hg]
    simp [go_sem]
  · intro f' hf'; simp [Target.leads] at hf'; subst hf'; exact hFg
  · simp [invoke, go_sem, eg]
  · have hne1 : some (w.heap.size + 1) ≠ some Bw := by simp; omega
    have hne0 : some w.heap.size ≠ some Bw := by simp; omega
    refine (hseq (w.heap.size + 1)
      (fun k W => I k W ∧ W.heap[w.heap.size + 1]? = some (.loop (rec .ready none)) ∧ W.heap[w.heap.size]? = some (.deferred (some [])))
      (fun k W => Ix k W ∧ W.heap[w.heap.size + 1]? = some (.loop (rec .done (some (.exit id)))) ∧ W.heap[w.heap.size]? = some (.deferred (some [])))
      N W1
      (fun k A B h hgr => ⟨hI k A B Bw (.inl rfl) h.1 hgr, (hgr.block _ (Array.getElem?_eq_some_iff.1 h.2.1).1 hne1).trans h.2.1, (hgr.block _ (Array.getElem?_eq_some_iff.1 h.2.2).1 hne0).trans h.2.2⟩)
      (fun k A h => hSt k A h.1) ?_ hN ⟨hI1, hL1, hK1⟩ ((hb1.cell (p := ⟨Bw, 0, none⟩) hBw).trans hc0) ((hb1.frozen (p := ⟨Bw, 0, none⟩) hBw).trans hf0)).mono ?_
    · rintro k W hkN ⟨hi, hl, hk⟩ hc hf
      have hlt : w.heap.size + 1 < W.heap.size := (Array.getElem?_eq_some_iff.1 hl).1
      have hy := run_yield (P := P) (args := encs k) hl (by rw [hrec]; exact hps k)
      rw [hrec] at hy
      refine ⟨fn, _, assign, body, hy, roundIn_of_wpIn hfn (hassign _ k W _ hi hkN (by omega) (fun a₁ Wa hj hba => ?_))⟩
      replace hl := (hba.block _ hlt).trans hl
      replace hk := (hba.block _ (by omega)).trans hk
      replace hc := (hba.cell (p := ⟨Bw, 0, none⟩) (by simp; omega)).trans hc
      replace hf := (hba.frozen (p := ⟨Bw, 0, none⟩) (by simp; omega)).trans hf
      replace hlt : w.heap.size + 1 < Wa.heap.size := Nat.lt_of_lt_of_le hlt hba.size
      clear hba hy hi
      refine ⟨_, run_beginRound hl (by rw [hrec]), ?_⟩
      have hl2 : (Wa.putObj (w.heap.size + 1) (.loop { rec .ready none with state := .busy })).heap[w.heap.size + 1]? = some (.loop { rec .ready none with state := .busy }) := World.putObj_heap_same hlt
      have hk2 : (Wa.putObj (w.heap.size + 1) (.loop { rec .ready none with state := .busy })).heap[w.heap.size]? = some (.deferred (some [])) := (World.putObj_heap_other (by omega)).trans hk
      have hgp := grownBy_putObj' Wa (w.heap.size + 1) (.loop { rec .ready none with state := .busy })
      have hin : ∀ r, r = w.heap.size + 1 → (r = Bw ∨ (w.heap.size ≤ r ∧ r < w.heap.size + 2)) := fun r e => .inr (by omega)
      refine wpIn_mono (hbody _ k _ _ (hJ k _ _ _ _ (hin _ rfl) hj hgp) hkN (Nat.le_trans hlt hgp.size) ((hgp.cell_far ⟨Bw, 0, none⟩ (by simp; omega) (by simp; omega)).trans hc) ((hgp.frozen_far ⟨Bw, 0, none⟩ (by simp; omega) (by simp; omega)).trans hf)) ?_
      have fin : ∀ (jump : Option Code) (W3 : World), KeepsOthers (Wa.putObj (w.heap.size + 1) (.loop { rec .ready none with state := .busy })) W3 →
          (Instr.endRound (w.heap.size + 1) jump).run P W3 = .ok (.bool jump.isNone) (W3.putObj (w.heap.size + 1) (.loop (rec (if jump.isNone then .ready else .done) jump))) ∧
          W3.heap[w.heap.size + 1]? = some (.loop { rec .ready none with state := .busy }) ∧
          (W3.putObj (w.heap.size + 1) (.loop (rec (if jump.isNone then .ready else .done) jump))).heap[w.heap.size + 1]? = some (.loop (rec (if jump.isNone then .ready else .done) jump)) ∧
          (W3.putObj (w.heap.size + 1) (.loop (rec (if jump.isNone then .ready else .done) jump))).heap[w.heap.size]? = some (.deferred (some [])) := fun jump W3 hk3 => by
        have hl3 := hk3.same _ _ hl2 rfl
        have := run_endRound (P := P) jump hl3
        rw [hrec] at this ⊢
        exact ⟨this, by rw [hrec] at hl3; exact hl3, World.putObj_heap_same (Array.getElem?_eq_some_iff.1 hl3).1, (World.putObj_heap_other (by omega)).trans (hk3.same _ _ hk2 rfl)⟩
      rintro e a3 W3 hp
      cases e with
      | normal =>
        obtain ⟨hk3, hcw, hfw, hkn, hi3⟩ := hp
        obtain ⟨hr, hl3, hl4, hk4⟩ := fin none W3 hk3
        have hlt3 : w.heap.size + 1 < W3.heap.size := (Array.getElem?_eq_some_iff.1 hl3).1
        have hg3 := grownBy_putObj' W3 (w.heap.size + 1) (.loop (rec .ready none))
        refine ⟨_, _, hr, .inl ⟨rfl, ⟨hI _ _ _ _ (hin _ rfl) hi3 hg3, hl4, hk4⟩, ?_, ?_, hkn⟩⟩
        · exact (hg3.cell_far ⟨Bw, 0, none⟩ (by simp; omega) (by simp; omega)).trans (hcw.trans ((hgp.cell_far ⟨Bw, 0, none⟩ (by simp; omega) (by simp; omega)).trans hc))
        · exact (hg3.frozen_far ⟨Bw, 0, none⟩ (by simp; omega) (by simp; omega)).trans (hfw.trans ((hgp.frozen_far ⟨Bw, 0, none⟩ (by simp; omega) (by simp; omega)).trans hf))
      | exit i =>
        obtain ⟨rfl, hk3, hi3⟩ := hp
        obtain ⟨hr, hl3, hl4, hk4⟩ := fin (some (.exit i)) W3 hk3
        exact ⟨_, _, hr, .inr ⟨rfl, hIx _ _ _ _ (hin _ rfl) hi3 (grownBy_putObj' _ _ _), hl4, hk4⟩⟩
      | ret => exact hp.elim
      | goto t => exact hp.elim
      | panic ch => exact hp.elim
      | outgrown => exact hp.elim
    · rintro e W2 ⟨⟨v, rfl⟩, k, hi, hl, hk⟩
      exact ⟨some (.exit id), _, by have := run_endLoop (P := P) hl (by rw [hrec]; simp); rw [hrec] at this; exact this,
        hstop _ k _ (hIx _ _ _ _ (.inr (by omega)) hi (grownBy_putObj' _ (w.heap.size + 1) _)) rfl ((World.putObj_heap_other (by omega)).trans hk)⟩
end
/-! QTailIn -/
section
open Go.RowKit

/-- the widest fence, or a round under it -/
def WideF (F : Fence) : Prop := F = Fence.wide ∨ ∃ l, F = Fence.wide.inRound l
theorem WideF.wide : WideF Fence.wide := .inl rfl
theorem WideF.round (l : Nat) : WideF (Fence.wide.inRound l) := .inr ⟨l, rfl⟩
theorem WideF.fn {F : Fence} (h : WideF F) (f : FuncId) : F.fn f := by rcases h with rfl | ⟨l, rfl⟩ <;> trivial
theorem WideF.depth {F : Fence} (h : WideF F) {p : Prop} : F.depth.isSome = true → p := by
  rcases h with rfl | ⟨l, rfl⟩ <;> intro e <;> cases e
theorem WideF.calls {F : Fence} (h : WideF F) {n : Nat} {P : Program} {f : FuncId} {args : Array Value} {w : World} {R : Ending → World → Prop} (hc : Calls P f args w R) : CallsIn F n P f args w R := by
  rcases h with rfl | ⟨l, rfl⟩
  · exact callsIn_wide.2 hc
  · exact CallsIn.inRound l (callsIn_wide.2 hc)
def noDefer (ops : Array Oper) : Bool := ops.all fun o => match o.op with | .defer _ => false | _ => true
theorem noDefer_spec {ops : Array Oper} (h : noDefer ops = true) {i : Nat} {o : Oper} (ho : ops[i]? = some o) (c : _) : o.op ≠ .defer c := by
  intro e
  unfold noDefer at h
  rw [Array.all_eq_true] at h
  obtain ⟨hlt, rfl⟩ := Array.getElem?_eq_some_iff.1 ho
  have := h i hlt
  rw [e] at this
  cases this

section
variable {F : Fence} {m : Nat} {P : Program} {ops : Array Oper} {md : Region.Mode} {C : World → Prop}
theorem wpOpIn_of_qOp (hF : WideF F) (hnd : noDefer ops = true) {i : Nat} {a : Act} {K : Act → Prop} {K' : Act → World → Prop} {Q' : Exit → Act → World → Prop} {w : World} (hC : C w) (h : ∀ a w', C w' → K a → K' a w') (hh : qOp P ops C i K a) : wpOpIn F m P ops Q' i K' a w := by
  unfold qOp at hh
  unfold wpOpIn
  split
  · rename_i ho; simp only [ho] at hh; exact h _ _ hC hh
  · rename_i o ho
    simp only [ho] at hh
    split
    · rename_i hw
      simp only [hw, if_true] at hh
      obtain ⟨v, h1, h2⟩ := hh
      have h3 := h1 w hC
      refine ⟨fun f _ => hF.fn f, ?_⟩
      rw [Oper.semAt_plain F a.eval o (fun c => noDefer_spec hnd ho c)]
      unfold Oper.quietAt at h3
      generalize (execOp a.eval o).run P w = r at *
      cases r with
      | ok n w' =>
        cases n <;> simp only [Oper.quietUpon] at h3 <;> simp only [Oper.uponIn]
        case value u => obtain ⟨e1, e2⟩ := h3; rw [e1, e2]; exact h _ _ hC h2
        case skip => obtain ⟨e1, e2⟩ := h3; rw [e1, ← e2]; exact h _ _ hC h2
        case enter f args =>
          obtain ⟨e1, hc⟩ := h3
          rw [e1]
          exact ⟨hF.depth, hF.calls (hc.mono fun e w'' ⟨he, hw''⟩ => by subst he; exact h _ _ hw'' h2)⟩
      | halt x w' => simp only [Oper.quietUpon] at h3
    · rename_i hw
      simp only [hw] at hh
      exact ⟨fun f _ => hF.fn f, h _ _ hC hh⟩
theorem anyIn_of_quiet (hF : WideF F) (hnd : noDefer ops = true) {Q : Act → Prop} {Q' : Exit → Act → World → Prop} (hQ : ∀ a w, C w → Q a → Q' .normal a w) : ∀ (fuel : Nat) (listed : Array Bool) (a : Act) (w : World), C w →
    wpAnyQ P md ops C Q fuel listed a → wpAnyIn F m P md ops Q' fuel listed a w
  | 0, _, _, _, hw, h => ⟨h.1, hQ _ _ hw h.2⟩
  | fuel + 1, _, _, _, hw, h => ⟨fun h0 => hQ _ _ hw (h.1 h0), fun i hi => wpOpIn_of_qOp hF hnd hw (fun a' w' hw' => anyIn_of_quiet hF hnd hQ fuel _ a' w' hw') (h.2 i hi)⟩
theorem anyIn_of_headQ (hF : WideF F) (hnd : noDefer ops = true) {n g : Nat} {L : Array Bool → Act → Prop} {Q' : Exit → Act → World → Prop} (hL : ∀ listed a w, C w → L listed a → wpAnyIn F m P md ops Q' g listed a w) :
    ∀ (f : Nat) (listed : Array Bool) (a : Act) (w : World), C w → headQ P md ops C n L f listed a → wpAnyIn F m P md ops Q' (f + g) listed a w
  | 0, listed, a, w, hw, h => by rw [Nat.zero_add]; exact hL _ _ _ hw h
  | f + 1, listed, a, w, hw, h => by
    rw [show f + 1 + g = (f + g) + 1 by omega]
    exact ⟨fun h0 => absurd h0 h.1, fun i hi => wpOpIn_of_qOp hF hnd hw (fun a' w' hw' h' => anyIn_of_headQ hF hnd hL f _ a' w' hw' h') (h.2 i hi).2⟩
theorem anyIn_of_seq {Q' : Exit → Act → World → Prop} : ∀ (l : List Oper) (k : Nat) (listed : Array Bool) (a : Act) (w : World), (∀ j, l[j]? = ops[k + j]?) →
    Region.seqB md ops l.length k listed = true → wpListIn F m P ops Q' l a w → wpAnyIn F m P md ops Q' l.length listed a w
  | [], _, _, _, _, _, hB, h => ⟨by simpa [Region.seqB] using hB, h⟩
  | o :: l, k, listed, a, w, hl, hB, h => by
    have h0 : ops[k]? = some o := by simpa using (hl 0).symm
    simp only [List.length_cons, Region.seqB, Bool.and_eq_true, decide_eq_true_eq] at hB
    refine ⟨fun h1 => (by rw [hB.1] at h1; cases h1), fun i hi => ?_⟩
    rw [hB.1] at hi
    have hik : i = k := by simpa using hi
    subst hik
    have hw : wpOpIn F m P ops Q' i (wpListIn F m P ops Q' l) a w := by unfold wpOpIn; simp only [h0]; exact h
    exact wpOpIn_mono (fun a' w' h' => anyIn_of_seq l (i + 1) _ a' w' (fun j => by have := hl (j + 1); simpa [Nat.add_assoc, Nat.add_comm 1 j] using this) hB.2 h') hw
end
theorem wpIn_region_ext {F : Fence} {m : Nat} {P : Program} {id : Nat} {Q : Exit → Act → World → Prop} {a : Act} {w : World} {l : List Oper} (hF : WideF F) (hm : P.follows .mixedOrders = true) (hnd : noDefer l.toArray = true) (hB : Region.lexB .any l.toArray = true)
    (h : wpQuiet P l.toArray (fun w' => ∃ x : Ext w, w' = x.1) (fun a' => ∀ w', (∃ x : Ext w, w' = x.1) → Q .normal a' w') l a) : (Code.region id l.toArray true).wpIn F m P Q a w := by
  simp only [Region.lexB, Bool.and_eq_true] at hB
  refine wpIn_region_any hm (anyIn_of_quiet hF hnd (C := fun w' => ∃ x : Ext w, w' = x.1) (Q := fun a' => ∀ w', (∃ x : Ext w, w' = x.1) → Q .normal a' w') (fun _ w' hw' h => h w' hw') _ _ _ _ ⟨⟨_, (Below.refl _ _).drew⟩, rfl⟩ ?_)
  have := wpAnyQ_lex (P := P) (C := fun w' => ∃ x : Ext w, w' = x.1) (md := .any) hB.1 l.toArray.toList 0 (Array.replicate l.toArray.size false) a (by simp) (by simpa using hB.2) (by simpa using h)
  simpa using this
theorem wpIn_region_ext_tail {F : Fence} {m : Nat} {P : Program} {id : Nat} {Q : Exit → Act → World → Prop} {a : Act} {w : World} {l : List Oper} (n : Nat) (hF : WideF F) (hm : P.follows .mixedOrders = true) (hnd : noDefer l.toArray = true) (hB : Region.lexTailB .any l.toArray n = true)
    (h : wpQuiet P l.toArray (fun w' => ∃ x : Ext w, w' = x.1) (fun a' => ∀ w', (∃ x : Ext w, w' = x.1) → wpListIn F m P l.toArray Q (l.drop n) a' w') (l.take n) a) : (Code.region id l.toArray true).wpIn F m P Q a w := by
  simp only [Region.lexTailB, Bool.and_eq_true, decide_eq_true_eq] at hB
  obtain ⟨⟨⟨⟨hsel, hn⟩, hs⟩, hc⟩, hlex⟩ := hB
  have hn' : n < l.length := by simpa using hn
  have htl : (l.take n).length = n := by simp; omega
  have hdl : (l.drop n).length = l.toArray.size - n := by simp
  have inv0 : HeadInv .any l.toArray n (Array.replicate l.toArray.size false) :=
    ⟨by simp, fun j oj _ hl => (by rw [getD_replicate_false] at hl; cases hl), fun t _ ht => getD_in (by simpa using ht) (getD_replicate_false _ _)⟩
  have H := headQ_lex (md := .any) (g := l.toArray.size - n) hsel hs hc hn (l.take n) 0 _ a (fun j hj => by
    have hj' : j < n := by rw [htl] at hj; exact hj
    simp [hj']) (by simpa using htl) inv0 (by rw [htl]; exact hlex) h
  refine wpIn_region_any hm ?_
  have q := anyIn_of_headQ (F := F) (m := m) (Q' := Q) (C := fun w' => ∃ x : Ext w, w' = x.1) (g := l.toArray.size - n) hF hnd (fun listed a' w' hw' hL => by
    have := anyIn_of_seq (F := F) (m := m) (md := .any) (Q' := Q) (l.drop n) n listed a' w' (fun j => by simp [List.getElem?_drop]) (by rw [hdl]; exact hL.1) (hL.2 w' hw')
    rwa [hdl] at this) _ _ _ { w with drawn := w.drawn + 1 } ⟨⟨_, (Below.refl _ _).drew⟩, rfl⟩ H
  rw [htl, show n + (l.toArray.size - n) = l.toArray.size by omega] at q
  exact q
theorem WideF.rows {F : Fence} (h : WideF F) {n : Nat} {P : Program} {row : String} {args : Array Value} {w : World} {R : Value → World → Prop} (hc : Rows P row args w R) : RowsIn F n P row args w R := by
  have h0 : RowsIn Fence.wide n P row args w R := fun c cs _ => let ⟨v, w', r, s⟩ := hc c cs; ⟨v, w', r, stepsIn_wide.2 s⟩
  rcases h with rfl | ⟨l, rfl⟩
  · exact h0
  · exact h0
theorem WideF.oper {F : Fence} (hF : WideF F) {n : Nat} {P : Program} {o : Oper} {a : Act} {w : World} {K : Act → World → Prop} {Q : Exit → Act → World → Prop} (hnd : ∀ c, o.op ≠ .defer c) (h : o.wp P a w K Q) : o.wpIn F n P a w K Q := by
  refine ⟨fun f _ => hF.fn f, ?_⟩
  rw [Oper.semAt_plain F a.eval o hnd]
  unfold Oper.wp at h
  generalize (execOp a.eval o).run P w = r at *
  cases r with
  | ok n w' =>
    cases n <;> simp only [Oper.upon] at h <;> simp only [Oper.uponIn]
    case value u => exact h
    case skip => exact h
    case defer d => exact h
    case enter f args => exact ⟨hF.depth, hF.calls (h.mono fun e w'' he => by cases e <;> exact he)⟩
    case row row args => exact ⟨hF.depth, hF.rows h⟩
  | halt x w' => cases x <;> simp only [Oper.upon] at h <;> simp only [Oper.uponIn] <;> exact h
theorem wpListIn_lift {F : Fence} (hF : WideF F) {n : Nat} {P : Program} {ops : Array Oper} {rest : List Oper} {o : Oper} {a : Act} {w : World} {Q : Exit → Act → World → Prop} (hgd : o.guard = none) (hnd : ∀ c, o.op ≠ .defer c)
    (h : ∀ K : Act → World → Prop, (∀ a' w', wpListIn F n P ops Q rest a' w' → K a' w') → o.wp P a w K Q) : wpListIn F n P ops Q (o :: rest) a w :=
  wpListIn_plain hgd fun K hK => hF.oper hnd (h K hK)
theorem in_load_row {F : Fence} (hF : WideF F) {n : Nat} {P : Program} {ops : Array Oper} {rest : List Oper} {o : Oper} {a : Act} {w : World} {Q : Exit → Act → World → Prop} (hgd : o.guard = none) (ty : TypeId) (x : Operand) (ho : o.op = .load ty x)
    (g : Nat) (hx : a.eval x = .pointer (some ⟨g, 0, none⟩)) (t : TypeId) (cs : Array Value) (fr : Nat × Nat) (d : TypeDesc) (hg : w.heap[g]? = some (.cells cs t fr))
    (hu : P.underlying ty = some d) (hd : (match d with | .struct _ | .array _ _ => true | _ => false) = true) (hi : (P.info? ty).map (·.size) = some cs.size)
    (h : wpListIn F n P ops Q rest (a.put o.dst (.agg cs)) w) : wpListIn F n P ops Q (o :: rest) a w :=
  wpListIn_lift hF hgd (fun c e => by rw [ho] at e; cases e) fun _ hK => wp_load_row ty x ho g hx t cs fr d hg hu hd hi (hK _ _ h)
theorem in_store_row {F : Fence} (hF : WideF F) {n : Nat} {P : Program} {ops : Array Oper} {rest : List Oper} {o : Oper} {a : Act} {w : World} {Q : Exit → Act → World → Prop} (hgd : o.guard = none) (ty : TypeId) (x y : Operand) (ho : o.op = .store ty x y)
    (g : Nat) (cells : Array Value) (hx : a.eval x = .pointer (some ⟨g, 0, none⟩)) (hy : a.eval y = .agg cells)
    (t : TypeId) (old : Array Value) (hg : w.heap[g]? = some (.cells old t (0, 0))) (hi : (P.info? ty).map (·.size) = some cells.size)
    (hold : old.size = cells.size) (h1 : cells.all (·.oneCell') = true)
    (h : wpListIn F n P ops Q rest (a.put o.dst undef) (w.setRow g cells)) : wpListIn F n P ops Q (o :: rest) a w :=
  wpListIn_lift hF hgd (fun c e => by rw [ho] at e; cases e) fun _ hK => wp_store_row ty x y ho g cells hx hy t old hg hi hold h1 (hK _ _ h)
end
/-! QAlloc -/
section
open Go.RowKit

section
variable {P : Program} {ops : Array Oper} {md : Region.Mode} {C : World → Prop}
/-- operation number i comes up, and ends well -/
def hOp (P : Program) (ops : Array Oper) (i : Nat) (K : Act → World → Prop) (a : Act) (w : World) : Prop :=
  match ops[i]? with
  | none => K a w
  | some o => if Region.wanted o (yielded ops a.tmps) then o.wp P a w K (fun _ _ _ => False) else K (a.put o.dst undef) w
theorem hOp_mono {i : Nat} {a : Act} {w : World} {K K' : Act → World → Prop} (h : ∀ a w, K a w → K' a w) (hh : hOp P ops i K a w) : hOp P ops i K' a w := by
  unfold hOp at *
  split
  · rename_i ho; simp only [ho] at hh; exact h _ _ hh
  · rename_i o ho
    simp only [ho] at hh
    split
    · rename_i hw; simp only [hw, if_true] at hh; exact Oper.wp_mono h hh
    · rename_i hw; simp only [hw] at hh; exact h _ _ hh
/-- the first m operations come up in whatever order, each leaving a world of the class; then L -/
def headS (P : Program) (md : Region.Mode) (ops : Array Oper) (C : World → Prop) (m : Nat) (L : Array Bool → Act → World → Prop) : Nat → Array Bool → Act → World → Prop
  | 0, listed, a, w => L listed a w
  | f + 1, listed, a, w => Region.ready md ops listed ≠ [] ∧ ∀ i ∈ Region.ready md ops listed, i < m ∧ hOp P ops i (fun a' w' => C w' ∧ headS P md ops C m L f (listed.setIfInBounds i true) a' w') a w
theorem YieldsIf.hOp {i : Nat} {o : Oper} {v : Value} {a : Act} (hi : ops[i]? = some o) (hy : YieldsIf P ops C o v a) {K : Act → World → Prop} {w : World} (hS : C w) (h : K (a.put o.dst v) w) : hOp P ops i K a w := by
  unfold Go.Proofs.Ytnfeddnkokocfaa.hOp
  simp only [hi]
  rcases hy with ⟨hw, hv⟩ | ⟨hw, rfl⟩
  · simp only [hw, if_true, Oper.wp, hv w hS, Oper.upon]; exact h
  · simp only [hw, Bool.false_eq_true, if_false]; exact h
theorem hOp_put {j : Nat} {oi oj : Oper} {v : Value} (hj : ops[j]? = some oj) (hap : oi.apart ops oj = true)
    (hsi : ∀ cs b, oi.op ≠ .select cs b) (hsj : ∀ cs b, oj.op ≠ .select cs b) {K : Act → World → Prop} {a : Act} {w : World}
    (hy : YieldsIf P ops C oi v a) (h : hOp P ops j K (a.put oi.dst v) w) :
    hOp P ops j (fun a' w' => YieldsIf P ops C oi v a' ∧ K (a'.put oi.dst v) w') a w := by
  obtain ⟨h1, h2, h3⟩ := Oper.apart_spec hap
  have keep : ∀ (a : Act), YieldsIf P ops C oi v a → ∀ u, YieldsIf P ops C oi v (a.put oj.dst u) := fun a hy u =>
    hy.of_same (execOp_put oi hsi a oj.dst u h3) (wanted_put oi a oj.dst u h3)
  have keepD : ∀ d, YieldsIf P ops C oi v { a with defers := d :: a.defers } := fun d => hy.of_same rfl rfl
  unfold hOp at *
  simp only [hj] at *
  rw [wanted_put oj a oi.dst v h1] at h
  split
  · rename_i hw
    simp only [hw, if_true] at h
    unfold Oper.wp at *
    rw [execOp_put oj hsj a oi.dst v h1] at h
    generalize (execOp a.eval oj).run P w = r at *
    cases r with
    | ok n w' =>
      cases n <;> simp only [Oper.upon] at h ⊢
      case value u => exact ⟨keep a hy u, by rw [← Act.put_comm a v u h2]; exact h⟩
      case skip => exact ⟨keep a hy _, by rw [← Act.put_comm a v undef h2]; exact h⟩
      case defer d =>
        refine ⟨keep _ (keepD d) _, ?_⟩
        rw [← Act.put_comm _ v undef h2, ← Act.put_defers]
        exact h
      case enter f args =>
        refine Calls.mono h fun e w'' he => ?_
        cases e with
        | returned u => exact ⟨keep a hy u, by rw [← Act.put_comm a v u h2]; exact he⟩
        | panicked c => exact he
        | outgrown => exact he
      case row row args => exact Rows.mono h fun u w'' he => ⟨keep a hy u, by rw [← Act.put_comm a v u h2]; exact he⟩
    | halt x w' =>
      cases x <;> simp only [Oper.upon] at h ⊢
  · rename_i hw
    simp only [hw] at h
    exact ⟨keep a hy _, by rw [← Act.put_comm a v undef h2]; exact h⟩
theorem headS_first {m i : Nat} {oi : Oper} {v : Value} {L : Array Bool → Act → World → Prop} (hi : ops[i]? = some oi) (hsel : ∀ (j : Nat) (o : Oper) cs b, ops[j]? = some o → o.op ≠ .select cs b)
    (hs : Region.sinkB md ops m = true) (hc : Region.chainB md ops m = true) (hn : m < ops.size) (hin : i < m)
    (hdone : ∀ listed a w, L listed a w → ∀ j ∈ Region.ready md ops listed, m ≤ j) (f : Nat) :
    ∀ (listed : Array Bool) (a : Act) (w : World), HeadInv md ops m listed →
      (∀ j oj, ops[j]? = some oj → j ≠ i → listed.getD j true = false → (∀ e ∈ oj.after, Region.binds md e = true → e.on ≠ i) → oi.apart ops oj = true) →
      i ∈ Region.ready md ops listed → YieldsIf P ops C oi v a → C w →
      headS P md ops C m L f (listed.setIfInBounds i true) (a.put oi.dst v) w → headS P md ops C m L (f + 1) listed a w := by
  induction f with
  | zero =>
    intro listed a w inv _ hr hy hC H
    have hun := (mem_ready.1 hr).1
    refine ⟨fun h => (by rw [h] at hr; cases hr), fun j hj => ?_⟩
    have hjn : j < m := Nat.lt_of_not_le fun h => tail_waits hs hc hn inv _ i rfl hin hun j h hj
    refine ⟨hjn, ?_⟩
    by_cases hji : j = i
    · subst hji; exact YieldsIf.hOp hi hy hC ⟨hC, H⟩
    · have := hdone _ _ _ H j (ready_mono hj hji); omega
  | succ f ih =>
    intro listed a w inv hfree hr hy hC H
    have hun := (mem_ready.1 hr).1
    refine ⟨fun h => (by rw [h] at hr; cases hr), fun j hj => ?_⟩
    have hjn : j < m := Nat.lt_of_not_le fun h => tail_waits hs hc hn inv _ i rfl hin hun j h hj
    refine ⟨hjn, ?_⟩
    by_cases hji : j = i
    · subst hji; exact YieldsIf.hOp hi hy hC ⟨hC, H⟩
    · have h1 := (H.2 j (ready_mono hj hji)).2
      obtain ⟨hjun, oj, hoj, hall⟩ := mem_ready.1 hj
      have hnot : ∀ e ∈ oj.after, Region.binds md e = true → e.on ≠ i := fun e he hb heq => by
        have q := hall e he hb
        rw [heq, getD_both hun] at q
        cases q
      have h2 := hOp_put hoj (hfree j oj hoj hji hjun hnot) (fun cs b => hsel i oi cs b hi) (fun cs b => hsel j oj cs b hoj) hy h1
      refine hOp_mono (fun a' w' h3 => ⟨h3.2.1, ih (listed.setIfInBounds j true) a' w' (inv.set hj hjn) (fun k ok hk hki hunk hno => hfree k ok hk hki ?_ hno) (ready_mono hr (Ne.symm hji)) h3.1 h3.2.1 ?_⟩) h2
      · by_cases hjk : j = k
        · subst hjk; exact hjun
        · rw [getD_set_ne true hjk] at hunk; exact hunk
      · rw [Array.setIfInBounds_comm _ _ hji]
        exact h3.2.2
/-- an operation that yields a value by itself, and calls nothing -/
def plainB (o : Oper) : Bool := match o.op with | .move _ | .assign _ | .load _ _ | .indexAddr _ _ _ | .index _ _ _ | .binOp _ _ _ _ _ | .fieldAddr _ _ _ | .field _ _ _ | .convert _ _ _ | .slice _ _ _ _ _ => true | .call c => (match c.callee with | .builtin .len => true | _ => false) | _ => false
theorem run_value {P : Program} {w : World} (s : Sem Value) (r : Result Next) (h : (do pure (Next.value (← s)) : Sem Next).run P w = r) : (∃ v w', r = .ok (.value v) w') ∨ ∃ x w', r = .halt x w' := by
  rw [Sem.run_bind] at h
  cases hs : s.run P w with
  | ok u w' => rw [hs] at h; subst h; exact .inl ⟨u, w', rfl⟩
  | halt x w' => rw [hs] at h; subst h; exact .inr ⟨x, w', rfl⟩
theorem plain_value {o : Oper} (ho : plainB o = true) (ρ : Operand → Value) (w : World) : (∃ v w', (execOp ρ o).run P w = .ok (.value v) w') ∨ ∃ x w', (execOp ρ o).run P w = .halt x w' := by
  unfold plainB at ho
  unfold execOp
  split at ho
  case h_1 x h => simp only [h]; exact .inl ⟨_, _, rfl⟩
  case h_2 x h => simp only [h]; exact .inl ⟨_, _, rfl⟩
  case h_12 => cases ho
  case h_11 c h =>
    have hc : c.callee = .builtin .len := by
      split at ho
      · assumption
      · cases ho
    simp only [h, resolve, hc, Sem.run_bind, Sem.run_pure, Result.andThen_ok, invoke, builtin]
    exact run_value (P := P) (w := w) (Builtin.len_ c.argTypes o.type (c.args.map ρ)) _ (by rw [Sem.run_bind]; rfl)
  all_goals (rename_i h; simp only [h]; exact run_value _ _ rfl)
theorem yieldsIf_of {o : Oper} {v : Value} {a : Act} (ho : plainB o = true) (hy : YieldsIn P ops C o v a) : YieldsIf P ops C o v a := by
  rcases hy with ⟨hw, hv⟩ | ⟨hw, rfl⟩
  · refine .inl ⟨hw, fun w hC => ?_⟩
    have h1 := hv w hC
    unfold Oper.quietAt at h1
    rcases plain_value (P := P) ho a.eval w with ⟨u, w', e⟩ | ⟨x, w', e⟩
    · rw [e] at h1 ⊢
      obtain ⟨rfl, rfl⟩ := h1
      rfl
    · rw [e] at h1; exact h1.elim
  · exact .inr ⟨hw, rfl⟩
theorem hOp_of_qOp {i : Nat} {a : Act} {K : Act → Prop} {K' : Act → World → Prop} {w : World} (hC : C w) (h : ∀ a w', C w' → K a → K' a w') (hh : qOp P ops C i K a) : hOp P ops i K' a w := by
  unfold qOp at hh
  unfold hOp
  split
  · rename_i ho; simp only [ho] at hh; exact h _ _ hC hh
  · rename_i o ho
    simp only [ho] at hh
    split
    · rename_i hw; simp only [hw, if_true] at hh; exact Oper.wp_of_quiet hC h hh
    · rename_i hw; simp only [hw] at hh; exact h _ _ hC hh
/-- from the last quiet operation of the head on: calls in a forced order, then the new block -/
theorem headS_mid {m g : Nat} {oA : Oper} {T : Act → World → Prop} (hA : ops[m]? = some oA) (hgd : oA.guard = none) (hCA : ∀ w ob, C w → C (w.alloc ob)) :
    ∀ (l : List Oper) (k : Nat) (listed : Array Bool) (a : Act) (w : World), C w → (∀ j, j < l.length → l[j]? = ops[k + j]?) → k + l.length = m →
    Region.seqB md ops (l.length + 1 + g) k listed = true →
    wpQuiet P ops C (fun a' => ∀ w', C w' → ∃ v ob, (execOp a'.eval oA).run P w' = .ok (.value v) (w'.alloc ob) ∧ T (a'.put oA.dst v) (w'.alloc ob)) l a →
    headS P md ops C (m + 1) (fun listed' a' w' => Region.seqB md ops g (m + 1) listed' = true ∧ T a' w') (l.length + 1) listed a w
  | [], k, listed, a, w, hC, _, hk, hB, h => by
    have e : k = m := by simpa using hk
    subst e
    rw [show ([] : List Oper).length + 1 + g = g + 1 by simp; omega] at hB
    simp only [Region.seqB, Bool.and_eq_true, decide_eq_true_eq] at hB
    refine ⟨fun h1 => (by rw [hB.1] at h1; cases h1), fun i hi => ?_⟩
    rw [hB.1] at hi
    have hik : i = k := by simpa using hi
    subst hik
    refine ⟨by omega, ?_⟩
    obtain ⟨v, ob, hr, hT⟩ := h w hC
    unfold hOp
    simp only [hA]
    rw [if_pos (by simp [Region.wanted, hgd])]
    unfold Oper.wp
    rw [hr]
    exact ⟨hCA _ _ hC, hB.2, hT⟩
  | o :: l, k, listed, a, w, hC, hl, hk, hB, h => by
    have h0 : ops[k]? = some o := by simpa using (hl 0 (by simp)).symm
    rw [show (o :: l).length + 1 + g = (l.length + 1 + g) + 1 by simp; omega] at hB
    simp only [Region.seqB, Bool.and_eq_true, decide_eq_true_eq] at hB
    have hkm : k < m := by simp only [List.length_cons] at hk; omega
    refine ⟨fun h1 => (by rw [hB.1] at h1; cases h1), fun i hi => ?_⟩
    rw [hB.1] at hi
    have hik : i = k := by simpa using hi
    subst hik
    refine ⟨by omega, ?_⟩
    have hq : qOp P ops C i (wpQuiet P ops C (fun a' => ∀ w', C w' → ∃ v ob, (execOp a'.eval oA).run P w' = .ok (.value v) (w'.alloc ob) ∧ T (a'.put oA.dst v) (w'.alloc ob)) l) a := by unfold qOp; simp only [h0]; exact h
    exact hOp_of_qOp hC (fun a' w' hC' hK => ⟨hC', headS_mid hA hgd hCA l (i + 1) _ a' w' hC' (fun j hj => by have := hl (j + 1) (by simp; omega); simpa [Nat.add_assoc, Nat.add_comm 1 j] using this) (by simp only [List.length_cons] at hk; omega) hB.2 hK⟩) hq
theorem headS_lex {m c g : Nat} {L : Array Bool → Act → World → Prop} {Lq : Act → Prop} (hsel : Region.noSelect ops = true) (hs : Region.sinkB md ops m = true) (hc : Region.chainB md ops m = true) (hn : m < ops.size)
    (hdone : ∀ listed a w, L listed a w → ∀ j ∈ Region.ready md ops listed, m ≤ j)
    (hbase : ∀ listed a w, C w → Region.seqB md ops g (m - c) listed = true → Lq a → headS P md ops C m L c listed a w) :
    ∀ (l : List Oper) (k : Nat) (listed : Array Bool) (a : Act) (w : World), C w → (∀ j, j < l.length → l[j]? = ops[k + j]?) → k + l.length = m - c → l.all plainB = true → HeadInv md ops m listed →
    Region.lexHead md ops g l.length k listed = true → wpQuiet P ops C Lq l a → headS P md ops C m L (l.length + c) listed a w
  | [], k, listed, a, w, hC, _, hk, _, _, hB, h => by
    have e : k = m - c := by simpa using hk
    subst e
    rw [show ([] : List Oper).length + c = c by simp]
    exact hbase _ _ _ hC (by simpa [Region.lexHead] using hB) h
  | o :: l, k, listed, a, w, hC, hl, hk, hpl, inv, hB, h => by
    have h0 : ops[k]? = some o := by simpa using (hl 0 (by simp)).symm
    simp only [List.length_cons, Region.lexHead, Bool.and_eq_true] at hB
    obtain ⟨⟨hr, hf⟩, hB'⟩ := hB
    simp only [List.all_cons, Bool.and_eq_true] at hpl
    have hkn : k < m := by simp only [List.length_cons] at hk; omega
    have hr' : k ∈ Region.ready md ops listed := by simpa using hr
    have hst : qOp P ops C k (wpQuiet P ops C Lq l) a := by unfold qOp; simp only [h0]; exact h
    obtain ⟨v, hy, hK⟩ := yieldsIn_of_qOp h0 hst
    rw [show (o :: l).length + c = (l.length + c) + 1 by simp; omega]
    exact headS_first h0 (Region.noSelect_spec hsel) hs hc hn hkn hdone (l.length + c) listed a w inv (Region.free_spec h0 hf) hr' (yieldsIf_of hpl.1 hy) hC
      (headS_lex hsel hs hc hn hdone hbase l (k + 1) _ _ w hC (fun j hj => by have := hl (j + 1) (by simp; omega); simpa [Nat.add_assoc, Nat.add_comm 1 j] using this) (by simp only [List.length_cons] at hk; omega) hpl.2 (inv.set hr' hkn) hB' hK)
theorem any_of_headS {m g : Nat} {L : Array Bool → Act → World → Prop} {Q' : Exit → Act → World → Prop} (hL : ∀ listed a w, L listed a w → wpAny P md ops Q' g listed a w) :
    ∀ (f : Nat) (listed : Array Bool) (a : Act) (w : World), headS P md ops C m L f listed a w → wpAny P md ops Q' (f + g) listed a w
  | 0, listed, a, w, h => by rw [Nat.zero_add]; exact hL _ _ _ h
  | f + 1, listed, a, w, h => by
    rw [show f + 1 + g = (f + g) + 1 by omega]
    refine ⟨fun h0 => absurd h0 h.1, fun i hi => ?_⟩
    have h1 := hOp_mono (fun a' w' (h' : C w' ∧ headS P md ops C m L f (listed.setIfInBounds i true) a' w') => any_of_headS hL f _ a' w' h'.2) (h.2 i hi).2
    unfold hOp at h1
    unfold wpOp
    split
    · rename_i ho; simp only [ho] at h1; exact h1
    · rename_i o ho
      simp only [ho] at h1
      split
      · rename_i hw
        simp only [hw, if_true] at h1
        refine .inl ?_
        unfold Oper.wp at *
        generalize (execOp a.eval o).run P w = r at *
        cases r with
        | ok n w' =>
          cases n <;> simp only [Oper.upon] at h1 ⊢
          case value u => exact h1
          case skip => exact h1
          case defer d => exact h1
          case enter f args => exact Calls.mono h1 fun e w'' he => by cases e <;> first | exact he | exact False.elim he | (obtain ⟨_, _, he⟩ := he; exact he.elim)
          case row row args => exact Rows.mono h1 fun u w'' he => he
        | halt x w' => cases x <;> simp only [Oper.upon] at h1 ⊢
      · rename_i hw; simp only [hw] at h1; exact h1
theorem anyIn_of_headS {F : Fence} {n : Nat} (hF : WideF F) (hnd : noDefer ops = true) {m g : Nat} {L : Array Bool → Act → World → Prop} {Q' : Exit → Act → World → Prop} (hL : ∀ listed a w, L listed a w → wpAnyIn F n P md ops Q' g listed a w) :
    ∀ (f : Nat) (listed : Array Bool) (a : Act) (w : World), headS P md ops C m L f listed a w → wpAnyIn F n P md ops Q' (f + g) listed a w
  | 0, listed, a, w, h => by rw [Nat.zero_add]; exact hL _ _ _ h
  | f + 1, listed, a, w, h => by
    rw [show f + 1 + g = (f + g) + 1 by omega]
    refine ⟨fun h0 => absurd h0 h.1, fun i hi => ?_⟩
    have h1 := hOp_mono (fun a' w' (h' : C w' ∧ headS P md ops C m L f (listed.setIfInBounds i true) a' w') => anyIn_of_headS hF hnd hL f _ a' w' h'.2) (h.2 i hi).2
    unfold hOp at h1
    unfold wpOpIn
    split
    · rename_i ho; simp only [ho] at h1; exact h1
    · rename_i o ho
      simp only [ho] at h1
      split
      · rename_i hw
        simp only [hw, if_true] at h1
        refine hF.oper (fun c => noDefer_spec hnd ho c) ?_
        unfold Oper.wp at *
        generalize (execOp a.eval o).run P w = r at *
        cases r with
        | ok n w' =>
          cases n <;> simp only [Oper.upon] at h1 ⊢
          case value u => exact h1
          case skip => exact h1
          case defer d => exact h1
          case enter f args => exact Calls.mono h1 fun e w'' he => by cases e <;> first | exact he | exact False.elim he | (obtain ⟨_, _, he⟩ := he; exact he.elim)
          case row row args => exact Rows.mono h1 fun u w'' he => he
        | halt x w' => cases x <;> simp only [Oper.upon] at h1 ⊢
      · rename_i hw
        simp only [hw] at h1
        exact ⟨fun f _ => hF.fn f, h1⟩
end
/-- the form of such a region: k operations that only read, calls up to number n, the new block at n, a forced tail -/
def allocB (md : Region.Mode) (ops : Array Oper) (k n : Nat) : Bool :=
  Region.noSelect ops && decide (n + 1 < ops.size) && decide (k ≤ n) && Region.sinkB md ops (n + 1) && Region.chainB md ops (n + 1) && (ops.toList.take k).all plainB && (match ops[n]? with | some o => o.guard.isNone | none => false) && Region.lexHead md ops (ops.size - k) k 0 (Array.replicate ops.size false)
/-- what stands at the new block -/
def AtAlloc (P : Program) (W : World) (oA : Oper) (T : Act → World → Prop) (a : Act) : Prop := ∀ x : Ext W, ∃ v ob, (execOp a.eval oA).run P x.1 = .ok (.value v) (x.1.alloc ob) ∧ T (a.put oA.dst v) (x.1.alloc ob)
theorem headS_region {P : Program} {a : Act} {w : World} {l : List Oper} {k n : Nat} {oA : Oper} {T : Act → World → Prop} (hB : allocB .any l.toArray k n = true) (hA : l[n]? = some oA)
    (h : wpQuiet P l.toArray (fun w' => ∃ x : Ext w, w' = x.1) (AtAlloc P w oA T) (l.take n) a) :
    headS P .any l.toArray (fun w' => ∃ x : Ext w, w' = x.1) (n + 1) (fun listed' a' w' => Region.seqB .any l.toArray (l.toArray.size - (n + 1)) (n + 1) listed' = true ∧ T a' w') (n + 1) (Array.replicate l.toArray.size false) a { w with drawn := w.drawn + 1 } := by
  simp only [allocB, Bool.and_eq_true, decide_eq_true_eq] at hB
  obtain ⟨⟨⟨⟨⟨⟨⟨hsel, hn⟩, hkn⟩, hs⟩, hc⟩, hpl⟩, hgd⟩, hlex⟩ := hB
  have hA' : l.toArray[n]? = some oA := by simpa using hA
  have hgd' : oA.guard = none := by rw [hA'] at hgd; simpa using hgd
  have hsz : n + 1 < l.length := by simpa using hn
  have inv0 : HeadInv .any l.toArray (n + 1) (Array.replicate l.toArray.size false) :=
    ⟨by simp, fun j oj _ hl => (by rw [getD_replicate_false] at hl; cases hl), fun t _ ht => getD_in (by simpa using ht) (getD_replicate_false _ _)⟩
  have htk : (l.take k).length = k := by simp; omega
  have hdk : ((l.take n).drop k).length = n - k := by simp; omega
  have hsplit : l.take n = l.take k ++ (l.take n).drop k := by
    conv => lhs; rw [← List.take_append_drop k (l.take n)]
    rw [List.take_take, Nat.min_eq_left hkn]
  have hq : wpQuiet P l.toArray (fun w' => ∃ x : Ext w, w' = x.1) (wpQuiet P l.toArray (fun w' => ∃ x : Ext w, w' = x.1) (AtAlloc P w oA T) ((l.take n).drop k)) (l.take k) a := by
    have gen : ∀ (l1 l2 : List Oper) (a : Act), wpQuiet P l.toArray (fun w' => ∃ x : Ext w, w' = x.1) (AtAlloc P w oA T) (l1 ++ l2) a → wpQuiet P l.toArray (fun w' => ∃ x : Ext w, w' = x.1) (wpQuiet P l.toArray (fun w' => ∃ x : Ext w, w' = x.1) (AtAlloc P w oA T) l2) l1 a := by
      intro l1
      induction l1 with
      | nil => intro l2 a h; exact h
      | cons o l1 ih =>
        intro l2 a h
        simp only [List.cons_append, wpQuiet] at h ⊢
        split at h
        · rename_i hw; rw [if_pos hw]; exact Oper.quiet_mono (fun a' h' => ih l2 a' h') h
        · rename_i hw; rw [if_neg hw]; exact ih l2 _ h
    exact gen _ _ _ (by rw [← hsplit]; exact h)
  have H := headS_lex (P := P) (C := fun w' => ∃ x : Ext w, w' = x.1) (md := .any) (m := n + 1) (c := n - k + 1) (g := l.toArray.size - k) (L := fun listed' a' w' => Region.seqB .any l.toArray (l.toArray.size - (n + 1)) (n + 1) listed' = true ∧ T a' w') hsel hs hc hn
    (fun listed' a' w' hL => seqB_ready hL.1)
    (fun listed' a' w' hC hsq hq' => by
      have hmid := headS_mid (P := P) (C := fun w' => ∃ x : Ext w, w' = x.1) (md := .any) (g := l.toArray.size - (n + 1)) (T := T) hA' hgd' (fun w1 ob ⟨x, e⟩ => ⟨⟨w1.alloc ob, by rw [e]; exact x.2.trans ((ext_alloc x.1 ob).mono x.2.size)⟩, rfl⟩)
        ((l.take n).drop k) k listed' a' w' hC (fun j hj => by rw [hdk] at hj; rw [List.getElem?_drop, List.getElem?_take, if_pos (by omega)]; simp) (by rw [hdk]; omega)
        (by rw [hdk, show n - k + 1 + (l.toArray.size - (n + 1)) = l.toArray.size - k by omega]; rw [show n + 1 - (n - k + 1) = k by omega] at hsq; exact hsq)
        (by
          have : ∀ (l1 : List Oper) (a : Act), wpQuiet P l.toArray (fun w' => ∃ x : Ext w, w' = x.1) (AtAlloc P w oA T) l1 a → wpQuiet P l.toArray (fun w' => ∃ x : Ext w, w' = x.1) (fun a' => ∀ w', (∃ x : Ext w, w' = x.1) → ∃ v ob, (execOp a'.eval oA).run P w' = .ok (.value v) (w'.alloc ob) ∧ T (a'.put oA.dst v) (w'.alloc ob)) l1 a := by
            intro l1
            induction l1 with
            | nil => intro a h w' ⟨x, e⟩; subst e; exact h x
            | cons o l1 ih =>
              intro a h
              simp only [wpQuiet] at h ⊢
              split at h
              · rename_i hw; rw [if_pos hw]; exact Oper.quiet_mono (fun a' h' => ih a' h') h
              · rename_i hw; rw [if_neg hw]; exact ih _ h
          exact this _ _ hq')
      rw [hdk] at hmid
      exact hmid)
    (l.take k) 0 (Array.replicate l.toArray.size false) a { w with drawn := w.drawn + 1 } ⟨⟨_, (Below.refl _ _).drew⟩, rfl⟩ (fun j hj => by rw [htk] at hj; simp [hj]) (by rw [htk]; omega) (by simpa using hpl) inv0 (by rw [htk]; exact hlex) hq
  rw [htk, show k + (n - k + 1) = n + 1 by omega] at H
  exact H
/-- in a function -/
theorem wp_region_alloc {P : Program} {id : Nat} {Q : Exit → Act → World → Prop} {a : Act} {w : World} {l : List Oper} (k n : Nat) (oA : Oper) (hm : P.follows .mixedOrders = true) (hB : allocB .any l.toArray k n = true) (hA : l[n]? = some oA)
    (h : wpQuiet P l.toArray (fun w' => ∃ x : Ext w, w' = x.1) (AtAlloc P w oA (wpList P l.toArray Q (l.drop (n + 1)))) (l.take n) a) : (Code.region id l.toArray true).wp P Q a w := by
  have H := headS_region hB hA h
  simp only [allocB, Bool.and_eq_true, decide_eq_true_eq] at hB
  have hn := hB.1.1.1.1.1.1.2
  refine wp_region_any hm ?_
  have hdl : (l.drop (n + 1)).length = l.toArray.size - (n + 1) := by simp
  have q := any_of_headS (Q' := Q) (g := l.toArray.size - (n + 1)) (fun listed a' w' hL => by
    have := wpAny_of_seq (md := .any) (Q' := Q) (l.drop (n + 1)) (n + 1) listed a' w' (fun j => by simp [List.getElem?_drop]) (by rw [hdl]; exact hL.1) hL.2
    rwa [hdl] at this) _ _ _ _ H
  rw [show n + 1 + (l.toArray.size - (n + 1)) = l.toArray.size by omega] at q
  exact q
/-- in a round -/
theorem wpIn_region_alloc {F : Fence} {m : Nat} {P : Program} {id : Nat} {Q : Exit → Act → World → Prop} {a : Act} {w : World} {l : List Oper} (k n : Nat) (oA : Oper) (hF : WideF F) (hm : P.follows .mixedOrders = true) (hnd : noDefer l.toArray = true) (hB : allocB .any l.toArray k n = true) (hA : l[n]? = some oA)
    (h : wpQuiet P l.toArray (fun w' => ∃ x : Ext w, w' = x.1) (AtAlloc P w oA (wpListIn F m P l.toArray Q (l.drop (n + 1)))) (l.take n) a) : (Code.region id l.toArray true).wpIn F m P Q a w := by
  have H := headS_region hB hA h
  simp only [allocB, Bool.and_eq_true, decide_eq_true_eq] at hB
  have hn := hB.1.1.1.1.1.1.2
  refine wpIn_region_any hm ?_
  have hdl : (l.drop (n + 1)).length = l.toArray.size - (n + 1) := by simp
  have q := anyIn_of_headS (F := F) (n := m) (Q' := Q) (g := l.toArray.size - (n + 1)) hF hnd (fun listed a' w' hL => by
    have := anyIn_of_seq (F := F) (m := m) (md := .any) (Q' := Q) (l.drop (n + 1)) (n + 1) listed a' w' (fun j => by simp [List.getElem?_drop]) (by rw [hdl]; exact hL.1) hL.2
    rwa [hdl] at this) _ _ _ _ H
  rw [show n + 1 + (l.toArray.size - (n + 1)) = l.toArray.size by omega] at q
  exact q
theorem run_build1 {P : Program} (w : World) {o : Oper} {a : Act} (t e : TypeId) (x : Operand) (ho : o.op = .buildSlice t 1 #[(0, x)]) {z : Value} {size bytes : Nat}
    (ht : P.underlying t = some (.slice e)) (hinfo : (P.info? e).map (fun i => (i.zero, i.size, i.bytes)) = some (some z, size, bytes)) (hs0 : 0 < size) (hs1 : size ≤ 1000) (cs : Array Value) (hx : (a.eval x).cells = cs) (hsz : cs.size = size) :
    (execOp a.eval o).run P w = .ok (.value (.slice (some ⟨w.heap.size, 0, none⟩) 1 1)) (w.alloc (.cells cs e)) := by
  obtain ⟨i, hi, hz0, hz1, hz2⟩ := info_parts hinfo
  have hf := Great.fill_whole (s := i.size) (by omega) [a.eval x] ((Array.range (1 * i.size)).map (z.cells[· % z.cells.size]!)) (fun v hv => by rw [List.mem_singleton.1 hv, hx, hsz, hz1]) (by simp)
  have e1 : ([a.eval x].flatMap fun v => v.cells.toList).toArray = cs := by simp [hx]
  have hr := run_buildSlice (P := P) w t e 1 #[(0, a.eval x)] cs i z ht hi hz0 (by omega) (by omega) (by
    rw [← e1]
    simpa using hf)
  unfold execOp
  simp only [ho, Sem.run_bind, List.map_toArray, List.map_cons, List.map_nil, hr, Result.andThen_ok, Sem.run_pure]
/-- the same, as a step of a round -/
theorem inBuild1 {F : Fence} (hF : WideF F) {n : Nat} {P : Program} {w : World} {ops : Array Oper} {rest : List Oper} {o : Oper} {a : Act} {Q : Exit → Act → World → Prop} (hgd : o.guard = none) (t e : TypeId) (x : Operand) (ho : o.op = .buildSlice t 1 #[(0, x)]) {z : Value} {size bytes : Nat}
    (ht : P.underlying t = some (.slice e)) (hinfo : (P.info? e).map (fun i => (i.zero, i.size, i.bytes)) = some (some z, size, bytes)) (hs0 : 0 < size) (hs1 : size ≤ 1000) (cs : Array Value) (hx : (a.eval x).cells = cs) (hsz : cs.size = size)
    (h : wpListIn F n P ops Q rest (a.put o.dst (.slice (some ⟨w.heap.size, 0, none⟩) 1 1)) (w.alloc (.cells cs e))) : wpListIn F n P ops Q (o :: rest) a w :=
  wpListIn_lift hF hgd (fun c e => by rw [ho] at e; cases e) fun K hK => by
    unfold Oper.wp
    rw [run_build1 w t e x ho ht hinfo hs0 hs1 cs hx hsz]
    exact hK _ _ h
/-- a slice literal of one element -/
theorem atAlloc1 {P : Program} {W : World} {oA : Oper} {T : Act → World → Prop} {a : Act} (t e : TypeId) (x : Operand) (ho : oA.op = .buildSlice t 1 #[(0, x)]) {z : Value} {size bytes : Nat}
    (ht : P.underlying t = some (.slice e)) (hinfo : (P.info? e).map (fun i => (i.zero, i.size, i.bytes)) = some (some z, size, bytes)) (hs0 : 0 < size) (hs1 : size ≤ 1000) (cs : Array Value) (hx : (a.eval x).cells = cs) (hsz : cs.size = size)
    (h : ∀ w' : World, Below W.heap.size W w' → T (a.put oA.dst (.slice (some ⟨w'.heap.size, 0, none⟩) 1 1)) (w'.alloc (.cells cs e))) : AtAlloc P W oA T a := by
  rintro ⟨w', hb⟩
  exact ⟨.slice (some ⟨w'.heap.size, 0, none⟩) 1 1, .cells cs e, run_build1 w' t e x ho ht hinfo hs0 hs1 cs hx hsz, h w' hb⟩
end
end Go.Proofs.Ytnfeddnkokocfaa
