/- A range over a function that keeps a state of its own in one cell, and is always left by a break: the law of the statement. -/
import Derived.Test.YtnfeddnkokocfaaKitA
import Derived.RangeFuncNested
import Derived.RangeFuncBound
import Derived.RangeFuncCalls
import Derived.RangeFuncLeaves
import Derived.Shelf.Abstract
import Derived.Shelf.RegionOpen
import Derived.OwnWalkIn
import Derived.TacticsInMore
import Derived.LoopNIn
import Derived.LoopIn
namespace Go.Proofs.Ytnfeddnkokocfaa
set_option linter.unusedVariables false
set_option linter.unusedSimpArgs false
open Go.RowKit

/-- what the iterator owes: whatever the rounds do (R: between two rounds, Rx: a round has said 'no more'), it calls yield with its values, its own cell (block Bw) going on from cw k to cw (k + 1), until a round says 'no more' -/
def ItSt (F : Fence) (n : Nat) (P : Program) (gf : Nat) (lb : Array Value) (encs : Nat → Array Value) (Bw : Nat) (cw : Nat → Value) (St : World → Prop) : Prop :=
  ∀ (l : Nat) (R Rx : Nat → World → Prop) (N : Nat) (W : World),
    (∀ k A B, R k A → A.grownBy B (some Bw) → R k B) → (∀ k A, R k A → St A) →
    (∀ k W1, k < N → R k W1 → W1.cell? ⟨Bw, 0, none⟩ = some (cw (k + 1)) → W1.frozen? ⟨Bw, 0, none⟩ = false → YieldAt F (n - 1) P l (encs k) W1 fun e W' =>
      (e = .returned (.bool true) ∧ R (k + 1) W' ∧ W'.cell? ⟨Bw, 0, none⟩ = some (cw (k + 1)) ∧ W'.frozen? ⟨Bw, 0, none⟩ = false ∧ k + 1 < N) ∨ (e = .returned (.bool false) ∧ Rx (k + 1) W')) →
    0 < N → R 0 W → W.cell? ⟨Bw, 0, none⟩ = some (cw 0) → W.frozen? ⟨Bw, 0, none⟩ = false →
    CallsIn F n P gf (#[.func (.yield l) #[] #[]] ++ lb) W fun e W' => (∃ v, e = .returned v) ∧ ∃ k, Rx k W'

/-- how the body of a round may be left: off its end, or by the break -/
def postSt (N Bw : Nat) (I : Nat → World → Prop) (Ix : Nat → World → Prop) (id k : Nat) (W : World) : Exit → Act → World → Prop
  | .normal, _, W' => KeepsOthers W W' ∧ W'.cell? ⟨Bw, 0, none⟩ = W.cell? ⟨Bw, 0, none⟩ ∧ W'.frozen? ⟨Bw, 0, none⟩ = W.frozen? ⟨Bw, 0, none⟩ ∧ k + 1 < N ∧ I (k + 1) W'
  | .exit i, _, W' => i = id ∧ KeepsOthers W W' ∧ Ix (k + 1) W'
  | _, _, _ => False

theorem wpIn_rangeFunc_st {F : Fence} {n : Nat} {P : Program} {g : Operand} {ps : Array Tmp} {assign body : Code} {Q : Exit → Act → World → Prop} {a : Act} {w : World}
    (hro : F.round = none) (h1 : 1 ≤ n) {gf : Nat} {lb : Array Value} (hg : a.eval g = .func (.func gf) #[] lb) (hFg : F.fn gf) (eg : ∀ args w, (callFunc gf args).run P w = .ok (.enter gf args) w)
    {encs : Nat → Array Value} {Bw : Nat} {cw : Nat → Value} {St : World → Prop} (hseq : ItSt F (n - 1) P gf lb encs Bw cw St) (hps : ∀ k, (encs k).size = ps.size)
    (hBw : Bw < w.heap.size) (hc0 : w.cell? ⟨Bw, 0, none⟩ = some (cw 0)) (hf0 : w.frozen? ⟨Bw, 0, none⟩ = false)
    (N id : Nat) (hN : 0 < N) (I Ix : Nat → World → Prop)
    (hI : ∀ k A B r, r = Bw ∨ (w.heap.size ≤ r ∧ r < w.heap.size + 2) → I k A → A.grownBy B (some r) → I k B) (hIx : ∀ k A B r, r = Bw ∨ (w.heap.size ≤ r ∧ r < w.heap.size + 2) → Ix k A → A.grownBy B (some r) → Ix k B)
    (hSt : ∀ k A, I k A → St A) (h0 : I 0 w) (J : Nat → Act → World → Prop)
    (hJ : ∀ k a A B r, r = Bw ∨ (w.heap.size ≤ r ∧ r < w.heap.size + 2) → J k a A → A.grownBy B (some r) → J k a B)
    (hassign : ∀ (l : Nat) (k : Nat) (W : World) (K : Act → World → Prop), I k W → k < N → w.heap.size + 2 ≤ W.heap.size → (∀ a₁ W₁, J k a₁ W₁ → Below W.heap.size W W₁ → K a₁ W₁) →
      assign.wpIn (F.inRound l) (n - 1 - 1) P (Exit.then K (fun _ _ _ => False)) { tmps := (ps.zip (encs k)).foldl (fun t (p, v) => t.setIfInBounds p v) a.tmps, defers := [] } W)
    (hbody : ∀ (l : Nat) (k : Nat) (a₁ : Act) (W : World), J k a₁ W → k < N → w.heap.size + 2 ≤ W.heap.size → W.cell? ⟨Bw, 0, none⟩ = some (cw (k + 1)) → W.frozen? ⟨Bw, 0, none⟩ = false → body.wpIn (F.inRound l) (n - 1 - 1) P (postSt N Bw I Ix id k W) a₁ W)
    (hstop : ∀ (D : Nat) (k : Nat) (W : World), Ix k W → D = w.heap.size → W.heap[D]? = some (.deferred (some [])) → (Code.exit id).wpIn F n P Q { a with defers := { target := .collected D, args := #[] } :: a.defers } W) :
    (Code.rangeFunc g ps assign body).wpIn F n P Q a w := by
  refine wpIn_rangeFunc ?_
  intro fn hfn
  rw [hro]
  obtain ⟨rec, hrec⟩ : ∃ rec : LoopState → Option Code → Loop, rec = fun st pe => { state := st, pending := pe, fn, tmps := a.tmps, params := ps, assign, body, defers := w.heap.size } := ⟨_, rfl⟩
  obtain ⟨W1, hW1⟩ : ∃ W1, (w.alloc (.deferred (some []))).alloc (.loop (rec .ready none)) = W1 := ⟨_, rfl⟩
  have hL1 : W1.heap[w.heap.size + 1]? = some (.loop (rec .ready none)) := by
    rw [← hW1]; have := World.alloc_heap_new (w.alloc (.deferred (some []))) (.loop (rec .ready none)); rwa [World.size_alloc] at this
  have hK1 : W1.heap[w.heap.size]? = some (.deferred (some [])) := by
    rw [← hW1]; exact (Below.heap_alloc _ _ _ (by simp)).trans (World.alloc_heap_new w _)
  have hg1 : w.grownBy W1 (some Bw) := by
    rw [← hW1]; exact (World.grownBy_alloc w _ _).trans (World.grownBy_alloc _ _ _)
  have hb1 : Below w.heap.size w W1 := by rw [← hW1]; exact ((Below.refl _ w).alloc (Nat.le_refl _) _).alloc (by simp) _
  have hI1 : I 0 W1 := hI 0 w W1 Bw (.inl rfl) h0 hg1
  refine ⟨w.heap.size + 1, [{ target := .collected w.heap.size, args := #[] }], W1, { target := .fn (.func gf) lb, args := #[.func (.yield (w.heap.size + 1)) #[] #[]] }, W1, gf,
    #[.func (.yield (w.heap.size + 1)) #[] #[]] ++ lb, W1, ?_, ?_, ?_, ?_, fun _ => h1, ?_⟩
  · rw [← hW1, hrec]; exact run_enterLoop_outer _ _ _ _ _
  · simp only [resolve, hg]
    simp [go_sem]
  · intro f' hf'; simp [Target.leads] at hf'; subst hf'; exact hFg
  · simp [invoke, go_sem, eg]
  · have hne1 : some (w.heap.size + 1) ≠ some Bw := by simp; omega
    have hne0 : some w.heap.size ≠ some Bw := by simp; omega
    refine (hseq (w.heap.size + 1)
      (fun k W => I k W ∧ W.heap[w.heap.size + 1]? = some (.loop (rec .ready none)) ∧ W.heap[w.heap.size]? = some (.deferred (some [])))
      (fun k W => Ix k W ∧ W.heap[w.heap.size + 1]? = some (.loop (rec .done (some (.exit id)))) ∧ W.heap[w.heap.size]? = some (.deferred (some [])))
      N W1
      (fun k A B h hgr => ⟨hI k A B Bw (.inl rfl) h.1 hgr, (hgr.block _ (Array.getElem?_eq_some_iff.1 h.2.1).1 hne1).trans h.2.1, (hgr.block _ (Array.getElem?_eq_some_iff.1 h.2.2).1 hne0).trans h.2.2⟩)
      (fun k A h => hSt k A h.1) ?_ hN ⟨hI1, hL1, hK1⟩ ((hb1.cell (p := ⟨Bw, 0, none⟩) hBw).trans hc0) ((hb1.frozen (p := ⟨Bw, 0, none⟩) hBw).trans hf0)).mono ?_
    · rintro k W hkN ⟨hi, hl, hk⟩ hc hf
      have hlt : w.heap.size + 1 < W.heap.size := (Array.getElem?_eq_some_iff.1 hl).1
      have hy := run_yield (P := P) (args := encs k) hl (by rw [hrec]; exact hps k)
      rw [hrec] at hy
      refine ⟨fn, _, assign, body, hy, roundIn_of_wpIn hfn (hassign _ k W _ hi hkN (by omega) (fun a₁ Wa hj hba => ?_))⟩
      replace hl := (hba.block _ hlt).trans hl
      replace hk := (hba.block _ (by omega)).trans hk
      replace hc := (hba.cell (p := ⟨Bw, 0, none⟩) (by simp; omega)).trans hc
      replace hf := (hba.frozen (p := ⟨Bw, 0, none⟩) (by simp; omega)).trans hf
      replace hlt : w.heap.size + 1 < Wa.heap.size := Nat.lt_of_lt_of_le hlt hba.size
      clear hba hy hi
      refine ⟨_, run_beginRound hl (by rw [hrec]), ?_⟩
      have hl2 : (Wa.putObj (w.heap.size + 1) (.loop { rec .ready none with state := .busy })).heap[w.heap.size + 1]? = some (.loop { rec .ready none with state := .busy }) := World.putObj_heap_same hlt
      have hk2 : (Wa.putObj (w.heap.size + 1) (.loop { rec .ready none with state := .busy })).heap[w.heap.size]? = some (.deferred (some [])) := (World.putObj_heap_other (by omega)).trans hk
      have hgp := grownBy_putObj' Wa (w.heap.size + 1) (.loop { rec .ready none with state := .busy })
      have hin : ∀ r, r = w.heap.size + 1 → (r = Bw ∨ (w.heap.size ≤ r ∧ r < w.heap.size + 2)) := fun r e => .inr (by omega)
      refine wpIn_mono (hbody _ k _ _ (hJ k _ _ _ _ (hin _ rfl) hj hgp) hkN (Nat.le_trans hlt hgp.size) ((hgp.cell_far ⟨Bw, 0, none⟩ (by simp; omega) (by simp; omega)).trans hc) ((hgp.frozen_far ⟨Bw, 0, none⟩ (by simp; omega) (by simp; omega)).trans hf)) ?_
      have fin : ∀ (jump : Option Code) (W3 : World), KeepsOthers (Wa.putObj (w.heap.size + 1) (.loop { rec .ready none with state := .busy })) W3 →
          (Instr.endRound (w.heap.size + 1) jump).run P W3 = .ok (.bool jump.isNone) (W3.putObj (w.heap.size + 1) (.loop (rec (if jump.isNone then .ready else .done) jump))) ∧
          W3.heap[w.heap.size + 1]? = some (.loop { rec .ready none with state := .busy }) ∧
          (W3.putObj (w.heap.size + 1) (.loop (rec (if jump.isNone then .ready else .done) jump))).heap[w.heap.size + 1]? = some (.loop (rec (if jump.isNone then .ready else .done) jump)) ∧
          (W3.putObj (w.heap.size + 1) (.loop (rec (if jump.isNone then .ready else .done) jump))).heap[w.heap.size]? = some (.deferred (some [])) := fun jump W3 hk3 => by
        have hl3 := hk3.same _ _ hl2 rfl
        have := run_endRound (P := P) jump hl3
        rw [hrec] at this ⊢
        exact ⟨this, by rw [hrec] at hl3; exact hl3, World.putObj_heap_same (Array.getElem?_eq_some_iff.1 hl3).1, (World.putObj_heap_other (by omega)).trans (hk3.same _ _ hk2 rfl)⟩
      rintro e a3 W3 hp
      cases e with
      | normal =>
        obtain ⟨hk3, hcw, hfw, hkn, hi3⟩ := hp
        obtain ⟨hr, hl3, hl4, hk4⟩ := fin none W3 hk3
        have hlt3 : w.heap.size + 1 < W3.heap.size := (Array.getElem?_eq_some_iff.1 hl3).1
        have hg3 := grownBy_putObj' W3 (w.heap.size + 1) (.loop (rec .ready none))
        refine ⟨_, _, hr, .inl ⟨rfl, ⟨hI _ _ _ _ (hin _ rfl) hi3 hg3, hl4, hk4⟩, ?_, ?_, hkn⟩⟩
        · exact (hg3.cell_far ⟨Bw, 0, none⟩ (by simp; omega) (by simp; omega)).trans (hcw.trans ((hgp.cell_far ⟨Bw, 0, none⟩ (by simp; omega) (by simp; omega)).trans hc))
        · exact (hg3.frozen_far ⟨Bw, 0, none⟩ (by simp; omega) (by simp; omega)).trans (hfw.trans ((hgp.frozen_far ⟨Bw, 0, none⟩ (by simp; omega) (by simp; omega)).trans hf))
      | exit i =>
        obtain ⟨rfl, hk3, hi3⟩ := hp
        obtain ⟨hr, hl3, hl4, hk4⟩ := fin (some (.exit i)) W3 hk3
        exact ⟨_, _, hr, .inr ⟨rfl, hIx _ _ _ _ (hin _ rfl) hi3 (grownBy_putObj' _ _ _), hl4, hk4⟩⟩
      | ret => exact hp.elim
      | goto t => exact hp.elim
      | panic ch => exact hp.elim
      | outgrown => exact hp.elim
    · rintro e W2 ⟨⟨v, rfl⟩, k, hi, hl, hk⟩
      exact ⟨some (.exit id), _, by have := run_endLoop (P := P) hl (by rw [hrec]; simp); rw [hrec] at this; exact this,
        hstop _ k _ (hIx _ _ _ _ (.inr (by omega)) hi (grownBy_putObj' _ (w.heap.size + 1) _)) rfl ((World.putObj_heap_other (by omega)).trans hk)⟩
end Go.Proofs.Ytnfeddnkokocfaa
