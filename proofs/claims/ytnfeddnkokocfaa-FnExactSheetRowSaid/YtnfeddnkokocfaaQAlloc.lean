/- A region that draws its order: quiet operations, then calls that make memory, then one that lays a new block (a slice literal), then a forced tail. What only reads may come behind the new block: one walk serves all the same. -/
import Derived.Test.YtnfeddnkokocfaaQTailIn
import Derived.OrdersHeld
import Derived.Great.BuildSlice
namespace Go.Proofs.Ytnfeddnkokocfaa
set_option linter.unusedVariables false
set_option linter.unusedSimpArgs false
open Go.RowKit

section
variable {P : Program} {ops : Array Oper} {md : Region.Mode} {C : World → Prop}
/-- operation number i comes up, and ends well -/
def hOp (P : Program) (ops : Array Oper) (i : Nat) (K : Act → World → Prop) (a : Act) (w : World) : Prop :=
  match ops[i]? with
  | none => K a w
  | some o => if Region.wanted o (yielded ops a.tmps) then o.wp P a w K (fun _ _ _ => False) else K (a.put o.dst undef) w
theorem hOp_mono {i : Nat} {a : Act} {w : World} {K K' : Act → World → Prop} (h : ∀ a w, K a w → K' a w) (hh : hOp P ops i K a w) : hOp P ops i K' a w := by
  unfold hOp at *
  split
  · rename_i ho; simp only [ho] at hh; exact h _ _ hh
  · rename_i o ho
    simp only [ho] at hh
    split
    · rename_i hw; simp only [hw, if_true] at hh; exact Oper.wp_mono h hh
    · rename_i hw; simp only [hw] at hh; exact h _ _ hh
/-- the first m operations come up in whatever order, each leaving a world of the class; then L -/
def headS (P : Program) (md : Region.Mode) (ops : Array Oper) (C : World → Prop) (m : Nat) (L : Array Bool → Act → World → Prop) : Nat → Array Bool → Act → World → Prop
  | 0, listed, a, w => L listed a w
  | f + 1, listed, a, w => Region.ready md ops listed ≠ [] ∧ ∀ i ∈ Region.ready md ops listed, i < m ∧ hOp P ops i (fun a' w' => C w' ∧ headS P md ops C m L f (listed.setIfInBounds i true) a' w') a w
theorem YieldsIf.hOp {i : Nat} {o : Oper} {v : Value} {a : Act} (hi : ops[i]? = some o) (hy : YieldsIf P ops C o v a) {K : Act → World → Prop} {w : World} (hS : C w) (h : K (a.put o.dst v) w) : hOp P ops i K a w := by
  unfold Go.Proofs.Ytnfeddnkokocfaa.hOp
  simp only [hi]
  rcases hy with ⟨hw, hv⟩ | ⟨hw, rfl⟩
  · simp only [hw, if_true, Oper.wp, hv w hS, Oper.upon]; exact h
  · simp only [hw, Bool.false_eq_true, if_false]; exact h
theorem hOp_put {j : Nat} {oi oj : Oper} {v : Value} (hj : ops[j]? = some oj) (hap : oi.apart ops oj = true)
    (hsi : ∀ cs b, oi.op ≠ .select cs b) (hsj : ∀ cs b, oj.op ≠ .select cs b) {K : Act → World → Prop} {a : Act} {w : World}
    (hy : YieldsIf P ops C oi v a) (h : hOp P ops j K (a.put oi.dst v) w) :
    hOp P ops j (fun a' w' => YieldsIf P ops C oi v a' ∧ K (a'.put oi.dst v) w') a w := by
  obtain ⟨h1, h2, h3⟩ := Oper.apart_spec hap
  have keep : ∀ (a : Act), YieldsIf P ops C oi v a → ∀ u, YieldsIf P ops C oi v (a.put oj.dst u) := fun a hy u =>
    hy.of_same (execOp_put oi hsi a oj.dst u h3) (wanted_put oi a oj.dst u h3)
  have keepD : ∀ d, YieldsIf P ops C oi v { a with defers := d :: a.defers } := fun d => hy.of_same rfl rfl
  unfold hOp at *
  simp only [hj] at *
  rw [wanted_put oj a oi.dst v h1] at h
  split
  · rename_i hw
    simp only [hw, if_true] at h
    unfold Oper.wp at *
    rw [execOp_put oj hsj a oi.dst v h1] at h
    generalize (execOp a.eval oj).run P w = r at *
    cases r with
    | ok n w' =>
      cases n <;> simp only [Oper.upon] at h ⊢
      case value u => exact ⟨keep a hy u, by rw [← Act.put_comm a v u h2]; exact h⟩
      case skip => exact ⟨keep a hy _, by rw [← Act.put_comm a v undef h2]; exact h⟩
      case defer d =>
        refine ⟨keep _ (keepD d) _, ?_⟩
        rw [← Act.put_comm _ v undef h2, ← Act.put_defers]
        exact h
      case enter f args =>
        refine Calls.mono h fun e w'' he => ?_
        cases e with
        | returned u => exact ⟨keep a hy u, by rw [← Act.put_comm a v u h2]; exact he⟩
        | panicked c => exact he
        | outgrown => exact he
      case row row args => exact Rows.mono h fun u w'' he => ⟨keep a hy u, by rw [← Act.put_comm a v u h2]; exact he⟩
    | halt x w' =>
      cases x <;> simp only [Oper.upon] at h ⊢
  · rename_i hw
    simp only [hw] at h
    exact ⟨keep a hy _, by rw [← Act.put_comm a v undef h2]; exact h⟩
theorem headS_first {m i : Nat} {oi : Oper} {v : Value} {L : Array Bool → Act → World → Prop} (hi : ops[i]? = some oi) (hsel : ∀ (j : Nat) (o : Oper) cs b, ops[j]? = some o → o.op ≠ .select cs b)
    (hs : Region.sinkB md ops m = true) (hc : Region.chainB md ops m = true) (hn : m < ops.size) (hin : i < m)
    (hdone : ∀ listed a w, L listed a w → ∀ j ∈ Region.ready md ops listed, m ≤ j) (f : Nat) :
    ∀ (listed : Array Bool) (a : Act) (w : World), HeadInv md ops m listed →
      (∀ j oj, ops[j]? = some oj → j ≠ i → listed.getD j true = false → (∀ e ∈ oj.after, Region.binds md e = true → e.on ≠ i) → oi.apart ops oj = true) →
      i ∈ Region.ready md ops listed → YieldsIf P ops C oi v a → C w →
      headS P md ops C m L f (listed.setIfInBounds i true) (a.put oi.dst v) w → headS P md ops C m L (f + 1) listed a w := by
  induction f with
  | zero =>
    intro listed a w inv _ hr hy hC H
    have hun := (mem_ready.1 hr).1
    refine ⟨fun h => (by rw [h] at hr; cases hr), fun j hj => ?_⟩
    have hjn : j < m := Nat.lt_of_not_le fun h => tail_waits hs hc hn inv _ i rfl hin hun j h hj
    refine ⟨hjn, ?_⟩
    by_cases hji : j = i
    · subst hji; exact YieldsIf.hOp hi hy hC ⟨hC, H⟩
    · have := hdone _ _ _ H j (ready_mono hj hji); omega
  | succ f ih =>
    intro listed a w inv hfree hr hy hC H
    have hun := (mem_ready.1 hr).1
    refine ⟨fun h => (by rw [h] at hr; cases hr), fun j hj => ?_⟩
    have hjn : j < m := Nat.lt_of_not_le fun h => tail_waits hs hc hn inv _ i rfl hin hun j h hj
    refine ⟨hjn, ?_⟩
    by_cases hji : j = i
    · subst hji; exact YieldsIf.hOp hi hy hC ⟨hC, H⟩
    · have h1 := (H.2 j (ready_mono hj hji)).2
      obtain ⟨hjun, oj, hoj, hall⟩ := mem_ready.1 hj
      have hnot : ∀ e ∈ oj.after, Region.binds md e = true → e.on ≠ i := fun e he hb heq => by
        have q := hall e he hb
        rw [heq, getD_both hun] at q
        cases q
      have h2 := hOp_put hoj (hfree j oj hoj hji hjun hnot) (fun cs b => hsel i oi cs b hi) (fun cs b => hsel j oj cs b hoj) hy h1
      refine hOp_mono (fun a' w' h3 => ⟨h3.2.1, ih (listed.setIfInBounds j true) a' w' (inv.set hj hjn) (fun k ok hk hki hunk hno => hfree k ok hk hki ?_ hno) (ready_mono hr (Ne.symm hji)) h3.1 h3.2.1 ?_⟩) h2
      · by_cases hjk : j = k
        · subst hjk; exact hjun
        · rw [getD_set_ne true hjk] at hunk; exact hunk
      · rw [Array.setIfInBounds_comm _ _ hji]
        exact h3.2.2
/-- an operation that yields a value by itself, and calls nothing -/
def plainB (o : Oper) : Bool := match o.op with | .move _ | .assign _ | .load _ _ | .indexAddr _ _ _ | .index _ _ _ | .binOp _ _ _ _ _ | .fieldAddr _ _ _ | .field _ _ _ | .convert _ _ _ | .slice _ _ _ _ _ => true | .call c => (match c.callee with | .builtin .len => true | _ => false) | _ => false
theorem run_value {P : Program} {w : World} (s : Sem Value) (r : Result Next) (h : (do pure (Next.value (← s)) : Sem Next).run P w = r) : (∃ v w', r = .ok (.value v) w') ∨ ∃ x w', r = .halt x w' := by
  rw [Sem.run_bind] at h
  cases hs : s.run P w with
  | ok u w' => rw [hs] at h; subst h; exact .inl ⟨u, w', rfl⟩
  | halt x w' => rw [hs] at h; subst h; exact .inr ⟨x, w', rfl⟩
theorem plain_value {o : Oper} (ho : plainB o = true) (ρ : Operand → Value) (w : World) : (∃ v w', (execOp ρ o).run P w = .ok (.value v) w') ∨ ∃ x w', (execOp ρ o).run P w = .halt x w' := by
  unfold plainB at ho
  unfold execOp
  split at ho
  case h_1 x h => simp only [h]; exact .inl ⟨_, _, rfl⟩
  case h_2 x h => simp only [h]; exact .inl ⟨_, _, rfl⟩
  case h_12 => cases ho
  case h_11 c h =>
    have hc : c.callee = .builtin .len := by
      split at ho
      · assumption
      · cases ho
    simp only [h, resolve, hc, Sem.run_bind, Sem.run_pure, Result.andThen_ok, invoke, builtin]
    exact run_value (P := P) (w := w) (Builtin.len_ c.argTypes o.type (c.args.map ρ)) _ (by rw [Sem.run_bind]; rfl)
  all_goals (rename_i h; simp only [h]; exact run_value _ _ rfl)
theorem yieldsIf_of {o : Oper} {v : Value} {a : Act} (ho : plainB o = true) (hy : YieldsIn P ops C o v a) : YieldsIf P ops C o v a := by
  rcases hy with ⟨hw, hv⟩ | ⟨hw, rfl⟩
  · refine .inl ⟨hw, fun w hC => ?_⟩
    have h1 := hv w hC
    unfold Oper.quietAt at h1
    rcases plain_value (P := P) ho a.eval w with ⟨u, w', e⟩ | ⟨x, w', e⟩
    · rw [e] at h1 ⊢
      obtain ⟨rfl, rfl⟩ := h1
      rfl
    · rw [e] at h1; exact h1.elim
  · exact .inr ⟨hw, rfl⟩
theorem hOp_of_qOp {i : Nat} {a : Act} {K : Act → Prop} {K' : Act → World → Prop} {w : World} (hC : C w) (h : ∀ a w', C w' → K a → K' a w') (hh : qOp P ops C i K a) : hOp P ops i K' a w := by
  unfold qOp at hh
  unfold hOp
  split
  · rename_i ho; simp only [ho] at hh; exact h _ _ hC hh
  · rename_i o ho
    simp only [ho] at hh
    split
    · rename_i hw; simp only [hw, if_true] at hh; exact Oper.wp_of_quiet hC h hh
    · rename_i hw; simp only [hw] at hh; exact h _ _ hC hh
/-- from the last quiet operation of the head on: calls in a forced order, then the new block -/
theorem headS_mid {m g : Nat} {oA : Oper} {T : Act → World → Prop} (hA : ops[m]? = some oA) (hgd : oA.guard = none) (hCA : ∀ w ob, C w → C (w.alloc ob)) :
    ∀ (l : List Oper) (k : Nat) (listed : Array Bool) (a : Act) (w : World), C w → (∀ j, j < l.length → l[j]? = ops[k + j]?) → k + l.length = m →
    Region.seqB md ops (l.length + 1 + g) k listed = true →
    wpQuiet P ops C (fun a' => ∀ w', C w' → ∃ v ob, (execOp a'.eval oA).run P w' = .ok (.value v) (w'.alloc ob) ∧ T (a'.put oA.dst v) (w'.alloc ob)) l a →
    headS P md ops C (m + 1) (fun listed' a' w' => Region.seqB md ops g (m + 1) listed' = true ∧ T a' w') (l.length + 1) listed a w
  | [], k, listed, a, w, hC, _, hk, hB, h => by
    have e : k = m := by simpa using hk
    subst e
    rw [show ([] : List Oper).length + 1 + g = g + 1 by simp; omega] at hB
    simp only [Region.seqB, Bool.and_eq_true, decide_eq_true_eq] at hB
    refine ⟨fun h1 => (by rw [hB.1] at h1; cases h1), fun i hi => ?_⟩
    rw [hB.1] at hi
    have hik : i = k := by simpa using hi
    subst hik
    refine ⟨by omega, ?_⟩
    obtain ⟨v, ob, hr, hT⟩ := h w hC
    unfold hOp
    simp only [hA]
    rw [if_pos (by simp [Region.wanted, hgd])]
    unfold Oper.wp
    rw [hr]
    exact ⟨hCA _ _ hC, hB.2, hT⟩
  | o :: l, k, listed, a, w, hC, hl, hk, hB, h => by
    have h0 : ops[k]? = some o := by simpa using (hl 0 (by simp)).symm
    rw [show (o :: l).length + 1 + g = (l.length + 1 + g) + 1 by simp; omega] at hB
    simp only [Region.seqB, Bool.and_eq_true, decide_eq_true_eq] at hB
    have hkm : k < m := by simp only [List.length_cons] at hk; omega
    refine ⟨fun h1 => (by rw [hB.1] at h1; cases h1), fun i hi => ?_⟩
    rw [hB.1] at hi
    have hik : i = k := by simpa using hi
    subst hik
    refine ⟨by omega, ?_⟩
    have hq : qOp P ops C i (wpQuiet P ops C (fun a' => ∀ w', C w' → ∃ v ob, (execOp a'.eval oA).run P w' = .ok (.value v) (w'.alloc ob) ∧ T (a'.put oA.dst v) (w'.alloc ob)) l) a := by unfold qOp; simp only [h0]; exact h
    exact hOp_of_qOp hC (fun a' w' hC' hK => ⟨hC', headS_mid hA hgd hCA l (i + 1) _ a' w' hC' (fun j hj => by have := hl (j + 1) (by simp; omega); simpa [Nat.add_assoc, Nat.add_comm 1 j] using this) (by simp only [List.length_cons] at hk; omega) hB.2 hK⟩) hq
theorem headS_lex {m c g : Nat} {L : Array Bool → Act → World → Prop} {Lq : Act → Prop} (hsel : Region.noSelect ops = true) (hs : Region.sinkB md ops m = true) (hc : Region.chainB md ops m = true) (hn : m < ops.size)
    (hdone : ∀ listed a w, L listed a w → ∀ j ∈ Region.ready md ops listed, m ≤ j)
    (hbase : ∀ listed a w, C w → Region.seqB md ops g (m - c) listed = true → Lq a → headS P md ops C m L c listed a w) :
    ∀ (l : List Oper) (k : Nat) (listed : Array Bool) (a : Act) (w : World), C w → (∀ j, j < l.length → l[j]? = ops[k + j]?) → k + l.length = m - c → l.all plainB = true → HeadInv md ops m listed →
    Region.lexHead md ops g l.length k listed = true → wpQuiet P ops C Lq l a → headS P md ops C m L (l.length + c) listed a w
  | [], k, listed, a, w, hC, _, hk, _, _, hB, h => by
    have e : k = m - c := by simpa using hk
    subst e
    rw [show ([] : List Oper).length + c = c by simp]
    exact hbase _ _ _ hC (by simpa [Region.lexHead] using hB) h
  | o :: l, k, listed, a, w, hC, hl, hk, hpl, inv, hB, h => by
    have h0 : ops[k]? = some o := by simpa using (hl 0 (by simp)).symm
    simp only [List.length_cons, Region.lexHead, Bool.and_eq_true] at hB
    obtain ⟨⟨hr, hf⟩, hB'⟩ := hB
    simp only [List.all_cons, Bool.and_eq_true] at hpl
    have hkn : k < m := by simp only [List.length_cons] at hk; omega
    have hr' : k ∈ Region.ready md ops listed := by simpa using hr
    have hst : qOp P ops C k (wpQuiet P ops C Lq l) a := by unfold qOp; simp only [h0]; exact h
    obtain ⟨v, hy, hK⟩ := yieldsIn_of_qOp h0 hst
    rw [show (o :: l).length + c = (l.length + c) + 1 by simp; omega]
    exact headS_first h0 (Region.noSelect_spec hsel) hs hc hn hkn hdone (l.length + c) listed a w inv (Region.free_spec h0 hf) hr' (yieldsIf_of hpl.1 hy) hC
      (headS_lex hsel hs hc hn hdone hbase l (k + 1) _ _ w hC (fun j hj => by have := hl (j + 1) (by simp; omega); simpa [Nat.add_assoc, Nat.add_comm 1 j] using this) (by simp only [List.length_cons] at hk; omega) hpl.2 (inv.set hr' hkn) hB' hK)
theorem any_of_headS {m g : Nat} {L : Array Bool → Act → World → Prop} {Q' : Exit → Act → World → Prop} (hL : ∀ listed a w, L listed a w → wpAny P md ops Q' g listed a w) :
    ∀ (f : Nat) (listed : Array Bool) (a : Act) (w : World), headS P md ops C m L f listed a w → wpAny P md ops Q' (f + g) listed a w
  | 0, listed, a, w, h => by rw [Nat.zero_add]; exact hL _ _ _ h
  | f + 1, listed, a, w, h => by
    rw [show f + 1 + g = (f + g) + 1 by omega]
    refine ⟨fun h0 => absurd h0 h.1, fun i hi => ?_⟩
    have h1 := hOp_mono (fun a' w' (h' : C w' ∧ headS P md ops C m L f (listed.setIfInBounds i true) a' w') => any_of_headS hL f _ a' w' h'.2) (h.2 i hi).2
    unfold hOp at h1
    unfold wpOp
    split
    · rename_i ho; simp only [ho] at h1; exact h1
    · rename_i o ho
      simp only [ho] at h1
      split
      · rename_i hw
        simp only [hw, if_true] at h1
        refine .inl ?_
        unfold Oper.wp at *
        generalize (execOp a.eval o).run P w = r at *
        cases r with
        | ok n w' =>
          cases n <;> simp only [Oper.upon] at h1 ⊢
          case value u => exact h1
          case skip => exact h1
          case defer d => exact h1
          case enter f args => exact Calls.mono h1 fun e w'' he => by cases e <;> first | exact he | exact False.elim he | (obtain ⟨_, _, he⟩ := he; exact he.elim)
          case row row args => exact Rows.mono h1 fun u w'' he => he
        | halt x w' => cases x <;> simp only [Oper.upon] at h1 ⊢
      · rename_i hw; simp only [hw] at h1; exact h1
theorem anyIn_of_headS {F : Fence} {n : Nat} (hF : WideF F) (hnd : noDefer ops = true) {m g : Nat} {L : Array Bool → Act → World → Prop} {Q' : Exit → Act → World → Prop} (hL : ∀ listed a w, L listed a w → wpAnyIn F n P md ops Q' g listed a w) :
    ∀ (f : Nat) (listed : Array Bool) (a : Act) (w : World), headS P md ops C m L f listed a w → wpAnyIn F n P md ops Q' (f + g) listed a w
  | 0, listed, a, w, h => by rw [Nat.zero_add]; exact hL _ _ _ h
  | f + 1, listed, a, w, h => by
    rw [show f + 1 + g = (f + g) + 1 by omega]
    refine ⟨fun h0 => absurd h0 h.1, fun i hi => ?_⟩
    have h1 := hOp_mono (fun a' w' (h' : C w' ∧ headS P md ops C m L f (listed.setIfInBounds i true) a' w') => anyIn_of_headS hF hnd hL f _ a' w' h'.2) (h.2 i hi).2
    unfold hOp at h1
    unfold wpOpIn
    split
    · rename_i ho; simp only [ho] at h1; exact h1
    · rename_i o ho
      simp only [ho] at h1
      split
      · rename_i hw
        simp only [hw, if_true] at h1
        refine hF.oper (fun c => noDefer_spec hnd ho c) ?_
        unfold Oper.wp at *
        generalize (execOp a.eval o).run P w = r at *
        cases r with
        | ok n w' =>
          cases n <;> simp only [Oper.upon] at h1 ⊢
          case value u => exact h1
          case skip => exact h1
          case defer d => exact h1
          case enter f args => exact Calls.mono h1 fun e w'' he => by cases e <;> first | exact he | exact False.elim he | (obtain ⟨_, _, he⟩ := he; exact he.elim)
          case row row args => exact Rows.mono h1 fun u w'' he => he
        | halt x w' => cases x <;> simp only [Oper.upon] at h1 ⊢
      · rename_i hw
        simp only [hw] at h1
        exact ⟨fun f _ => hF.fn f, h1⟩
end
/-- the form of such a region: k operations that only read, calls up to number n, the new block at n, a forced tail -/
def allocB (md : Region.Mode) (ops : Array Oper) (k n : Nat) : Bool :=
  Region.noSelect ops && decide (n + 1 < ops.size) && decide (k ≤ n) && Region.sinkB md ops (n + 1) && Region.chainB md ops (n + 1) && (ops.toList.take k).all plainB && (match ops[n]? with | some o => o.guard.isNone | none => false) && Region.lexHead md ops (ops.size - k) k 0 (Array.replicate ops.size false)
/-- what stands at the new block -/
def AtAlloc (P : Program) (W : World) (oA : Oper) (T : Act → World → Prop) (a : Act) : Prop := ∀ x : Ext W, ∃ v ob, (execOp a.eval oA).run P x.1 = .ok (.value v) (x.1.alloc ob) ∧ T (a.put oA.dst v) (x.1.alloc ob)
theorem headS_region {P : Program} {a : Act} {w : World} {l : List Oper} {k n : Nat} {oA : Oper} {T : Act → World → Prop} (hB : allocB .any l.toArray k n = true) (hA : l[n]? = some oA)
    (h : wpQuiet P l.toArray (fun w' => ∃ x : Ext w, w' = x.1) (AtAlloc P w oA T) (l.take n) a) :
    headS P .any l.toArray (fun w' => ∃ x : Ext w, w' = x.1) (n + 1) (fun listed' a' w' => Region.seqB .any l.toArray (l.toArray.size - (n + 1)) (n + 1) listed' = true ∧ T a' w') (n + 1) (Array.replicate l.toArray.size false) a { w with drawn := w.drawn + 1 } := by
  simp only [allocB, Bool.and_eq_true, decide_eq_true_eq] at hB
  obtain ⟨⟨⟨⟨⟨⟨⟨hsel, hn⟩, hkn⟩, hs⟩, hc⟩, hpl⟩, hgd⟩, hlex⟩ := hB
  have hA' : l.toArray[n]? = some oA := by simpa using hA
  have hgd' : oA.guard = none := by rw [hA'] at hgd; simpa using hgd
  have hsz : n + 1 < l.length := by simpa using hn
  have inv0 : HeadInv .any l.toArray (n + 1) (Array.replicate l.toArray.size false) :=
    ⟨by simp, fun j oj _ hl => (by rw [getD_replicate_false] at hl; cases hl), fun t _ ht => getD_in (by simpa using ht) (getD_replicate_false _ _)⟩
  have htk : (l.take k).length = k := by simp; omega
  have hdk : ((l.take n).drop k).length = n - k := by simp; omega
  have hsplit : l.take n = l.take k ++ (l.take n).drop k := by
    conv => lhs; rw [← List.take_append_drop k (l.take n)]
    rw [List.take_take, Nat.min_eq_left hkn]
  have hq : wpQuiet P l.toArray (fun w' => ∃ x : Ext w, w' = x.1) (wpQuiet P l.toArray (fun w' => ∃ x : Ext w, w' = x.1) (AtAlloc P w oA T) ((l.take n).drop k)) (l.take k) a := by
    have gen : ∀ (l1 l2 : List Oper) (a : Act), wpQuiet P l.toArray (fun w' => ∃ x : Ext w, w' = x.1) (AtAlloc P w oA T) (l1 ++ l2) a → wpQuiet P l.toArray (fun w' => ∃ x : Ext w, w' = x.1) (wpQuiet P l.toArray (fun w' => ∃ x : Ext w, w' = x.1) (AtAlloc P w oA T) l2) l1 a := by
      intro l1
      induction l1 with
      | nil => intro l2 a h; exact h
      | cons o l1 ih =>
        intro l2 a h
        simp only [List.cons_append, wpQuiet] at h ⊢
        split at h
        · rename_i hw; rw [if_pos hw]; exact Oper.quiet_mono (fun a' h' => ih l2 a' h') h
        · rename_i hw; rw [if_neg hw]; exact ih l2 _ h
    exact gen _ _ _ (by rw [← hsplit]; exact h)
  have H := headS_lex (P := P) (C := fun w' => ∃ x : Ext w, w' = x.1) (md := .any) (m := n + 1) (c := n - k + 1) (g := l.toArray.size - k) (L := fun listed' a' w' => Region.seqB .any l.toArray (l.toArray.size - (n + 1)) (n + 1) listed' = true ∧ T a' w') hsel hs hc hn
    (fun listed' a' w' hL => seqB_ready hL.1)
    (fun listed' a' w' hC hsq hq' => by
      have hmid := headS_mid (P := P) (C := fun w' => ∃ x : Ext w, w' = x.1) (md := .any) (g := l.toArray.size - (n + 1)) (T := T) hA' hgd' (fun w1 ob ⟨x, e⟩ => ⟨⟨w1.alloc ob, by rw [e]; exact x.2.trans ((ext_alloc x.1 ob).mono x.2.size)⟩, rfl⟩)
        ((l.take n).drop k) k listed' a' w' hC (fun j hj => by rw [hdk] at hj; rw [List.getElem?_drop, List.getElem?_take, if_pos (by omega)]; simp) (by rw [hdk]; omega)
        (by rw [hdk, show n - k + 1 + (l.toArray.size - (n + 1)) = l.toArray.size - k by omega]; rw [show n + 1 - (n - k + 1) = k by omega] at hsq; exact hsq)
        (by
          have : ∀ (l1 : List Oper) (a : Act), wpQuiet P l.toArray (fun w' => ∃ x : Ext w, w' = x.1) (AtAlloc P w oA T) l1 a → wpQuiet P l.toArray (fun w' => ∃ x : Ext w, w' = x.1) (fun a' => ∀ w', (∃ x : Ext w, w' = x.1) → ∃ v ob, (execOp a'.eval oA).run P w' = .ok (.value v) (w'.alloc ob) ∧ T (a'.put oA.dst v) (w'.alloc ob)) l1 a := by
            intro l1
            induction l1 with
            | nil => intro a h w' ⟨x, e⟩; subst e; exact h x
            | cons o l1 ih =>
              intro a h
              simp only [wpQuiet] at h ⊢
              split at h
              · rename_i hw; rw [if_pos hw]; exact Oper.quiet_mono (fun a' h' => ih a' h') h
              · rename_i hw; rw [if_neg hw]; exact ih _ h
          exact this _ _ hq')
      rw [hdk] at hmid
      exact hmid)
    (l.take k) 0 (Array.replicate l.toArray.size false) a { w with drawn := w.drawn + 1 } ⟨⟨_, (Below.refl _ _).drew⟩, rfl⟩ (fun j hj => by rw [htk] at hj; simp [hj]) (by rw [htk]; omega) (by simpa using hpl) inv0 (by rw [htk]; exact hlex) hq
  rw [htk, show k + (n - k + 1) = n + 1 by omega] at H
  exact H
/-- in a function -/
theorem wp_region_alloc {P : Program} {id : Nat} {Q : Exit → Act → World → Prop} {a : Act} {w : World} {l : List Oper} (k n : Nat) (oA : Oper) (hm : P.follows .mixedOrders = true) (hB : allocB .any l.toArray k n = true) (hA : l[n]? = some oA)
    (h : wpQuiet P l.toArray (fun w' => ∃ x : Ext w, w' = x.1) (AtAlloc P w oA (wpList P l.toArray Q (l.drop (n + 1)))) (l.take n) a) : (Code.region id l.toArray true).wp P Q a w := by
  have H := headS_region hB hA h
  simp only [allocB, Bool.and_eq_true, decide_eq_true_eq] at hB
  have hn := hB.1.1.1.1.1.1.2
  refine wp_region_any hm ?_
  have hdl : (l.drop (n + 1)).length = l.toArray.size - (n + 1) := by simp
  have q := any_of_headS (Q' := Q) (g := l.toArray.size - (n + 1)) (fun listed a' w' hL => by
    have := wpAny_of_seq (md := .any) (Q' := Q) (l.drop (n + 1)) (n + 1) listed a' w' (fun j => by simp [List.getElem?_drop]) (by rw [hdl]; exact hL.1) hL.2
    rwa [hdl] at this) _ _ _ _ H
  rw [show n + 1 + (l.toArray.size - (n + 1)) = l.toArray.size by omega] at q
  exact q
/-- in a round -/
theorem wpIn_region_alloc {F : Fence} {m : Nat} {P : Program} {id : Nat} {Q : Exit → Act → World → Prop} {a : Act} {w : World} {l : List Oper} (k n : Nat) (oA : Oper) (hF : WideF F) (hm : P.follows .mixedOrders = true) (hnd : noDefer l.toArray = true) (hB : allocB .any l.toArray k n = true) (hA : l[n]? = some oA)
    (h : wpQuiet P l.toArray (fun w' => ∃ x : Ext w, w' = x.1) (AtAlloc P w oA (wpListIn F m P l.toArray Q (l.drop (n + 1)))) (l.take n) a) : (Code.region id l.toArray true).wpIn F m P Q a w := by
  have H := headS_region hB hA h
  simp only [allocB, Bool.and_eq_true, decide_eq_true_eq] at hB
  have hn := hB.1.1.1.1.1.1.2
  refine wpIn_region_any hm ?_
  have hdl : (l.drop (n + 1)).length = l.toArray.size - (n + 1) := by simp
  have q := anyIn_of_headS (F := F) (n := m) (Q' := Q) (g := l.toArray.size - (n + 1)) hF hnd (fun listed a' w' hL => by
    have := anyIn_of_seq (F := F) (m := m) (md := .any) (Q' := Q) (l.drop (n + 1)) (n + 1) listed a' w' (fun j => by simp [List.getElem?_drop]) (by rw [hdl]; exact hL.1) hL.2
    rwa [hdl] at this) _ _ _ _ H
  rw [show n + 1 + (l.toArray.size - (n + 1)) = l.toArray.size by omega] at q
  exact q
theorem run_build1 {P : Program} (w : World) {o : Oper} {a : Act} (t e : TypeId) (x : Operand) (ho : o.op = .buildSlice t 1 #[(0, x)]) {z : Value} {size bytes : Nat}
    (ht : P.underlying t = some (.slice e)) (hinfo : (P.info? e).map (fun i => (i.zero, i.size, i.bytes)) = some (some z, size, bytes)) (hs0 : 0 < size) (hs1 : size ≤ 1000) (cs : Array Value) (hx : (a.eval x).cells = cs) (hsz : cs.size = size) :
    (execOp a.eval o).run P w = .ok (.value (.slice (some ⟨w.heap.size, 0, none⟩) 1 1)) (w.alloc (.cells cs e)) := by
  obtain ⟨i, hi, hz0, hz1, hz2⟩ := info_parts hinfo
  have hf := Great.fill_whole (s := i.size) (by omega) [a.eval x] ((Array.range (1 * i.size)).map (z.cells[· % z.cells.size]!)) (fun v hv => by rw [List.mem_singleton.1 hv, hx, hsz, hz1]) (by simp)
  have e1 : ([a.eval x].flatMap fun v => v.cells.toList).toArray = cs := by simp [hx]
  have hr := run_buildSlice (P := P) w t e 1 #[(0, a.eval x)] cs i z ht hi hz0 (by omega) (by omega) (by
    rw [← e1]
    simpa using hf)
  unfold execOp
  simp only [ho, Sem.run_bind, List.map_toArray, List.map_cons, List.map_nil, hr, Result.andThen_ok, Sem.run_pure]
/-- the same, as a step of a round -/
theorem inBuild1 {F : Fence} (hF : WideF F) {n : Nat} {P : Program} {w : World} {ops : Array Oper} {rest : List Oper} {o : Oper} {a : Act} {Q : Exit → Act → World → Prop} (hgd : o.guard = none) (t e : TypeId) (x : Operand) (ho : o.op = .buildSlice t 1 #[(0, x)]) {z : Value} {size bytes : Nat}
    (ht : P.underlying t = some (.slice e)) (hinfo : (P.info? e).map (fun i => (i.zero, i.size, i.bytes)) = some (some z, size, bytes)) (hs0 : 0 < size) (hs1 : size ≤ 1000) (cs : Array Value) (hx : (a.eval x).cells = cs) (hsz : cs.size = size)
    (h : wpListIn F n P ops Q rest (a.put o.dst (.slice (some ⟨w.heap.size, 0, none⟩) 1 1)) (w.alloc (.cells cs e))) : wpListIn F n P ops Q (o :: rest) a w :=
  wpListIn_lift hF hgd (fun c e => by rw [ho] at e; cases e) fun K hK => by
    unfold Oper.wp
    rw [run_build1 w t e x ho ht hinfo hs0 hs1 cs hx hsz]
    exact hK _ _ h
/-- a slice literal of one element -/
theorem atAlloc1 {P : Program} {W : World} {oA : Oper} {T : Act → World → Prop} {a : Act} (t e : TypeId) (x : Operand) (ho : oA.op = .buildSlice t 1 #[(0, x)]) {z : Value} {size bytes : Nat}
    (ht : P.underlying t = some (.slice e)) (hinfo : (P.info? e).map (fun i => (i.zero, i.size, i.bytes)) = some (some z, size, bytes)) (hs0 : 0 < size) (hs1 : size ≤ 1000) (cs : Array Value) (hx : (a.eval x).cells = cs) (hsz : cs.size = size)
    (h : ∀ w' : World, Below W.heap.size W w' → T (a.put oA.dst (.slice (some ⟨w'.heap.size, 0, none⟩) 1 1)) (w'.alloc (.cells cs e))) : AtAlloc P W oA T a := by
  rintro ⟨w', hb⟩
  exact ⟨.slice (some ⟨w'.heap.size, 0, none⟩) 1 1, .cells cs e, run_build1 w' t e x ho ht hinfo hs0 hs1 cs hx hsz, h w' hb⟩
end Go.Proofs.Ytnfeddnkokocfaa
