/- Contracts of l6Some, l6Any. -/
import Derived.Test.YtlcanmofgjbcbaaDrawRotor3
namespace Go.Proofs.Ytlcanmofgjbcbaa
set_option linter.unusedVariables false
set_option linter.unusedSimpArgs false
open Go.RowKit
attribute [local go_sem ↓] Go.wp_at_zero Go.wp_at_succ

/-- two lists of rotors, one behind the other -/
def joinR (n : Nat) (f h : Nat → Rot) : Nat → Rot := fun i => if i < n then f i else h (i - n)
theorem rng_join (f h : Nat → Rot) (n m : Nat) : rngV (cellR f) (n * 2) ++ rngV (cellR h) (m * 2) = rngV (cellR (joinR n f h)) ((n + m) * 2) := by
  apply List.ext_getElem?
  intro i
  rw [List.getElem?_append, rngV_len]
  by_cases h1 : i < n * 2
  · rw [if_pos h1, rngV_at _ h1, rngV_at _ (by omega)]
    unfold cellR joinR
    rw [if_pos (show i / 2 < n by omega)]
  · rw [if_neg h1]
    by_cases h2 : i < (n + m) * 2
    · rw [rngV_at _ (by omega), rngV_at _ h2]
      unfold cellR joinR
      rw [if_neg (show ¬ i / 2 < n by omega), show (i - n * 2) % 2 = i % 2 by omega, show (i - n * 2) / 2 = i / 2 - n by omega]
    · rw [List.getElem?_eq_none (by rw [rngV_len]; omega), List.getElem?_eq_none (by rw [rngV_len]; omega)]
theorem rng_one (r : Rot) : [Value.string r.1, .string r.2] = rngV (cellR (fun _ => r)) (1 * 2) := by
  unfold rngV; rfl
theorem OwnR.alloc {w : World} {B n : Nat} {v : Value} {f : Nat → Rot} (h : OwnR w B v n f) (o : Obj) : OwnR (w.alloc o) B v n f := h.ext (ext_alloc _ _)
theorem OwnR.drew {w : World} {B n : Nat} {v : Value} {f : Nat → Rot} (h : OwnR w B v n f) : OwnR w.drew B v n f := h
theorem OwnR.keptB {w w' : World} {B n g : Nat} {v : Value} {f : Nat → Rot} (h : OwnR w B v n f) (hg : w.grownBy w' (some g)) (hB : g < B) : OwnR w' B v n f :=
  h.kept hg (fun x hx he => by injection hx with hx; have := (h.blk_lt he).1; omega)
theorem OwnR.lower {w : World} {B B' n : Nat} {v : Value} {f : Nat → Rot} (h : OwnR w B v n f) (hB : B' ≤ B) : OwnR w B' v n f := by
  refine ⟨h.1, ?_⟩
  rcases h.2 with h2 | ⟨g, cap, cur, h3, h4, h5⟩
  · exact .inl h2
  · exact .inr ⟨g, cap, cur, h3, by omega, h5⟩
theorem grow_ownR {a w w' : World} {B n : Nat} {v : Value} {f : Nat → Rot} {row : Option Nat} (h : a.grownBy w row) (ho : OwnR w B v n f) (hB : a.heap.size ≤ B) (hg : w.grownBy w' v.ownBlock) : a.grownBy w' row :=
  ⟨hg.os.trans h.os, hg.tape.trans h.tape, hg.output.trans h.output, Nat.le_trans h.size hg.size, fun k hk hne => (ho.far hg k (Nat.lt_of_lt_of_le hk h.size) (by omega)).trans (h.block k hk hne)⟩
theorem Blk.ownR {w w' : World} {b B n : Nat} {t : TypeId} {cs : Array Value} {v : Value} {f : Nat → Rot} (h : Blk w b t cs) (ho : OwnR w B v n f) (hB : b < B) (hg : w.grownBy w' v.ownBlock) : Blk w' b t cs :=
  (ho.far hg b h.lt hB).trans h
theorem Rd.ownR {w w' : World} {g P B n : Nat} {v : Value} {f : Nat → Rot} (h : Rd w g P) (ho : OwnR w B v n f) (hB : g < B) (hg : w.grownBy w' v.ownBlock) : Rd w' g P :=
  h.below ⟨hg.os, hg.tape, hg.output, hg.size, fun k hk => ho.far hg k (by have := h.1; omega) (by omega)⟩

/-- append(s, y) of one rotor, at a step of a region that draws its order -/
theorem step_appR {P : Program} (w : World) {ops : Array Oper} {o : Oper} {a : Act} {K : Act → World → Prop} {Q : Exit → Act → World → Prop} {E : Prop} (hgd : o.guard = none) (s x : Operand) (t : TypeId)
    (ho : o.op = .call { callee := .builtin .append, args := #[s, x], argTypes := #[t, t] })
    (B : Nat) (ht : P.underlying t = some (.slice 54)) (hinfo : (P.info? 54).map (fun i => (i.zero, i.size, i.bytes)) = some (some (.agg #[.string ByteArray.empty, .string ByteArray.empty]), 2, 32))
    (v : Value) (n : Nat) (f : Nat → Rot) (hs : a.eval s = v) (r : Rot) (g : Nat) (hown : OwnR w B v n f) (hx : a.eval x = .slice (some ⟨g, 0, none⟩) 1 1) (hg0 : w.cell? ⟨g, 0, none⟩ = some (.string r.1)) (hg1 : w.cell? ⟨g, 1, none⟩ = some (.string r.2))
    (hlen : n ≤ 1000000000) (hbase : B ≤ w.heap.size)
    (h : ∀ v' w', OwnR w' B v' (n + 1) (joinR n f (fun _ => r)) → w.grownBy w' v.ownBlock → K (a.put o.dst v') w') :
    if Region.wanted o (yielded ops a.tmps) = true then Oper.wp P o a w K Q else E := by
  have hw : Region.wanted o (yielded ops a.tmps) = true := by simp [Region.wanted, hgd]
  rw [if_pos hw]
  obtain ⟨i, hi, hz0, hz1, hz2⟩ := info_parts hinfo
  obtain ⟨v', w', hr, h2, h3, h4, h5⟩ := run_append_own_at (P := P) w B t o.type 54 i _ 2 32 ht hi hz0 hz1 hz2 rfl (by omega) v n _ hown ⟨g, 0, none⟩ 1 1 [.string r.1, .string r.2] rfl (by
    intro j u hj
    match j, hj with
    | 0, hj => simp at hj; subst hj; exact hg0
    | 1, hj => simp at hj; subst hj; exact hg1) (by simp [Value.oneCell']) (by unfold maxLen; omega) (by omega) hbase
  unfold Oper.wp execOp
  simp only [ho, resolve, invoke, builtin, Sem.run_bind, Sem.run_pure, Result.andThen_ok, List.map_toArray, List.map_cons, List.map_nil, hs, hx, hr]
  exact h v' w' (by unfold OwnR; rw [← rng_join, ← rng_one]; exact h2) h3

/-- behind 'out.Rotors = append(out.Rotors, l5Some(r))' -/
theorem app_stepR {wr w2 w4 : World} {g gC B P' n : Nat} {t : TypeId} {v v' : Value} {f : Nat → Rot} {r : Rot}
    (hg2 : wr.drew.grownBy w2 (some g)) (hr2 : Rd w2 g P') (hown4 : OwnR w4 B v' (n + 1) (joinR n f (fun _ => r))) (hgr4 : (w2.alloc (.cells #[.string r.1, .string r.2] t)).grownBy w4 v.ownBlock)
    (hv : OwnR wr B v n f) (hgB : g < B) (hgC : g < gC) (hCB : gC < B) :
    (∀ b tc cs, Blk wr b tc cs → b ≠ g → b < B → b ≠ gC → Blk (w4.setCell ⟨gC, 0, none⟩ v') b tc cs) ∧
    (∀ tc cs, Blk wr gC tc cs → Blk (w4.setCell ⟨gC, 0, none⟩ v') gC tc (cs.setIfInBounds 0 v')) ∧
    OwnR (w4.setCell ⟨gC, 0, none⟩ v') B v' (n + 1) (joinR n f (fun _ => r)) ∧ Rd (w4.setCell ⟨gC, 0, none⟩ v') g P' ∧
    (∀ w : World, w.grownBy wr (some g) → w.heap.size ≤ gC → w.grownBy (w4.setCell ⟨gC, 0, none⟩ v') (some g)) ∧ wr.heap.size ≤ (w4.setCell ⟨gC, 0, none⟩ v').heap.size := by
  have hv2 : OwnR (w2.alloc (.cells #[.string r.1, .string r.2] t)) B v n f := (hv.drew.keptB hg2 hgB).alloc _
  have hs2 : wr.heap.size ≤ w2.heap.size := hg2.size
  have hs4 : w2.heap.size + 1 ≤ w4.heap.size := by have := hgr4.size; simpa using this
  refine ⟨fun b tc cs hb h1 h2 h3 => (((hb.drew.grown hg2 (by simp [h1])).alloc _).ownR hv2 h2 hgr4).far h3 _, fun tc cs hb => (((hb.drew.grown hg2 (by simp; omega)).alloc _).ownR hv2 hCB hgr4).set 0 _,
    hown4.setFar hCB _, ((hr2.ext (ext_alloc _ _)).ownR hv2 hgB hgr4).setFar hgC _, fun w hw h1 => ?_, by simp [World.setCell]; omega⟩
  refine grow_new (grow_ownR (grow_alloc (hw.trans ⟨hg2.os, hg2.tape, hg2.output, hg2.size, hg2.block⟩) _) hv2 (by omega) hgr4) (by simp; omega) _

/-- drawn rotors: not too long -/
def okR (n : Nat) (f : Nat → Rot) : Prop := ∀ k, k < n → (f k).1.size = 10 ∧ (f k).2.size ≤ 3 ∧ ltr (f k).2
theorem okR_join {n : Nat} {f : Nat → Rot} {r : Rot} (h : okR n f) (h1 : r.1.size = 10) (h2 : r.2.size ≤ 3) (h3 : ltr r.2) : okR (n + 1) (joinR n f (fun _ => r)) := by
  intro k hk
  unfold joinR
  by_cases e : k < n
  · rw [if_pos e]; exact h k e
  · rw [if_neg e]; exact ⟨h1, h2, h3⟩
theorem OwnR.succ {w : World} {B n : Nat} {v : Value} {f : Nat → Rot} (h : OwnR w B v (n + 1) f) : ∃ gg c, v = .slice (some ⟨gg, 0, none⟩) (n + 1) c := by
  obtain ⟨gg, c, e, _⟩ := h.at0 (by omega); exact ⟨gg, c, e⟩

set_option maxHeartbeats 1000000 in
set_option maxRecDepth 100000 in
theorem c_l6Some (g P n : Nat) (w : World) (hr : Rd w g P) (hP : P + 100 ≤ 1000000) (hn : n ≤ 3) :
    Calls Try.prog 69 #[.pointer (some ⟨g, 0, none⟩), .int .i64 n] w fun e w' => ∃ (vR : Value) (rf : ByteArray) (f : Nat → Rot), e = .returned (.agg #[vR, .string rf]) ∧ rf.size = 10 ∧
      OwnR w' w.heap.size vR n f ∧ okR n f ∧ Rd w' g (P + 10 + 11 * n) ∧ w.grownBy w' (some g) := by
  have HR := Lib.hid (hr.ext (ext_alloc w (.cells #[.slice none 0 0, .string ByteArray.empty] 25)))
  have hgl := hr.1
  clear hr
  go_enter Try.func69, Try.ntmps69
  go_wp2_with fail
  refine (c_l4Board g P 5 _ HR.out (by omega) (by omega)).mono ?_
  rintro e w1 ⟨rf, rfl, hrf, _, hr1, hg1⟩
  have K1 := Lib.hid (((Blk.new w 25 #[.slice none 0 0, .string ByteArray.empty]).grown hg1 (by simp; omega)).alloc (.cells #[.slice none 0 0, .string rf] 25))
  have N1 := Lib.hid (Blk.new w1 25 #[.slice none 0 0, .string rf])
  have R1 := Lib.hid (hr1.ext (ext_alloc w1 (.cells #[.slice none 0 0, .string rf] 25)))
  have G1 := Lib.hid (grow_alloc ((grow_alloc (World.grownBy.refl w (some g)) (.cells #[.slice none 0 0, .string ByteArray.empty] 25)).trans hg1) (.cells #[.slice none 0 0, .string rf] 25))
  have HRF := Lib.hid hrf
  have hlt : w.heap.size + 1 ≤ w1.heap.size := by have := hg1.size; simpa using this
  clear hr1 hg1 hrf
  go_wp2_with fail
  go_loopw [6] (fun i wr => ∃ (k : Nat) (vR : Value) (f : Nat → Rot), k ≤ n ∧ i = .int .i64 k ∧ Blk wr w.heap.size 25 #[.slice none 0 0, .string ByteArray.empty] ∧ Blk wr w1.heap.size 25 #[vR, .string rf] ∧
      OwnR wr (w1.heap.size + 1) vR k f ∧ okR k f ∧ Rd wr g (P + 10 + 11 * k) ∧ w.grownBy wr (some g) ∧ w1.heap.size + 1 ≤ wr.heap.size) (fun i _ => n - (intOf i).toNat)
  case atStart => exact ⟨0, .slice none 0 0, fun _ => (ByteArray.empty, ByteArray.empty), Nat.zero_le _, rfl, K1.out, N1.out, OwnR.nil _ _ _, fun k hk => by omega, R1.out, G1.out, by simp⟩
  case round =>
    clear K1 N1 R1 G1
    obtain ⟨k, vR, f, hk, rfl, hk0, hk1, ho, hok, hrd, hgr, hsz⟩ := hrel
    have K0 := Lib.hid hk0
    have K1 := Lib.hid hk1
    have HO := Lib.hid ho
    have HOK := Lib.hid hok
    have HRD := Lib.hid hrd
    have HGR := Lib.hid hgr
    have c0 : wr.cell? ⟨w1.heap.size, 0, none⟩ = some vR := hk1.cell 0
    have c1 : wr.cell? ⟨w1.heap.size, 1, none⟩ = some (.string rf) := hk1.cell 1
    have d0 := hk1.free 0
    clear hk0 hk1 ho hok hrd hgr
    by_cases hlt2 : k < n
    · go_wp2_with fail
      go_region_law (first
          | (refine step_appR _ rfl _ _ _ rfl (w1.heap.size + 1) Try.underlying23 info_rot vR k f rfl (wi, no) w2.heap.size ((HO.out.drew.keptB hg2 (by omega)).alloc _) rfl ?_ ?_ (by omega) ?_ ?_
             · rw [World.cell?_alloc_at _ _ _ _ rfl]; rfl
             · rw [World.cell?_alloc_at _ _ _ _ rfl]; rfl
             · have := hg2.size; simp at this ⊢; omega
             intro v' w4 hown4 hgr4
             have hk4 := (((K1.out.drew.grown hg2 (by simp; omega)).alloc (.cells #[.string wi, .string no] 54)).ownR ((HO.out.drew.keptB hg2 (by omega)).alloc (.cells #[.string wi, .string no] 54)) (by omega) hgr4)
             have e0 : w4.cell? ⟨w1.heap.size, 0, none⟩ = some vR := hk4.cell 0
             have e1 := hk4.free 0
             have HALL := Lib.hid (app_stepR (gC := w1.heap.size) (r := (wi, no)) hg2 hr2 hown4 hgr4 HO.out (by omega) (by omega) (by omega))
             obtain ⟨gg, cA', hv'⟩ := hown4.succ
             subst hv')
          | (go_simp
             go_at_call 90
             refine (c_l5Some g (P + 10 + 11 * k) _ HRD.out.drew (by omega)).mono ?_
             rintro e w2 ⟨wi, no, rfl, hwi, hno, hlno, hr2, hg2⟩
             have LNO := Lib.hid hlno
             clear hlno
             have hl1 : wr.heap.size ≤ w2.heap.size := hg2.size
             have hl2 : w1.heap.size < w2.heap.size := by omega
             have hl3 : ¬ w1.heap.size = w2.heap.size := by omega
             have hkeep : w2.cell? ⟨w1.heap.size, 0, none⟩ = some vR := (K1.out.drew.grown hg2 (by simp; omega)).cell 0))
      all_goals
        clear hr2 hg2 hown4 hgr4 hk4 hkeep e0 e1 hl1 hl2 hl3 c0 c1 d0
        have hall := HALL.out
        clear HALL
        generalize w4.setCell ⟨w1.heap.size, 0, none⟩ (.slice (some ⟨gg, 0, none⟩) (k + 1) cA') = w5 at *
        obtain ⟨a1, a2, a4, a5, a6, a7⟩ := hall
        have A1 := Lib.hid (a1 _ _ _ K0.out (by omega) (by omega) (by omega))
        have A2 := Lib.hid (a2 _ _ K1.out)
        have A3 := Lib.hid a4
        have A5 := Lib.hid a5
        have A6 := Lib.hid (a6 w HGR.out (by omega))
        clear a1 a2 a4 a5 a6 K0 K1 HO HRD HGR
        go_wp2_with fail
        exact ⟨⟨k + 1, _, _, by omega, by go_num, A1.out, A2.out, A3.out, okR_join HOK.out hwi (by show no.size ≤ 3; omega) LNO.out, A5.out, A6.out, by omega⟩, by simp [intOf]; omega⟩
    · have e : k = n := by omega
      subst e
      obtain ⟨A, cA, hvR⟩ := HO.out.slice
      subst hvR
      have q2 := K0.out.cell 0
      have q3 := K0.out.cell 1
      have u0 := K0.out.free 0
      have u1 := K0.out.free 1
      have HF := Lib.hid (res2 (.slice A k cA) (.string rf) K0.out HRD.out HGR.out (by omega) (Nat.le_refl _))
      have HO2 := Lib.hid (((HO.out.setFar (p := ⟨w.heap.size, 0, none⟩) (by simp; omega) (.slice A k cA)).setFar (p := ⟨w.heap.size, 1, none⟩) (by simp; omega) (.string rf)).lower (B' := w.heap.size) (by omega))
      go_wp2_with fail
      obtain ⟨f0, f1, f2, f3, _⟩ := HF.out
      exact bodyPost_ret (v := .agg #[.slice A k cA, .string rf]) (by simp [results, Try.results69, go_sem, f0, f1]) rfl ⟨.slice A k cA, rf, f, rfl, HRF.out, HO2.out, HOK.out, f2, f3⟩

theorem okR_set {n k : Nat} {f : Nat → Rot} {r : Rot} (h : okR n f) (h1 : r.1.size = 10) (h2 : r.2.size ≤ 3) (h3 : ltr r.2) : okR n (fun i => if i = k then r else f i) := by
  intro j hj
  show (if j = k then r else f j).1.size = 10 ∧ (if j = k then r else f j).2.size ≤ 3 ∧ ltr (if j = k then r else f j).2
  by_cases e : j = k
  · rw [if_pos e]; exact ⟨h1, h2, h3⟩
  · rw [if_neg e]; exact h j hj

set_option maxHeartbeats 1000000 in
set_option maxRecDepth 100000 in
theorem c_l6Any (g P : Nat) (w : World) (hr : Rd w g P) (hP : P + 300 ≤ 1000000) :
    Calls Try.prog 70 #[.pointer (some ⟨g, 0, none⟩)] w fun e w' => ∃ (vR : Value) (rf : ByteArray) (n : Nat) (f : Nat → Rot), e = .returned (.agg #[vR, .string rf]) ∧ rf.size = 10 ∧ 1 ≤ n ∧ n ≤ 3 ∧
      OwnR w' w.heap.size vR n f ∧ okR n f ∧ Rd w' g (P + 150) ∧ w.grownBy w' (some g) := by
  have HR := Lib.hid (hr.ext (ext_alloc w (.cells #[.slice none 0 0, .string ByteArray.empty] 25)))
  have hgl := hr.1
  clear hr
  go_enter Try.func70, Try.ntmps70
  go_wp2_with fail
  refine (c_pick g P _ _ HR.out (by omega) (by omega) (by omega)).mono ?_
  rintro e w1 ⟨m, rfl, hm, hr1, hg1⟩
  have K1 := Lib.hid ((Blk.new w 25 #[.slice none 0 0, .string ByteArray.empty]).grown hg1 (by simp; omega))
  have R1 := Lib.hid hr1
  have G1 := Lib.hid ((grow_alloc (World.grownBy.refl w (some g)) (.cells #[.slice none 0 0, .string ByteArray.empty] 25)).trans hg1)
  have hlt : w.heap.size + 1 ≤ w1.heap.size := by have := hg1.size; simpa using this
  clear hr1 hg1
  go_wp2_with fail
  have e1 : (1 : Int) + (m : Int) = ((m + 1 : Nat) : Int) := by omega
  rw [e1]
  clear e1
  refine (c_l6Some g (P + 1) (m + 1) _ R1.out (by omega) (by omega)).mono ?_
  rintro e w2 ⟨vR, rf, f, rfl, hrf, ho, hok, hr2, hg2⟩
  obtain ⟨gR, cR, rfl, hgR1, hgR2⟩ := ho.at0 (by omega)
  have K2 := Lib.hid ((K1.out.grown hg2 (by simp; omega)).alloc (.cells #[.slice (some ⟨gR, 0, none⟩) (m + 1) cR, .string rf] 25))
  have N2 := Lib.hid (Blk.new w2 25 #[.slice (some ⟨gR, 0, none⟩) (m + 1) cR, .string rf])
  have O2 := Lib.hid (ho.alloc (.cells #[.slice (some ⟨gR, 0, none⟩) (m + 1) cR, .string rf] 25))
  have R2 := Lib.hid (hr2.ext (ext_alloc w2 (.cells #[.slice (some ⟨gR, 0, none⟩) (m + 1) cR, .string rf] 25)))
  have G2 := Lib.hid (grow_alloc (G1.out.trans hg2) (.cells #[.slice (some ⟨gR, 0, none⟩) (m + 1) cR, .string rf] 25))
  have HRF := Lib.hid hrf
  have HOK := Lib.hid hok
  have hlt2 : w1.heap.size ≤ w2.heap.size := hg2.size
  clear hr2 hg2 hrf ho hok K1 R1 G1
  go_wp2_with fail
  go_loopw [4] (fun i wr => ∃ (k : Nat) (f : Nat → Rot), k ≤ m + 1 ∧ i = .int .i64 k ∧ Blk wr w.heap.size 25 #[.slice none 0 0, .string ByteArray.empty] ∧ Blk wr w2.heap.size 25 #[.slice (some ⟨gR, 0, none⟩) (m + 1) cR, .string rf] ∧
      OwnR wr w1.heap.size (.slice (some ⟨gR, 0, none⟩) (m + 1) cR) (m + 1) f ∧ okR (m + 1) f ∧ Rd wr g (P + 44 + 34 * k) ∧ w.grownBy wr (some g) ∧ w2.heap.size + 1 ≤ wr.heap.size) (fun i _ => m + 1 - (intOf i).toNat)
  case atStart => exact ⟨0, f, Nat.zero_le _, rfl, K2.out, N2.out, O2.out, HOK.out, R2.out.more (by omega), G2.out, by simp⟩
  case round =>
    clear K2 N2 O2 R2 G2 HOK
    obtain ⟨k, f, hk, rfl, hk0, hk1, ho, hok, hrd, hgr, hsz⟩ := hrel
    have K0 := Lib.hid hk0
    have K1 := Lib.hid hk1
    have HO := Lib.hid ho
    have HOK := Lib.hid hok
    have HRD := Lib.hid hrd
    have HGR := Lib.hid hgr
    have c0 : wr.cell? ⟨w2.heap.size, 0, none⟩ = some (.slice (some ⟨gR, 0, none⟩) (m + 1) cR) := hk1.cell 0
    clear hk0 hk1 ho hok hrd hgr
    by_cases hltk : k < m + 1
    · go_wp2_with fail
      refine (c_pick g (P + 44 + 34 * k) _ _ HRD.out (by omega) (by omega) (by omega)).mono ?_
      rintro e w3 ⟨q, rfl, hq, hr3, hg3⟩
      have K03 := Lib.hid (K0.out.grown hg3 (by simp; omega))
      have K13 := Lib.hid (K1.out.grown hg3 (by simp; omega))
      have O3 := Lib.hid (HO.out.keptB hg3 (by omega))
      have R3 := Lib.hid hr3
      have G3 := Lib.hid (HGR.out.trans hg3)
      have hsz3 : w2.heap.size + 1 ≤ w3.heap.size := Nat.le_trans hsz hg3.size
      clear hr3 hg3 K0 K1 HO HRD HGR c0
      by_cases q0 : q = 0
      · have t0 : ((q : Int) == 0) = true := by simp [q0]
        clear q0
        have c0 : w3.cell? ⟨w2.heap.size, 0, none⟩ = some (.slice (some ⟨gR, 0, none⟩) (m + 1) cR) := K13.out.cell 0
        have hcc := O3.out.cells hltk
        have i1 : (0 : Int) ≤ (k : Int) := by omega
        have i2 : (k : Int) < ((m + 1 : Nat) : Int) := by omega
        have i3 : (k : Int) < (m : Int) + 1 := by omega
        go_wp2_with fail
        go_region_law (first
          | (go_simp
             go_at_call 91
             refine (c_l5Any g (P + 44 + 34 * k + 1) _ R3.out.drew (by omega)).mono ?_
             rintro e w4 ⟨wi, no, rfl, hwi, hno, hlno, hr4, hg4⟩
             have LNO := Lib.hid hlno
             clear hlno
             have hkeep : w4.cell? ⟨w2.heap.size, 0, none⟩ = some (.slice (some ⟨gR, 0, none⟩) (m + 1) cR) := (K13.out.drew.grown hg4 (by simp; omega)).cell 0
             have O4 := Lib.hid (O3.out.drew.keptB hg4 (by omega))
             have h40 := (O4.out.cells hltk).1
             have h41 := (O4.out.cells hltk).2
             have h42 := O4.out.free (k * 2)
             have h43 := O4.out.free (k * 2 + 1)))
        all_goals
          have N0 := Lib.hid (((K03.out.drew.grown hg4 (by simp; omega)).far (p := ⟨gR, k * 2, none⟩) (by simp; omega) (.string wi)).far (p := ⟨gR, k * 2 + 1, none⟩) (by simp; omega) (.string no))
          have N1 := Lib.hid (((K13.out.drew.grown hg4 (by simp; omega)).far (p := ⟨gR, k * 2, none⟩) (by simp; omega) (.string wi)).far (p := ⟨gR, k * 2 + 1, none⟩) (by simp; omega) (.string no))
          have NO := Lib.hid (O4.out.set k (wi, no) (f' := fun i => if i = k then (wi, no) else f i) (fun i _ => rfl))
          have NR := Lib.hid ((hr4.setFar (p := ⟨gR, k * 2, none⟩) (by simp; omega) (.string wi)).setFar (p := ⟨gR, k * 2 + 1, none⟩) (by simp; omega) (.string no))
          have NG := Lib.hid (grow_new (p := ⟨gR, k * 2 + 1, none⟩) (grow_new (p := ⟨gR, k * 2, none⟩) (G3.out.trans ⟨hg4.os, hg4.tape, hg4.output, hg4.size, hg4.block⟩) (by simp; omega) (.string wi)) (by simp; omega) (.string no))
          have hsz4 : w2.heap.size + 1 ≤ ((w4.setCell ⟨gR, k * 2, none⟩ (.string wi)).setCell ⟨gR, k * 2 + 1, none⟩ (.string no)).heap.size := by have := hg4.size; simp [World.setCell] at this ⊢; omega
          clear hr4 hg4 hkeep h40 h41 h42 h43 O4 c0 hcc K03 K13 O3 R3 G3
          go_wp2_with fail
          exact ⟨⟨k + 1, _, by omega, by go_num, N0.out, N1.out, NO.out, okR_set HOK.out hwi hno LNO.out, NR.out.more (by omega), NG.out, hsz4⟩, by simp [intOf]; omega⟩
      · have t0 : ((q : Int) == 0) = false := by simp [q0]
        clear q0
        go_wp2_with fail
        exact ⟨⟨k + 1, f, by omega, by go_num, K03.out, K13.out, O3.out, HOK.out, R3.out.more (by omega), G3.out, hsz3⟩, by simp [intOf]; omega⟩
    · have q0 := K1.out.cell 0
      have q1 := K1.out.cell 1
      have q2 := K0.out.cell 0
      have q3 := K0.out.cell 1
      have u0 := K0.out.free 0
      have u1 := K0.out.free 1
      have HF := Lib.hid (res2 (.slice (some ⟨gR, 0, none⟩) (m + 1) cR) (.string rf) K0.out HRD.out HGR.out (by omega) (Nat.le_refl _))
      have HO2 := Lib.hid (((HO.out.setFar (p := ⟨w.heap.size, 0, none⟩) (by simp; omega) (.slice (some ⟨gR, 0, none⟩) (m + 1) cR)).setFar (p := ⟨w.heap.size, 1, none⟩) (by simp; omega) (.string rf)).lower (B' := w.heap.size) (by omega))
      go_wp2_with fail
      obtain ⟨f0, f1, f2, f3, _⟩ := HF.out
      exact bodyPost_ret (v := .agg #[.slice (some ⟨gR, 0, none⟩) (m + 1) cR, .string rf]) (by simp [results, Try.results70, go_sem, f0, f1]) rfl ⟨_, rf, m + 1, f, rfl, HRF.out, by omega, by omega, HO2.out, HOK.out, f2.more (by omega), f3⟩
end Go.Proofs.Ytlcanmofgjbcbaa
