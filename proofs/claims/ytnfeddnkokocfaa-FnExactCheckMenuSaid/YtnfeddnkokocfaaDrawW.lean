/- DrawWheels, DrawWheels2, in one text. -/
import Derived.Test.YtnfeddnkokocfaaDrawR
namespace Go.Proofs.Ytnfeddnkokocfaa
set_option linter.unusedVariables false
set_option linter.unusedSimpArgs false
/-! DrawWheels -/
section
open Go.RowKit
attribute [local go_sem ↓] Go.wp_at_zero Go.wp_at_succ

/-- two lists of rotors, one behind the other -/
def joinR (n : Nat) (f h : Nat → Rot) : Nat → Rot := fun i => if i < n then f i else h (i - n)
theorem rng_join (f h : Nat → Rot) (n m : Nat) : rngV (cellR f) (n * 2) ++ rngV (cellR h) (m * 2) = rngV (cellR (joinR n f h)) ((n + m) * 2) := by
  apply List.ext_getElem?
  intro i
  rw [List.getElem?_append, rngV_len]
  by_cases h1 : i < n * 2
  · rw [if_pos h1, rngV_at _ h1, rngV_at _ (by omega)]
    unfold cellR joinR
    rw [if_pos (show i / 2 < n by omega)]
  · rw [if_neg h1]
    by_cases h2 : i < (n + m) * 2
    · rw [rngV_at _ (by omega), rngV_at _ h2]
      unfold cellR joinR
      rw [if_neg (show ¬ i / 2 < n by omega), show (i - n * 2) % 2 = i % 2 by omega, show (i - n * 2) / 2 = i / 2 - n by omega]
    · rw [List.getElem?_eq_none (by rw [rngV_len]; omega), List.getElem?_eq_none (by rw [rngV_len]; omega)]
theorem rng_one (r : Rot) : [Value.string r.1, .string r.2] = rngV (cellR (fun _ => r)) (1 * 2) := by
  unfold rngV; rfl
theorem OwnR.alloc {w : World} {B n : Nat} {v : Value} {f : Nat → Rot} (h : OwnR w B v n f) (o : Obj) : OwnR (w.alloc o) B v n f := h.ext (ext_alloc _ _)
theorem OwnR.drew {w : World} {B n : Nat} {v : Value} {f : Nat → Rot} (h : OwnR w B v n f) : OwnR w.drew B v n f := h
theorem OwnR.keptB {w w' : World} {B n g : Nat} {v : Value} {f : Nat → Rot} (h : OwnR w B v n f) (hg : w.grownBy w' (some g)) (hB : g < B) : OwnR w' B v n f :=
  h.kept hg (fun x hx he => by injection hx with hx; have := (h.blk_lt he).1; omega)
theorem OwnR.lower {w : World} {B B' n : Nat} {v : Value} {f : Nat → Rot} (h : OwnR w B v n f) (hB : B' ≤ B) : OwnR w B' v n f := by
  refine ⟨h.1, ?_⟩
  rcases h.2 with h2 | ⟨g, cap, cur, h3, h4, h5⟩
  · exact .inl h2
  · exact .inr ⟨g, cap, cur, h3, by omega, h5⟩
theorem grow_ownR {a w w' : World} {B n : Nat} {v : Value} {f : Nat → Rot} {row : Option Nat} (h : a.grownBy w row) (ho : OwnR w B v n f) (hB : a.heap.size ≤ B) (hg : w.grownBy w' v.ownBlock) : a.grownBy w' row :=
  ⟨hg.os.trans h.os, hg.tape.trans h.tape, hg.output.trans h.output, Nat.le_trans h.size hg.size, fun k hk hne => (ho.far hg k (Nat.lt_of_lt_of_le hk h.size) (by omega)).trans (h.block k hk hne)⟩
theorem Blk.ownR {w w' : World} {b B n : Nat} {t : TypeId} {cs : Array Value} {v : Value} {f : Nat → Rot} (h : Blk w b t cs) (ho : OwnR w B v n f) (hB : b < B) (hg : w.grownBy w' v.ownBlock) : Blk w' b t cs :=
  (ho.far hg b h.lt hB).trans h
theorem Rd.ownR {w w' : World} {g P B n : Nat} {v : Value} {f : Nat → Rot} (h : Rd w g P) (ho : OwnR w B v n f) (hB : g < B) (hg : w.grownBy w' v.ownBlock) : Rd w' g P :=
  h.below ⟨hg.os, hg.tape, hg.output, hg.size, fun k hk => ho.far hg k (by have := h.1; omega) (by omega)⟩

/-- append(s, y) of one rotor, at a step of a region that draws its order -/
theorem step_appR {P : Program} (w : World) {ops : Array Oper} {o : Oper} {a : Act} {K : Act → World → Prop} {Q : Exit → Act → World → Prop} {E : Prop} (hgd : o.guard = none) (s x : Operand) (t : TypeId)
    (ho : o.op = .call { callee := .builtin .append, args := #[s, x], argTypes := #[t, t] })
    (B : Nat) (ht : P.underlying t = some (.slice 144)) (hinfo : (P.info? 144).map (fun i => (i.zero, i.size, i.bytes)) = some (some (.agg #[.string ByteArray.empty, .string ByteArray.empty]), 2, 32))
    (v : Value) (n : Nat) (f : Nat → Rot) (hs : a.eval s = v) (r : Rot) (g : Nat) (hown : OwnR w B v n f) (hx : a.eval x = .slice (some ⟨g, 0, none⟩) 1 1) (hg0 : w.cell? ⟨g, 0, none⟩ = some (.string r.1)) (hg1 : w.cell? ⟨g, 1, none⟩ = some (.string r.2))
    (hlen : n ≤ 1000000000) (hbase : B ≤ w.heap.size)
    (h : ∀ v' w', OwnR w' B v' (n + 1) (joinR n f (fun _ => r)) → w.grownBy w' v.ownBlock → K (a.put o.dst v') w') :
    if Region.wanted o (yielded ops a.tmps) = true then Oper.wp P o a w K Q else E := by
  have hw : Region.wanted o (yielded ops a.tmps) = true := by simp [Region.wanted, hgd]
  rw [if_pos hw]
  obtain ⟨i, hi, hz0, hz1, hz2⟩ := info_parts hinfo
  obtain ⟨v', w', hr, h2, h3, h4, h5⟩ := run_append_own_at (P := P) w B t o.type 144 i _ 2 32 ht hi hz0 hz1 hz2 rfl (by omega) v n _ hown ⟨g, 0, none⟩ 1 1 [.string r.1, .string r.2] rfl (by
    intro j u hj
    match j, hj with
    | 0, hj => simp at hj; subst hj; exact hg0
    | 1, hj => simp at hj; subst hj; exact hg1) (by simp [Value.oneCell']) (by unfold maxLen; omega) (by omega) hbase
  unfold Oper.wp execOp
  simp only [ho, resolve, invoke, builtin, Sem.run_bind, Sem.run_pure, Result.andThen_ok, List.map_toArray, List.map_cons, List.map_nil, hs, hx, hr]
  exact h v' w' (by unfold OwnR; rw [← rng_join, ← rng_one]; exact h2) h3

/-- behind 'out.Rotors = append(out.Rotors, l5Some(r))' -/
theorem app_stepR {wr w2 w4 : World} {g gC B P' n : Nat} {t : TypeId} {v v' : Value} {f : Nat → Rot} {r : Rot}
    (hg2 : wr.drew.grownBy w2 (some g)) (hr2 : Rd w2 g P') (hown4 : OwnR w4 B v' (n + 1) (joinR n f (fun _ => r))) (hgr4 : (w2.alloc (.cells #[.string r.1, .string r.2] t)).grownBy w4 v.ownBlock)
    (hv : OwnR wr B v n f) (hgB : g < B) (hgC : g < gC) (hCB : gC < B) :
    (∀ b tc cs, Blk wr b tc cs → b ≠ g → b < B → b ≠ gC → Blk (w4.setCell ⟨gC, 0, none⟩ v') b tc cs) ∧
    (∀ tc cs, Blk wr gC tc cs → Blk (w4.setCell ⟨gC, 0, none⟩ v') gC tc (cs.setIfInBounds 0 v')) ∧
    OwnR (w4.setCell ⟨gC, 0, none⟩ v') B v' (n + 1) (joinR n f (fun _ => r)) ∧ Rd (w4.setCell ⟨gC, 0, none⟩ v') g P' ∧
    (∀ w : World, w.grownBy wr (some g) → w.heap.size ≤ gC → w.grownBy (w4.setCell ⟨gC, 0, none⟩ v') (some g)) ∧ wr.heap.size ≤ (w4.setCell ⟨gC, 0, none⟩ v').heap.size := by
  have hv2 : OwnR (w2.alloc (.cells #[.string r.1, .string r.2] t)) B v n f := (hv.drew.keptB hg2 hgB).alloc _
  have hs2 : wr.heap.size ≤ w2.heap.size := hg2.size
  have hs4 : w2.heap.size + 1 ≤ w4.heap.size := by have := hgr4.size; simpa using this
  refine ⟨fun b tc cs hb h1 h2 h3 => (((hb.drew.grown hg2 (by simp [h1])).alloc _).ownR hv2 h2 hgr4).far h3 _, fun tc cs hb => (((hb.drew.grown hg2 (by simp; omega)).alloc _).ownR hv2 hCB hgr4).set 0 _,
    hown4.setFar hCB _, ((hr2.ext (ext_alloc _ _)).ownR hv2 hgB hgr4).setFar hgC _, fun w hw h1 => ?_, by simp [World.setCell]; omega⟩
  refine grow_new (grow_ownR (grow_alloc (hw.trans ⟨hg2.os, hg2.tape, hg2.output, hg2.size, hg2.block⟩) _) hv2 (by omega) hgr4) (by simp; omega) _

/-- drawn rotors: not too long -/
def okR (n : Nat) (f : Nat → Rot) : Prop := ∀ k, k < n → (f k).1.size = 10 ∧ (f k).2.size ≤ 3 ∧ ltr (f k).2
theorem okR_join {n : Nat} {f : Nat → Rot} {r : Rot} (h : okR n f) (h1 : r.1.size = 10) (h2 : r.2.size ≤ 3) (h3 : ltr r.2) : okR (n + 1) (joinR n f (fun _ => r)) := by
  intro k hk
  unfold joinR
  by_cases e : k < n
  · rw [if_pos e]; exact h k e
  · rw [if_neg e]; exact ⟨h1, h2, h3⟩
theorem OwnR.succ {w : World} {B n : Nat} {v : Value} {f : Nat → Rot} (h : OwnR w B v (n + 1) f) : ∃ gg c, v = .slice (some ⟨gg, 0, none⟩) (n + 1) c := by
  obtain ⟨gg, c, e, _⟩ := h.at0 (by omega); exact ⟨gg, c, e⟩

set_option maxHeartbeats 1000000 in
set_option maxRecDepth 100000 in
theorem c_l6Some (g P n : Nat) (w : World) (hr : Rd w g P) (hP : P + 100 ≤ 1000000) (hn : n ≤ 3) :
    Calls Try.prog 154 #[.pointer (some ⟨g, 0, none⟩), .int .i64 n] w fun e w' => ∃ (vR : Value) (rf : ByteArray) (f : Nat → Rot), e = .returned (.agg #[vR, .string rf]) ∧ rf.size = 10 ∧
      OwnR w' w.heap.size vR n f ∧ okR n f ∧ Rd w' g (P + 10 + 11 * n) ∧ w.grownBy w' (some g) := by
  have HR := Lib.hid (hr.ext (ext_alloc w (.cells #[.slice none 0 0, .string ByteArray.empty] 31)))
  have hgl := hr.1
  clear hr
  go_enter Try.func154, Try.ntmps154
  go_wp2_with fail
  refine (c_l4Board g P 5 _ HR.out (by omega) (by omega)).mono ?_
  rintro e w1 ⟨rf, rfl, hrf, _, hr1, hg1⟩
  have K1 := Lib.hid (((Blk.new w 31 #[.slice none 0 0, .string ByteArray.empty]).grown hg1 (by simp; omega)).alloc (.cells #[.slice none 0 0, .string rf] 31))
  have N1 := Lib.hid (Blk.new w1 31 #[.slice none 0 0, .string rf])
  have R1 := Lib.hid (hr1.ext (ext_alloc w1 (.cells #[.slice none 0 0, .string rf] 31)))
  have G1 := Lib.hid (grow_alloc ((grow_alloc (World.grownBy.refl w (some g)) (.cells #[.slice none 0 0, .string ByteArray.empty] 31)).trans hg1) (.cells #[.slice none 0 0, .string rf] 31))
  have HRF := Lib.hid hrf
  have hlt : w.heap.size + 1 ≤ w1.heap.size := by have := hg1.size; simpa using this
  clear hr1 hg1 hrf
  go_wp2_with fail
  go_loopw [6] (fun i wr => ∃ (k : Nat) (vR : Value) (f : Nat → Rot), k ≤ n ∧ i = .int .i64 k ∧ Blk wr w.heap.size 31 #[.slice none 0 0, .string ByteArray.empty] ∧ Blk wr w1.heap.size 31 #[vR, .string rf] ∧
      OwnR wr (w1.heap.size + 1) vR k f ∧ okR k f ∧ Rd wr g (P + 10 + 11 * k) ∧ w.grownBy wr (some g) ∧ w1.heap.size + 1 ≤ wr.heap.size) (fun i _ => n - (intOf i).toNat)
  case atStart => exact ⟨0, .slice none 0 0, fun _ => (ByteArray.empty, ByteArray.empty), Nat.zero_le _, rfl, K1.out, N1.out, OwnR.nil _ _ _, fun k hk => by omega, R1.out, G1.out, by simp⟩
  case round =>
    clear K1 N1 R1 G1
    obtain ⟨k, vR, f, hk, rfl, hk0, hk1, ho, hok, hrd, hgr, hsz⟩ := hrel
    have K0 := Lib.hid hk0
    have K1 := Lib.hid hk1
    have HO := Lib.hid ho
    have HOK := Lib.hid hok
    have HRD := Lib.hid hrd
    have HGR := Lib.hid hgr
    have c0 : wr.cell? ⟨w1.heap.size, 0, none⟩ = some vR := hk1.cell 0
    have c1 : wr.cell? ⟨w1.heap.size, 1, none⟩ = some (.string rf) := hk1.cell 1
    have d0 := hk1.free 0
    clear hk0 hk1 ho hok hrd hgr
    by_cases hlt2 : k < n
    · go_wp2_with fail
      go_region_law (first
          | (refine step_appR _ rfl _ _ _ rfl (w1.heap.size + 1) Try.underlying29 info_rot vR k f rfl (wi, no) w2.heap.size ((HO.out.drew.keptB hg2 (by omega)).alloc _) rfl ?_ ?_ (by omega) ?_ ?_
             · rw [World.cell?_alloc_at _ _ _ _ rfl]; rfl
             · rw [World.cell?_alloc_at _ _ _ _ rfl]; rfl
             · have := hg2.size; simp at this ⊢; omega
             intro v' w4 hown4 hgr4
             have hk4 := (((K1.out.drew.grown hg2 (by simp; omega)).alloc (.cells #[.string wi, .string no] 144)).ownR ((HO.out.drew.keptB hg2 (by omega)).alloc (.cells #[.string wi, .string no] 144)) (by omega) hgr4)
             have e0 : w4.cell? ⟨w1.heap.size, 0, none⟩ = some vR := hk4.cell 0
             have e1 := hk4.free 0
             have HALL := Lib.hid (app_stepR (gC := w1.heap.size) (r := (wi, no)) hg2 hr2 hown4 hgr4 HO.out (by omega) (by omega) (by omega))
             obtain ⟨gg, cA', hv'⟩ := hown4.succ
             subst hv')
          | (go_simp
             go_at_call 172
             refine (c_l5Some g (P + 10 + 11 * k) _ HRD.out.drew (by omega)).mono ?_
             rintro e w2 ⟨wi, no, rfl, hwi, hno, hlno, hr2, hg2⟩
             have LNO := Lib.hid hlno
             clear hlno
             have hl1 : wr.heap.size ≤ w2.heap.size := hg2.size
             have hl2 : w1.heap.size < w2.heap.size := by omega
             have hl3 : ¬ w1.heap.size = w2.heap.size := by omega
             have hkeep : w2.cell? ⟨w1.heap.size, 0, none⟩ = some vR := (K1.out.drew.grown hg2 (by simp; omega)).cell 0))
      all_goals
        clear hr2 hg2 hown4 hgr4 hk4 hkeep e0 e1 hl1 hl2 hl3 c0 c1 d0
        have hall := HALL.out
        clear HALL
        generalize w4.setCell ⟨w1.heap.size, 0, none⟩ (.slice (some ⟨gg, 0, none⟩) (k + 1) cA') = w5 at *
        obtain ⟨a1, a2, a4, a5, a6, a7⟩ := hall
        have A1 := Lib.hid (a1 _ _ _ K0.out (by omega) (by omega) (by omega))
        have A2 := Lib.hid (a2 _ _ K1.out)
        have A3 := Lib.hid a4
        have A5 := Lib.hid a5
        have A6 := Lib.hid (a6 w HGR.out (by omega))
        clear a1 a2 a4 a5 a6 K0 K1 HO HRD HGR
        go_wp2_with fail
        exact ⟨⟨k + 1, _, _, by omega, by go_num, A1.out, A2.out, A3.out, okR_join HOK.out hwi (by show no.size ≤ 3; omega) LNO.out, A5.out, A6.out, by omega⟩, by simp [intOf]; omega⟩
    · have e : k = n := by omega
      subst e
      obtain ⟨A, cA, hvR⟩ := HO.out.slice
      subst hvR
      have q2 := K0.out.cell 0
      have q3 := K0.out.cell 1
      have u0 := K0.out.free 0
      have u1 := K0.out.free 1
      have HF := Lib.hid (res2 (.slice A k cA) (.string rf) K0.out HRD.out HGR.out (by omega) (Nat.le_refl _))
      have HO2 := Lib.hid (((HO.out.setFar (p := ⟨w.heap.size, 0, none⟩) (by simp; omega) (.slice A k cA)).setFar (p := ⟨w.heap.size, 1, none⟩) (by simp; omega) (.string rf)).lower (B' := w.heap.size) (by omega))
      go_wp2_with fail
      obtain ⟨f0, f1, f2, f3, _⟩ := HF.out
      exact bodyPost_ret (v := .agg #[.slice A k cA, .string rf]) (by simp [results, Try.results154, go_sem, f0, f1]) rfl ⟨.slice A k cA, rf, f, rfl, HRF.out, HO2.out, HOK.out, f2, f3⟩

theorem okR_set {n k : Nat} {f : Nat → Rot} {r : Rot} (h : okR n f) (h1 : r.1.size = 10) (h2 : r.2.size ≤ 3) (h3 : ltr r.2) : okR n (fun i => if i = k then r else f i) := by
  intro j hj
  show (if j = k then r else f j).1.size = 10 ∧ (if j = k then r else f j).2.size ≤ 3 ∧ ltr (if j = k then r else f j).2
  by_cases e : j = k
  · rw [if_pos e]; exact ⟨h1, h2, h3⟩
  · rw [if_neg e]; exact h j hj

set_option maxHeartbeats 1000000 in
set_option maxRecDepth 100000 in
theorem c_l6Any (g P : Nat) (w : World) (hr : Rd w g P) (hP : P + 300 ≤ 1000000) :
    Calls Try.prog 155 #[.pointer (some ⟨g, 0, none⟩)] w fun e w' => ∃ (vR : Value) (rf : ByteArray) (n : Nat) (f : Nat → Rot), e = .returned (.agg #[vR, .string rf]) ∧ rf.size = 10 ∧ 1 ≤ n ∧ n ≤ 3 ∧
      OwnR w' w.heap.size vR n f ∧ okR n f ∧ Rd w' g (P + 150) ∧ w.grownBy w' (some g) := by
  have HR := Lib.hid (hr.ext (ext_alloc w (.cells #[.slice none 0 0, .string ByteArray.empty] 31)))
  have hgl := hr.1
  clear hr
  go_enter Try.func155, Try.ntmps155
  go_wp2_with fail
  refine (c_pick g P _ _ HR.out (by omega) (by omega) (by omega)).mono ?_
  rintro e w1 ⟨m, rfl, hm, hr1, hg1⟩
  have K1 := Lib.hid ((Blk.new w 31 #[.slice none 0 0, .string ByteArray.empty]).grown hg1 (by simp; omega))
  have R1 := Lib.hid hr1
  have G1 := Lib.hid ((grow_alloc (World.grownBy.refl w (some g)) (.cells #[.slice none 0 0, .string ByteArray.empty] 31)).trans hg1)
  have hlt : w.heap.size + 1 ≤ w1.heap.size := by have := hg1.size; simpa using this
  clear hr1 hg1
  go_wp2_with fail
  have e1 : (1 : Int) + (m : Int) = ((m + 1 : Nat) : Int) := by omega
  rw [e1]
  clear e1
  refine (c_l6Some g (P + 1) (m + 1) _ R1.out (by omega) (by omega)).mono ?_
  rintro e w2 ⟨vR, rf, f, rfl, hrf, ho, hok, hr2, hg2⟩
  obtain ⟨gR, cR, rfl, hgR1, hgR2⟩ := ho.at0 (by omega)
  have K2 := Lib.hid ((K1.out.grown hg2 (by simp; omega)).alloc (.cells #[.slice (some ⟨gR, 0, none⟩) (m + 1) cR, .string rf] 31))
  have N2 := Lib.hid (Blk.new w2 31 #[.slice (some ⟨gR, 0, none⟩) (m + 1) cR, .string rf])
  have O2 := Lib.hid (ho.alloc (.cells #[.slice (some ⟨gR, 0, none⟩) (m + 1) cR, .string rf] 31))
  have R2 := Lib.hid (hr2.ext (ext_alloc w2 (.cells #[.slice (some ⟨gR, 0, none⟩) (m + 1) cR, .string rf] 31)))
  have G2 := Lib.hid (grow_alloc (G1.out.trans hg2) (.cells #[.slice (some ⟨gR, 0, none⟩) (m + 1) cR, .string rf] 31))
  have HRF := Lib.hid hrf
  have HOK := Lib.hid hok
  have hlt2 : w1.heap.size ≤ w2.heap.size := hg2.size
  clear hr2 hg2 hrf ho hok K1 R1 G1
  go_wp2_with fail
  go_loopw [4] (fun i wr => ∃ (k : Nat) (f : Nat → Rot), k ≤ m + 1 ∧ i = .int .i64 k ∧ Blk wr w.heap.size 31 #[.slice none 0 0, .string ByteArray.empty] ∧ Blk wr w2.heap.size 31 #[.slice (some ⟨gR, 0, none⟩) (m + 1) cR, .string rf] ∧
      OwnR wr w1.heap.size (.slice (some ⟨gR, 0, none⟩) (m + 1) cR) (m + 1) f ∧ okR (m + 1) f ∧ Rd wr g (P + 44 + 34 * k) ∧ w.grownBy wr (some g) ∧ w2.heap.size + 1 ≤ wr.heap.size) (fun i _ => m + 1 - (intOf i).toNat)
  case atStart => exact ⟨0, f, Nat.zero_le _, rfl, K2.out, N2.out, O2.out, HOK.out, R2.out.more (by omega), G2.out, by simp⟩
  case round =>
    clear K2 N2 O2 R2 G2 HOK
    obtain ⟨k, f, hk, rfl, hk0, hk1, ho, hok, hrd, hgr, hsz⟩ := hrel
    have K0 := Lib.hid hk0
    have K1 := Lib.hid hk1
    have HO := Lib.hid ho
    have HOK := Lib.hid hok
    have HRD := Lib.hid hrd
    have HGR := Lib.hid hgr
    have c0 : wr.cell? ⟨w2.heap.size, 0, none⟩ = some (.slice (some ⟨gR, 0, none⟩) (m + 1) cR) := hk1.cell 0
    clear hk0 hk1 ho hok hrd hgr
    by_cases hltk : k < m + 1
    · go_wp2_with fail
      refine (c_pick g (P + 44 + 34 * k) _ _ HRD.out (by omega) (by omega) (by omega)).mono ?_
      rintro e w3 ⟨q, rfl, hq, hr3, hg3⟩
      have K03 := Lib.hid (K0.out.grown hg3 (by simp; omega))
      have K13 := Lib.hid (K1.out.grown hg3 (by simp; omega))
      have O3 := Lib.hid (HO.out.keptB hg3 (by omega))
      have R3 := Lib.hid hr3
      have G3 := Lib.hid (HGR.out.trans hg3)
      have hsz3 : w2.heap.size + 1 ≤ w3.heap.size := Nat.le_trans hsz hg3.size
      clear hr3 hg3 K0 K1 HO HRD HGR c0
      by_cases q0 : q = 0
      · have t0 : ((q : Int) == 0) = true := by simp [q0]
        clear q0
        have c0 : w3.cell? ⟨w2.heap.size, 0, none⟩ = some (.slice (some ⟨gR, 0, none⟩) (m + 1) cR) := K13.out.cell 0
        have hcc := O3.out.cells hltk
        have i1 : (0 : Int) ≤ (k : Int) := by omega
        have i2 : (k : Int) < ((m + 1 : Nat) : Int) := by omega
        have i3 : (k : Int) < (m : Int) + 1 := by omega
        go_wp2_with fail
        go_region_law (first
          | (go_simp
             go_at_call 173
             refine (c_l5Any g (P + 44 + 34 * k + 1) _ R3.out.drew (by omega)).mono ?_
             rintro e w4 ⟨wi, no, rfl, hwi, hno, hlno, hr4, hg4⟩
             have LNO := Lib.hid hlno
             clear hlno
             have hkeep : w4.cell? ⟨w2.heap.size, 0, none⟩ = some (.slice (some ⟨gR, 0, none⟩) (m + 1) cR) := (K13.out.drew.grown hg4 (by simp; omega)).cell 0
             have O4 := Lib.hid (O3.out.drew.keptB hg4 (by omega))
             have h40 := (O4.out.cells hltk).1
             have h41 := (O4.out.cells hltk).2
             have h42 := O4.out.free (k * 2)
             have h43 := O4.out.free (k * 2 + 1)))
        all_goals
          have N0 := Lib.hid (((K03.out.drew.grown hg4 (by simp; omega)).far (p := ⟨gR, k * 2, none⟩) (by simp; omega) (.string wi)).far (p := ⟨gR, k * 2 + 1, none⟩) (by simp; omega) (.string no))
          have N1 := Lib.hid (((K13.out.drew.grown hg4 (by simp; omega)).far (p := ⟨gR, k * 2, none⟩) (by simp; omega) (.string wi)).far (p := ⟨gR, k * 2 + 1, none⟩) (by simp; omega) (.string no))
          have NO := Lib.hid (O4.out.set k (wi, no) (f' := fun i => if i = k then (wi, no) else f i) (fun i _ => rfl))
          have NR := Lib.hid ((hr4.setFar (p := ⟨gR, k * 2, none⟩) (by simp; omega) (.string wi)).setFar (p := ⟨gR, k * 2 + 1, none⟩) (by simp; omega) (.string no))
          have NG := Lib.hid (grow_new (p := ⟨gR, k * 2 + 1, none⟩) (grow_new (p := ⟨gR, k * 2, none⟩) (G3.out.trans ⟨hg4.os, hg4.tape, hg4.output, hg4.size, hg4.block⟩) (by simp; omega) (.string wi)) (by simp; omega) (.string no))
          have hsz4 : w2.heap.size + 1 ≤ ((w4.setCell ⟨gR, k * 2, none⟩ (.string wi)).setCell ⟨gR, k * 2 + 1, none⟩ (.string no)).heap.size := by have := hg4.size; simp [World.setCell] at this ⊢; omega
          clear hr4 hg4 hkeep h40 h41 h42 h43 O4 c0 hcc K03 K13 O3 R3 G3
          go_wp2_with fail
          exact ⟨⟨k + 1, _, by omega, by go_num, N0.out, N1.out, NO.out, okR_set HOK.out hwi hno LNO.out, NR.out.more (by omega), NG.out, hsz4⟩, by simp [intOf]; omega⟩
      · have t0 : ((q : Int) == 0) = false := by simp [q0]
        clear q0
        go_wp2_with fail
        exact ⟨⟨k + 1, f, by omega, by go_num, K03.out, K13.out, O3.out, HOK.out, R3.out.more (by omega), G3.out, hsz3⟩, by simp [intOf]; omega⟩
    · have q0 := K1.out.cell 0
      have q1 := K1.out.cell 1
      have q2 := K0.out.cell 0
      have q3 := K0.out.cell 1
      have u0 := K0.out.free 0
      have u1 := K0.out.free 1
      have HF := Lib.hid (res2 (.slice (some ⟨gR, 0, none⟩) (m + 1) cR) (.string rf) K0.out HRD.out HGR.out (by omega) (Nat.le_refl _))
      have HO2 := Lib.hid (((HO.out.setFar (p := ⟨w.heap.size, 0, none⟩) (by simp; omega) (.slice (some ⟨gR, 0, none⟩) (m + 1) cR)).setFar (p := ⟨w.heap.size, 1, none⟩) (by simp; omega) (.string rf)).lower (B' := w.heap.size) (by omega))
      go_wp2_with fail
      obtain ⟨f0, f1, f2, f3, _⟩ := HF.out
      exact bodyPost_ret (v := .agg #[.slice (some ⟨gR, 0, none⟩) (m + 1) cR, .string rf]) (by simp [results, Try.results155, go_sem, f0, f1]) rfl ⟨_, rf, m + 1, f, rfl, HRF.out, by omega, by omega, HO2.out, HOK.out, f2.more (by omega), f3⟩
end
/-! DrawWheels2 -/
section
open Go.RowKit
attribute [local go_sem ↓] Go.wp_at_zero Go.wp_at_succ

/-- append(s, x...) of rotors, both of the call's own -/
theorem appRR {P : Program} (w : World) {ops : Array Oper} {rest : List Oper} {o : Oper} {a : Act} {Q : Exit → Act → World → Prop} (hgd : o.guard = none) (s x : Operand) (t : TypeId)
    (ho : o.op = .call { callee := .builtin .append, args := #[s, x], argTypes := #[t, t] })
    (B : Nat) (ht : P.underlying t = some (.slice 144)) (hinfo : (P.info? 144).map (fun i => (i.zero, i.size, i.bytes)) = some (some (.agg #[.string ByteArray.empty, .string ByteArray.empty]), 2, 32))
    (v : Value) (n m g c B' : Nat) (f h : Nat → Rot) (hs : a.eval s = v) (hown : OwnR w B v n f) (hx : a.eval x = .slice (some ⟨g, 0, none⟩) m c) (hownx : OwnR w B' (.slice (some ⟨g, 0, none⟩) m c) m h)
    (hlen : n + m ≤ 1000000000) (hbase : B ≤ w.heap.size)
    (hK : ∀ v' w', OwnR w' B v' (n + m) (joinR n f h) → w.grownBy w' v.ownBlock → wpList P ops Q rest (a.put o.dst v') w') :
    wpList P ops Q (o :: rest) a w := by
  obtain ⟨i, hi, hz0, hz1, hz2⟩ := info_parts hinfo
  refine wpList_append_own_at (P := P) w hgd s x t ho B 144 i _ 2 32 ht hi hz0 hz1 hz2 rfl (by omega) v n _ hs hown ⟨g, 0, none⟩ m c (rngV (cellR h) (m * 2)) hx (rngV_len _ _) ?_ ?_ (by unfold maxLen; omega) (by omega) (by omega) ?_
  · intro j u hj
    have hj' : j < m * 2 := by
      have := (List.getElem?_eq_some_iff.1 hj).1
      rwa [rngV_len] at this
    have e1 : (⟨g, 0, none⟩ : Addr).add j = ⟨g, j, none⟩ := by unfold Addr.add; split <;> simp_all
    rw [e1, World.ownsRow.cellAt hownx j (by omega)]
    exact hj
  · intro u hu
    unfold rngV at hu
    obtain ⟨j, _, rfl⟩ := List.mem_map.1 hu
    unfold cellR
    split <;> rfl
  · intro v' w' ho' hg' _ _
    exact hK v' w' (by unfold OwnR; rw [← rng_join]; exact ho') hg'

theorem gR_map (f : Nat → Rot) {n k : Nat} (h : k < n) : gR ((List.range n).map f) k = f k := by
  unfold gR; rw [List.getD_eq_getElem?_getD, List.getElem?_map, List.getElem?_range h]; rfl
theorem OwnR.toRots {w : World} {B n : Nat} {v : Value} {f : Nat → Rot} (h : OwnR w B v n f) (hn : n ≤ 1000000) (hs : ∀ k, k < n → (f k).1.size ≤ 1000000 ∧ (f k).2.size ≤ 1000000) :
    IsRots w v ((List.range n).map f) := by
  have hl : ((List.range n).map f).length = n := by simp
  refine OwnR.rots (B := B) ?_ (by omega) (fun k hk => ?_)
  · rw [hl]; exact h.congr (fun i hi => (gR_map f hi).symm)
  · rw [hl] at hk
    rw [gR_map f hk]
    have := hs k hk
    omega
theorem IsRots.setNe {w : World} {b j : Nat} {v : Value} {l : List Rot} (h : IsRots w v l) (hne : v.ownBlock ≠ some b) (u : Value) : IsRots (w.setCell ⟨b, j, none⟩ u) v l := by
  obtain ⟨A, c, rfl, h1, h2, h3⟩ := h
  refine ⟨A, c, rfl, h1, h2, fun k hkl => ?_⟩
  obtain ⟨b', o, rfl, hlt, hc, hd⟩ := h3 k hkl
  have hne' : b' ≠ b := fun e => hne (by rw [e]; rfl)
  exact ⟨b', o, rfl, by simpa [World.setCell] using hlt, by rw [World.cell?_setCell_other _ _ _ _ (by intro h; injection h with h1 h2; omega)]; exact hc, by rw [World.cell?_setCell_other _ _ _ _ (by intro h; injection h with h1 h2; omega)]; exact hd⟩
theorem IsRots.grownNe {w w' : World} {v : Value} {l : List Rot} {g : Nat} (h : IsRots w v l) (hg : w.grownBy w' (some g)) (hne : v.ownBlock ≠ some g) : IsRots w' v l := by
  obtain ⟨A, c, rfl, h1, h2, h3⟩ := h
  refine ⟨A, c, rfl, h1, h2, fun k hk => ?_⟩
  obtain ⟨b, o, rfl, hlt, hc, hd⟩ := h3 k hk
  exact ⟨b, o, rfl, Nat.lt_of_lt_of_le hlt hg.size, (hg.cell_far ⟨b, o + k * 2, none⟩ hlt hne).trans hc, (hg.cell_far ⟨b, o + k * 2 + 1, none⟩ hlt hne).trans hd⟩
theorem OwnR.ne_blk {w : World} {B n b : Nat} {v : Value} {f : Nat → Rot} (h : OwnR w B v n f) (hb : b < B) : v.ownBlock ≠ some b := fun he => by
  have := (h.blk_lt he).1; omega
theorem OwnR.ne_new {w : World} {B n b : Nat} {v : Value} {f : Nat → Rot} (h : OwnR w B v n f) (hb : w.heap.size ≤ b) : v.ownBlock ≠ some b := fun he => by
  have := (h.blk_lt he).2; omega
/-- a block of another type is not the row's -/
theorem OwnR.ne_ty {w : World} {B n b : Nat} {v : Value} {f : Nat → Rot} {tc : TypeId} {cs : Array Value} (h : OwnR w B v n f) (hk : Blk w b tc cs) (hne : 144 ≠ tc) : v.ownBlock ≠ some b := by
  intro hv
  rcases h.2 with ⟨rfl, _⟩ | ⟨g1, cap, cur, rfl, _, hh, _⟩
  · cases hv
  · have e1 : g1 = b := by simpa [Value.ownBlock] using hv
    subst e1
    unfold Blk at hk
    rw [hh] at hk
    injection hk with hk
    injection hk with _ ht
    exact hne ht
theorem OwnR.setNe {w : World} {B n b j : Nat} {v : Value} {f : Nat → Rot} (h : OwnR w B v n f) (hne : v.ownBlock ≠ some b) (u : Value) : OwnR (w.setCell ⟨b, j, none⟩ u) B v n f :=
  h.kept (row := some b) (grow_set (World.grownBy.refl _ _) (.inl rfl) u) (fun x hx => by injection hx with hx; subst hx; exact hne)

/-- the results laid into their variable -/
theorem fin6 {w0 W : World} {g P b : Nat} {tc : TypeId} {vR : Value} {rf : ByteArray} {l : List Rot} (hk : Blk W b tc #[.slice none 0 0, .string ByteArray.empty]) (hR : IsRots W vR l) (hne : vR.ownBlock ≠ some b) (hr : Rd W g P) (hgw : w0.grownBy W (some g)) (hg : g < b) (hb : w0.heap.size ≤ b) :
    ((W.setCell ⟨b, 0, none⟩ vR).setCell ⟨b, 1, none⟩ (.string rf)).cell? ⟨b, 0, none⟩ = some vR ∧ ((W.setCell ⟨b, 0, none⟩ vR).setCell ⟨b, 1, none⟩ (.string rf)).cell? ⟨b, 1, none⟩ = some (.string rf) ∧
    IsRots ((W.setCell ⟨b, 0, none⟩ vR).setCell ⟨b, 1, none⟩ (.string rf)) vR l ∧
    Rd ((W.setCell ⟨b, 0, none⟩ vR).setCell ⟨b, 1, none⟩ (.string rf)) g P ∧ w0.grownBy ((W.setCell ⟨b, 0, none⟩ vR).setCell ⟨b, 1, none⟩ (.string rf)) (some g) := by
  have k2 := (hk.set 0 vR).set 1 (.string rf)
  exact ⟨k2.cell 0, k2.cell 1, (hR.setNe hne _).setNe hne _, (hr.setFar hg _).setFar hg _, grow_new (grow_new hgw hb _) hb _⟩

/-- all blocks of w but g and r are as they were -/
def Keep (w w' : World) (g r : Nat) : Prop := w.heap.size ≤ w'.heap.size ∧ ∀ b, b < w.heap.size → b ≠ g → b ≠ r → w'.heap[b]? = w.heap[b]?
theorem Keep.refl (w : World) (g r : Nat) : Keep w w g r := ⟨Nat.le_refl _, fun _ _ _ _ => rfl⟩
theorem Keep.grown {w a b : World} {g r x : Nat} (h : Keep w a g r) (hg : a.grownBy b (some x)) (hx : x = g ∨ x = r) : Keep w b g r :=
  ⟨Nat.le_trans h.1 hg.size, fun i hi h1 h2 => (hg.block i (Nat.lt_of_lt_of_le hi h.1) (by intro e; injection e with e; rcases hx with rfl | rfl <;> contradiction)).trans (h.2 i hi h1 h2)⟩
theorem Keep.alloc {w a : World} {g r : Nat} (h : Keep w a g r) (o : Obj) : Keep w (a.alloc o) g r := h.grown (grow_alloc (World.grownBy.refl a (some g)) o) (.inl rfl)
theorem Keep.drew {w a : World} {g r : Nat} (h : Keep w a g r) : Keep w a.drew g r := h
theorem Keep.set {w a : World} {g r : Nat} (h : Keep w a g r) {p : Addr} (hp : w.heap.size ≤ p.block ∨ p.block = r) (u : Value) : Keep w (a.setCell p u) g r :=
  ⟨by simpa [World.setCell] using h.1, fun i hi h1 h2 => (Below.heap_setCell a p u i (by rintro rfl; rcases hp with hp | hp <;> omega)).trans (h.2 i hi h1 h2)⟩
theorem Keep.blk {w a : World} {g r b : Nat} {t : TypeId} {cs : Array Value} (h : Keep w a g r) (hb : Blk w b t cs) (h1 : b ≠ g) (h2 : b ≠ r) : Blk a b t cs := (h.2 b hb.lt h1 h2).trans hb

/-- a block of another type is not the row's, whatever is held of the world -/
def NTy (W : World) (v : Value) : Prop := ∀ b tc cs, Blk W b tc cs → 144 ≠ tc → v.ownBlock ≠ some b
/-- and it lies at B or beyond -/
def NTB (B : Nat) (W : World) (v : Value) : Prop := NTy W v ∧ ∀ b, v.ownBlock = some b → B ≤ b
theorem OwnR.nt2 {w : World} {B n b : Nat} {v : Value} {f : Nat → Rot} (h : OwnR w B v n f) (hne : v.ownBlock ≠ some b) (u0 u1 : Value) : NTB B ((w.setCell ⟨b, 0, none⟩ u0).setCell ⟨b, 1, none⟩ u1) v :=
  ⟨fun _ _ _ hk hne' => ((h.setNe hne u0).setNe hne u1).ne_ty hk hne', fun _ hb => (h.blk_lt hb).1⟩
set_option maxHeartbeats 1000000 in
set_option maxRecDepth 100000 in
theorem c_l6BadT (g P B n : Nat) (vR : Value) (rf : ByteArray) (f : Nat → Rot) (w0 w : World) (hr : Rd w g P) (hP : P + 200 ≤ 1000000) (hB : w0.heap.size ≤ B) (hgw : w0.grownBy w (some g)) (hg0 : g < w0.heap.size) (hBw : B ≤ w.heap.size)
    (ho : OwnR w B vR n f) (hok : okR n f) (hn1 : 1 ≤ n) (hn3 : n ≤ 3) (hrf : rf.size ≤ 1000) :
    Calls Try.prog 136 #[.pointer (some ⟨g, 0, none⟩), .agg #[vR, .string rf]] w fun e w' => ∃ (vR' : Value) (rf' : ByteArray) (l : List Rot), e = .returned (.agg #[vR', .string rf']) ∧
      IsRots w' vR' l ∧ rf'.size ≤ 1000 ∧ vR'.ownBlock ≠ some g ∧ Rd w' g (P + 20) ∧ w0.grownBy w' (some g) ∧ (∀ r, vR.ownBlock = some r → Keep w w' g r) ∧ NTB B w' vR' := by
  obtain ⟨gR, cR, rfl, hgR1, hgR2⟩ := ho.at0 (by omega)
  have ke : ∀ (W : World), Keep w W g gR → ∀ r, (Value.slice (some ⟨gR, 0, none⟩) n cR).ownBlock = some r → Keep w W g r := fun W h r e => by injection e with e; exact e ▸ h
  have KE := Lib.hid ke
  clear ke
  have HR := Lib.hid hr
  have HGW := Lib.hid hgw
  have HO := Lib.hid ho
  have HOK := Lib.hid hok
  have NG := Lib.hid (ho.ne_blk (b := g) (by omega))
  have hgl := hr.1
  have hw0w : w0.heap.size ≤ w.heap.size := hgw.size
  have hbig : ∀ k, k < n → (f k).1.size ≤ 1000000 ∧ (f k).2.size ≤ 1000000 := fun k hk => by have := hok k hk; omega
  have HBIG := Lib.hid hbig
  clear hr hgw ho hok hbig
  go_enter Try.func136, Try.ntmps136
  go_wp2_with fail
  refine (c_pick g P _ _ ((HR.out.ext (ext_alloc _ _)).ext (ext_alloc _ _)) (by omega) (by omega) (by omega)).mono ?_
  rintro e w1 ⟨m, rfl, hm, hr1, hg1⟩
  have k0 := ((Blk.new w 31 #[.slice (some ⟨gR, 0, none⟩) n cR, .string rf]).alloc (.cells #[.slice none 0 0, .string ByteArray.empty] 31)).grown hg1 (by simp; omega)
  have k1 : Blk w1 (w.heap.size + 1) 31 #[.slice none 0 0, .string ByteArray.empty] := by
    have h1 := Blk.new (w.alloc (.cells #[.slice (some ⟨gR, 0, none⟩) n cR, .string rf] 31)) 31 #[.slice none 0 0, .string ByteArray.empty]
    simp only [World.size_alloc] at h1
    exact h1.grown hg1 (by simp; omega)
  have K0 := Lib.hid k0
  have K1 := Lib.hid k1
  have R1 := Lib.hid hr1
  have G1 := Lib.hid (HGW.out.trans ((grow_alloc (grow_alloc (World.grownBy.refl w (some g)) _) _).trans hg1))
  have O1 := Lib.hid (((HO.out.alloc (.cells #[.slice (some ⟨gR, 0, none⟩) n cR, .string rf] 31)).alloc (.cells #[.slice none 0 0, .string ByteArray.empty] 31)).keptB hg1 (by omega))
  have X1 := Lib.hid ((((Keep.refl w g gR).alloc (.cells #[.slice (some ⟨gR, 0, none⟩) n cR, .string rf] 31)).alloc (.cells #[.slice none 0 0, .string ByteArray.empty] 31)).grown hg1 (.inl rfl))
  have hz1 : w.heap.size + 2 ≤ w1.heap.size := by have := hg1.size; simp at this; omega
  clear k0 k1 hr1 hg1 HR HGW HO
  go_wp2_with fail
  refine (c_pick g (P + 1) _ _ R1.out (by omega) (by omega) (by omega)).mono ?_
  rintro e w2 ⟨q, rfl, hq, hr2, hg2⟩
  have K02 := Lib.hid (K0.out.grown hg2 (by simp; omega))
  have K12 := Lib.hid (K1.out.grown hg2 (by simp; omega))
  have R2 := Lib.hid hr2
  have G2 := Lib.hid (G1.out.trans hg2)
  have O2 := Lib.hid (O1.out.keptB hg2 (by omega))
  have X2 := Lib.hid (X1.out.grown hg2 (.inl rfl))
  have hz2 : w.heap.size + 2 ≤ w2.heap.size := Nat.le_trans hz1 hg2.size
  clear hr2 hg2 K0 K1 R1 G1 O1 hz1
  have x0 : w2.cell? ⟨w.heap.size, 0, none⟩ = some (.slice (some ⟨gR, 0, none⟩) n cR) := K02.out.cell 0
  have x1 : w2.cell? ⟨w.heap.size, 1, none⟩ = some (.string rf) := K02.out.cell 1
  have y0 : w2.cell? ⟨w.heap.size + 1, 0, none⟩ = some (.slice none 0 0) := K12.out.cell 0
  have y1 : w2.cell? ⟨w.heap.size + 1, 1, none⟩ = some (.string ByteArray.empty) := K12.out.cell 1
  have u0 := K02.out.free 0
  have u1 := K02.out.free 1
  have v0 := K12.out.free 0
  have v1 := K12.out.free 1
  have hmn : m < n := by omega
  by_cases q0 : q = 0
  · have t0 : ((q : Int) == 0) = true := by simp [q0]
    clear q0
    have hlz : w.heap.size < w2.heap.size := by omega
    have wc0 := (O2.out.cells hmn).1
    have wc1 := (O2.out.cells hmn).2
    have i1 : (0 : Int) ≤ (m : Int) := by omega
    have i2 : (m : Int) < (n : Int) := by omega
    have hsz := HOK.out m hmn
    generalize hfm : f m = rm at wc0 wc1 hsz
    obtain ⟨wi, no⟩ := rm
    have hsz1 : wi.size = 10 := hsz.1
    have hsz2 : no.size ≤ 3 := hsz.2.1
    clear hsz hfm
    go_wp2_with fail
    go_region_law (first
      | (go_simp
         go_at_call 163
         refine (c_l5Bad g (P + 2) wi no _ R2.out.drew (by omega) (by omega) (by omega) (by omega)).mono ?_
         rintro e w4 ⟨wi', no', rfl, hwi, hno, hr4, hg4⟩
         have hkeep : w4.cell? ⟨w.heap.size, 0, none⟩ = some (.slice (some ⟨gR, 0, none⟩) n cR) := (K02.out.drew.grown hg4 (by simp; omega)).cell 0
         have O4 := Lib.hid (O2.out.drew.keptB hg4 (by omega))
         have h40 := (O4.out.cells hmn).1
         have h41 := (O4.out.cells hmn).2
         have h42 := O4.out.free (m * 2)
         have h43 := O4.out.free (m * 2 + 1)))
    all_goals
      have N0 := Lib.hid (((K02.out.drew.grown hg4 (by simp; omega)).far (p := ⟨gR, m * 2, none⟩) (by simp; omega) (.string wi')).far (p := ⟨gR, m * 2 + 1, none⟩) (by simp; omega) (.string no'))
      have N1 := Lib.hid (((K12.out.drew.grown hg4 (by simp; omega)).far (p := ⟨gR, m * 2, none⟩) (by simp; omega) (.string wi')).far (p := ⟨gR, m * 2 + 1, none⟩) (by simp; omega) (.string no'))
      have NX := Lib.hid (((X2.out.drew.grown hg4 (.inl rfl)).set (p := ⟨gR, m * 2, none⟩) (.inr rfl) (.string wi')).set (p := ⟨gR, m * 2 + 1, none⟩) (.inr rfl) (.string no'))
      have NO := Lib.hid ((O4.out.set m (wi', no') (f' := fun i => if i = m then (wi', no') else f i) (fun i _ => rfl)).toRots (by omega) (fun j hj => by
        show (if j = m then (wi', no') else f j).1.size ≤ 1000000 ∧ (if j = m then (wi', no') else f j).2.size ≤ 1000000
        by_cases e : j = m
        · rw [if_pos e]; exact ⟨Nat.le_trans hwi (by omega), Nat.le_trans hno (by omega)⟩
        · rw [if_neg e]; exact HBIG.out j hj))
      have NT := Lib.hid ((O4.out.set m (wi', no') (f' := fun i => if i = m then (wi', no') else f i) (fun i _ => rfl)).nt2 (b := w.heap.size + 1) (by simp [Value.ownBlock]; omega) (.slice (some ⟨gR, 0, none⟩) n cR) (.string rf))
      have NR := Lib.hid ((hr4.setFar (p := ⟨gR, m * 2, none⟩) (by simp; omega) (.string wi')).setFar (p := ⟨gR, m * 2 + 1, none⟩) (by simp; omega) (.string no'))
      have NGR := Lib.hid (grow_new (p := ⟨gR, m * 2 + 1, none⟩) (grow_new (p := ⟨gR, m * 2, none⟩) (G2.out.trans ⟨hg4.os, hg4.tape, hg4.output, hg4.size, hg4.block⟩) (by simp; omega) (.string wi')) (by simp; omega) (.string no'))
      clear hr4 hg4 hkeep h40 h41 h42 h43 O4 wc0 wc1 x0 x1 y0 y1 u0 u1 v0 v1 K02 K12 O2 R2 G2
      generalize (w4.setCell ⟨gR, m * 2, none⟩ (.string wi')).setCell ⟨gR, m * 2 + 1, none⟩ (.string no') = w5 at *
      have HF := Lib.hid (fin6 (w0 := w0) (rf := rf) (b := w.heap.size + 1) N1.out NO.out (by simp [Value.ownBlock]; omega) NR.out NGR.out (by omega) (by omega))
      have x0 := N0.out.cell 0
      have x1 := N0.out.cell 1
      have y0 := N1.out.cell 0
      have y1 := N1.out.cell 1
      have v0 := N1.out.free 0
      have v1 := N1.out.free 1
      go_wp2_with fail
      obtain ⟨f0, f1, f2, f3, f4⟩ := HF.out
      exact bodyPost_ret (v := .agg #[.slice (some ⟨gR, 0, none⟩) n cR, .string rf]) (by simp [results, Try.results136, go_sem, f0, f1]) rfl ⟨_, rf, _, rfl, f2, hrf, NG.out, f3.more (by omega), f4, KE.out _ ((NX.out.set (p := ⟨w.heap.size + 1, 0, none⟩) (.inl (by simp)) _).set (p := ⟨w.heap.size + 1, 1, none⟩) (.inl (by simp)) _), NT.out⟩
  · have t0 : ((q : Int) == 0) = false := by simp [q0]
    by_cases q1 : q = 1
    · have t1 : ((q : Int) == 1) = true := by simp [q1]
      clear q0 q1
      go_wp2_with fail
      refine (c_l4Any g (P + 2) _ R2.out (by omega)).mono ?_
      rintro e w3 ⟨s, rfl, hs, _, hr3, hg3⟩
      have k03 := K02.out.grown hg3 (by simp; omega)
      have k13 := K12.out.grown hg3 (by simp; omega)
      have z1 : w3.cell? ⟨w.heap.size, 1, none⟩ = some (.string rf) := k03.cell 1
      have z2 := k03.free 1
      have N0 := Lib.hid (k03.set 1 (.string s))
      have N1 := Lib.hid (k13.far (p := ⟨w.heap.size, 1, none⟩) (by simp) (.string s))
      have o3 := O2.out.keptB hg3 (by omega)
      have NX := Lib.hid ((X2.out.grown hg3 (.inl rfl)).set (p := ⟨w.heap.size, 1, none⟩) (.inl (Nat.le_refl _)) (.string s))
      have NO := Lib.hid ((o3.setNe (b := w.heap.size) (j := 1) (o3.ne_ty k03 (by decide)) (.string s)).toRots (by omega) HBIG.out)
      have NT := Lib.hid ((o3.setNe (b := w.heap.size) (j := 1) (o3.ne_ty k03 (by decide)) (.string s)).nt2 (b := w.heap.size + 1) (by simp [Value.ownBlock]; omega) (.slice (some ⟨gR, 0, none⟩) n cR) (.string s))
      have NR := Lib.hid (hr3.setFar (p := ⟨w.heap.size, 1, none⟩) (by simp; omega) (.string s))
      have NGR := Lib.hid (grow_new (p := ⟨w.heap.size, 1, none⟩) (G2.out.trans hg3) (by simp; omega) (.string s))
      have HF := Lib.hid (fin6 (w0 := w0) (rf := s) (b := w.heap.size + 1) N1.out NO.out (by simp [Value.ownBlock]; omega) NR.out NGR.out (by omega) (by omega))
      clear hr3 hg3 k03 k13 o3 x0 x1 y0 y1 u0 u1 v0 v1 K02 K12 O2 R2 G2
      have x0 := N0.out.cell 0
      have x1 := N0.out.cell 1
      have y0 := N1.out.cell 0
      have y1 := N1.out.cell 1
      have v0 := N1.out.free 0
      have v1 := N1.out.free 1
      go_wp2_with fail
      obtain ⟨f0, f1, f2, f3, f4⟩ := HF.out
      exact bodyPost_ret (v := .agg #[.slice (some ⟨gR, 0, none⟩) n cR, .string s]) (by simp [results, Try.results136, go_sem, f0, f1]) rfl ⟨_, s, _, rfl, f2, by omega, NG.out, f3.more (by omega), f4, KE.out _ ((NX.out.set (p := ⟨w.heap.size + 1, 0, none⟩) (.inl (by simp)) _).set (p := ⟨w.heap.size + 1, 1, none⟩) (.inl (by simp)) _), NT.out⟩
    · have t1 : ((q : Int) == 1) = false := by rw [beq_eq_false_iff_ne]; omega
      by_cases q2 : q = 2
      · have t2 : ((q : Int) == 2) = true := by simp [q2]
        clear q0 q1 q2
        have N0 := Lib.hid (K02.out.set 0 (.slice none 0 0))
        have N1 := Lib.hid (K12.out.far (p := ⟨w.heap.size, 0, none⟩) (by simp) (.slice none 0 0))
        have NX := Lib.hid (X2.out.set (p := ⟨w.heap.size, 0, none⟩) (.inl (Nat.le_refl _)) (.slice none 0 0))
        have NT : Hid (NTB B (((w2.setCell ⟨w.heap.size, 0, none⟩ (.slice none 0 0)).setCell ⟨w.heap.size + 1, 0, none⟩ (.slice none 0 0)).setCell ⟨w.heap.size + 1, 1, none⟩ (.string rf)) (.slice none 0 0)) := ⟨fun _ _ _ _ _ => by simp [Value.ownBlock], fun _ h => by simp [Value.ownBlock] at h⟩
        have NR := Lib.hid (R2.out.setFar (p := ⟨w.heap.size, 0, none⟩) (by simp; omega) (.slice none 0 0))
        have NGR := Lib.hid (grow_new (p := ⟨w.heap.size, 0, none⟩) G2.out (by simp; omega) (.slice none 0 0))
        have NO : Hid (IsRots (w2.setCell ⟨w.heap.size, 0, none⟩ (.slice none 0 0)) (.slice none 0 0) []) := ⟨none, 0, rfl, by simp, fun k hk => by simp at hk, fun k hk => by simp at hk⟩
        have HF := Lib.hid (fin6 (w0 := w0) (rf := rf) (b := w.heap.size + 1) N1.out NO.out (by simp [Value.ownBlock]) NR.out NGR.out (by omega) (by omega))
        have z0 := N0.out.cell 0
        have z1 := N0.out.cell 1
        have z2 := N1.out.cell 0
        have z3 := N1.out.cell 1
        have z4 := N1.out.free 0
        have z5 := N1.out.free 1
        go_wp2_with fail
        obtain ⟨f0, f1, f2, f3, f4⟩ := HF.out
        exact bodyPost_ret (v := .agg #[.slice none 0 0, .string rf]) (by simp [results, Try.results136, go_sem, f0, f1]) rfl ⟨_, rf, _, rfl, f2, hrf, by simp [Value.ownBlock], f3.more (by omega), f4, KE.out _ ((NX.out.set (p := ⟨w.heap.size + 1, 0, none⟩) (.inl (by simp)) _).set (p := ⟨w.heap.size + 1, 1, none⟩) (.inl (by simp)) _), NT.out⟩
      · have t2 : ((q : Int) == 2) = false := by rw [beq_eq_false_iff_ne]; omega
        by_cases q3 : q = 3
        · have t3 : ((q : Int) == 3) = true := by simp [q3]
          clear q0 q1 q2 q3
          go_wp2_with (
            at_builtin
            refine appRR _ rfl _ _ _ rfl B Try.underlying29 info_rot _ n n gR cR B f f rfl O2.out rfl O2.out (by omega) (by omega) ?_
            intro v7 w7 hown7 hgr7
            have hgr7' : w2.grownBy w7 (some gR) := hgr7
            have k0 := K02.out.grown hgr7' (fun h => O2.out.ne_ty K02.out (by decide) (by injection h with h; rw [h]; rfl))
            have k1 := K12.out.grown hgr7' (fun h => O2.out.ne_ty K12.out (by decide) (by injection h with h; rw [h]; rfl))
            have x0' : w7.cell? ⟨w.heap.size, 0, none⟩ = some (.slice (some ⟨gR, 0, none⟩) n cR) := k0.cell 0
            have u0' := k0.free 0
            have N0 := Lib.hid (k0.set 0 v7)
            have N1 := Lib.hid (k1.far (p := ⟨w.heap.size, 0, none⟩) (by simp) v7)
            have NX := Lib.hid ((X2.out.grown hgr7' (.inr rfl)).set (p := ⟨w.heap.size, 0, none⟩) (.inl (Nat.le_refl _)) v7)
            have NB := Lib.hid (hown7.ne_blk (b := g) (by omega))
            have NE := Lib.hid (hown7.ne_ty k1 (by decide))
            have NO := Lib.hid ((hown7.setNe (b := w.heap.size) (j := 0) (hown7.ne_ty k0 (by decide)) v7).toRots (by omega) (fun j hj => by
              unfold joinR
              by_cases e : j < n
              · rw [if_pos e]; exact HBIG.out j e
              · rw [if_neg e]; exact HBIG.out (j - n) (by omega)))
            have NT := Lib.hid ((hown7.setNe (b := w.heap.size) (j := 0) (hown7.ne_ty k0 (by decide)) v7).nt2 (b := w.heap.size + 1) NE.out v7 (.string rf))
            have NR := Lib.hid ((R2.out.ownR O2.out (by omega) hgr7).setFar (p := ⟨w.heap.size, 0, none⟩) (by simp; omega) v7)
            have NGR := Lib.hid (grow_new (p := ⟨w.heap.size, 0, none⟩) (grow_ownR G2.out O2.out hB hgr7) (by simp; omega) v7)
            obtain ⟨A7, c7, hv7⟩ := hown7.slice
            subst hv7
            have HF := Lib.hid (fin6 (w0 := w0) (rf := rf) (b := w.heap.size + 1) N1.out NO.out NE.out NR.out NGR.out (by omega) (by omega))
            clear hown7 hgr7 hgr7' k0 k1
            have z0 := N0.out.cell 0
            have z1 := N0.out.cell 1
            have z2 := N1.out.cell 0
            have z3 := N1.out.cell 1
            have z4 := N1.out.free 0
            have z5 := N1.out.free 1)
          obtain ⟨f0, f1, f2, f3, f4⟩ := HF.out
          exact bodyPost_ret (v := .agg #[.slice A7 (n + n) c7, .string rf]) (by simp [results, Try.results136, go_sem, f0, f1]) rfl ⟨_, rf, _, rfl, f2, hrf, NB.out, f3.more (by omega), f4, KE.out _ ((NX.out.set (p := ⟨w.heap.size + 1, 0, none⟩) (.inl (by simp)) _).set (p := ⟨w.heap.size + 1, 1, none⟩) (.inl (by simp)) _), NT.out⟩
        · have t3 : ((q : Int) == 3) = false := by rw [beq_eq_false_iff_ne]; omega
          clear q0 q1 q2 q3
          have NO := Lib.hid (O2.out.toRots (by omega) HBIG.out)
          have NT := Lib.hid (O2.out.nt2 (b := w.heap.size + 1) (by simp [Value.ownBlock]; omega) (.slice (some ⟨gR, 0, none⟩) n cR) (.string rf))
          have HF := Lib.hid (fin6 (w0 := w0) (rf := rf) (b := w.heap.size + 1) K12.out NO.out (by simp [Value.ownBlock]; omega) R2.out G2.out (by omega) (by omega))
          go_wp2_with fail
          obtain ⟨f0, f1, f2, f3, f4⟩ := HF.out
          exact bodyPost_ret (v := .agg #[.slice (some ⟨gR, 0, none⟩) n cR, .string rf]) (by simp [results, Try.results136, go_sem, f0, f1]) rfl ⟨_, rf, _, rfl, f2, hrf, NG.out, f3.more (by omega), f4, KE.out _ ((X2.out.set (p := ⟨w.heap.size + 1, 0, none⟩) (.inl (by simp)) _).set (p := ⟨w.heap.size + 1, 1, none⟩) (.inl (by simp)) _), NT.out⟩
theorem c_l6Bad (g P B n : Nat) (vR : Value) (rf : ByteArray) (f : Nat → Rot) (w0 w : World) (hr : Rd w g P) (hP : P + 200 ≤ 1000000) (hB : w0.heap.size ≤ B) (hgw : w0.grownBy w (some g)) (hg0 : g < w0.heap.size) (hBw : B ≤ w.heap.size)
    (ho : OwnR w B vR n f) (hok : okR n f) (hn1 : 1 ≤ n) (hn3 : n ≤ 3) (hrf : rf.size ≤ 1000) :
    Calls Try.prog 136 #[.pointer (some ⟨g, 0, none⟩), .agg #[vR, .string rf]] w fun e w' => ∃ (vR' : Value) (rf' : ByteArray) (l : List Rot), e = .returned (.agg #[vR', .string rf']) ∧
      IsRots w' vR' l ∧ rf'.size ≤ 1000 ∧ vR'.ownBlock ≠ some g ∧ Rd w' g (P + 20) ∧ w0.grownBy w' (some g) ∧ (∀ r, vR.ownBlock = some r → Keep w w' g r) :=
  (c_l6BadT g P B n vR rf f w0 w hr hP hB hgw hg0 hBw ho hok hn1 hn3 hrf).mono fun _ _ ⟨a, b, c, h1, h2, h3, h4, h5, h6, h7, _⟩ => ⟨a, b, c, h1, h2, h3, h4, h5, h6, h7⟩
end
end Go.Proofs.Ytnfeddnkokocfaa
