/- Contracts of the draws of cages. -/
import Derived.Test.YtomgkpiogbmfgaaDraw
import Derived.Deep.RegionLaw
namespace Go.Proofs.Ytomgkpiogbmfgaa
open Go.RowKit

theorem c_l15Wheel (g P : Nat) (w : World) (hr : Rd w g P) (hP : P + 20 ≤ 1000000) :
    Calls Try.prog 65 #[.pointer (some ⟨g, 0, none⟩)] w fun e w' => ∃ s : ByteArray, e = .returned (.string s) ∧ (2 ≤ s.size ∧ s.size ≤ 9) ∧ Rd w' g (P + 10) ∧ w.grownBy w' (some g) := by
  have HR := Lib.hid hr
  clear hr
  go_enter Try.func65, Try.ntmps65
  go_wp2_with fail
  refine (c_pick g P _ _ HR.out (by omega) (by omega) (by omega)).mono ?_
  rintro e w1 ⟨m, rfl, hm, hr1, hg1⟩
  have HR1 := Lib.hid hr1
  have HG1 := Lib.hid hg1
  clear hr1 hg1
  go_wp2_with fail
  go_loopw [3, 4] (fun o i wr => ∃ (k : Nat) (s : ByteArray), k ≤ m + 2 ∧ i = .int .i64 k ∧ o = .string s ∧ s.size + k = m + 2 ∧ Rd wr g (P + 1 + s.size) ∧ w.grownBy wr (some g)) (fun _ i _ => (intOf i).toNat)
  case atStart => exact ⟨m + 2, ByteArray.empty, Nat.le_refl _, by show Value.int .i64 (2 + (m : Int)) = _; congr 1; omega, rfl, by show 0 + _ = _; omega, HR1.out, HG1.out⟩
  case round =>
    obtain ⟨k, s, hk, rfl, rfl, hs, hrd, hgr⟩ := hrel
    have HS := Lib.hid hs
    have HRD := Lib.hid hrd
    have HGR := Lib.hid hgr
    have hs' : s.size ≤ 11 := by omega
    clear hs hrd hgr
    by_cases hlt : 0 < k
    · go_wp2_with fail
      refine (c_ofL g (P + 1 + s.size) [⟨#[48]⟩, ⟨#[49]⟩] _ _ _ _ rfl rfl HRD.out (by omega) (by decide) (by decide) (by decide)).mono ?_
      rintro e w2 ⟨t, rfl, ht, hr2, hg2⟩
      have ht' : t.size = 1 := by
        have : ∀ t ∈ [(⟨#[48]⟩ : ByteArray), ⟨#[49]⟩], t.size = 1 := by decide
        exact this t ht
      have HT := Lib.hid ht'
      have ht2 : t.size ≤ 1 := by omega
      have HR2 := Lib.hid hr2
      have HG2 := Lib.hid hg2
      clear hr2 hg2 ht ht'
      go_wp2_with fail
      have e1 := HT.out
      have e2 := HS.out
      refine ⟨⟨k - 1, s ++ t, by omega, by congr 1; omega, rfl, by rw [ByteArray.size_append]; omega, ?_, HGR.out.trans HG2.out⟩, by simp [intOf]; omega⟩
      rw [ByteArray.size_append, e1]
      exact HR2.out
    · go_wp2_with fail
      go_ret
      have e2 := HS.out
      exact ⟨s, rfl, by omega, HRD.out.more (by omega), HGR.out⟩

/-- the same append, at a step of a region that draws its order -/
theorem step_app1 {P : Program} (w : World) {ops : Array Oper} {o : Oper} {a : Act} {K : Act → World → Prop} {Q : Exit → Act → World → Prop} {E : Prop} (hgd : o.guard = none) (s x : Operand) (t : TypeId)
    (ho : o.op = .call { callee := .builtin .append, args := #[s, x], argTypes := #[t, t] })
    (B : Nat) (e : TypeId) {z : Value} {bytes : Nat} (ht : P.underlying t = some (.slice e)) (hinfo : (P.info? e).map (fun i => (i.zero, i.size, i.bytes)) = some (some z, 1, bytes)) (hzs : z.cells.size = 1)
    (v : Value) (l : List Value) (hs : a.eval s = v) (y : Value) (g : Nat) (hown : Own w B e v l) (hx : a.eval x = .slice (some ⟨g, 0, none⟩) 1 1) (hg : w.cell? ⟨g, 0, none⟩ = some y) (h1 : y.oneCell' = true)
    (hlen : l.length ≤ 1000000000) (hby : bytes ≤ 1000) (hbase : B ≤ w.heap.size)
    (h : ∀ v' w', Own w' B e v' (l ++ [y]) → w.grownBy w' v.ownBlock → K (a.put o.dst v') w') :
    if Region.wanted o (yielded ops a.tmps) = true then Oper.wp P o a w K Q else E := by
  have hw : Region.wanted o (yielded ops a.tmps) = true := by simp [Region.wanted, hgd]
  rw [if_pos hw]
  obtain ⟨i, hi, hz0, hz1, hz2⟩ := info_parts hinfo
  have hb : (l.length + 1) * bytes ≤ 140737488355328 := by
    have : (l.length + 1) * bytes ≤ 1000000001 * 1000 := Nat.mul_le_mul (by omega) hby
    omega
  obtain ⟨v', w', hr, h2, h3, h4, h5⟩ := run_append_own_at (P := P) w B t o.type e i z 1 bytes ht hi hz0 hz1 hz2 hzs (by omega) v l.length l hown ⟨g, 0, none⟩ 1 1 [y] rfl (by
    intro j u hj
    match j, hj with
    | 0, hj => simp at hj; subst hj; exact hg) (by simpa using h1) (by unfold maxLen; omega) hb hbase
  unfold Oper.wp execOp
  simp only [ho, resolve, invoke, builtin, Sem.run_bind, Sem.run_pure, Result.andThen_ok, List.map_toArray, List.map_cons, List.map_nil, hs, hx, hr]
  exact h v' w' (by unfold Own; simpa using h2) h3

/-- behind 'c.f = append(c.f, y)' with a draw in it (the source: block g; the variable c: block gC): what the other parts are -/
theorem app_step {wr w2 w4 : World} {g gC B P' j : Nat} {t : TypeId} {v y v' : Value} {l : List Value}
    (hg2 : wr.drew.grownBy w2 (some g)) (hr2 : Rd w2 g P') (hown4 : Own w4 B t v' (l ++ [y])) (hgr4 : (w2.alloc (.cells #[y] t)).grownBy w4 v.ownBlock)
    (hv : Own wr B t v l) (hgB : g < B) (hgC : g < gC) (hCB : gC < B) :
    (∀ b tc cs, Blk wr b tc cs → b ≠ g → b < B → b ≠ gC → Blk (w4.setCell ⟨gC, j, none⟩ v') b tc cs) ∧
    (∀ tc cs, Blk wr gC tc cs → Blk (w4.setCell ⟨gC, j, none⟩ v') gC tc (cs.setIfInBounds j v')) ∧
    (∀ B' e u l', Own wr B' e u l' → gC < B' → (∀ b, v.ownBlock = some b → u.ownBlock ≠ some b) → Own (w4.setCell ⟨gC, j, none⟩ v') B' e u l') ∧
    Own (w4.setCell ⟨gC, j, none⟩ v') B t v' (l ++ [y]) ∧ Rd (w4.setCell ⟨gC, j, none⟩ v') g P' ∧
    (∀ w : World, w.grownBy wr (some g) → w.heap.size ≤ gC → w.grownBy (w4.setCell ⟨gC, j, none⟩ v') (some g)) ∧ wr.heap.size ≤ (w4.setCell ⟨gC, j, none⟩ v').heap.size := by
  have hv2 : Own (w2.alloc (.cells #[y] t)) B t v l := (hv.drew.kept hg2 (fun x hx => by injection hx with hx; omega)).alloc _
  have hs2 : wr.heap.size ≤ w2.heap.size := hg2.size
  have hs4 : w2.heap.size + 1 ≤ w4.heap.size := by have := hgr4.size; simpa using this
  refine ⟨fun b tc cs hb h1 h2 h3 => (((hb.drew.grown hg2 (by simp [h1])).alloc _).own hv2 h2 hgr4).far h3 _, fun tc cs hb => (((hb.drew.grown hg2 (by simp; omega)).alloc _).own hv2 hCB hgr4).set j _,
    fun B' e u l' hu h1 h2 => ((((hu.drew.kept hg2 (fun x hx => by injection hx with hx; omega)).alloc _).keptNe hgr4 h2).setFar h1 _), hown4.setFar hCB _,
    ((hr2.ext (ext_alloc _ _)).own hv2 hgB hgr4).setFar hgC _, fun w hw h1 => ?_, by simp [World.setCell]; omega⟩
  refine grow_new (grow_own (grow_alloc (hw.trans ⟨hg2.os, hg2.tape, hg2.output, hg2.size, hg2.block⟩) _) hv2 (by omega) hgr4) (by simp; omega) _
theorem gS_snoc (l : List ByteArray) (s : ByteArray) {j : Nat} (h : j < l.length + 1) : gS (l ++ [s]) j = if j < l.length then gS l j else s := by
  unfold gS
  rw [List.getD_eq_getElem?_getD, List.getElem?_append]
  split
  · rw [List.getD_eq_getElem?_getD]
  · have : j - l.length = 0 := by omega
    rw [this]; rfl

attribute [local go_sem ↓] Go.wp_at_zero Go.wp_at_succ

set_option maxHeartbeats 1000000 in
set_option maxRecDepth 100000 in
theorem c_l15Some (g P : Nat) (w : World) (hr : Rd w g P) (hP : P + 200 ≤ 1000000) :
    Calls Try.prog 53 #[.pointer (some ⟨g, 0, none⟩)] w fun e w' => ∃ (vW vB vP : Value) (ws : List ByteArray) (bs ps : List Int), e = .returned (.tuple #[.agg #[vW, vB], vP]) ∧
      Own w' w.heap.size 9 vW (ws.map .string) ∧ Own w' w.heap.size 3 vB (bs.map (.int .i64)) ∧ Own w' w.heap.size 3 vP (ps.map (.int .i64)) ∧ (vB.ownBlock = none ∨ vB.ownBlock ≠ vP.ownBlock) ∧
      1 ≤ ws.length ∧ ws.length ≤ 4 ∧ 1 ≤ bs.length ∧ bs.length ≤ 9 ∧ ps.length = ws.length ∧ (∀ k, k < ws.length → (gS ws k).size ≤ 9) ∧ Rd w' g (P + 100) ∧ w.grownBy w' (some g) := by
  have HR := Lib.hid hr
  have hgl := hr.1
  clear hr
  go_enter Try.func53, Try.ntmps53
  go_wp2_with fail
  refine (c_pick g P _ _ (((HR.out.ext (ext_alloc _ _)).ext (ext_alloc _ _)).ext (ext_alloc _ _)) (by omega) (by omega) (by omega)).mono ?_
  rintro e w1 ⟨m, rfl, hm, hr1, hg1⟩
  have hgw : w.grownBy w1 (some g) := (grow_alloc (grow_alloc (grow_alloc (World.grownBy.refl _ _) _) _) _).trans hg1
  have hk0 : Blk w1 w.heap.size 26 #[.slice none 0 0, .slice none 0 0] := (((Blk.new w _ _).alloc _).alloc _).grown hg1 (by simp; omega)
  have hk1 : Blk w1 (w.heap.size + 1) 26 #[.slice none 0 0, .slice none 0 0] := by
    have h1 := (Blk.new (w.alloc (.cells #[.slice none 0 0, .slice none 0 0] 26)) 26 #[.slice none 0 0, .slice none 0 0]).alloc (.cells #[] 3)
    simp only [World.size_alloc] at h1
    exact h1.grown hg1 (by simp; omega)
  have hzz : w.heap.size + 3 ≤ w1.heap.size := by have := hg1.size; simp at this; omega
  have hoP : Own w1 (w.heap.size + 2) 3 (.slice (some ⟨w.heap.size + 1 + 1, 0, none⟩) 0 0) [] := by
    have h1 : Own (((w.alloc (.cells #[.slice none 0 0, .slice none 0 0] 26)).alloc (.cells #[.slice none 0 0, .slice none 0 0] 26)).alloc (.cells #[] 3)) (w.heap.size + 2) 3 (.slice (some ⟨w.heap.size + 1 + 1, 0, none⟩) 0 0) [] := by
      have := World.ownsRow_made (base := w.heap.size + 2) (e := 3) (size := 1) ((w.alloc (.cells #[.slice none 0 0, .slice none 0 0] 26)).alloc (.cells #[.slice none 0 0, .slice none 0 0] 26)) #[] 0 (by simp) (by unfold maxLen; omega) rfl
      simpa [Own] using this
    exact h1.kept hg1 (fun x hx => by injection hx with hx; omega)
  have HGW := Lib.hid hgw
  have HK0 := Lib.hid hk0
  have HK1 := Lib.hid hk1
  have HOP := Lib.hid hoP
  have HR1 := Lib.hid hr1
  clear hr1 hg1 hgw hk0 hk1 hoP
  go_wp2_with fail
  go_loopw [5, 6] (fun vP i wr => ∃ (k : Nat) (vW : Value) (ws : List ByteArray) (ps : List Int), k ≤ m + 1 ∧ i = .int .i64 k ∧ ws.length + k = m + 1 ∧ ps.length = ws.length ∧ (∀ j, j < ws.length → 2 ≤ (gS ws j).size ∧ (gS ws j).size ≤ 9) ∧
      Blk wr w.heap.size 26 #[.slice none 0 0, .slice none 0 0] ∧ Blk wr (w.heap.size + 1) 26 #[vW, .slice none 0 0] ∧
      Own wr (w.heap.size + 2) 9 vW (ws.map .string) ∧ Own wr (w.heap.size + 2) 3 vP (ps.map (.int .i64)) ∧ Rd wr g (P + 1 + 11 * ws.length) ∧ w.grownBy wr (some g) ∧ w.heap.size + 3 ≤ wr.heap.size) (fun _ i _ => (intOf i).toNat)
  case atStart => exact ⟨m + 1, .slice none 0 0, [], [], Nat.le_refl _, by show Value.int .i64 (1 + (m : Int)) = _; congr 1; omega, by simp, rfl, fun j hj => by simp at hj, HK0.out, HK1.out, Own.nil _ _ _, HOP.out, HR1.out, HGW.out, hzz⟩
  case round =>
    clear HGW HK0 HK1 HOP HR1 hzz
    obtain ⟨k, vW, ws, ps, hk, rfl, hws, hps, hsz, hk0, hk1, hoW, hoP, hrd, hgw, hzz⟩ := hrel
    have HWS := Lib.hid hws
    have HPS := Lib.hid hps
    have HSZ := Lib.hid hsz
    have HK0 := Lib.hid hk0
    have HK1 := Lib.hid hk1
    have HOW := Lib.hid hoW
    have HOP := Lib.hid hoP
    have HRD := Lib.hid hrd
    have HGW := Lib.hid hgw
    have c0 : wr.cell? ⟨w.heap.size + 1, 0, none⟩ = some vW := hk1.cell 0
    have c1 : wr.cell? ⟨w.heap.size + 1, 1, none⟩ = some (.slice none 0 0) := hk1.cell 1
    have d0 := hk1.free 0
    have d1 := hk1.free 1
    have hwl : ws.length ≤ 4 := by omega
    clear hws hps hsz hk0 hk1 hoW hoP hrd hgw
    by_cases hlt : 0 < k
    · go_wp2_with fail
      go_region_law (first
          | (refine step_app1 _ rfl _ _ _ rfl (w.heap.size + 2) 9 Try.underlying23 info_str rfl vW (ws.map .string) rfl (.string s) w2.heap.size ((HOW.out.drew.kept hg2 (fun x hx => by injection hx with hx; omega)).alloc _) rfl ?_ rfl ?_ (by omega) ?_ ?_
             · rw [World.cell?_alloc_at _ _ _ _ rfl]; rfl
             · simp; omega
             · have := hg2.size; simp at this ⊢; omega
             intro v' w4 hown4 hgr4
             have hk4 := (((HK1.out.drew.grown hg2 (by simp; omega)).alloc (.cells #[.string s] 9)).own ((HOW.out.drew.kept hg2 (fun x hx => by injection hx with hx; omega)).alloc (.cells #[.string s] 9)) (by omega) hgr4)
             have e0 : w4.cell? ⟨w.heap.size + 1, 0, none⟩ = some vW := hk4.cell 0
             have e1 := hk4.free 0
             have HALL := Lib.hid (app_step (gC := w.heap.size + 1) (j := 0) hg2 hr2 hown4 hgr4 HOW.out (by omega) (by omega) (by omega))
             obtain ⟨gg, cA', hv'⟩ : ∃ gg c, v' = .slice (some ⟨gg, 0, none⟩) (ws.length + 1) c := (by
               obtain ⟨gg, c, h, _⟩ := hown4.at_ (k := ws.length) (u := .string s) (by simp)
               exact ⟨gg, c, by rw [h]; simp⟩)
             subst hv')
          | (go_simp
             go_at_call 65
             refine (c_l15Wheel g (P + 1 + 11 * ws.length) _ HRD.out.drew (by omega)).mono ?_
             rintro e w2 ⟨s, rfl, hs, hr2, hg2⟩
             have hl1 : wr.heap.size ≤ w2.heap.size := hg2.size
             have hl2 : w.heap.size + 1 < w2.heap.size := by omega
             have hl3 : ¬ w.heap.size + 1 = w2.heap.size := by omega
             have hkeep : w2.cell? ⟨w.heap.size + 1, 0, none⟩ = some vW := (HK1.out.drew.grown hg2 (by simp; omega)).cell 0))
      all_goals
        clear hr2 hg2 hown4 hgr4 hk4 hkeep e0 e1 hl1 hl2 hl3 c0 c1 d0 d1
        have hall := HALL.out
        clear HALL
        generalize w4.setCell ⟨w.heap.size + 1, 0, none⟩ (.slice (some ⟨gg, 0, none⟩) (ws.length + 1) cA') = w5 at *
        obtain ⟨a1, a2, a3, a4, a5, a6, a7⟩ := hall
        have A1 := Lib.hid (a1 _ _ _ HK0.out (by omega) (by omega) (by omega))
        have A2 := Lib.hid (a2 _ _ HK1.out)
        have A3 := Lib.hid a4
        have A4 := Lib.hid (a3 _ _ _ _ HOP.out (by omega) (HOW.out.ne_type HOP.out (by decide)))
        have A5 := Lib.hid a5
        have A6 := Lib.hid (a6 w HGW.out (by omega))
        have c0 : w5.cell? ⟨w.heap.size + 1, 0, none⟩ = some (.slice (some ⟨gg, 0, none⟩) (ws.length + 1) cA') := A2.out.cell 0
        have cs : w5.cell? ⟨gg, ws.length, none⟩ = some (.string s) := by
          obtain ⟨g2, c2, h, _, _, hc⟩ := a4.at_ (k := ws.length) (u := .string s) (by simp)
          injection h with h; injection h with h; injection h with h
          rw [h]; exact hc
        clear a1 a2 a3 a4 a5 a6 HK0 HK1 HOW HOP HRD HGW
        go_wp2_with fail
        refine (c_pick g (P + 1 + 11 * ws.length + 10) _ _ A5.out (by omega) (by omega) (by omega)).mono ?_
        rintro e w6 ⟨q, rfl, hq, hr6, hg6⟩
        have B1 := Lib.hid (A1.out.grown hg6 (by simp; omega))
        have B2 := Lib.hid (A2.out.grown hg6 (by simp; omega))
        have B3 := Lib.hid (A3.out.kept hg6 (fun x hx => by injection hx with hx; omega))
        have B4 := Lib.hid (A4.out.kept hg6 (fun x hx => by injection hx with hx; omega))
        have B5 := Lib.hid hr6
        have B6 := Lib.hid (A6.out.trans hg6)
        have b7 : w.heap.size + 3 ≤ w6.heap.size := Nat.le_trans (Nat.le_trans hzz a7) hg6.size
        clear hr6 hg6 A1 A2 A3 A4 A5 A6 c0 cs
        go_wp2_with (at_builtin; refine app1 _ rfl _ _ _ rfl (w.heap.size + 2) 3 Try.underlying24 info_int rfl _ _ rfl B4.out _ rfl rfl (by simp; have := HPS.out; omega) (by omega) (by omega) ?_; intro v7 w7 hown7 hgr7)
        have hgr7' : w6.grownBy w7 (Value.ownBlock u5) := hgr7
        have e1 := HWS.out
        have e2 := HPS.out
        refine ⟨⟨k - 1, _, ws ++ [s], ps ++ [(q : Int)], by omega, by congr 1; omega, by simp; omega, by simp [e2], fun j hj => ?_, B1.out.own B4.out (by omega) hgr7', B2.out.own B4.out (by omega) hgr7', ?_, by simpa using hown7,
          (B5.out.own B4.out (by omega) hgr7').more (by simp; omega), grow_own B6.out B4.out (by omega) hgr7', Nat.le_trans b7 hgr7'.size⟩, by simp [intOf]; omega⟩
        · simp only [List.length_append, List.length_cons, List.length_nil] at hj
          rw [gS_snoc _ _ hj]
          split
          · exact HSZ.out j (by assumption)
          · exact hs
        · rw [List.map_append]
          exact B3.out.keptNe hgr7' (fun b hb => fun hb2 => (B4.out.ne_type B3.out (by decide)) b hb hb2)
    · have hkz : k = 0 := by omega
      have e1 : ws.length = m + 1 := by have := HWS.out; omega
      have E1 := Lib.hid e1
      have hwl1 : 1 ≤ ws.length := by omega
      clear hkz e1
      go_wp2_with fail
      refine (c_pick g (P + 1 + 11 * ws.length) _ _ HRD.out (by omega) (by omega) (by omega)).mono ?_
      rintro e w8 ⟨m2, rfl, hm2, hr8, hg8⟩
      have B0 := Lib.hid (HK0.out.grown hg8 (by simp; omega))
      have B1 := Lib.hid (HK1.out.grown hg8 (by simp; omega))
      have BW := Lib.hid (HOW.out.kept hg8 (fun x hx => by injection hx with hx; omega))
      have BP := Lib.hid (HOP.out.kept hg8 (fun x hx => by injection hx with hx; omega))
      have BR := Lib.hid hr8
      have BG := Lib.hid (HGW.out.trans hg8)
      have hz8 : w.heap.size + 3 ≤ w8.heap.size := Nat.le_trans hzz hg8.size
      obtain ⟨AW, cW, hvW⟩ : ∃ A c, vW = .slice A ws.length c := by
        obtain ⟨A, c, h⟩ := HOW.out.slice
        exact ⟨A, c, by rw [h]; simp⟩
      subst hvW
      have HPLT : Hid (∀ b, Value.ownBlock u5 = some b → b < w8.heap.size) := fun b hb => (BP.out.blk_lt hb).2
      have HWLT : Hid (∀ b, Value.ownBlock (.slice AW ws.length cW) = some b → b < w8.heap.size) := fun b hb => (BW.out.blk_lt hb).2
      clear hr8 hg8 HK0 HK1 HOW HOP HRD HGW c0 c1 d0 d1
      go_wp2_with fail
      go_loopw [7] (fun i wr => ∃ (k : Nat) (vB : Value) (bs : List Int), k ≤ m2 + 1 ∧ i = .int .i64 k ∧ bs.length + k = m2 + 1 ∧
        Blk wr w.heap.size 26 #[.slice none 0 0, .slice none 0 0] ∧ Blk wr (w.heap.size + 1) 26 #[.slice AW ws.length cW, vB] ∧
        Own wr (w.heap.size + 2) 9 (.slice AW ws.length cW) (ws.map .string) ∧ Own wr (w.heap.size + 2) 3 u5 (ps.map (.int .i64)) ∧ Own wr w8.heap.size 3 vB (bs.map (.int .i64)) ∧
        Rd wr g (P + 2 + 11 * ws.length + bs.length) ∧ w.grownBy wr (some g) ∧ w8.heap.size ≤ wr.heap.size) (fun i _ => (intOf i).toNat)
      case atStart => exact ⟨m2 + 1, .slice none 0 0, [], Nat.le_refl _, by show Value.int .i64 (1 + (m2 : Int)) = _; congr 1; omega, by simp, B0.out, B1.out, BW.out, BP.out, Own.nil _ _ _, BR.out.more (by simp; omega), BG.out, Nat.le_refl _⟩
      case round =>
        clear B0 B1 BW BP BR BG
        obtain ⟨k2, vB, bs, hk2, rfl, hbs, hk0, hk1, hoW, hoP, hoB, hrd, hgw, hz9⟩ := hrel
        have HBS := Lib.hid hbs
        have HK0 := Lib.hid hk0
        have HK1 := Lib.hid hk1
        have HOW := Lib.hid hoW
        have HOP := Lib.hid hoP
        have HOB := Lib.hid hoB
        have HRD := Lib.hid hrd
        have HGW := Lib.hid hgw
        have c0 : wr.cell? ⟨w.heap.size + 1, 0, none⟩ = some (.slice AW ws.length cW) := hk1.cell 0
        have c1 : wr.cell? ⟨w.heap.size + 1, 1, none⟩ = some vB := hk1.cell 1
        have d0 := hk1.free 0
        have d1 := hk1.free 1
        have hbl : bs.length ≤ 9 := by omega
        clear hbs hk0 hk1 hoW hoP hoB hrd hgw
        have p2 := pow_le4 hwl
        by_cases hlt2 : 0 < k2
        · have e1 : IntKind.i64.wrap (2 ^ ws.length) = 2 ^ ws.length := IntWalk.i64_in _ (by omega)
          have e3 : IntKind.u64.wrap (ws.length : Int) = ws.length := IntWalk.u64_in _ (by omega)
          have E1' := Lib.hid e1
          have E3' := Lib.hid e3
          clear e1 e3
          go_wp2_with fail
          have e1 := E1'.out
          have e3 := E3'.out
          go_region_law (first
            | (refine step_app1 _ rfl _ _ _ rfl w8.heap.size 3 Try.underlying24 info_int rfl vB (bs.map (.int .i64)) rfl (.int .i64 (q : Int)) w2.heap.size ((HOB.out.drew.kept hg2 (fun x hx => by injection hx with hx; omega)).alloc _) rfl ?_ rfl ?_ (by omega) ?_ ?_
               · rw [World.cell?_alloc_at _ _ _ _ rfl]; rfl
               · simp; omega
               · have := hg2.size; simp at this ⊢; omega
               intro v' w4 hown4 hgr4
               have hk4 := (((HK1.out.drew.grown hg2 (by simp; omega)).alloc (.cells #[.int .i64 (q : Int)] 3)).own ((HOB.out.drew.kept hg2 (fun x hx => by injection hx with hx; omega)).alloc (.cells #[.int .i64 (q : Int)] 3)) (by omega) hgr4)
               have e0 : w4.cell? ⟨w.heap.size + 1, 1, none⟩ = some vB := hk4.cell 1
               have e1' := hk4.free 1
               have HALL := Lib.hid (app_step (gC := w.heap.size + 1) (j := 1) hg2 hr2 hown4 hgr4 HOB.out (by omega) (by omega) (by omega))
               obtain ⟨A', cA', hv'⟩ : ∃ A c, v' = .slice A (bs.length + 1) c := (by
                 obtain ⟨A, c, h⟩ := hown4.slice
                 exact ⟨A, c, by rw [h]; simp⟩)
               subst hv')
            | (go_simp
               go_at_call 31
               refine (c_pick g (P + 2 + 11 * ws.length + bs.length) _ _ HRD.out.drew (by omega) (by omega) (by omega)).mono ?_
               rintro e w2 ⟨q, rfl, hq, hr2, hg2⟩
               have hl1 : wr.heap.size ≤ w2.heap.size := hg2.size
               have hl2 : w.heap.size + 1 < w2.heap.size := by omega
               have hl3 : ¬ w.heap.size + 1 = w2.heap.size := by omega
               have hkeep0 : w2.cell? ⟨w.heap.size + 1, 0, none⟩ = some (.slice AW ws.length cW) := (HK1.out.drew.grown hg2 (by simp; omega)).cell 0
               have hkeep : w2.cell? ⟨w.heap.size + 1, 1, none⟩ = some vB := (HK1.out.drew.grown hg2 (by simp; omega)).cell 1))
          all_goals
            clear hr2 hg2 hown4 hgr4 hk4 hkeep hkeep0 e0 e1' hl1 hl2 hl3 c0 c1 d0 d1 e1 e3
            have hall := HALL.out
            clear HALL
            generalize w4.setCell ⟨w.heap.size + 1, 1, none⟩ (.slice A' (bs.length + 1) cA') = w5 at *
            obtain ⟨a1, a2, a3, a4, a5, a6, a7⟩ := hall
            have A1 := Lib.hid (a1 _ _ _ HK0.out (by omega) (by omega) (by omega))
            have A2 := Lib.hid (a2 _ _ HK1.out)
            have A3 := Lib.hid a4
            have A4 := Lib.hid (a3 _ _ _ _ HOP.out (by omega) (fun b hb hb2 => by have := (HOB.out.blk_lt hb).1; have := HPLT.out b hb2; omega))
            have A4W := Lib.hid (a3 _ _ _ _ HOW.out (by omega) (fun b hb hb2 => by have := (HOB.out.blk_lt hb).1; have := HWLT.out b hb2; omega))
            have A5 := Lib.hid a5
            have A6 := Lib.hid (a6 w HGW.out (by omega))
            clear a1 a2 a3 a4 a5 a6 HK0 HK1 HOW HOP HRD HGW
            go_wp2_with fail
            have e1 := HBS.out
            refine ⟨⟨k2 - 1, _, bs ++ [(q : Int)], by omega, by congr 1; omega, by simp; omega, A1.out, A2.out, A4W.out, A4.out, by simpa using A3.out, A5.out.more (by simp; omega), A6.out, Nat.le_trans hz9 a7⟩, by simp [intOf]; omega⟩
        · have r0 : wr.cell? ⟨w.heap.size, 0, none⟩ = some (.slice none 0 0) := HK0.out.cell 0
          have r1 : wr.cell? ⟨w.heap.size, 1, none⟩ = some (.slice none 0 0) := HK0.out.cell 1
          have s0 := HK0.out.free 0
          have s1 := HK0.out.free 1
          obtain ⟨AB, cB, hvB⟩ : ∃ A c, vB = .slice A bs.length c := by
            obtain ⟨A, c, h⟩ := HOB.out.slice
            exact ⟨A, c, by rw [h]; simp⟩
          subst hvB
          have e1 := Lib.hid (show bs.length = m2 + 1 by have := HBS.out; omega)
          have hset : Hid (w.grownBy ((wr.setCell ⟨w.heap.size, 0, none⟩ (.slice AW ws.length cW)).setCell ⟨w.heap.size, 1, none⟩ (.slice AB bs.length cB)) (some g)) := grow_new (grow_new HGW.out (by simp) _) (by simp) _
          have hsR : Hid (Rd ((wr.setCell ⟨w.heap.size, 0, none⟩ (.slice AW ws.length cW)).setCell ⟨w.heap.size, 1, none⟩ (.slice AB bs.length cB)) g (P + 100)) := ((HRD.out.setFar hgl _).setFar hgl _).more (by omega)
          have hsW := Lib.hid ((HOW.out.setFar (p := ⟨w.heap.size, 0, none⟩) (by simp) (.slice AW ws.length cW)).setFar (p := ⟨w.heap.size, 1, none⟩) (by simp) (.slice AB bs.length cB))
          have hsP := Lib.hid ((HOP.out.setFar (p := ⟨w.heap.size, 0, none⟩) (by simp) (.slice AW ws.length cW)).setFar (p := ⟨w.heap.size, 1, none⟩) (by simp) (.slice AB bs.length cB))
          have hsB := Lib.hid ((HOB.out.setFar (p := ⟨w.heap.size, 0, none⟩) (by simp; omega) (.slice AW ws.length cW)).setFar (p := ⟨w.heap.size, 1, none⟩) (by simp; omega) (.slice AB bs.length cB))
          have hneq : Hid (Value.ownBlock (.slice AB bs.length cB) = none ∨ Value.ownBlock (.slice AB bs.length cB) ≠ Value.ownBlock u5) := by
            rcases hb : Value.ownBlock (.slice AB bs.length cB) with _ | b
            · exact .inl rfl
            · refine .inr fun h => ?_
              have := (HOB.out.blk_lt hb).1
              have := HPLT.out b h.symm
              omega
          have hsK := Lib.hid ((HK0.out.set 0 (.slice AW ws.length cW)).set 1 (.slice AB bs.length cB))
          go_wp2_with fail
          have q0 : ((wr.setCell ⟨w.heap.size, 0, none⟩ (.slice AW ws.length cW)).setCell ⟨w.heap.size, 1, none⟩ (.slice AB bs.length cB)).cell? ⟨w.heap.size, 0, none⟩ = some (.slice AW ws.length cW) := hsK.out.cell 0
          have q1 : ((wr.setCell ⟨w.heap.size, 0, none⟩ (.slice AW ws.length cW)).setCell ⟨w.heap.size, 1, none⟩ (.slice AB bs.length cB)).cell? ⟨w.heap.size, 1, none⟩ = some (.slice AB bs.length cB) := hsK.out.cell 1
          generalize (wr.setCell ⟨w.heap.size, 0, none⟩ (.slice AW ws.length cW)).setCell ⟨w.heap.size, 1, none⟩ (.slice AB bs.length cB) = WF at *
          refine bodyPost_ret (v := .tuple #[.agg #[.slice AW ws.length cW, .slice AB bs.length cB], u5]) (by simp [results, Try.results53, go_sem, q0, q1]) rfl
            ⟨_, _, _, ws, bs, ps, rfl, hsW.out.lower (by omega), hsB.out.lower (by omega), hsP.out.lower (by omega), hneq.out, hwl1, hwl, by have := e1.out; omega, by have := e1.out; omega, HPS.out, fun k hk => (HSZ.out k hk).2, hsR.out, hset.out⟩

end Go.Proofs.Ytomgkpiogbmfgaa
