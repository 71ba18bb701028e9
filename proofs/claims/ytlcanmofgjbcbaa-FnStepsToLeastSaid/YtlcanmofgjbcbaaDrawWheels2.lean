/- Contract of l6Bad. -/
import Derived.Test.YtlcanmofgjbcbaaDrawWheels
namespace Go.Proofs.Ytlcanmofgjbcbaa
set_option linter.unusedVariables false
set_option linter.unusedSimpArgs false
open Go.RowKit
attribute [local go_sem ↓] Go.wp_at_zero Go.wp_at_succ

/-- append(s, x...) of rotors, both of the call's own -/
theorem appRR {P : Program} (w : World) {ops : Array Oper} {rest : List Oper} {o : Oper} {a : Act} {Q : Exit → Act → World → Prop} (hgd : o.guard = none) (s x : Operand) (t : TypeId)
    (ho : o.op = .call { callee := .builtin .append, args := #[s, x], argTypes := #[t, t] })
    (B : Nat) (ht : P.underlying t = some (.slice 54)) (hinfo : (P.info? 54).map (fun i => (i.zero, i.size, i.bytes)) = some (some (.agg #[.string ByteArray.empty, .string ByteArray.empty]), 2, 32))
    (v : Value) (n m g c B' : Nat) (f h : Nat → Rot) (hs : a.eval s = v) (hown : OwnR w B v n f) (hx : a.eval x = .slice (some ⟨g, 0, none⟩) m c) (hownx : OwnR w B' (.slice (some ⟨g, 0, none⟩) m c) m h)
    (hlen : n + m ≤ 1000000000) (hbase : B ≤ w.heap.size)
    (hK : ∀ v' w', OwnR w' B v' (n + m) (joinR n f h) → w.grownBy w' v.ownBlock → wpList P ops Q rest (a.put o.dst v') w') :
    wpList P ops Q (o :: rest) a w := by
  obtain ⟨i, hi, hz0, hz1, hz2⟩ := info_parts hinfo
  refine wpList_append_own_at (P := P) w hgd s x t ho B 54 i _ 2 32 ht hi hz0 hz1 hz2 rfl (by omega) v n _ hs hown ⟨g, 0, none⟩ m c (rngV (cellR h) (m * 2)) hx (rngV_len _ _) ?_ ?_ (by unfold maxLen; omega) (by omega) (by omega) ?_
  · intro j u hj
    have hj' : j < m * 2 := by
      have := (List.getElem?_eq_some_iff.1 hj).1
      rwa [rngV_len] at this
    have e1 : (⟨g, 0, none⟩ : Addr).add j = ⟨g, j, none⟩ := by unfold Addr.add; split <;> simp_all
    rw [e1, World.ownsRow.cellAt hownx j (by omega)]
    exact hj
  · intro u hu
    unfold rngV at hu
    obtain ⟨j, _, rfl⟩ := List.mem_map.1 hu
    unfold cellR
    split <;> rfl
  · intro v' w' ho' hg' _ _
    exact hK v' w' (by unfold OwnR; rw [← rng_join]; exact ho') hg'

theorem gR_map (f : Nat → Rot) {n k : Nat} (h : k < n) : gR ((List.range n).map f) k = f k := by
  unfold gR; rw [List.getD_eq_getElem?_getD, List.getElem?_map, List.getElem?_range h]; rfl
theorem OwnR.toRots {w : World} {B n : Nat} {v : Value} {f : Nat → Rot} (h : OwnR w B v n f) (hn : n ≤ 1000000) (hs : ∀ k, k < n → (f k).1.size ≤ 1000000 ∧ (f k).2.size ≤ 1000000) :
    IsRots w v ((List.range n).map f) := by
  have hl : ((List.range n).map f).length = n := by simp
  refine OwnR.rots (B := B) ?_ (by omega) (fun k hk => ?_)
  · rw [hl]; exact h.congr (fun i hi => (gR_map f hi).symm)
  · rw [hl] at hk
    rw [gR_map f hk]
    have := hs k hk
    omega
theorem IsRots.setNe {w : World} {b j : Nat} {v : Value} {l : List Rot} (h : IsRots w v l) (hne : v.ownBlock ≠ some b) (u : Value) : IsRots (w.setCell ⟨b, j, none⟩ u) v l := by
  obtain ⟨A, c, rfl, h1, h2, h3⟩ := h
  refine ⟨A, c, rfl, h1, h2, fun k hkl => ?_⟩
  obtain ⟨b', o, rfl, hlt, hc, hd⟩ := h3 k hkl
  have hne' : b' ≠ b := fun e => hne (by rw [e]; rfl)
  exact ⟨b', o, rfl, by simpa [World.setCell] using hlt, by rw [World.cell?_setCell_other _ _ _ _ (by intro h; injection h with h1 h2; omega)]; exact hc, by rw [World.cell?_setCell_other _ _ _ _ (by intro h; injection h with h1 h2; omega)]; exact hd⟩
theorem IsRots.grownNe {w w' : World} {v : Value} {l : List Rot} {g : Nat} (h : IsRots w v l) (hg : w.grownBy w' (some g)) (hne : v.ownBlock ≠ some g) : IsRots w' v l := by
  obtain ⟨A, c, rfl, h1, h2, h3⟩ := h
  refine ⟨A, c, rfl, h1, h2, fun k hk => ?_⟩
  obtain ⟨b, o, rfl, hlt, hc, hd⟩ := h3 k hk
  exact ⟨b, o, rfl, Nat.lt_of_lt_of_le hlt hg.size, (hg.cell_far ⟨b, o + k * 2, none⟩ hlt hne).trans hc, (hg.cell_far ⟨b, o + k * 2 + 1, none⟩ hlt hne).trans hd⟩
theorem OwnR.ne_blk {w : World} {B n b : Nat} {v : Value} {f : Nat → Rot} (h : OwnR w B v n f) (hb : b < B) : v.ownBlock ≠ some b := fun he => by
  have := (h.blk_lt he).1; omega
theorem OwnR.ne_new {w : World} {B n b : Nat} {v : Value} {f : Nat → Rot} (h : OwnR w B v n f) (hb : w.heap.size ≤ b) : v.ownBlock ≠ some b := fun he => by
  have := (h.blk_lt he).2; omega
/-- a block of another type is not the row's -/
theorem OwnR.ne_ty {w : World} {B n b : Nat} {v : Value} {f : Nat → Rot} {tc : TypeId} {cs : Array Value} (h : OwnR w B v n f) (hk : Blk w b tc cs) (hne : 54 ≠ tc) : v.ownBlock ≠ some b := by
  intro hv
  rcases h.2 with ⟨rfl, _⟩ | ⟨g1, cap, cur, rfl, _, hh, _⟩
  · cases hv
  · have e1 : g1 = b := by simpa [Value.ownBlock] using hv
    subst e1
    unfold Blk at hk
    rw [hh] at hk
    injection hk with hk
    injection hk with _ ht
    exact hne ht
theorem OwnR.setNe {w : World} {B n b j : Nat} {v : Value} {f : Nat → Rot} (h : OwnR w B v n f) (hne : v.ownBlock ≠ some b) (u : Value) : OwnR (w.setCell ⟨b, j, none⟩ u) B v n f :=
  h.kept (row := some b) (grow_set (World.grownBy.refl _ _) (.inl rfl) u) (fun x hx => by injection hx with hx; subst hx; exact hne)

/-- the results laid into their variable -/
theorem fin6 {w0 W : World} {g P b : Nat} {tc : TypeId} {vR : Value} {rf : ByteArray} {l : List Rot} (hk : Blk W b tc #[.slice none 0 0, .string ByteArray.empty]) (hR : IsRots W vR l) (hne : vR.ownBlock ≠ some b) (hr : Rd W g P) (hgw : w0.grownBy W (some g)) (hg : g < b) (hb : w0.heap.size ≤ b) :
    ((W.setCell ⟨b, 0, none⟩ vR).setCell ⟨b, 1, none⟩ (.string rf)).cell? ⟨b, 0, none⟩ = some vR ∧ ((W.setCell ⟨b, 0, none⟩ vR).setCell ⟨b, 1, none⟩ (.string rf)).cell? ⟨b, 1, none⟩ = some (.string rf) ∧
    IsRots ((W.setCell ⟨b, 0, none⟩ vR).setCell ⟨b, 1, none⟩ (.string rf)) vR l ∧
    Rd ((W.setCell ⟨b, 0, none⟩ vR).setCell ⟨b, 1, none⟩ (.string rf)) g P ∧ w0.grownBy ((W.setCell ⟨b, 0, none⟩ vR).setCell ⟨b, 1, none⟩ (.string rf)) (some g) := by
  have k2 := (hk.set 0 vR).set 1 (.string rf)
  exact ⟨k2.cell 0, k2.cell 1, (hR.setNe hne _).setNe hne _, (hr.setFar hg _).setFar hg _, grow_new (grow_new hgw hb _) hb _⟩

/-- all blocks of w but g and r are as they were -/
def Keep (w w' : World) (g r : Nat) : Prop := w.heap.size ≤ w'.heap.size ∧ ∀ b, b < w.heap.size → b ≠ g → b ≠ r → w'.heap[b]? = w.heap[b]?
theorem Keep.refl (w : World) (g r : Nat) : Keep w w g r := ⟨Nat.le_refl _, fun _ _ _ _ => rfl⟩
theorem Keep.grown {w a b : World} {g r x : Nat} (h : Keep w a g r) (hg : a.grownBy b (some x)) (hx : x = g ∨ x = r) : Keep w b g r :=
  ⟨Nat.le_trans h.1 hg.size, fun i hi h1 h2 => (hg.block i (Nat.lt_of_lt_of_le hi h.1) (by intro e; injection e with e; rcases hx with rfl | rfl <;> contradiction)).trans (h.2 i hi h1 h2)⟩
theorem Keep.alloc {w a : World} {g r : Nat} (h : Keep w a g r) (o : Obj) : Keep w (a.alloc o) g r := h.grown (grow_alloc (World.grownBy.refl a (some g)) o) (.inl rfl)
theorem Keep.drew {w a : World} {g r : Nat} (h : Keep w a g r) : Keep w a.drew g r := h
theorem Keep.set {w a : World} {g r : Nat} (h : Keep w a g r) {p : Addr} (hp : w.heap.size ≤ p.block ∨ p.block = r) (u : Value) : Keep w (a.setCell p u) g r :=
  ⟨by simpa [World.setCell] using h.1, fun i hi h1 h2 => (Below.heap_setCell a p u i (by rintro rfl; rcases hp with hp | hp <;> omega)).trans (h.2 i hi h1 h2)⟩
theorem Keep.blk {w a : World} {g r b : Nat} {t : TypeId} {cs : Array Value} (h : Keep w a g r) (hb : Blk w b t cs) (h1 : b ≠ g) (h2 : b ≠ r) : Blk a b t cs := (h.2 b hb.lt h1 h2).trans hb

set_option maxHeartbeats 1000000 in
set_option maxRecDepth 100000 in
theorem c_l6Bad (g P B n : Nat) (vR : Value) (rf : ByteArray) (f : Nat → Rot) (w0 w : World) (hr : Rd w g P) (hP : P + 200 ≤ 1000000) (hB : w0.heap.size ≤ B) (hgw : w0.grownBy w (some g)) (hg0 : g < w0.heap.size) (hBw : B ≤ w.heap.size)
    (ho : OwnR w B vR n f) (hok : okR n f) (hn1 : 1 ≤ n) (hn3 : n ≤ 3) (hrf : rf.size ≤ 1000) :
    Calls Try.prog 71 #[.pointer (some ⟨g, 0, none⟩), .agg #[vR, .string rf]] w fun e w' => ∃ (vR' : Value) (rf' : ByteArray) (l : List Rot), e = .returned (.agg #[vR', .string rf']) ∧
      IsRots w' vR' l ∧ rf'.size ≤ 1000 ∧ vR'.ownBlock ≠ some g ∧ Rd w' g (P + 20) ∧ w0.grownBy w' (some g) ∧ (∀ r, vR.ownBlock = some r → Keep w w' g r) := by
  obtain ⟨gR, cR, rfl, hgR1, hgR2⟩ := ho.at0 (by omega)
  have ke : ∀ (W : World), Keep w W g gR → ∀ r, (Value.slice (some ⟨gR, 0, none⟩) n cR).ownBlock = some r → Keep w W g r := fun W h r e => by injection e with e; exact e ▸ h
  have KE := Lib.hid ke
  clear ke
  have HR := Lib.hid hr
  have HGW := Lib.hid hgw
  have HO := Lib.hid ho
  have HOK := Lib.hid hok
  have NG := Lib.hid (ho.ne_blk (b := g) (by omega))
  have hgl := hr.1
  have hw0w : w0.heap.size ≤ w.heap.size := hgw.size
  have hbig : ∀ k, k < n → (f k).1.size ≤ 1000000 ∧ (f k).2.size ≤ 1000000 := fun k hk => by have := hok k hk; omega
  have HBIG := Lib.hid hbig
  clear hr hgw ho hok hbig
  go_enter Try.func71, Try.ntmps71
  go_wp2_with fail
  refine (c_pick g P _ _ ((HR.out.ext (ext_alloc _ _)).ext (ext_alloc _ _)) (by omega) (by omega) (by omega)).mono ?_
  rintro e w1 ⟨m, rfl, hm, hr1, hg1⟩
  have k0 := ((Blk.new w 25 #[.slice (some ⟨gR, 0, none⟩) n cR, .string rf]).alloc (.cells #[.slice none 0 0, .string ByteArray.empty] 25)).grown hg1 (by simp; omega)
  have k1 : Blk w1 (w.heap.size + 1) 25 #[.slice none 0 0, .string ByteArray.empty] := by
    have h1 := Blk.new (w.alloc (.cells #[.slice (some ⟨gR, 0, none⟩) n cR, .string rf] 25)) 25 #[.slice none 0 0, .string ByteArray.empty]
    simp only [World.size_alloc] at h1
    exact h1.grown hg1 (by simp; omega)
  have K0 := Lib.hid k0
  have K1 := Lib.hid k1
  have R1 := Lib.hid hr1
  have G1 := Lib.hid (HGW.out.trans ((grow_alloc (grow_alloc (World.grownBy.refl w (some g)) _) _).trans hg1))
  have O1 := Lib.hid (((HO.out.alloc (.cells #[.slice (some ⟨gR, 0, none⟩) n cR, .string rf] 25)).alloc (.cells #[.slice none 0 0, .string ByteArray.empty] 25)).keptB hg1 (by omega))
  have X1 := Lib.hid ((((Keep.refl w g gR).alloc (.cells #[.slice (some ⟨gR, 0, none⟩) n cR, .string rf] 25)).alloc (.cells #[.slice none 0 0, .string ByteArray.empty] 25)).grown hg1 (.inl rfl))
  have hz1 : w.heap.size + 2 ≤ w1.heap.size := by have := hg1.size; simp at this; omega
  clear k0 k1 hr1 hg1 HR HGW HO
  go_wp2_with fail
  refine (c_pick g (P + 1) _ _ R1.out (by omega) (by omega) (by omega)).mono ?_
  rintro e w2 ⟨q, rfl, hq, hr2, hg2⟩
  have K02 := Lib.hid (K0.out.grown hg2 (by simp; omega))
  have K12 := Lib.hid (K1.out.grown hg2 (by simp; omega))
  have R2 := Lib.hid hr2
  have G2 := Lib.hid (G1.out.trans hg2)
  have O2 := Lib.hid (O1.out.keptB hg2 (by omega))
  have X2 := Lib.hid (X1.out.grown hg2 (.inl rfl))
  have hz2 : w.heap.size + 2 ≤ w2.heap.size := Nat.le_trans hz1 hg2.size
  clear hr2 hg2 K0 K1 R1 G1 O1 hz1
  have x0 : w2.cell? ⟨w.heap.size, 0, none⟩ = some (.slice (some ⟨gR, 0, none⟩) n cR) := K02.out.cell 0
  have x1 : w2.cell? ⟨w.heap.size, 1, none⟩ = some (.string rf) := K02.out.cell 1
  have y0 : w2.cell? ⟨w.heap.size + 1, 0, none⟩ = some (.slice none 0 0) := K12.out.cell 0
  have y1 : w2.cell? ⟨w.heap.size + 1, 1, none⟩ = some (.string ByteArray.empty) := K12.out.cell 1
  have u0 := K02.out.free 0
  have u1 := K02.out.free 1
  have v0 := K12.out.free 0
  have v1 := K12.out.free 1
  have hmn : m < n := by omega
  by_cases q0 : q = 0
  · have t0 : ((q : Int) == 0) = true := by simp [q0]
    clear q0
    have hlz : w.heap.size < w2.heap.size := by omega
    have wc0 := (O2.out.cells hmn).1
    have wc1 := (O2.out.cells hmn).2
    have i1 : (0 : Int) ≤ (m : Int) := by omega
    have i2 : (m : Int) < (n : Int) := by omega
    have hsz := HOK.out m hmn
    generalize hfm : f m = rm at wc0 wc1 hsz
    obtain ⟨wi, no⟩ := rm
    have hsz1 : wi.size = 10 := hsz.1
    have hsz2 : no.size ≤ 3 := hsz.2.1
    clear hsz hfm
    go_wp2_with fail
    go_region_law (first
      | (go_simp
         go_at_call 92
         refine (c_l5Bad g (P + 2) wi no _ R2.out.drew (by omega) (by omega) (by omega) (by omega)).mono ?_
         rintro e w4 ⟨wi', no', rfl, hwi, hno, hr4, hg4⟩
         have hkeep : w4.cell? ⟨w.heap.size, 0, none⟩ = some (.slice (some ⟨gR, 0, none⟩) n cR) := (K02.out.drew.grown hg4 (by simp; omega)).cell 0
         have O4 := Lib.hid (O2.out.drew.keptB hg4 (by omega))
         have h40 := (O4.out.cells hmn).1
         have h41 := (O4.out.cells hmn).2
         have h42 := O4.out.free (m * 2)
         have h43 := O4.out.free (m * 2 + 1)))
    all_goals
      have N0 := Lib.hid (((K02.out.drew.grown hg4 (by simp; omega)).far (p := ⟨gR, m * 2, none⟩) (by simp; omega) (.string wi')).far (p := ⟨gR, m * 2 + 1, none⟩) (by simp; omega) (.string no'))
      have N1 := Lib.hid (((K12.out.drew.grown hg4 (by simp; omega)).far (p := ⟨gR, m * 2, none⟩) (by simp; omega) (.string wi')).far (p := ⟨gR, m * 2 + 1, none⟩) (by simp; omega) (.string no'))
      have NX := Lib.hid (((X2.out.drew.grown hg4 (.inl rfl)).set (p := ⟨gR, m * 2, none⟩) (.inr rfl) (.string wi')).set (p := ⟨gR, m * 2 + 1, none⟩) (.inr rfl) (.string no'))
      have NO := Lib.hid ((O4.out.set m (wi', no') (f' := fun i => if i = m then (wi', no') else f i) (fun i _ => rfl)).toRots (by omega) (fun j hj => by
        show (if j = m then (wi', no') else f j).1.size ≤ 1000000 ∧ (if j = m then (wi', no') else f j).2.size ≤ 1000000
        by_cases e : j = m
        · rw [if_pos e]; exact ⟨Nat.le_trans hwi (by omega), Nat.le_trans hno (by omega)⟩
        · rw [if_neg e]; exact HBIG.out j hj))
      have NR := Lib.hid ((hr4.setFar (p := ⟨gR, m * 2, none⟩) (by simp; omega) (.string wi')).setFar (p := ⟨gR, m * 2 + 1, none⟩) (by simp; omega) (.string no'))
      have NGR := Lib.hid (grow_new (p := ⟨gR, m * 2 + 1, none⟩) (grow_new (p := ⟨gR, m * 2, none⟩) (G2.out.trans ⟨hg4.os, hg4.tape, hg4.output, hg4.size, hg4.block⟩) (by simp; omega) (.string wi')) (by simp; omega) (.string no'))
      clear hr4 hg4 hkeep h40 h41 h42 h43 O4 wc0 wc1 x0 x1 y0 y1 u0 u1 v0 v1 K02 K12 O2 R2 G2
      generalize (w4.setCell ⟨gR, m * 2, none⟩ (.string wi')).setCell ⟨gR, m * 2 + 1, none⟩ (.string no') = w5 at *
      have HF := Lib.hid (fin6 (w0 := w0) (rf := rf) (b := w.heap.size + 1) N1.out NO.out (by simp [Value.ownBlock]; omega) NR.out NGR.out (by omega) (by omega))
      have x0 := N0.out.cell 0
      have x1 := N0.out.cell 1
      have y0 := N1.out.cell 0
      have y1 := N1.out.cell 1
      have v0 := N1.out.free 0
      have v1 := N1.out.free 1
      go_wp2_with fail
      obtain ⟨f0, f1, f2, f3, f4⟩ := HF.out
      exact bodyPost_ret (v := .agg #[.slice (some ⟨gR, 0, none⟩) n cR, .string rf]) (by simp [results, Try.results71, go_sem, f0, f1]) rfl ⟨_, rf, _, rfl, f2, hrf, NG.out, f3.more (by omega), f4, KE.out _ ((NX.out.set (p := ⟨w.heap.size + 1, 0, none⟩) (.inl (by simp)) _).set (p := ⟨w.heap.size + 1, 1, none⟩) (.inl (by simp)) _)⟩
  · have t0 : ((q : Int) == 0) = false := by simp [q0]
    by_cases q1 : q = 1
    · have t1 : ((q : Int) == 1) = true := by simp [q1]
      clear q0 q1
      go_wp2_with fail
      refine (c_l4Any g (P + 2) _ R2.out (by omega)).mono ?_
      rintro e w3 ⟨s, rfl, hs, _, hr3, hg3⟩
      have k03 := K02.out.grown hg3 (by simp; omega)
      have k13 := K12.out.grown hg3 (by simp; omega)
      have z1 : w3.cell? ⟨w.heap.size, 1, none⟩ = some (.string rf) := k03.cell 1
      have z2 := k03.free 1
      have N0 := Lib.hid (k03.set 1 (.string s))
      have N1 := Lib.hid (k13.far (p := ⟨w.heap.size, 1, none⟩) (by simp) (.string s))
      have o3 := O2.out.keptB hg3 (by omega)
      have NX := Lib.hid ((X2.out.grown hg3 (.inl rfl)).set (p := ⟨w.heap.size, 1, none⟩) (.inl (Nat.le_refl _)) (.string s))
      have NO := Lib.hid ((o3.setNe (b := w.heap.size) (j := 1) (o3.ne_ty k03 (by decide)) (.string s)).toRots (by omega) HBIG.out)
      have NR := Lib.hid (hr3.setFar (p := ⟨w.heap.size, 1, none⟩) (by simp; omega) (.string s))
      have NGR := Lib.hid (grow_new (p := ⟨w.heap.size, 1, none⟩) (G2.out.trans hg3) (by simp; omega) (.string s))
      have HF := Lib.hid (fin6 (w0 := w0) (rf := s) (b := w.heap.size + 1) N1.out NO.out (by simp [Value.ownBlock]; omega) NR.out NGR.out (by omega) (by omega))
      clear hr3 hg3 k03 k13 o3 x0 x1 y0 y1 u0 u1 v0 v1 K02 K12 O2 R2 G2
      have x0 := N0.out.cell 0
      have x1 := N0.out.cell 1
      have y0 := N1.out.cell 0
      have y1 := N1.out.cell 1
      have v0 := N1.out.free 0
      have v1 := N1.out.free 1
      go_wp2_with fail
      obtain ⟨f0, f1, f2, f3, f4⟩ := HF.out
      exact bodyPost_ret (v := .agg #[.slice (some ⟨gR, 0, none⟩) n cR, .string s]) (by simp [results, Try.results71, go_sem, f0, f1]) rfl ⟨_, s, _, rfl, f2, by omega, NG.out, f3.more (by omega), f4, KE.out _ ((NX.out.set (p := ⟨w.heap.size + 1, 0, none⟩) (.inl (by simp)) _).set (p := ⟨w.heap.size + 1, 1, none⟩) (.inl (by simp)) _)⟩
    · have t1 : ((q : Int) == 1) = false := by rw [beq_eq_false_iff_ne]; omega
      by_cases q2 : q = 2
      · have t2 : ((q : Int) == 2) = true := by simp [q2]
        clear q0 q1 q2
        have N0 := Lib.hid (K02.out.set 0 (.slice none 0 0))
        have N1 := Lib.hid (K12.out.far (p := ⟨w.heap.size, 0, none⟩) (by simp) (.slice none 0 0))
        have NX := Lib.hid (X2.out.set (p := ⟨w.heap.size, 0, none⟩) (.inl (Nat.le_refl _)) (.slice none 0 0))
        have NR := Lib.hid (R2.out.setFar (p := ⟨w.heap.size, 0, none⟩) (by simp; omega) (.slice none 0 0))
        have NGR := Lib.hid (grow_new (p := ⟨w.heap.size, 0, none⟩) G2.out (by simp; omega) (.slice none 0 0))
        have NO : Hid (IsRots (w2.setCell ⟨w.heap.size, 0, none⟩ (.slice none 0 0)) (.slice none 0 0) []) := ⟨none, 0, rfl, by simp, fun k hk => by simp at hk, fun k hk => by simp at hk⟩
        have HF := Lib.hid (fin6 (w0 := w0) (rf := rf) (b := w.heap.size + 1) N1.out NO.out (by simp [Value.ownBlock]) NR.out NGR.out (by omega) (by omega))
        have z0 := N0.out.cell 0
        have z1 := N0.out.cell 1
        have z2 := N1.out.cell 0
        have z3 := N1.out.cell 1
        have z4 := N1.out.free 0
        have z5 := N1.out.free 1
        go_wp2_with fail
        obtain ⟨f0, f1, f2, f3, f4⟩ := HF.out
        exact bodyPost_ret (v := .agg #[.slice none 0 0, .string rf]) (by simp [results, Try.results71, go_sem, f0, f1]) rfl ⟨_, rf, _, rfl, f2, hrf, by simp [Value.ownBlock], f3.more (by omega), f4, KE.out _ ((NX.out.set (p := ⟨w.heap.size + 1, 0, none⟩) (.inl (by simp)) _).set (p := ⟨w.heap.size + 1, 1, none⟩) (.inl (by simp)) _)⟩
      · have t2 : ((q : Int) == 2) = false := by rw [beq_eq_false_iff_ne]; omega
        by_cases q3 : q = 3
        · have t3 : ((q : Int) == 3) = true := by simp [q3]
          clear q0 q1 q2 q3
          go_wp2_with (
            at_builtin
            refine appRR _ rfl _ _ _ rfl B Try.underlying23 info_rot _ n n gR cR B f f rfl O2.out rfl O2.out (by omega) (by omega) ?_
            intro v7 w7 hown7 hgr7
            have hgr7' : w2.grownBy w7 (some gR) := hgr7
            have k0 := K02.out.grown hgr7' (fun h => O2.out.ne_ty K02.out (by decide) (by injection h with h; rw [h]; rfl))
            have k1 := K12.out.grown hgr7' (fun h => O2.out.ne_ty K12.out (by decide) (by injection h with h; rw [h]; rfl))
            have x0' : w7.cell? ⟨w.heap.size, 0, none⟩ = some (.slice (some ⟨gR, 0, none⟩) n cR) := k0.cell 0
            have u0' := k0.free 0
            have N0 := Lib.hid (k0.set 0 v7)
            have N1 := Lib.hid (k1.far (p := ⟨w.heap.size, 0, none⟩) (by simp) v7)
            have NX := Lib.hid ((X2.out.grown hgr7' (.inr rfl)).set (p := ⟨w.heap.size, 0, none⟩) (.inl (Nat.le_refl _)) v7)
            have NB := Lib.hid (hown7.ne_blk (b := g) (by omega))
            have NE := Lib.hid (hown7.ne_ty k1 (by decide))
            have NO := Lib.hid ((hown7.setNe (b := w.heap.size) (j := 0) (hown7.ne_ty k0 (by decide)) v7).toRots (by omega) (fun j hj => by
              unfold joinR
              by_cases e : j < n
              · rw [if_pos e]; exact HBIG.out j e
              · rw [if_neg e]; exact HBIG.out (j - n) (by omega)))
            have NR := Lib.hid ((R2.out.ownR O2.out (by omega) hgr7).setFar (p := ⟨w.heap.size, 0, none⟩) (by simp; omega) v7)
            have NGR := Lib.hid (grow_new (p := ⟨w.heap.size, 0, none⟩) (grow_ownR G2.out O2.out hB hgr7) (by simp; omega) v7)
            obtain ⟨A7, c7, hv7⟩ := hown7.slice
            subst hv7
            have HF := Lib.hid (fin6 (w0 := w0) (rf := rf) (b := w.heap.size + 1) N1.out NO.out NE.out NR.out NGR.out (by omega) (by omega))
            clear hown7 hgr7 hgr7' k0 k1
            have z0 := N0.out.cell 0
            have z1 := N0.out.cell 1
            have z2 := N1.out.cell 0
            have z3 := N1.out.cell 1
            have z4 := N1.out.free 0
            have z5 := N1.out.free 1)
          obtain ⟨f0, f1, f2, f3, f4⟩ := HF.out
          exact bodyPost_ret (v := .agg #[.slice A7 (n + n) c7, .string rf]) (by simp [results, Try.results71, go_sem, f0, f1]) rfl ⟨_, rf, _, rfl, f2, hrf, NB.out, f3.more (by omega), f4, KE.out _ ((NX.out.set (p := ⟨w.heap.size + 1, 0, none⟩) (.inl (by simp)) _).set (p := ⟨w.heap.size + 1, 1, none⟩) (.inl (by simp)) _)⟩
        · have t3 : ((q : Int) == 3) = false := by rw [beq_eq_false_iff_ne]; omega
          clear q0 q1 q2 q3
          have NO := Lib.hid (O2.out.toRots (by omega) HBIG.out)
          have HF := Lib.hid (fin6 (w0 := w0) (rf := rf) (b := w.heap.size + 1) K12.out NO.out (by simp [Value.ownBlock]; omega) R2.out G2.out (by omega) (by omega))
          go_wp2_with fail
          obtain ⟨f0, f1, f2, f3, f4⟩ := HF.out
          exact bodyPost_ret (v := .agg #[.slice (some ⟨gR, 0, none⟩) n cR, .string rf]) (by simp [results, Try.results71, go_sem, f0, f1]) rfl ⟨_, rf, _, rfl, f2, hrf, NG.out, f3.more (by omega), f4, KE.out _ ((X2.out.set (p := ⟨w.heap.size + 1, 0, none⟩) (.inl (by simp)) _).set (p := ⟨w.heap.size + 1, 1, none⟩) (.inl (by simp)) _)⟩
end Go.Proofs.Ytlcanmofgjbcbaa
