/- Contract of dayProducts (impl). -/
import Derived.Test.YtnfeddnkokocfaaKeys
import Derived.Test.YtnfeddnkokocfaaProd
import Derived.Test.YtnfeddnkokocfaaQT
namespace Go.Proofs.Ytnfeddnkokocfaa
set_option linter.unusedVariables false
set_option linter.unusedSimpArgs false
open Go.RowKit
attribute [local go_sem] Ext.cell
attribute [local go_sem] Oper.semAt_some
open BigFrame

theorem info_perm : (Try.prog.info? 85).map (fun i => (i.zero, i.size, i.bytes)) = some (some (.agg #[.int .u8 0, .int .u8 0, .int .u8 0, .int .u8 0, .int .u8 0, .int .u8 0, .int .u8 0, .int .u8 0, .int .u8 0, .int .u8 0]), 10, 10) := by kernel_rfl
/-- the keys' permutations, one after the other -/
noncomputable def kqF (M : Mch) (s : ByteArray) : Nat → Nat → Nat := fun i => kF M (it (stepS M.l) (i + 1) s)
theorem own_lower {w : World} {B B' n size : Nat} {e : TypeId} {v : Value} {xs : List Value} (h : w.ownsRow B e size v n xs) (hB : B' ≤ B) : w.ownsRow B' e size v n xs := by
  refine ⟨h.1, ?_⟩
  rcases h.2 with h2 | ⟨g, cap, cur, h3, h4, h5⟩
  · exact .inl h2
  · exact .inr ⟨g, cap, cur, h3, by omega, h5⟩
/-- an own row of another type lies in another block -/
theorem own_apart {w w' : World} {B B' n n' size size' : Nat} {e e' : TypeId} {v v' : Value} {xs xs' : List Value} (h : w.ownsRow B e size v n xs) (h' : w.ownsRow B' e' size' v' n' xs') (hne : e ≠ e') (hg : w.grownBy w' v'.ownBlock) : w'.ownsRow B e size v n xs := by
  refine World.ownsRow.kept h hg ?_
  rcases h.2 with ⟨rfl, _⟩ | ⟨g1, cap, cur, rfl, _, hh, _⟩
  · exact .inl rfl
  · refine .inr fun he => ?_
    rcases h'.2 with ⟨rfl, _⟩ | ⟨g2, cap2, cur2, rfl, _, hh2, _⟩
    · cases he
    · have e1 : g1 = g2 := by simpa [Value.ownBlock] using he
      subst e1
      rw [hh] at hh2
      injection hh2 with hh2
      injection hh2 with _ ht
      exact hne ht
theorem own_ext {w w' : World} {B n size : Nat} {e : TypeId} {v : Value} {xs : List Value} (h : w.ownsRow B e size v n xs) (hb : Below w.heap.size w w') : w'.ownsRow B e size v n xs :=
  World.ownsRow.kept (row := none) h ⟨hb.os, hb.tape, hb.output, hb.size, fun k hk _ => hb.block k hk⟩ (by rcases v.ownBlock with _ | g <;> simp)
theorem below_own {a w w' : World} {B n size : Nat} {e : TypeId} {v : Value} {xs : List Value} (hb : Below B a w) (ho : w.ownsRow B e size v n xs) (hg : w.grownBy w' v.ownBlock) (hB : B ≤ w.heap.size) : Below B a w' :=
  hb.grown hg hB (fun k hk => (World.ownsRow.lt ho k hk).1)
theorem own_put {w : World} {B n size D : Nat} {e : TypeId} {v : Value} {xs : List Value} (ho : w.ownsRow B e size v n xs) (o : Obj) (hD : D < B) : (w.putObj D o).ownsRow B e size v n xs := by
  refine World.ownsRow.kept ho (grownBy_putObj' w D o) ?_
  rcases hv : v.ownBlock with _ | g
  · exact .inl rfl
  · refine .inr fun e => ?_
    injection e with e
    have := (World.ownsRow.lt ho g hv).1
    omega
/-- append of one permutation, at the built-in -/
theorem app10 {P : Program} {w : World} {ops : Array Oper} {rest : List Oper} {o : Oper} {a : Act} {Q : Exit → Act → World → Prop} (hgd : o.guard = none) (s x : Operand) (t : TypeId)
    (ho : o.op = .call { callee := .builtin .append, args := #[s, x], argTypes := #[t, t] })
    (B : Nat) (e : TypeId) {z : Value} (ht : P.underlying t = some (.slice e)) (hinfo : (P.info? e).map (fun i => (i.zero, i.size, i.bytes)) = some (some z, 10, 10)) (hzs : z.cells.size = 10)
    (v : Value) (n : Nat) (xs : List Value) (hs : a.eval s = v) (hown : w.ownsRow B e 10 v n xs) (f : Nat → Int) (gb : Nat) (hx : a.eval x = .slice (some ⟨gb, 0, none⟩) 1 1)
    (hb : Blk w gb e (permA f)) (hlen : n ≤ 1000000) (hbase : B ≤ w.heap.size)
    (h : ∀ v' w', w'.ownsRow B e 10 v' (n + 1) (xs ++ (permA f).toList) → w.grownBy w' v.ownBlock → (v'.ownBlock = v.ownBlock ∨ v'.ownBlock = some w.heap.size) → wpList P ops Q rest (a.put o.dst v') w') :
    wpList P ops Q (o :: rest) a w := by
  obtain ⟨i, hi, hz0, hz1, hz2⟩ := info_parts hinfo
  refine wpList_append_own_at (P := P) w hgd s x t ho B e i z 10 10 ht hi hz0 hz1 hz2 hzs (by omega) v n xs hs hown ⟨gb, 0, none⟩ 1 1 (permA f).toList hx (by rw [permA_list]) (fun j u hj => ?_) (permA_ones f) (by unfold maxLen; omega) (by omega) hbase (fun v' w' h1 h2 _ h4 => h v' w' h1 h2 h4)
  have e1 : (⟨gb, 0, none⟩ : Addr).add j = ⟨gb, j, none⟩ := by unfold Addr.add; split <;> simp_all
  obtain ⟨hj10, rfl⟩ := permA_cell hj
  rw [e1, hb.cell, permA_at _ hj10]
/-- the frame of a round, its variables laid -/
noncomputable def dpFr (A : Option Addr) (cA : Nat) (M : Mch) (s : ByteArray) (w : World) (b Bx j bp : Nat) : Act :=
  { tmps := #[mV A cA M, .string s, .pointer (some ⟨w.heap.size, 0, none⟩), undef, .slice none 0 0, .pointer (some ⟨w.heap.size + 1, 0, none⟩), .pointer (some ⟨w.heap.size + 1 + 1, 0, none⟩), .slice none 0 0, undef, .pointer (some ⟨bp, 0, none⟩),
      undef, .string s, .int .i64 s.size, mV A cA M, .pointer (some ⟨b, 0, none⟩), .string s, .func (.func 116) #[] #[.pointer (some ⟨Bx, 0, none⟩), .pointer (some ⟨Bx + 1, 0, none⟩)], .string (it (stepS M.l) (j + 1) s), pV (kF M (it (stepS M.l) (j + 1) s)),
      undef, undef, undef, undef, undef, undef, undef, undef, undef, undef, undef, undef, undef, undef, undef, undef, undef, undef, undef, undef, undef, undef, undef, undef, undef, undef, undef, undef, undef], defers := [] }
set_option maxHeartbeats 400000 in
set_option maxRecDepth 100000 in
theorem c_dayProducts (A : Option Addr) (cA : Nat) (M : Mch) (s : ByteArray) (w : World) (hR : IsRots w (.slice A M.l.length cA) M.l) (h : setB M s = true) : Calls Try.prog 57 #[mV A cA M, .string s] w fun e w' => ∃ v, e = .returned v ∧ w'.ownsRow w.heap.size 85 10 v s.size (rowP (prF M s) s.size) ∧ Below w.heap.size w w' := by
  have L0 := Lib.hid (((MW.start M (Below.refl w.heap.size w) hR).ext (ext_alloc _ (.cells #[.int .i64 s.size] 3))).ext (ext_alloc _ (.cells #[.slice none 0 0] 86)))
  have K0 := Lib.hid ((Blk.new (w.alloc (.cells #[.slice A M.l.length cA, .string M.rf, .string M.rg, .string M.pl] 33)) 3 #[.int .i64 s.size]).ext (ext_alloc _ (.cells #[.slice none 0 0] 86)))
  have X0 := Lib.hid (Blk.new ((w.alloc (.cells #[.slice A M.l.length cA, .string M.rf, .string M.rg, .string M.pl] 33)).alloc (.cells #[.int .i64 s.size] 3)) 86 #[.slice none 0 0])
  have hz0 : (((w.alloc (.cells #[.slice A M.l.length cA, .string M.rf, .string M.rg, .string M.pl] 33)).alloc (.cells #[.int .i64 s.size] 3)).alloc (.cells #[.slice none 0 0] 86)).heap.size = w.heap.size + 3 := by simp
  simp only [World.size_alloc] at K0 X0
  have HZ0 := Lib.hid hz0
  have HRw := Lib.hid hR
  have H1 := Lib.hid h
  obtain ⟨f1, f2, f3, f4⟩ := win_facts (setB_win h)
  have hs1 : 1 ≤ s.size := by omega
  have hs3 : s.size ≤ 3 := by omega
  clear hR h hz0 f1 f2 f3 f4
  refine calls_marks Try.func57 rfl ?_
  simp only [Try.ntmps57, List.size_toArray, List.length_cons, List.length_nil, Nat.reduceAdd, Nat.reduceSub, Array.replicate_succ, Array.replicate_zero, List.push_toArray, List.append_toArray, List.nil_append, List.cons_append]
  go_upto_region 3 with fail
  generalize (((w.alloc (.cells #[.slice A M.l.length cA, .string M.rf, .string M.rg, .string M.pl] 33)).alloc (.cells #[.int .i64 s.size] 3)).alloc (.cells #[.slice none 0 0] 86)) = W4 at *
  have y0 := L0.out.c0
  have y1 := L0.out.c1
  have y2 := L0.out.c2
  have y3 := L0.out.c3
  go_wp2_with fail
  refine (c_newAssembly A cA M _ L0.out.rot ((setB_iff M s).1 H1.out).1).mono ?_
  rintro e w5 ⟨b, rfl, hge, hAs, hb5⟩
  have HK := Lib.hid (kReady.of (s := s) hb5 hge hAs)
  clear hb5 hge hAs y0 y1 y2 y3
  go_wp2_with fail
  refine (c_keys _ _ _).mono ?_
  rintro e w6 ⟨rfl, rfl⟩
  generalize kW w5 b s = W6 at *
  generalize w5.heap.size = Bx at *
  have hk6 := HK.out
  clear HK
  go_wp2_with fail
  have HA : Hid (∀ b o, A = some ⟨b, o, none⟩ → b < w.heap.size) := by
    obtain ⟨bR, oR, hA0, hbR⟩ := HRw.out.blk (by have := win_facts (setB_win H1.out); omega)
    exact fun b o e => by rw [hA0] at e; injection e with e; injection e with e; omega
  obtain ⟨q1, q2, q3, q4, q5, q6, q7⟩ := hk6
  have hz4 := HZ0.out
  have E6 : Hid (KJ A cA M w b Bx (w.heap.size + 2) (w.heap.size + 2) 86 85 10 0 [] (.slice none 0 0) W6) := ⟨X0.out.ext q4, World.ownsRow_nil _ _ _ _, (fun g hg => by cases hg), q1, ext_trans L0.out.bel q4⟩
  have N6 := Lib.hid (K0.out.ext q4)
  have hq1 := q1.2.1
  have HL : Hid (KL A w b Bx (w.heap.size + 2) (w.heap.size + 2)) := ⟨by omega, Nat.le_refl _, by omega, q6, HA.out⟩
  have hbw : w.heap.size + 3 ≤ b := by omega
  have q7a : W6.heap.size ≤ Bx + 2 := by omega
  have q7b : Bx + 2 ≤ W6.heap.size := by omega
  clear K0 X0 L0 q1 q4 HZ0 q7 hz4 q5
  refine (wpIn_wide (n := 6)).1 ?_
  refine wpIn_rangeFunc_st (F := Fence.wide) rfl (by omega) (gf := 116) (lb := #[.pointer (some ⟨Bx, 0, none⟩), .pointer (some ⟨Bx + 1, 0, none⟩)]) rfl trivial (enters_of Try.func116 (by kernel_rfl) rfl)
    (c_keysIt A cA M b Bx (Bx + 1) s (6 - 1) H1.out (by omega) (by omega) (fun b' o e => by have := HA.out b' o e; omega)) (fun k => rfl) (by omega) q2 q3 (2 * s.size) 0 (by omega)
    (fun j W => ∃ v, KJ A cA M w b Bx (w.heap.size + 2) (w.heap.size + 2) 86 85 10 j (rowP (kqF M s) j) v W ∧ Blk W (w.heap.size + 1) 3 #[.int .i64 s.size])
    (fun j W => j = 2 * s.size ∧ ∃ v, KJ A cA M w b Bx (w.heap.size + 2) (w.heap.size + 2) 86 85 10 j (rowP (kqF M s) j) v W ∧ Blk W (w.heap.size + 1) 3 #[.int .i64 s.size])
    (fun j X Y r hr h hg => h.imp fun v h => ⟨h.1.grownR hg (by omega) (by omega) HL.out, h.2.grownR hg (by omega)⟩) (fun j X Y r hr h hg => ⟨h.1, h.2.imp fun v h => ⟨h.1.grownR hg (by omega) (by omega) HL.out, h.2.grownR hg (by omega)⟩⟩)
    (fun j X h => by obtain ⟨v, h, _⟩ := h; exact h.st) ⟨_, E6.out, N6.out⟩
    (fun j a₁ W => (∃ v, KJ A cA M w b Bx (w.heap.size + 2) (w.heap.size + 2) 86 85 10 j (rowP (kqF M s) j) v W ∧ Blk W (w.heap.size + 1) 3 #[.int .i64 s.size]) ∧ ∃ bp, Blk W bp 85 (permA fun i => (kF M (it (stepS M.l) (j + 1) s) i : Int)) ∧ Bx + 4 ≤ bp ∧ a₁ = dpFr A cA M s w b Bx j bp)
    (fun j a₁ X Y r hr h hg => ⟨h.1.imp fun v h => ⟨h.1.grownR hg (by omega) (by omega) HL.out, h.2.grownR hg (by omega)⟩, h.2.imp fun bp h2 => ⟨h2.1.grownR hg (by omega), h2.2⟩⟩) ?assign ?body ?stop
  case assign =>
    intro l j W K hE hjN hsz hK
    have KZ := Lib.hid (Blk.new W 85 (permA fun _ => 0))
    unfold kE
    simp only [List.zip_toArray, List.zip_cons_cons, List.zip_nil_right, List.foldl_toArray, List.foldl_cons, List.foldl_nil, List.setIfInBounds_toArray, List.set_cons_succ, List.set_cons_zero]
    have HE' := Lib.hid hE
    have HK : Hid _ := Lib.hid hK
    clear hE hK
    gi_wp2_with (simp only [permA_zero]; refine in_store_row (WideF.round l) rfl 85 _ _ rfl W.heap.size _ rfl rfl 85 _ KZ.out (by rw [permA_size]; exact size_perm) (by simp only [permA_size]) (permA_one _) ?_; rw [World.setRow_alloc_new])
    simp only [Act.put]
    have k1 := Blk.new W 85 (permA fun i => (kF M (it (stepS M.l) (j + 1) s) i : Int))
    obtain ⟨bp, hbp⟩ : ∃ x, W.heap.size = x := ⟨_, rfl⟩
    have hle : Bx + 4 ≤ bp := by omega
    rw [hbp] at k1 ⊢
    refine HK.out _ _ ⟨HE'.out.imp fun v h => ⟨h.1.ext (ext_alloc W _), h.2.ext (ext_alloc W _)⟩, bp, k1, hle, rfl⟩ (ext_alloc W _)
  case body =>
    rintro l j _ W ⟨⟨v, hE, hN⟩, bp, hP, hbp, rfl⟩ hjN hsz hcB hfB
    obtain ⟨AV, cV, rfl⟩ := Own.slice' hE.row
    have o0 : W.cell? ⟨w.heap.size + 1 + 1, 0, none⟩ = some (.slice AV j cV) := hE.box.cell 0
    have hil : Bx + 1 < W.heap.size := hE.st.2.2.1
    have hba := ext_alloc W (.cells (permA fun i => (kF M (it (stepS M.l) (j + 1) s) i : Int)) 85)
    have E8 := Lib.hid (hE.ext hba)
    have N8 := Lib.hid (hN.ext hba)
    have S8 := Lib.hid (Stays.ext (Bw := Bx + 1) hba hil)
    have HP1 := Lib.hid hP
    have C8 := Lib.hid (Blk.new W 85 (permA fun i => (kF M (it (stepS M.l) (j + 1) s) i : Int)))
    have hz8 : (W.alloc (.cells (permA fun i => (kF M (it (stepS M.l) (j + 1) s) i : Int)) 85)).heap.size = W.heap.size + 1 := by simp
    have HZ8 := Lib.hid hz8
    have hz9 : w.heap.size ≤ (W.alloc (.cells (permA fun i => (kF M (it (stepS M.l) (j + 1) s) i : Int)) 85)).heap.size := by omega
    have hj1 : j ≤ 1000000 := by omega
    unfold dpFr
    clear hE hN hP hcB hfB hba hz8
    gi_upto_region 6 with (first
      | (gi_at_builtin; go_loud (refine inAppend (WideF.round l) rfl _ _ _ rfl w.heap.size 85 Try.underlying86 info_perm rfl (by omega) _ j _ rfl E8.out.row (permA fun i => (kF M (it (stepS M.l) (j + 1) s) i : Int)).toList W.heap.size rfl (permA_list _) (fun j u hj => by (obtain ⟨hj10, rfl⟩ := permA_cell hj; rw [C8.out.cell, permA_at _ hj10])) (permA_ones _) hj1 (by omega) hz9 ?_; intro v' w9 hrow hg9 hob; obtain ⟨A9, c9, rfl⟩ := Own.slice' hrow; have kb := E8.out.boxAt HL.out hg9; have b0 := kb.cell 0; have b1 := kb.free 0; have HROW := Lib.hid hrow; have HG9 := Lib.hid hg9; have HOB := Lib.hid hob; clear hrow hg9 hob kb))
      | (refine in_load_row (WideF.round l) rfl 85 _ rfl bp rfl 85 _ (0, 0) _ HP1.out Try.underlying85 rfl (by rw [permA_size]; exact size_perm) ?_)
      | (refine inBuild1 (WideF.round l) rfl 86 85 _ rfl Try.underlying86 info_perm (by omega) (by omega) (permA fun i => (kF M (it (stepS M.l) (j + 1) s) i : Int)) rfl (permA_size _) ?_))
    have E9 := Lib.hid ((E8.out.app (m := 1) HL.out HROW.out HG9.out HOB.out (by have := HZ8.out; omega)).congr (rowP_succ (kqF M s) j).symm)
    have N9 := Lib.hid (E8.out.old HL.out HG9.out N8.out (by omega) (.slice A9 (j + 1) c9))
    have S9 := Lib.hid (S8.out.trans (E8.out.stays HL.out HG9.out (.slice A9 (j + 1) c9)))
    clear E8 N8 S8 b0 b1 HROW HG9 HOB HZ8 hz9 C8 HP1 o0
    have c10 : (w9.setCell ⟨w.heap.size + 1 + 1, 0, none⟩ (.slice A9 (j + 1) c9)).cell? ⟨w.heap.size + 1 + 1, 0, none⟩ = some (.slice A9 (j + 1) c9) := E9.out.box.cell 0
    have n10 : (w9.setCell ⟨w.heap.size + 1 + 1, 0, none⟩ (.slice A9 (j + 1) c9)).cell? ⟨w.heap.size + 1, 0, none⟩ = some (.int .i64 s.size) := N9.out.cell 0
    have E10 : Hid (KJ A cA M w b Bx (w.heap.size + 2) (w.heap.size + 2) 86 85 10 (j + 1) (rowP (kqF M s) (j + 1)) (.slice A9 (j + 1) c9) (w9.setCell ⟨w.heap.size + 1 + 1, 0, none⟩ (.slice A9 (j + 1) c9))) := E9.out
    have N10 : Hid (Blk (w9.setCell ⟨w.heap.size + 1 + 1, 0, none⟩ (.slice A9 (j + 1) c9)) (w.heap.size + 1) 3 #[.int .i64 s.size]) := N9.out
    have S10 : Hid (Stays (Bx + 1) W (w9.setCell ⟨w.heap.size + 1 + 1, 0, none⟩ (.slice A9 (j + 1) c9))) := S9.out
    clear E9 N9 S9
    generalize w9.setCell ⟨w.heap.size + 1 + 1, 0, none⟩ (.slice A9 (j + 1) c9) = w10 at *
    by_cases hend : j + 1 = 2 * s.size
    · have t2 : ((j : Int) + 1 == 2 * (s.size : Int)) = true := by rw [beq_iff_eq]; omega
      have HEnd := Lib.hid hend
      clear hend
      gi_wp2_with fail
      exact ⟨rfl, S10.out.1, HEnd.out, _, E10.out, N10.out⟩
    · have t2 : ((j : Int) + 1 == 2 * (s.size : Int)) = false := by rw [beq_eq_false_iff_ne]; omega
      gi_wp2_with fail
      exact ⟨S10.out.1, S10.out.2.1, S10.out.2.2, by omega, _, E10.out, N10.out⟩
  case stop =>
    rintro D j W ⟨hj, v, hE, hN⟩ rfl hD
    refine wpIn_wide.2 ?_
    obtain ⟨AV, cV, rfl⟩ := Own.slice' hE.row
    have EE := Lib.hid hE
    have NN := Lib.hid hN
    have HD := Lib.hid hD
    have HJ := Lib.hid hj
    have n0 := hN.cell 0
    have hdl : W6.heap.size < W.heap.size := (Array.getElem?_eq_some_iff.1 hD).1
    clear hE hN hD hj
    go_wp2_with fail
    go_loopw [7, 29] (fun v i wr => ∃ k : Nat, k ≤ s.size ∧ i = .int .i64 k ∧ wr.ownsRow W.heap.size 85 10 v k (rowP (prF M s) k) ∧ Below W.heap.size W wr) (fun _ i _ => s.size - (intOf i).toNat)
    case atStart => exact ⟨0, Nat.zero_le _, rfl, World.ownsRow_nil _ _ _ _, Below.refl _ _⟩
    case round =>
      obtain ⟨k, hk, rfl, hrow, hB⟩ := hrel
      have E7 := Lib.hid (EE.out.ext hB)
      obtain ⟨A7, c7, rfl⟩ := Own.slice' hrow
      have R7 := Lib.hid hrow
      have B7 := Lib.hid hB
      have hsz7 := hB.size
      have n1 : wr.cell? ⟨w.heap.size + 1, 0, none⟩ = some (.int .i64 s.size) := (NN.out.ext hB).cell 0
      have o1 : wr.cell? ⟨w.heap.size + 1 + 1, 0, none⟩ = some (.slice AV j cV) := E7.out.box.cell 0
      have hnl : w.heap.size + 1 + 1 < wr.heap.size := E7.out.box.lt
      have hnl2 : w.heap.size + 1 < wr.heap.size := by omega
      clear hrow hB
      by_cases hlt : k < s.size
      · have hj := HJ.out
        have hps := ownP_is E7.out.row (by omega)
        obtain ⟨g, rfl, hg, hp1⟩ := hps.at_ (k := k) (by omega)
        obtain ⟨g', hge, _, hp2⟩ := hps.at_ (k := k + s.size) (by omega)
        injection hge with hge
        injection hge with hge
        subst hge
        have P1 := Lib.hid hp1
        have P2 := Lib.hid hp2
        have F1 := Lib.hid (it_P s ((setB_iff M s).1 H1.out).1 (k + 1)).1
        have i1 : (0 : Int) ≤ (k : Int) := by omega
        have i2 : (k : Int) < (j : Int) := by omega
        have e1 : IntKind.i64.wrap ((k : Int) + (s.size : Int)) = ((k + s.size : Nat) : Int) := by rw [IntWalk.i64_in _ (by omega)]; omega
        have i3 : (0 : Int) ≤ ((k + s.size : Nat) : Int) := by omega
        have i4 : ((k + s.size : Nat) : Int) < (j : Int) := by omega
        clear hps hp1 hp2 hj
        go_wp2_with fail
        refine wp_region_alloc 11 12 _ (by kernel_rfl) (by kernel_rfl) rfl ?_
        dsimp only [List.take, List.drop]
        repeat (first
          | (go_big_quiet_want
             refine quiet_perm _ rfl g (k * 10) rfl (fun x => (kqF M s k x : Int)) P1.out ?_
             simp only [Act.put, List.setIfInBounds_toArray, List.set_cons_succ, List.set_cons_zero]
             go_big_quiet_on)
          | (go_big_quiet_want
             refine quiet_perm _ rfl g ((k + s.size) * 10) rfl (fun x => (kqF M s (k + s.size) x : Int)) P2.out ?_
             simp only [Act.put, List.setIfInBounds_toArray, List.set_cons_succ, List.set_cons_zero]
             go_big_quiet_on)
          | go_big_quiet_step ((go_at_call 108; exact Ext.call _ (c_then (kqF M s k) (kqF M s (k + s.size)) _ F1.out))))
        refine wpQuiet_nil ?_
        refine atAlloc1 _ 85 _ rfl Try.underlying86 info_perm (by omega) (by omega) (permA fun i => (kqF M s (k + s.size) (kqF M s k i) : Int)) rfl (permA_size _) ?_
        intro w8 hb8
        have hba := ext_trans hb8 (ext_alloc w8 (.cells (permA fun i => (kqF M s (k + s.size) (kqF M s k i) : Int)) 85))
        have R9 := Lib.hid (World.ownsRow.kept (row := none) R7.out ⟨hba.os, hba.tape, hba.output, hba.size, fun k hk _ => hba.block k hk⟩ (by rcases hv : (Value.slice A7 k c7).ownBlock with _ | g <;> simp))
        have B9 := Lib.hid (B7.out.trans (hba.mono hsz7))
        have C9 := Lib.hid (Blk.new w8 85 (permA fun i => (kqF M s (k + s.size) (kqF M s k i) : Int)))
        have hz9 : W.heap.size ≤ (w8.alloc (.cells (permA fun i => (kqF M s (k + s.size) (kqF M s k i) : Int)) 85)).heap.size := Nat.le_trans hsz7 hba.size
        clear hba hb8 n1 o1 e1
        go_wp2_with (at_builtin; go_loud (refine app10 rfl _ _ _ rfl W.heap.size 85 Try.underlying86 info_perm rfl _ k _ rfl R9.out (fun i => (kqF M s (k + s.size) (kqF M s k i) : Int)) w8.heap.size rfl C9.out (by omega) hz9 ?_; intro v' w10 hrow hg9 hob; have HROW := Lib.hid hrow; have HB := Lib.hid (below_own B9.out R9.out hg9 hz9); clear hrow hg9 hob))
        refine ⟨⟨k + 1, by omega, by go_num, ?_, HB.out⟩, by simp [intOf]; omega⟩
        have hx := HROW.out
        rw [show rowP (prF M s) (k + 1) = rowP (prF M s) k ++ (permA fun i => (kqF M s (k + s.size) (kqF M s k i) : Int)).toList from rowP_succ (prF M s) k]
        exact hx
      · have e : k = s.size := by omega
        subst e
        have E11 := Lib.hid (E7.out.grownR (grownBy_putObj' wr W6.heap.size (.deferred none)) (by omega) (by omega) HL.out)
        have R11 := Lib.hid (own_put R7.out (.deferred none) hdl)
        have hD7 := (B7.out.block W6.heap.size hdl).trans HD.out
        have HD7 := Lib.hid hD7
        clear hD7
        go_wp2_with fail
        refine marks_ret1 (.slice A7 s.size c7) W6.heap.size rfl HD7.out (by simp [results, Try.results57, go_sem]) ⟨_, rfl, own_lower R11.out (by have := E11.out.box.lt; have := EE.out.bel.size; omega), E11.out.bel⟩
end Go.Proofs.Ytnfeddnkokocfaa
