/- Contract of menuKeys (impl). -/
import Derived.Test.YtnfeddnkokocfaaDayFn
import Derived.Test.YtnfeddnkokocfaaMenuPlain
namespace Go.Proofs.Ytnfeddnkokocfaa
set_option linter.unusedVariables false
set_option linter.unusedSimpArgs false
open Go.RowKit
attribute [local go_sem] Ext.cell
attribute [local go_sem] Oper.semAt_some
open BigFrame

/-- make of an empty slice with room, its elements of any size -/
theorem make0P {P : Program} (w : World) {ops : Array Oper} {rest : List Oper} {o : Oper} {a : Act} {Q : Exit → Act → World → Prop}
    (hg : o.guard = none) (l c : Operand) (t : TypeId) (hop : o.op = Op.makeSlice t l c)
    (B : Nat) (e : TypeId) {z : Value} {size bytes : Nat} (h1 : P.underlying t = some (.slice e)) (hinfo : (P.info? e).map (fun i => (i.zero, i.size, i.bytes)) = some (some z, size, bytes))
    (kl kc : IntKind) (C : Int) (hl : a.eval l = .int kl 0) (hc : a.eval c = .int kc C) (hC0 : 0 ≤ C) (hC1 : C ≤ 1000000000) (hby : bytes ≤ 1000) (b4 : B ≤ w.heap.size)
    (hK : ∀ v w', w'.ownsRow B e size v 0 [] → Below w.heap.size w w' → wpList P ops Q rest (a.put o.dst v) w') :
    wpList P ops Q (o :: rest) a w := by
  obtain ⟨i, hi, hz0, hz1, hz2⟩ := info_parts hinfo
  refine wpList_make_own (P := P) w hg l c t hop B e i z size h1 hi hz0 hz1 kl kc C C.toNat hl hc (by omega) ?_ (by unfold maxLen; omega) b4 (fun w' ho hgr => hK _ w' ho ?_)
  · rw [hz2]
    have : bytes * C.toNat ≤ 1000 * 1000000000 := Nat.mul_le_mul hby (by omega)
    omega
  · exact (Below.refl _ _).grown hgr (Nat.le_refl _) (fun k hk => by cases hk)
theorem IsLinks.grownR {w w' : World} {A : Option Addr} {n c r : Nat} {l : List Lnk} (h : IsLinks w (.slice A n c) l) (hg : w.grownBy w' (some r)) (hA : ∀ b o, A = some ⟨b, o, none⟩ → b ≠ r) : IsLinks w' (.slice A n c) l := by
  obtain ⟨A', c', e, h1, h2, h3⟩ := h
  refine ⟨A', c', e, h1, h2, fun k hk => ?_⟩
  obtain ⟨b', o', e', hlt, hc, hd, hf⟩ := h3 k hk
  injection e with e1 e2 e3
  have hne := hA b' o' (e1.trans e')
  exact ⟨b', o', e', Nat.lt_of_lt_of_le hlt hg.size, (hg.cell_far ⟨b', o' + k * 3, none⟩ hlt (by simpa using hne)).trans hc, (hg.cell_far ⟨b', o' + k * 3 + 1, none⟩ hlt (by simpa using hne)).trans hd, (hg.cell_far ⟨b', o' + k * 3 + 2, none⟩ hlt (by simpa using hne)).trans hf⟩
/-- the keys found so far, the count of the steps, the menu -/
structure MJ (A : Option Addr) (cA : Nat) (M : Mch) (s : ByteArray) (l : List Lnk) (AL : Option Addr) (cL : Nat) (w : World) (b Bx BL Bn lo : Nat) (z : Int) (k : Nat) (v : Value) (W : World) : Prop where
  kj : KJ A cA M w b Bx BL lo 86 85 10 k (rowP (mkF M s l) k) v W
  num : Blk W Bn 3 #[.int .i64 z]
  mn : Blk W (w.heap.size + 1) 57 #[.slice AL l.length cL]
  lk : IsLinks W (.slice AL l.length cL) l
/-- where its blocks lie -/
structure ML (A AL : Option Addr) (w : World) (b Bx BL Bn lo : Nat) : Prop where
  kl : KL A w b Bx BL lo
  h0 : w.heap.size + 1 < lo
  hn : BL < Bn
  hn2 : Bn < b
  hAL : ∀ b o, AL = some ⟨b, o, none⟩ → b < w.heap.size
section
variable {A : Option Addr} {cA : Nat} {M : Mch} {s : ByteArray} {l : List Lnk} {AL : Option Addr} {cL : Nat} {w : World} {b Bx BL Bn lo k : Nat} {z : Int} {v : Value} {W : World}
theorem MJ.ext {W' : World} (h : MJ A cA M s l AL cL w b Bx BL Bn lo z k v W) (hb : Below W.heap.size W W') : MJ A cA M s l AL cL w b Bx BL Bn lo z k v W' :=
  ⟨h.kj.ext hb, h.num.ext hb, h.mn.ext hb, h.lk.ext hb⟩
theorem MJ.grownR {r : Nat} {W' : World} (h : MJ A cA M s l AL cL w b Bx BL Bn lo z k v W) (hg : W.grownBy W' (some r)) (hr : Bx < r) (hr2 : r < Bx + 4) (hL : ML A AL w b Bx BL Bn lo) : MJ A cA M s l AL cL w b Bx BL Bn lo z k v W' := by
  obtain ⟨hk, h0, h1, h2, hA⟩ := hL
  have h3 := hk.h1
  have h4 := hk.h2
  have h5 := hk.h4
  exact ⟨h.kj.grownR hg hr hr2 hk, h.num.grownR hg (by omega), h.mn.grownR hg (by omega), h.lk.grownR hg (fun b' o e => by have := hA b' o e; omega)⟩
theorem MJ.setNum (h : MJ A cA M s l AL cL w b Bx BL Bn lo z k v W) (hL : ML A AL w b Bx BL Bn lo) (z' : Int) : MJ A cA M s l AL cL w b Bx BL Bn lo z' k v (W.setCell ⟨Bn, 0, none⟩ (.int .i64 z')) := by
  obtain ⟨⟨k1, k2, k3, k4, kA⟩, h0, h1, h2, hA⟩ := hL
  have hg := grow_cell W ⟨Bn, 0, none⟩ (.int .i64 z')
  refine ⟨⟨h.kj.box.grownR hg (by simp; omega), World.ownsRow.kept h.kj.row hg ?_, h.kj.ob, h.kj.st.grownR hg (by simp; omega) (by simp; omega) (fun b' o e => by have := kA b' o e; simp; omega), below_grown h.kj.bel hg (Nat.le_refl _) (by simp; omega)⟩,
    h.num.set 0 _, h.mn.grownR hg (by simp; omega), h.lk.grownR hg (fun b' o e => by have := hA b' o e; simp; omega)⟩
  rcases hv : v.ownBlock with _ | g
  · exact .inl rfl
  · refine .inr fun e => ?_
    injection e with e
    have := h.kj.ob g hv
    simp at e
    omega
theorem MJ.app {v' : Value} {W' : World} (h : MJ A cA M s l AL cL w b Bx BL Bn lo z k v W) (hL : ML A AL w b Bx BL Bn lo) (hrow : W'.ownsRow w.heap.size 85 10 v' (k + 1) (rowP (mkF M s l) k ++ (permA fun i => (mkF M s l k i : Int)).toList)) (hg : W.grownBy W' v.ownBlock)
    (hob : v'.ownBlock = v.ownBlock ∨ v'.ownBlock = some W.heap.size) (hz : Bx + 4 ≤ W.heap.size) : MJ A cA M s l AL cL w b Bx BL Bn lo z (k + 1) v' (W'.setCell ⟨BL, 0, none⟩ v') := by
  obtain ⟨hk, h0, h1, h2, hA⟩ := hL
  have hkj := (h.kj.app (m := 1) hk hrow hg hob hz).congr (rowP_succ (mkF M s l) k).symm
  have hob0 := h.kj.ob
  obtain ⟨k1, k2, k3, k4, kA⟩ := hk
  obtain ⟨r, hr, hr2⟩ : ∃ r, W.grownBy W' (some r) ∧ (lo ≤ r ∧ r < BL ∨ Bx + 4 ≤ r) := by
    rcases hv : v.ownBlock with _ | g
    · rw [hv] at hg; exact ⟨W.heap.size, grown_weak hg _, .inr hz⟩
    · rw [hv] at hg; exact ⟨g, hg, hob0 g hv⟩
  have hg2 := grow_cell W' ⟨BL, 0, none⟩ v'
  exact ⟨hkj, (h.num.grownR hr (by omega)).grownR hg2 (by simp; omega), (h.mn.grownR hr (by omega)).grownR hg2 (by simp; omega), (h.lk.grownR hr (fun b' o e => by have := hA b' o e; omega)).grownR hg2 (fun b' o e => by have := hA b' o e; simp; omega)⟩
end
/-- the frame of a round, its variables laid -/
noncomputable def mkFr (A : Option Addr) (cA : Nat) (M : Mch) (s : ByteArray) (w : World) (AL : Option Addr) (n cL b Bx BL Bn : Nat) (A4 : Option Addr) (c4 j bp : Nat) : Act :=
  { tmps := #[mV A cA M, .string s, .slice AL n cL, .pointer (some ⟨w.heap.size, 0, none⟩), undef, .pointer (some ⟨w.heap.size + 1, 0, none⟩), .slice none 0 0, .pointer (some ⟨BL, 0, none⟩), .pointer (some ⟨Bn, 0, none⟩), undef, .pointer (some ⟨bp, 0, none⟩),
      .slice AL n cL, .int .i64 n, .slice A4 0 c4, mV A cA M, .pointer (some ⟨b, 0, none⟩), .string s, .func (.func 116) #[] #[.pointer (some ⟨Bx, 0, none⟩), .pointer (some ⟨Bx + 1, 0, none⟩)], .string (it (stepS M.l) (j + 1) s), pV (kF M (it (stepS M.l) (j + 1) s)),
      undef, undef, undef, undef, undef, undef, undef, undef, undef, undef, undef, undef, undef, undef, undef, undef, undef, undef, undef, undef], defers := [] }
set_option maxHeartbeats 400000 in
set_option maxRecDepth 100000 in
theorem c_menuKeys (A AL : Option Addr) (cA cL : Nat) (M : Mch) (s : ByteArray) (l : List Lnk) (w : World) (hR : IsRots w (.slice A M.l.length cA) M.l) (hL : IsLinks w (.slice AL l.length cL) l) (h : setB M s = true) (hm : menuB l = true) :
    Calls Try.prog 82 #[mV A cA M, .string s, .slice AL l.length cL] w fun e w' => ∃ v, e = .returned v ∧ w'.ownsRow w.heap.size 85 10 v l.length (rowP (mkF M s l) l.length) ∧ Below w.heap.size w w' := by
  obtain ⟨h1l, h12, _⟩ := menuB_facts hm
  obtain ⟨bL, oL, rfl, hbL, _, _, _⟩ := hL.at_ (k := 0) (by omega)
  have L0 := Lib.hid ((MW.start M (Below.refl w.heap.size w) hR).ext (ext_alloc _ (.cells #[.slice (some ⟨bL, oL, none⟩) l.length cL] 57)))
  have K0 := Lib.hid (Blk.new (w.alloc (.cells #[.slice A M.l.length cA, .string M.rf, .string M.rg, .string M.pl] 33)) 57 #[.slice (some ⟨bL, oL, none⟩) l.length cL])
  have V0 := Lib.hid (hL.ext ((ext_alloc w (.cells #[.slice A M.l.length cA, .string M.rf, .string M.rg, .string M.pl] 33)).alloc (by simp) (.cells #[.slice (some ⟨bL, oL, none⟩) l.length cL] 57)))
  rw [World.size_alloc] at K0
  have HRw := Lib.hid hR
  have H1 := Lib.hid h
  have HM := Lib.hid hm
  obtain ⟨N, hN⟩ : ∃ N : Nat, (gL l (l.length - 1)).2.2 = (N : Int) := ⟨((gL l (l.length - 1)).2.2).toNat, by have := menu_range hm (k := l.length - 1) (by omega); omega⟩
  have HN : Hid (∀ k, k < l.length → 1 ≤ (gL l k).2.2 ∧ (gL l k).2.2 ≤ (N : Int)) := fun k hk => ⟨(menu_range hm hk).1, by rw [← hN]; exact menu_mono hm (by omega) (by omega)⟩
  have hN60 : N ≤ 60 := by have := menu_range hm (k := l.length - 1) (by omega); omega
  have hN1 : 1 ≤ N := by have := menu_range hm (k := l.length - 1) (by omega); omega
  clear hR hL h hm hN
  refine calls_marks Try.func82 rfl ?_
  simp only [Try.ntmps82, List.size_toArray, List.length_cons, List.length_nil, Nat.reduceAdd, Nat.reduceSub, Array.replicate_succ, Array.replicate_zero, List.push_toArray, List.append_toArray, List.nil_append, List.cons_append]
  have y4 := K0.out.cell 0
  go_upto_region 1 with fail
  generalize ((w.alloc (.cells #[.slice A M.l.length cA, .string M.rf, .string M.rg, .string M.pl] 33)).alloc (.cells #[.slice (some ⟨bL, oL, none⟩) l.length cL] 57)) = W0 at *
  go_upto_region 3 with (at_make; go_loud (refine make0P _ rfl _ _ _ rfl W0.heap.size 85 Try.underlying86 info_perm _ _ _ rfl rfl (by omega) (by omega) (by omega) (Nat.le_refl _) ?_; intro v w3 hown hb3; obtain ⟨A4, c4, rfl⟩ := Own.slice' hown; have HO := Lib.hid hown; have HB := Lib.hid hb3; clear hown hb3))
  have hba := (ext_alloc w3 (.cells #[.slice A4 0 c4] 86)).alloc (by simp) (.cells #[.int .i64 0] 3)
  have L3 := Lib.hid ((L0.out.ext HB.out).ext hba)
  have K3 := Lib.hid ((K0.out.ext HB.out).ext hba)
  have V3 := Lib.hid ((V0.out.ext HB.out).ext hba)
  have O3 := Lib.hid (own_ext HO.out hba)
  have X3 := Lib.hid ((Blk.new w3 86 #[.slice A4 0 c4]).ext (ext_alloc _ (.cells #[.int .i64 0] 3)))
  have N3 := Lib.hid (Blk.new (w3.alloc (.cells #[.slice A4 0 c4] 86)) 3 #[.int .i64 0])
  rw [World.size_alloc] at N3
  have HGM : Hid (∀ g, (Value.slice A4 0 c4).ownBlock = some g → W0.heap.size ≤ g ∧ g < w3.heap.size) := fun g hg => World.ownsRow.lt HO.out g hg
  have hlo : w.heap.size + 1 < W0.heap.size := K0.out.lt
  have hlo3 : W0.heap.size ≤ w3.heap.size := HB.out.size
  have hz4 : ((w3.alloc (.cells #[.slice A4 0 c4] 86)).alloc (.cells #[.int .i64 0] 3)).heap.size = w3.heap.size + 2 := by simp
  have HZ4 := Lib.hid hz4
  clear HO HB L0 K0 V0 y4 hz4 hba
  generalize (w3.alloc (.cells #[.slice A4 0 c4] 86)).alloc (.cells #[.int .i64 0] 3) = W4 at *
  generalize w3.heap.size = BL at *
  generalize W0.heap.size = lo at *
  have y0 := L3.out.c0
  have y1 := L3.out.c1
  have y2 := L3.out.c2
  have y3 := L3.out.c3
  go_wp2_with fail
  refine (c_newAssembly A cA M _ L3.out.rot ((setB_iff M s).1 H1.out).1).mono ?_
  rintro e w5 ⟨b, rfl, hge, hAs, hb5⟩
  have HK := Lib.hid (kReady.of (s := s) hb5 hge hAs)
  clear hb5 hge hAs y0 y1 y2 y3
  go_wp2_with fail
  refine (c_keys _ _ _).mono ?_
  rintro e w6 ⟨rfl, rfl⟩
  generalize kW w5 b s = W6 at *
  generalize w5.heap.size = Bx at *
  have hk6 := HK.out
  clear HK
  go_wp2_with fail
  have HA : Hid (∀ b o, A = some ⟨b, o, none⟩ → b < w.heap.size) := by
    obtain ⟨bR, oR, hA0, hbR⟩ := HRw.out.blk (by have := win_facts (setB_win H1.out); omega)
    exact fun b o e => by rw [hA0] at e; injection e with e; injection e with e; omega
  obtain ⟨q1, q2, q3, q4, q5, q6, q7⟩ := hk6
  have hz4 := HZ4.out
  have E6 : Hid (MJ A cA M s l (some ⟨bL, oL, none⟩) cL w b Bx BL (BL + 1) lo 0 0 (.slice A4 0 c4) W6) := ⟨⟨X3.out.ext q4, own_lower (own_ext O3.out q4) (by omega), fun g hg => .inl (HGM.out g hg), q1, ext_trans L3.out.bel q4⟩, N3.out.ext q4, K3.out.ext q4, V3.out.ext q4⟩
  have hq1 := q1.2.1
  have HL : Hid (ML A (some ⟨bL, oL, none⟩) w b Bx BL (BL + 1) lo) := ⟨⟨by omega, hlo3, by omega, q6, HA.out⟩, hlo, by omega, by omega, fun b' o' e => by injection e with e; injection e with e; omega⟩
  have h1N : (1 : Int) ≤ (gL l 0).2.2 := (HN.out 0 (by omega)).1
  have hbn : BL + 1 < b := by omega
  have hblb : BL < b := by omega
  have hbln : BL < BL + 1 := by omega
  have q7b : W6.heap.size = Bx + 2 := q7
  clear K3 V3 N3 O3 X3 L3 q1 q4 HZ4 HGM q5 hz4
  generalize BL + 1 = Bn at *
  refine (wpIn_wide (n := 6)).1 ?_
  refine wpIn_rangeFunc_st (F := Fence.wide) rfl (by omega) (gf := 116) (lb := #[.pointer (some ⟨Bx, 0, none⟩), .pointer (some ⟨Bx + 1, 0, none⟩)]) rfl trivial (enters_of Try.func116 (by kernel_rfl) rfl)
    (c_keysIt A cA M b Bx (Bx + 1) s (6 - 1) H1.out (by omega) (by omega) (fun b' o e => by have := HA.out b' o e; omega)) (fun k => rfl) (by omega) q2 q3 N 0 (by omega)
    (fun j W => ∃ v k, MJ A cA M s l (some ⟨bL, oL, none⟩) cL w b Bx BL Bn lo (j : Int) k v W ∧ k < l.length ∧ (j : Int) < (gL l k).2.2)
    (fun j W => ∃ v, MJ A cA M s l (some ⟨bL, oL, none⟩) cL w b Bx BL Bn lo (j : Int) l.length v W)
    (fun j X Y r hr h hg => by obtain ⟨v, k, h1, h2⟩ := h; exact ⟨v, k, h1.grownR hg (by omega) (by omega) HL.out, h2⟩) (fun j X Y r hr h hg => h.imp fun v h => h.grownR hg (by omega) (by omega) HL.out)
    (fun j X h => by obtain ⟨v, k, h, _⟩ := h; exact h.kj.st) ⟨_, 0, E6.out, by omega, by omega⟩
    (fun j a₁ W => (∃ v k, MJ A cA M s l (some ⟨bL, oL, none⟩) cL w b Bx BL Bn lo (j : Int) k v W ∧ k < l.length ∧ (j : Int) < (gL l k).2.2) ∧ ∃ bp, Blk W bp 85 (permA fun i => (kF M (it (stepS M.l) (j + 1) s) i : Int)) ∧ Bx + 4 ≤ bp ∧ a₁ = mkFr A cA M s w (some ⟨bL, oL, none⟩) l.length cL b Bx BL Bn A4 c4 j bp)
    (fun j a₁ X Y r hr h hg => ⟨by obtain ⟨v, k, h1, h2⟩ := h.1; exact ⟨v, k, h1.grownR hg (by omega) (by omega) HL.out, h2⟩, h.2.imp fun bp h2 => ⟨h2.1.grownR hg (by omega), h2.2⟩⟩) ?assign ?body ?stop
  case assign =>
    intro l' j W K hE hjN hsz hK
    have KZ := Lib.hid (Blk.new W 85 (permA fun _ => 0))
    unfold kE
    simp only [List.zip_toArray, List.zip_cons_cons, List.zip_nil_right, List.foldl_toArray, List.foldl_cons, List.foldl_nil, List.setIfInBounds_toArray, List.set_cons_succ, List.set_cons_zero]
    have HE' := Lib.hid hE
    have HK : Hid _ := Lib.hid hK
    clear hE hK
    gi_wp2_with (simp only [permA_zero]; refine in_store_row (WideF.round l') rfl 85 _ _ rfl W.heap.size _ rfl rfl 85 _ KZ.out (by rw [permA_size]; exact size_perm) (by simp only [permA_size]) (permA_one _) ?_; rw [World.setRow_alloc_new])
    simp only [Act.put]
    have k1 := Blk.new W 85 (permA fun i => (kF M (it (stepS M.l) (j + 1) s) i : Int))
    obtain ⟨bp, hbp⟩ : ∃ x, W.heap.size = x := ⟨_, rfl⟩
    have hle : Bx + 4 ≤ bp := by omega
    rw [hbp] at k1 ⊢
    refine HK.out _ _ ⟨by obtain ⟨v, k, h1, h2⟩ := HE'.out; exact ⟨v, k, h1.ext (ext_alloc W _), h2⟩, bp, k1, hle, rfl⟩ (ext_alloc W _)
  case body =>
    rintro l' j _ W ⟨⟨v, k, hE, hkl, hjk⟩, bp, hP, hbp, rfl⟩ hjN hsz hcB hfB
    obtain ⟨AV, cV, rfl⟩ := Own.slice' hE.kj.row
    have hil : Bx + 1 < W.heap.size := hE.kj.st.2.2.1
    have c0 := hE.num.cell 0
    have f0 := hE.num.free 0
    have HP1 := Lib.hid (hP.grownR (grow_cell W ⟨Bn, 0, none⟩ (.int .i64 ((j : Int) + 1))) (by simp; omega))
    have E5 := Lib.hid (hE.setNum HL.out ((j : Int) + 1))
    have S5 := Lib.hid ((Stays.ext (Bw := Bx + 1) (Below.refl _ W) hil).set (p := ⟨Bn, 0, none⟩) (by simp; omega) (.int .i64 ((j : Int) + 1)))
    have hz5 : W.heap.size ≤ (W.setCell ⟨Bn, 0, none⟩ (.int .i64 ((j : Int) + 1))).heap.size := by simp
    unfold mkFr
    clear hE hP hcB hfB
    gi_upto_region 6 with fail
    clear c0 f0
    generalize W.setCell ⟨Bn, 0, none⟩ (.int .i64 ((j : Int) + 1)) = W5 at *
    have hz6 : W6.heap.size + 2 ≤ W5.heap.size := by omega
    have n5 : W5.cell? ⟨Bn, 0, none⟩ = some (.int .i64 ((j : Int) + 1)) := E5.out.num.cell 0
    have m5 : W5.cell? ⟨w.heap.size + 1, 0, none⟩ = some (.slice (some ⟨bL, oL, none⟩) l.length cL) := E5.out.mn.cell 0
    have k5 : W5.cell? ⟨BL, 0, none⟩ = some (.slice AV k cV) := E5.out.kj.box.cell 0
    obtain ⟨b', o', e', hbl, _, _, hc⟩ := E5.out.lk.at_ hkl
    injection e' with e'
    injection e' with e1 e2
    subst e1 e2
    obtain ⟨z, hz⟩ : ∃ z, (gL l k).2.2 = z := ⟨_, rfl⟩
    have hzr := HN.out k hkl
    have HZ := Lib.hid hz
    rw [hz] at hc hjk hzr
    have hn5 : Bn < W5.heap.size := E5.out.num.lt
    have hm5 : w.heap.size + 1 < W5.heap.size := E5.out.mn.lt
    have hk5 : BL < W5.heap.size := E5.out.kj.box.lt
    have i1 : (0 : Int) ≤ (k : Int) := by omega
    have i2 : (k : Int) < (l.length : Int) := by omega
    have hi5 : Bx + 1 < W5.heap.size := E5.out.kj.st.2.2.1
    clear hz hil hz5
    by_cases hhit : (j : Int) + 1 = z
    · have t1 : ((j : Int) + 1 == z) = true := by rw [beq_iff_eq]; exact hhit
      have HHIT := Lib.hid hhit
      have hfk : Hid (kF M (it (stepS M.l) (j + 1) s) = mkF M s l k) := by
        show _ = kF M (it (stepS M.l) (gL l k).2.2.toNat s)
        rw [HZ.out, ← hhit, show ((j : Int) + 1).toNat = j + 1 by omega]
      clear hhit
      refine wpIn_region_ext (WideF.round l') (by kernel_rfl) (by kernel_rfl) (by kernel_rfl) ?_
      repeat (go_big_quiet_step (fail))
      refine wpQuiet_nil ?_
      rintro _ ⟨⟨W7, hb7⟩, rfl⟩
      rename World => W7
      have hba := ext_alloc W7 (.cells (permA fun i => (mkF M s l k i : Int)) 85)
      have hb8 := ext_trans hb7 hba
      have o0 : W7.cell? ⟨BL, 0, none⟩ = some (.slice AV k cV) := (E5.out.ext hb7).kj.box.cell 0
      have HP2 := Lib.hid (HP1.out.ext hb7)
      have E8 := Lib.hid (E5.out.ext hb8)
      have S8 := Lib.hid (S5.out.trans (Stays.ext (Bw := Bx + 1) hb8 hi5))
      have C8 := Lib.hid (Blk.new W7 85 (permA fun i => (mkF M s l k i : Int)))
      have hz8 : (W7.alloc (.cells (permA fun i => (mkF M s l k i : Int)) 85)).heap.size = W7.heap.size + 1 := by simp
      have hz7 : W5.heap.size ≤ W7.heap.size := hb7.size
      have HZ8 := Lib.hid hz8
      have hz9 : w.heap.size ≤ (W7.alloc (.cells (permA fun i => (mkF M s l k i : Int)) 85)).heap.size := by omega
      have hk1 : k ≤ 1000000 := by omega
      rw [hfk.out] at HP2 ⊢
      clear hb7 hba hb8 n5 m5 k5 hc E5 S5 HP1 hz8 hfk
      gi_upto_region 8 with (first
        | (gi_at_builtin; go_loud (refine inAppend (WideF.round l') rfl _ _ _ rfl w.heap.size 85 Try.underlying86 info_perm rfl (by omega) _ k _ rfl E8.out.kj.row (permA fun i => (mkF M s l k i : Int)).toList W7.heap.size rfl (permA_list _) (fun j u hj => by (obtain ⟨hj10, rfl⟩ := permA_cell hj; rw [C8.out.cell, permA_at _ hj10])) (permA_ones _) hk1 (by omega) hz9 ?_; intro v' w9 hrow hg9 hob; obtain ⟨A9, c9, rfl⟩ := Own.slice' hrow; have kb := E8.out.kj.boxAt HL.out.kl hg9; have b0 := kb.cell 0; have b1 := kb.free 0; have HROW := Lib.hid hrow; have HG9 := Lib.hid hg9; have HOB := Lib.hid hob; clear hrow hg9 hob kb))
        | (refine in_load_row (WideF.round l') rfl 85 _ rfl bp rfl 85 _ (0, 0) _ HP2.out Try.underlying85 rfl (by rw [permA_size]; exact size_perm) ?_)
        | (refine inBuild1 (WideF.round l') rfl 86 85 _ rfl Try.underlying86 info_perm (by omega) (by omega) (permA fun i => (mkF M s l k i : Int)) rfl (permA_size _) ?_))
      have E10 : Hid (MJ A cA M s l (some ⟨bL, oL, none⟩) cL w b Bx BL Bn lo ((j : Int) + 1) (k + 1) (.slice A9 (k + 1) c9) (w9.setCell ⟨BL, 0, none⟩ (.slice A9 (k + 1) c9))) := E8.out.app HL.out HROW.out HG9.out HOB.out (by have := HZ8.out; omega)
      have S10 : Hid (Stays (Bx + 1) W (w9.setCell ⟨BL, 0, none⟩ (.slice A9 (k + 1) c9))) := S8.out.trans (E8.out.kj.stays HL.out.kl HG9.out (.slice A9 (k + 1) c9))
      clear E8 S8 b0 b1 HROW HG9 HOB HZ8 hz9 C8 HP2 o0
      generalize w9.setCell ⟨BL, 0, none⟩ (.slice A9 (k + 1) c9) = w10 at *
      have c10 : w10.cell? ⟨BL, 0, none⟩ = some (.slice A9 (k + 1) c9) := E10.out.kj.box.cell 0
      have n10 : w10.cell? ⟨w.heap.size + 1, 0, none⟩ = some (.slice (some ⟨bL, oL, none⟩) l.length cL) := E10.out.mn.cell 0
      by_cases hend : k + 1 = l.length
      · have t2 : ((k : Int) + 1 == (l.length : Int)) = true := by rw [beq_iff_eq]; omega
        have HEnd := Lib.hid hend
        clear hend
        gi_wp2_with fail
        exact ⟨rfl, S10.out.1, _, by have := E10.out; rw [HEnd.out] at this; exact this⟩
      · have t2 : ((k : Int) + 1 == (l.length : Int)) = false := by rw [beq_eq_false_iff_ne]; omega
        have hlt := menu_lt HM.out (i := k) (j := k + 1) (by omega) (by omega)
        rw [HZ.out, ← HHIT.out] at hlt
        have hle := (HN.out (k + 1) (by omega)).2
        gi_wp2_with fail
        exact ⟨S10.out.1, S10.out.2.1, S10.out.2.2, by omega, _, k + 1, E10.out, by omega, by omega⟩
    · have t1 : ((j : Int) + 1 == z) = false := by rw [beq_eq_false_iff_ne]; exact hhit
      have hlt : (j : Int) + 1 < z := by omega
      clear hhit
      refine wpIn_region_ext (WideF.round l') (by kernel_rfl) (by kernel_rfl) (by kernel_rfl) ?_
      repeat (go_big_quiet_step (fail))
      refine wpQuiet_nil ?_
      rintro _ ⟨⟨W7, hb7⟩, rfl⟩
      have E10 := Lib.hid (E5.out.ext hb7)
      have S10 := Lib.hid (S5.out.trans (Stays.ext (Bw := Bx + 1) hb7 hi5))
      clear hb7 n5 m5 k5 hc E5 S5
      gi_wp2_with fail
      exact ⟨S10.out.1, S10.out.2.1, S10.out.2.2, by omega, _, k, E10.out, by omega, by rw [HZ.out]; omega⟩
  case stop =>
    rintro D j W ⟨v, hE⟩ rfl hD
    refine wpIn_wide.2 ?_
    obtain ⟨AV, cV, rfl⟩ := Own.slice' hE.kj.row
    have EE := Lib.hid hE
    have HD := Lib.hid hD
    have o0 : W.cell? ⟨BL, 0, none⟩ = some (.slice AV l.length cV) := hE.kj.box.cell 0
    clear hE hD
    go_wp2_with fail
    have E11 := Lib.hid (EE.out.grownR (grownBy_putObj' W W6.heap.size (.deferred none)) (by omega) (by omega) HL.out)
    exact marks_ret1 (.slice AV l.length cV) W6.heap.size rfl HD.out (by simp [results, Try.results82, go_sem]) ⟨_, rfl, E11.out.kj.row, E11.out.kj.bel⟩
end Go.Proofs.Ytnfeddnkokocfaa
