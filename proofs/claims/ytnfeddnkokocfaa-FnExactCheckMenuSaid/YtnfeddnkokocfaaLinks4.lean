/- l13Bare. -/
import Derived.Test.YtnfeddnkokocfaaLinks3
import Derived.Test.YtnfeddnkokocfaaPlugFns
import Derived.Test.YtnfeddnkokocfaaSpecRep
namespace Go.Proofs.Ytnfeddnkokocfaa
set_option linter.unusedVariables false
set_option linter.unusedSimpArgs false
open Go.RowKit
attribute [local go_sem] Ext.cell
open BigFrame

/-- the bare words of a menu's places -/
noncomputable def barF (M : Mch) (s : ByteArray) (l : List Lnk) (i : Nat) : ByteArray := pS (kF (bareM M) (it (stepS M.l) (gL l i).2.2.toNat s))
noncomputable def barL (M : Mch) (s : ByteArray) (l : List Lnk) (n : Nat) : List ByteArray := (List.range n).map (barF M s l)
theorem barL_len (M : Mch) (s : ByteArray) (l : List Lnk) (n : Nat) : (barL M s l n).length = n := by simp [barL]
theorem barL_succ (M : Mch) (s : ByteArray) (l : List Lnk) (n : Nat) : (barL M s l (n + 1)).map Value.string = (barL M s l n).map .string ++ [.string (barF M s l n)] := by
  unfold barL; rw [List.range_succ, List.map_append, List.map_append]; rfl
theorem barL_small (M : Mch) (s : ByteArray) (l : List Lnk) (n k : Nat) (hk : k < (barL M s l n).length) : (gS (barL M s l n) k).size ≤ 9223372036854775807 := by
  rw [barL_len] at hk
  unfold gS barL
  rw [List.getD_eq_getElem?_getD, List.getElem?_map, List.getElem?_range hk]
  show (barF M s l k).size ≤ _
  unfold barF
  rw [pS_size]; omega
theorem IsLinks.keepG {w0 w w' : World} {v : Value} {l : List Lnk} {r : Option Nat} (h : IsLinks w v l) (hold : IsLinks w0 v l) (hg : w.grownBy w' r) (hr : ∀ g, r = some g → w0.heap.size ≤ g) : IsLinks w' v l := by
  obtain ⟨A, c, rfl, h1, h2, h3⟩ := h
  refine ⟨A, c, rfl, h1, h2, fun k hk => ?_⟩
  obtain ⟨b, o, e, hb, hc, hd, hf⟩ := h3 k hk
  obtain ⟨b', o', e', hb', _⟩ := hold.at_ hk
  have e2 : b' = b := by rw [e] at e'; injection e' with e'; injection e' with e'; exact e'.symm
  subst e2
  have hbl := hg.block b' hb (fun e => by have := hr b' e.symm; omega)
  have cb : ∀ j, w'.cell? ⟨b', j, none⟩ = w.cell? ⟨b', j, none⟩ := fun j => by unfold World.cell?; simp only [hbl]
  exact ⟨b', o, e, Nat.lt_of_lt_of_le hb hg.size, (cb _).trans hc, (cb _).trans hd, (cb _).trans hf⟩
set_option maxHeartbeats 1000000 in
set_option maxRecDepth 100000 in
theorem c_l13Bare (A AL : Option Addr) (cA cL : Nat) (M : Mch) (s : ByteArray) (l : List Lnk) (w : World) (hR : IsRots w (.slice A M.l.length cA) M.l) (hL : IsLinks w (.slice AL l.length cL) l) (h : setB M s = true) (hm : menuB l = true) :
    Calls Try.prog 77 #[mV A cA M, .string s, .slice AL l.length cL] w fun e w' => ∃ v, e = .returned v ∧ IsStrs w' v (barL M s l l.length) ∧ Below w.heap.size w w' := by
  have L0 := Lib.hid ((MW.start M (Below.refl w.heap.size w) hR).ext (ext_alloc _ (.cells #[] 9)))
  have V0 := Lib.hid (hL.ext ((ext_alloc w (.cells #[.slice A M.l.length cA, .string M.rf, .string M.rg, .string M.pl] 33)).alloc (by simp) (.cells #[] 9)))
  have O0 := Lib.hid (own_empty (w.alloc (.cells #[.slice A M.l.length cA, .string M.rf, .string M.rg, .string M.pl] 33)) 9)
  rw [World.size_alloc] at O0
  obtain ⟨h1, h12, _⟩ := menuB_facts hm
  have hsb : setB (bareM M) s = true := by rw [show bareM M = plM M (pS fun i => i) from rfl, setB_pl ((setB_iff M s).1 h).1 plugB_id]; exact h
  have HSB := Lib.hid hsb
  have HRG : Hid (∀ i, i < l.length → 1 ≤ (gL l i).2.2 ∧ (gL l i).2.2 ≤ (gL l (l.length - 1)).2.2) := fun i hi => ⟨(menu_range hm hi).1, menu_mono hm (by omega) (by omega)⟩
  have hlast := menu_range hm (k := l.length - 1) (by omega)
  obtain ⟨N, hN⟩ : ∃ N : Nat, (gL l (l.length - 1)).2.2 = (N : Int) := ⟨((gL l (l.length - 1)).2.2).toNat, by omega⟩
  rw [hN] at hlast HRG
  have HN := Lib.hid hN
  have HL0 := Lib.hid hL
  clear hR hL hm h hsb hN
  go_enter Try.func77, Try.ntmps77
  go_upto_region 2 with fail
  have y0 := L0.out.c0
  have y1 := L0.out.c1
  have y2 := L0.out.c2
  have hlw := L0.out.lt
  generalize ((w.alloc (.cells #[.slice A M.l.length cA, .string M.rf, .string M.rg, .string M.pl] 33)).alloc (.cells #[] 9)) = W0 at *
  obtain ⟨b, o, rfl, hb, _, _, hc⟩ := V0.out.at_ (k := l.length - 1) (by omega)
  rw [HN.out] at hc
  obtain ⟨k1, hk1⟩ : ∃ k1, l.length - 1 = k1 := ⟨_, rfl⟩
  rw [hk1] at hc
  have e1 : (l.length : Int) - 1 = (k1 : Int) := by omega
  have i1 : (0 : Int) ≤ k1 := by omega
  have i2 : (k1 : Int) < l.length := by omega
  clear hk1
  refine wp_region_ext_tail 14 (by kernel_rfl) (by kernel_rfl) ?_
  dsimp only [List.take, List.drop]
  repeat (go_big_quiet_step ((go_at_call 122; exact Ext.call _ (c_identP _))))
  refine wpQuiet_nil ?_
  rintro w1 ⟨⟨_, hb1⟩, rfl⟩
  have L1 := Lib.hid (L0.out.ext hb1)
  have V1 := Lib.hid (V0.out.ext hb1)
  have O1 := Lib.hid (O0.out.ext hb1)
  have hw1 : w.heap.size + 2 ≤ w1.heap.size := by have := (O1.out.blk_lt (g := w.heap.size + 1) rfl).2; omega
  obtain ⟨z1, hz1⟩ : ∃ z, w1.heap.size = z := ⟨_, rfl⟩
  rw [hz1] at hw1
  have HZ1 := Lib.hid hz1
  clear hb1 y0 y1 y2 L0 V0 O0 hc hb e1 i1 i2 hz1
  go_wp2_with fail
  refine (c_l8PermsO A cA (bareM M) s N _ L1.out.rot HSB.out (by omega)).mono ?_
  rintro e w2 ⟨v2, rfl, hv2, hb2⟩
  rw [HZ1.out] at hv2
  obtain ⟨A2, c2, rfl⟩ := hv2.slice
  have hlen2 : ((kpL (bareM M) s N).map Value.string).length = N := by rw [List.length_map, kpL_len]
  have HLEN := Lib.hid hlen2
  rw [hlen2] at hv2 ⊢
  have P2 := Lib.hid hv2
  have V2 := Lib.hid (V1.out.ext hb2)
  have O2 := Lib.hid (O1.out.ext hb2)
  have B2 := Lib.hid (L1.out.ext hb2).bel
  have hw2 : z1 ≤ w2.heap.size := by have := hb2.size; rw [HZ1.out] at this; exact this
  clear hv2 hb2 V1 O1 L1 hlen2
  go_wp2_with fail
  go_loopw [7, 9] (fun x i wr => ∃ k : Nat, k ≤ l.length ∧ i = .int .i64 k ∧ Own wr (w.heap.size + 1) 9 x ((barL M s l k).map .string) ∧ (∀ g, x.ownBlock = some g → g = w.heap.size + 1 ∨ w2.heap.size ≤ g) ∧ Own wr z1 9 (.slice A2 N c2) ((kpL (bareM M) s N).map .string) ∧ (∀ g, (Value.slice A2 N c2).ownBlock = some g → z1 ≤ g ∧ g < w2.heap.size) ∧ IsLinks wr (.slice (some ⟨b, o, none⟩) l.length cL) l ∧ Below w.heap.size w wr ∧ w2.heap.size ≤ wr.heap.size) (fun _ i _ => l.length - (intOf i).toNat)
  case atStart => exact ⟨0, Nat.zero_le _, rfl, O2.out, fun g hg => .inl (by simp [Value.ownBlock] at hg; omega), P2.out, fun g hg => P2.out.blk_lt hg, V2.out, B2.out, Nat.le_refl _⟩
  case round =>
    clear O2 P2 V2 B2
    obtain ⟨k, hk, rfl, ho, hob, hv, hvb, hL, hB, hwl⟩ := hrel
    have hlk : ((barL M s l k).map Value.string).length = k := by rw [List.length_map, barL_len]
    obtain ⟨A5, c5, rfl⟩ := ho.slice
    have HLK := Lib.hid hlk
    have O5 := Lib.hid ho
    have V5 := Lib.hid hv
    have LL := Lib.hid hL
    have B5 := Lib.hid hB
    have OB := Lib.hid hob
    have VB := Lib.hid hvb
    clear ho hv hB hob hvb hlk
    rw [HLK.out] at O5 OB
    rw [HLK.out]
    by_cases hlt : k < l.length
    · obtain ⟨b', o', e', hbl, _, _, hc⟩ := hL.at_ hlt
      injection e' with e'
      injection e' with e1 e2
      subst e1 e2
      obtain ⟨r1, r2⟩ := HRG.out k hlt
      obtain ⟨m, hm⟩ : ∃ m : Nat, (gL l k).2.2 = (m : Int) := ⟨((gL l k).2.2).toNat, by omega⟩
      have hbf : barF M s l k = pS (kF (bareM M) (it (stepS M.l) m s)) := by unfold barF; rw [hm]; rfl
      rw [hm] at hc r1 r2
      obtain ⟨q, hq⟩ : ∃ q, m - 1 = q := ⟨_, rfl⟩
      have em : (m : Int) - 1 = (q : Int) := by omega
      have hqN : q < N := by omega
      have hst := V5.out.strs' HLEN.out (by omega) (kpL_len (bareM M) s N) (kpL_small (bareM M) s N)
      obtain ⟨b2, o2, hA, hbl2, hc2⟩ := hst.at_ (k := q) (by rw [kpL_len]; exact hqN)
      subst hA
      have hgq : gS (kpL (bareM M) s N) q = barF M s l k := by
        rw [kpL_at _ s hqN, hbf, show q + 1 = m by omega]
        rfl
      rw [hgq] at hc2
      obtain ⟨u, hu⟩ : ∃ u, barF M s l k = u := ⟨_, rfl⟩
      rw [hu] at hc2
      have HU := Lib.hid hu
      have i1 : (0 : Int) ≤ (k : Int) := by omega
      have i2 : (k : Int) < l.length := by omega
      have i3 : (0 : Int) ≤ (q : Int) := by omega
      have i4 : (q : Int) < (N : Int) := by omega
      have hlen1 : ((barL M s l k).map Value.string).length ≤ 1000000000 := by rw [HLK.out]; omega
      have hzr : w.heap.size + 1 ≤ wr.heap.size := by omega
      clear hL hst hgq hbf hu hm hq r1 r2
      go_wp2_with (at_builtin; go_loud (refine app1o _ rfl _ _ _ rfl (w.heap.size + 1) 9 Try.underlying48 info_str rfl _ _ rfl O5.out _ rfl rfl hlen1 (by omega) hzr ?_; intro v' w9 hown9 hgr9 hob9))
      have hb9 := O5.out.below (Nat.le_refl _) hzr (Below.refl (w.heap.size + 1) wr) hgr9
      have LL9 := LL.out.keepG HL0.out hgr9 (fun g hg => by have := OB.out g hg; omega)
      have V9 := V5.out.keptNe hgr9 (fun g hg hg2 => by have h1 := VB.out g hg2; have h2 := OB.out g hg; omega)
      have B9 := B5.out.trans (hb9.mono (by omega))
      have hs9 := hb9.size
      have O9 := Lib.hid hown9
      have HO9 := Lib.hid hob9
      clear hown9 hgr9 hob9 hb9
      go_wp2_with fail
      refine ⟨⟨k + 1, by omega, by go_num, by rw [barL_succ, HU.out]; exact O9.out, fun g hg => ?_, V9, VB.out, LL9, B9, Nat.le_trans hwl hs9⟩, by simp [intOf]; omega⟩
      rcases HO9.out with e | e
      · exact OB.out g (e.symm.trans hg)
      · rw [e] at hg; injection hg with hg; right; omega
    · have e : k = l.length := by omega
      subst e
      go_wp2_with fail
      go_ret
      refine ⟨_, rfl, ?_, B5.out⟩
      have h1 := O5.out.strs (l := barL M s l l.length) (by rw [barL_len]; omega) (barL_small M s l _)
      exact h1
end Go.Proofs.Ytnfeddnkokocfaa
