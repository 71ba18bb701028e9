/- Contracts of l10Products, DayProducts, l11Has, HasRepeat, RepeatCount, KeyPerms (spec). -/
import Derived.Test.YtnfeddnkokocfaaProd
import Derived.Test.YtnfeddnkokocfaaQT
namespace Go.Proofs.Ytnfeddnkokocfaa
set_option linter.unusedVariables false
set_option linter.unusedSimpArgs false
open Go.RowKit
attribute [local go_sem] Ext.cell
open BigFrame

theorem ne_empty {s : ByteArray} (h : 0 < s.size) : s.toList.isEmpty = false ∧ (s.toList == []) = false ∧ ¬ s.toList = [] := by
  have e : s.toList ≠ [] := by
    intro e
    rw [ByteArray.toList_eq] at e
    have h2 : s.data.toList.length = 0 := by rw [e]; rfl
    rw [size_toList] at h2
    omega
  refine ⟨by simpa using e, by simpa using e, e⟩
/-- append of one element, and where the row then lies -/
theorem app1o {P : Program} (w : World) {ops : Array Oper} {rest : List Oper} {o : Oper} {a : Act} {Q : Exit → Act → World → Prop} (hgd : o.guard = none) (s x : Operand) (t : TypeId)
    (ho : o.op = .call { callee := .builtin .append, args := #[s, x], argTypes := #[t, t] })
    (B : Nat) (e : TypeId) {z : Value} {bytes : Nat} (ht : P.underlying t = some (.slice e)) (hinfo : (P.info? e).map (fun i => (i.zero, i.size, i.bytes)) = some (some z, 1, bytes)) (hzs : z.cells.size = 1)
    (v : Value) (l : List Value) (hs : a.eval s = v) (hown : Own w B e v l) (y : Value) (hx : a.eval x = .slice (some ⟨w.heap.size, 0, none⟩) 1 1) (h1 : y.oneCell' = true)
    (hlen : l.length ≤ 1000000000) (hby : bytes ≤ 1000) (hbase : B ≤ w.heap.size)
    (h : ∀ v' w', Own w' B e v' (l ++ [y]) → w.grownBy w' v.ownBlock → (v'.ownBlock = v.ownBlock ∨ v'.ownBlock = some (w.heap.size + 1)) → wpList P ops Q rest (a.put o.dst v') w') :
    wpList P ops Q (o :: rest) a (w.alloc (.cells #[y] e)) := by
  obtain ⟨i, hi, hz0, hz1, hz2⟩ := info_parts hinfo
  refine wpList_append_own_at (P := P) (w.alloc (.cells #[y] e)) hgd s x t ho B e i z 1 bytes ht hi hz0 hz1 hz2 hzs (by omega) v l.length l hs (hown.alloc _) ⟨w.heap.size, 0, none⟩ 1 1 [y] hx rfl (cell_one_new w y e)
    (by simpa using h1) (by unfold maxLen; omega) ?_ (by simp; omega) ?_
  · have : (l.length + 1) * bytes ≤ 1000000001 * 1000 := Nat.mul_le_mul (by omega) hby
    omega
  · intro v' w' ho' hg' _ hob'
    refine h v' w' ?_ ?_ ?_
    · unfold Own; simpa using ho'
    · exact ⟨hg'.os, hg'.tape, hg'.output, Nat.le_trans (by simp) hg'.size, fun k hk hne => (hg'.block k (by simp; omega) hne).trans (Below.heap_alloc w _ k hk)⟩
    · simpa using hob'
theorem Own.strs' {w : World} {B : Nat} {e : TypeId} {A : Option Addr} {n c : Nat} {l : List ByteArray} (h : Own w B e (.slice A n c) (l.map .string)) (_hn : (l.map Value.string).length = n) (hl : n ≤ 9223372036854775807) (hl2 : l.length = n) (hs : ∀ k, k < l.length → (gS l k).size ≤ 9223372036854775807) : IsStrs w (.slice A n c) l :=
  h.strs (by omega) hs
set_option maxHeartbeats 1000000 in
theorem c_l10Products (A : Option Addr) (cA : Nat) (M : Mch) (s : ByteArray) (w : World) (hR : IsRots w (.slice A M.l.length cA) M.l) (h : setB M s = true) : Calls Try.prog 74 #[mV A cA M, .string s] w fun e w' => ∃ v, e = .returned v ∧ IsStrs w' v (prL M s s.size) ∧ Below w.heap.size w w' := by
  have L0 := Lib.hid ((MW.start M (Below.refl w.heap.size w) hR).ext (ext_alloc _ (.cells #[] 9)))
  have O0 := Lib.hid (own_empty (w.alloc (.cells #[.slice A M.l.length cA, .string M.rf, .string M.rg, .string M.pl] 33)) 9)
  rw [World.size_alloc] at O0
  have H := Lib.hid h
  obtain ⟨f1, f2, f3, f4⟩ := win_facts (setB_win h)
  have hs3 : s.size ≤ 3 := by omega
  have E2 := Lib.hid (show (2 : Int) * (s.size : Int) = ((2 * s.size : Nat) : Int) by omega)
  clear hR h f1 f2 f3 f4
  go_enter Try.func74, Try.ntmps74
  have y0 := L0.out.c0
  have y1 := L0.out.c1
  have y2 := L0.out.c2
  have y3 := L0.out.c3
  go_wp2_with fail
  rw [E2.out]
  refine (c_l8PermsO A cA M s (2 * s.size) _ L0.out.rot H.out (by omega)).mono ?_
  rintro e w1 ⟨v, rfl, hv, hb1⟩
  rw [World.size_alloc, World.size_alloc] at hv
  have hlen : ((kpL M s (2 * s.size)).map Value.string).length = 2 * s.size := by rw [List.length_map, kpL_len]
  obtain ⟨AL, cL, rfl⟩ := hv.slice
  have HLEN := Lib.hid hlen
  have V1 := Lib.hid hv
  have B1 := Lib.hid (L0.out.ext hb1).bel
  have O1 := Lib.hid (O0.out.ext hb1)
  have hl1 : w.heap.size + 1 < w1.heap.size := by have := hb1.size; simp at this; omega
  clear hv hb1 y0 y1 y2 y3 L0 O0 hlen
  rw [HLEN.out] at V1
  rw [HLEN.out]
  go_wp2_with fail
  go_loopw [5, 7] (fun o i wr => ∃ k : Nat, k ≤ s.size ∧ i = .int .i64 k ∧ Own wr (w.heap.size + 1) 9 o ((prL M s k).map .string) ∧ (∀ g, o.ownBlock = some g → g = w.heap.size + 1 ∨ w1.heap.size ≤ g) ∧ Own wr (w.heap.size + 2) 9 (.slice AL (2 * s.size) cL) ((kpL M s (2 * s.size)).map .string) ∧ (∀ g, (Value.slice AL (2 * s.size) cL).ownBlock = some g → w.heap.size + 2 ≤ g ∧ g < w1.heap.size) ∧ Below w.heap.size w wr ∧ w1.heap.size ≤ wr.heap.size) (fun _ i _ => s.size - (intOf i).toNat)
  case atStart => exact ⟨0, Nat.zero_le _, rfl, O1.out, fun g hg => .inl (by simp [Value.ownBlock] at hg; omega), V1.out, fun g hg => V1.out.blk_lt hg, B1.out, Nat.le_refl _⟩
  case round =>
    clear O1 V1 B1
    obtain ⟨k, hk, rfl, ho, hob, hv, hvb, hB, hwl⟩ := hrel
    have hlk : ((prL M s k).map Value.string).length = k := by rw [List.length_map, prL_len]
    obtain ⟨A5, c5, rfl⟩ := ho.slice
    have HLK := Lib.hid hlk
    have O5 := Lib.hid ho
    have V5 := Lib.hid hv
    have B5 := Lib.hid hB
    have OB := Lib.hid hob
    have VB := Lib.hid hvb
    clear ho hv hB hob hvb hlk
    rw [HLK.out] at O5 OB
    rw [HLK.out]
    by_cases hlt : k < s.size
    · have hst := V5.out.strs' HLEN.out (by omega) (kpL_len M s (2 * s.size)) (kpL_small M s (2 * s.size))
      obtain ⟨b, o, hA, hbl, hc1⟩ := hst.at_ (k := k) (by rw [kpL_len]; omega)
      obtain ⟨b2, o2, hA2, _, hc2⟩ := hst.at_ (k := k + s.size) (by rw [kpL_len]; omega)
      rw [hA] at hA2
      injection hA2 with hA2
      injection hA2 with e1 e2
      subst e1 e2 hA
      rw [kpL_at M s (by omega)] at hc1 hc2
      have P1 := Lib.hid (it_P s ((setB_iff M s).1 H.out).1 (k + 1))
      have P2 := Lib.hid (it_P s ((setB_iff M s).1 H.out).1 (k + s.size + 1))
      have i1 : (0 : Int) ≤ (k : Int) := by omega
      have i2 : (k : Int) < ((2 * s.size : Nat) : Int) := by omega
      have e1 : IntKind.i64.wrap ((k : Int) + (s.size : Int)) = ((k + s.size : Nat) : Int) := by rw [IntWalk.i64_in _ (by omega)]; omega
      have i3 : (0 : Int) ≤ ((k + s.size : Nat) : Int) := by omega
      have i4 : ((k + s.size : Nat) : Int) < ((2 * s.size : Nat) : Int) := by omega
      clear hst
      go_wp2_with fail
      refine wp_region_alloc 12 13 _ (by kernel_rfl) (by kernel_rfl) rfl ?_
      dsimp only [List.take, List.drop]
      repeat (go_big_quiet_step ((go_at_call 120; exact Ext.call _ (c_l2Then (kF M (it (stepS M.l) (k + 1) s)) (kF M (it (stepS M.l) (k + s.size + 1) s)) _ P1.out P2.out))))
      refine wpQuiet_nil ?_
      refine atAlloc1 _ 9 _ rfl Try.underlying48 info_str (by omega) (by omega) #[.string (pS (prF M s k))] rfl rfl ?_
      intro w8 hb8
      have O8 := Lib.hid (O5.out.ext hb8)
      have V8 := Lib.hid (V5.out.ext hb8)
      have B8 := Lib.hid (ext_trans B5.out hb8)
      have hw8 : w1.heap.size ≤ w8.heap.size := Nat.le_trans hwl hb8.size
      have hz8 : w.heap.size + 1 ≤ w8.heap.size := by omega
      have hlen1 : ((prL M s k).map Value.string).length ≤ 1000000000 := by rw [HLK.out]; omega
      clear hb8 hc1 hc2 e1 O5 V5 B5
      go_wp2_with (at_builtin; go_loud (refine app1o _ rfl _ _ _ rfl (w.heap.size + 1) 9 Try.underlying48 info_str rfl _ _ rfl O8.out _ rfl rfl hlen1 (by omega) hz8 ?_; intro v' w9 hown9 hgr9 hob9))
      have hb9 := O8.out.below (Nat.le_refl _) hz8 (Below.refl (w.heap.size + 1) w8) hgr9
      refine ⟨⟨k + 1, by omega, by go_num, by rw [prL_succ]; exact hown9, fun g hg => ?_, V8.out.keptNe hgr9 (fun g hg hg2 => ?_), VB.out, B8.out.trans (hb9.mono (by omega)), Nat.le_trans hw8 hb9.size⟩, by simp [intOf]; omega⟩
      · rcases hob9 with e | e
        · exact OB.out g (e.symm.trans hg)
        · rw [e] at hg; injection hg with hg; right; omega
      · have h1 := VB.out g hg2
        have h2 := OB.out g hg
        omega
    · have e : k = s.size := by omega
      subst e
      go_wp2_with fail
      go_ret
      refine ⟨_, rfl, ?_, B5.out⟩
      have h1 := O5.out.strs (l := prL M s s.size) (by rw [prL_len]; omega) (prL_small M s _)
      exact h1
theorem c_sDayProducts (A : Option Addr) (cA : Nat) (M : Mch) (s : ByteArray) (w : World) (hR : IsRots w (.slice A M.l.length cA) M.l) (hz : MSz M) (hs : s.size ≤ 9223372036854775807) : Calls Try.prog 32 #[mV A cA M, .string s] w fun e w' => ∃ v, e = .returned v ∧ IsStrs w' v (prR M s) ∧ Below w.heap.size w w' := by
  have L0 := Lib.hid (MW.start M (Below.refl w.heap.size w) hR)
  have HZ := Lib.hid hz
  clear hR hz
  go_enter Try.func32, Try.ntmps32
  have y0 := L0.out.c0
  have y1 := L0.out.c1
  have y2 := L0.out.c2
  have y3 := L0.out.c3
  go_wp2_with fail
  refine (c_l8Fits A cA M s _ L0.out.rot HZ.out hs).mono ?_
  rintro e w1 ⟨rfl, hb1⟩
  have L1 := Lib.hid (L0.out.ext hb1)
  clear hb1 L0 y0 y1 y2 y3
  cases h1 : setB M s with
  | false =>
    have HE := Lib.hid (prR_no h1)
    have O1 := Lib.hid (own_empty w1 9)
    clear h1
    go_wp2_with fail
    go_ret
    refine ⟨_, rfl, ?_, L1.out.bel.trans ((ext_alloc w1 _).mono L1.out.bel.size)⟩
    rw [HE.out]
    exact O1.out.strs (l := []) (by simp) (fun k hk => by cases hk)
  | true =>
    have HE := Lib.hid (prR_ok h1)
    have H1 := Lib.hid h1
    have y0 := L1.out.c0
    have y1 := L1.out.c1
    have y2 := L1.out.c2
    have y3 := L1.out.c3
    clear h1
    go_wp2_with fail
    refine (c_l10Products A cA M s _ L1.out.rot H1.out).mono ?_
    rintro e w2 ⟨v, rfl, hv, hb2⟩
    obtain ⟨AL, cL, rfl⟩ := hv.form
    have V2 := Lib.hid hv
    have L2 := Lib.hid (L1.out.ext hb2)
    clear hv hb2 y0 y1 y2 y3
    go_wp2_with fail
    go_ret
    refine ⟨_, rfl, ?_, L2.out.bel⟩
    rw [HE.out]
    exact V2.out
theorem c_sKeyPerms (A : Option Addr) (cA : Nat) (M : Mch) (s : ByteArray) (n : Int) (w : World) (hR : IsRots w (.slice A M.l.length cA) M.l) (hz : MSz M) (hs : s.size ≤ 9223372036854775807) : Calls Try.prog 26 #[mV A cA M, .string s, .int .i64 n] w fun e w' => ∃ v, e = .returned v ∧ IsStrs w' v (kpR M s n) ∧ Below w.heap.size w w' := by
  have L0 := Lib.hid (MW.start M (Below.refl w.heap.size w) hR)
  have HZ := Lib.hid hz
  clear hR hz
  go_enter Try.func26, Try.ntmps26
  have y0 := L0.out.c0
  have y1 := L0.out.c1
  have y2 := L0.out.c2
  have y3 := L0.out.c3
  go_wp2_with fail
  refine (c_l8Fits A cA M s _ L0.out.rot HZ.out hs).mono ?_
  rintro e w1 ⟨rfl, hb1⟩
  have L1 := Lib.hid (L0.out.ext hb1)
  clear hb1 L0 y0 y1 y2 y3
  cases h1 : setB M s with
  | false =>
    have HE := Lib.hid (kpR_no (M := M) (s := s) (n := n) (by rw [h1]; rfl))
    have O1 := Lib.hid (own_empty w1 9)
    clear h1
    go_wp2_with fail
    go_ret
    refine ⟨_, rfl, ?_, L1.out.bel.trans ((ext_alloc w1 _).mono L1.out.bel.size)⟩
    rw [HE.out]
    exact O1.out.strs (l := []) (by simp) (fun k hk => by cases hk)
  | true =>
    have HC := Lib.hid (fun w => c_l1In n 0 60 w)
    by_cases h2 : 0 ≤ n ∧ n ≤ 60
    · obtain ⟨k, rfl⟩ : ∃ k : Nat, n = (k : Int) := ⟨n.toNat, by omega⟩
      have hk60 : k ≤ 60 := by omega
      have HE := Lib.hid (kpR_ok h1 hk60)
      have H1 := Lib.hid h1
      have hi : inB (k : Int) 0 60 = true := inB_true h2.1 h2.2
      rw [hi] at HC
      have y0 := L1.out.c0
      have y1 := L1.out.c1
      have y2 := L1.out.c2
      have y3 := L1.out.c3
      clear h1 h2 hi
      go_wp2_with (go_at_call 53; refine (HC.out _).mono ?_; rintro e w' ⟨rfl, rfl⟩)
      refine (c_l8Perms A cA M s k _ L1.out.rot H1.out (by omega)).mono ?_
      rintro e w2 ⟨v, rfl, hv, hb2⟩
      obtain ⟨AL, cL, rfl⟩ := hv.form
      have V2 := Lib.hid hv
      have L2 := Lib.hid (L1.out.ext hb2)
      clear hv hb2 y0 y1 y2 y3
      go_wp2_with fail
      go_ret
      refine ⟨_, rfl, ?_, L2.out.bel⟩
      rw [HE.out]
      exact V2.out
    · have hi : inB n 0 60 = false := inB_false h2
      have HE := Lib.hid (kpR_no (M := M) (s := s) (n := n) (by rw [hi, h1]; rfl))
      have O1 := Lib.hid (own_empty w1 9)
      rw [hi] at HC
      clear h1 h2 hi
      go_wp2_with (go_at_call 53; refine (HC.out _).mono ?_; rintro e w' ⟨rfl, rfl⟩)
      go_ret
      refine ⟨_, rfl, ?_, L1.out.bel.trans ((ext_alloc w1 _).mono L1.out.bel.size)⟩
      rw [HE.out]
      exact O1.out.strs (l := []) (by simp) (fun k hk => by cases hk)
theorem c_l11Has (A : Option Addr) (cA : Nat) (M : Mch) (s : ByteArray) (n : Nat) (w : World) (hR : IsRots w (.slice A M.l.length cA) M.l) (h : setB M s = true) (hn : n < s.size) : Calls Try.prog 54 #[mV A cA M, .string s, .int .i64 n] w fun e w' => e = .returned (.bool (fixB (prF M s n))) ∧ Below w.heap.size w w' := by
  have L0 := Lib.hid (MW.start M (Below.refl w.heap.size w) hR)
  have H1 := Lib.hid h
  have i1 : (0 : Int) ≤ (n : Int) := by omega
  have i2 : (n : Int) < (s.size : Int) := by omega
  clear hR h
  go_enter Try.func54, Try.ntmps54
  have y0 := L0.out.c0
  have y1 := L0.out.c1
  have y2 := L0.out.c2
  have y3 := L0.out.c3
  go_wp2_with fail
  refine (c_l10Products A cA M s _ L0.out.rot H1.out).mono ?_
  rintro e w2 ⟨v, rfl, hv, hb2⟩
  obtain ⟨AL, cL, rfl⟩ := hv.form
  obtain ⟨b, o, rfl, hbl, hc1⟩ := hv.at_ (k := n) (by rw [prL_len]; omega)
  rw [prL_at M s hn] at hc1
  have B2 := Lib.hid (L0.out.ext hb2).bel
  have HP := Lib.hid (prF_P s ((setB_iff M s).1 H1.out).1 n)
  have hll := prL_len M s s.size
  rw [hll]
  clear hv hb2 y0 y1 y2 y3 L0 hll
  go_wp2_with fail
  refine (c_FixedLettersG (pS (prF M s n)) _ (pS_perm HP.out)).mono ?_
  rintro e w3 ⟨t, rfl, ht, ht2, hb3⟩
  have B3 := Lib.hid (ext_trans B2.out hb3)
  have HF : Hid (fixB (pn (pS (prF M s n))) = fixB (prF M s n)) := fixB_congr fun i hi => pn_pS HP.out hi
  rw [HF.out] at ht
  clear hb3
  cases hf : fixB (prF M s n) with
  | true =>
    obtain ⟨t1, t2, t3⟩ := ne_empty (ht.2 hf)
    have HF2 := Lib.hid hf
    clear ht hf
    go_wp2_with fail
    go_ret
    exact ⟨by rw [HF2.out]; rfl, B3.out⟩
  | false =>
    have hz : t.size = 0 := by
      apply Classical.byContradiction
      intro hne
      rw [ht.1 (by omega)] at hf
      cases hf
    have e0 : t = ByteArray.empty := bt_ext (by rw [hz]; rfl) (fun k hk => by omega)
    subst e0
    have HF2 := Lib.hid hf
    clear ht hf hz ht2
    go_wp2_with fail
    go_ret
    exact ⟨by rw [HF2.out]; rfl, B3.out⟩
theorem c_sHasRepeat (A : Option Addr) (cA : Nat) (M : Mch) (s : ByteArray) (n : Int) (w : World) (hR : IsRots w (.slice A M.l.length cA) M.l) (hz : MSz M) (hs : s.size ≤ 9223372036854775807) : Calls Try.prog 14 #[mV A cA M, .string s, .int .i64 n] w fun e w' => e = .returned (.bool (repB M s n)) ∧ Below w.heap.size w w' := by
  have L0 := Lib.hid (MW.start M (Below.refl w.heap.size w) hR)
  have HZ := Lib.hid hz
  clear hR hz
  go_enter Try.func14, Try.ntmps14
  have y0 := L0.out.c0
  have y1 := L0.out.c1
  have y2 := L0.out.c2
  have y3 := L0.out.c3
  go_wp2_with fail
  refine (c_l8Fits A cA M s _ L0.out.rot HZ.out hs).mono ?_
  rintro e w1 ⟨rfl, hb1⟩
  have L1 := Lib.hid (L0.out.ext hb1)
  clear hb1 L0 y0 y1 y2 y3
  cases h1 : setB M s with
  | false =>
    have HE := Lib.hid (repB_no (n := n) h1)
    clear h1
    go_wp2_with fail
    go_ret
    exact ⟨by rw [HE.out]; rfl, L1.out.bel⟩
  | true =>
    obtain ⟨f1, f2, f3, f4⟩ := win_facts (setB_win h1)
    have hs3 : s.size ≤ 3 := by omega
    have hs1 : 1 ≤ s.size := by omega
    have e1 : IntKind.i64.wrap ((s.size : Int) - 1) = (s.size : Int) - 1 := IntWalk.i64_in _ (by omega)
    have HC := Lib.hid (fun w => c_l1In n 0 ((s.size : Int) - 1) w)
    clear f1 f2 f3 f4
    by_cases h2 : 0 ≤ n ∧ n < s.size
    · obtain ⟨k, rfl⟩ : ∃ k : Nat, n = (k : Int) := ⟨n.toNat, by omega⟩
      have hk : k < s.size := by omega
      have HE := Lib.hid (repB_at h1 hk)
      have H1 := Lib.hid h1
      have hi : inB (k : Int) 0 ((s.size : Int) - 1) = true := inB_true (by omega) (by omega)
      rw [hi] at HC
      have y0 := L1.out.c0
      have y1 := L1.out.c1
      have y2 := L1.out.c2
      have y3 := L1.out.c3
      clear h1 h2 hi
      go_wp2_with (go_at_call 53; refine (HC.out _).mono ?_; rintro e w' ⟨rfl, rfl⟩)
      refine (c_l11Has A cA M s k _ L1.out.rot H1.out hk).mono ?_
      rintro e w2 ⟨rfl, hb2⟩
      have L2 := Lib.hid (L1.out.ext hb2)
      clear hb2 y0 y1 y2 y3
      go_wp2_with fail
      go_ret
      exact ⟨by rw [HE.out]; rfl, L2.out.bel⟩
    · have HE := Lib.hid (repB_out (M := M) (s := s) (n := n) h2)
      have hi : inB n 0 ((s.size : Int) - 1) = false := inB_false (by omega)
      rw [hi] at HC
      clear h1 h2 hi
      go_wp2_with (go_at_call 53; refine (HC.out _).mono ?_; rintro e w' ⟨rfl, rfl⟩)
      go_ret
      exact ⟨by rw [HE.out]; rfl, L1.out.bel⟩
set_option maxHeartbeats 400000 in
theorem c_sRepeatCount (A : Option Addr) (cA : Nat) (M : Mch) (s : ByteArray) (w : World) (hR : IsRots w (.slice A M.l.length cA) M.l) (hz : MSz M) (hs : s.size ≤ 9223372036854775807) : Calls Try.prog 18 #[mV A cA M, .string s] w fun e w' => e = .returned (.int .i64 (cntI M s)) ∧ Below w.heap.size w w' := by
  have L0 := Lib.hid (MW.start M (Below.refl w.heap.size w) hR)
  have HZ := Lib.hid hz
  clear hR hz
  go_enter Try.func18, Try.ntmps18
  have y0 := L0.out.c0
  have y1 := L0.out.c1
  have y2 := L0.out.c2
  have y3 := L0.out.c3
  go_wp2_with fail
  refine (c_l8Fits A cA M s _ L0.out.rot HZ.out hs).mono ?_
  rintro e w1 ⟨rfl, hb1⟩
  have L1 := Lib.hid (L0.out.ext hb1)
  clear hb1 L0 y0 y1 y2 y3
  cases h1 : setB M s with
  | false =>
    have HE := Lib.hid (cntI_no h1)
    clear h1
    go_wp2_with fail
    go_ret
    exact ⟨by rw [HE.out]; rfl, L1.out.bel⟩
  | true =>
    have HE := Lib.hid (cntI_ok h1)
    have H1 := Lib.hid h1
    obtain ⟨f1, f2, f3, f4⟩ := win_facts (setB_win h1)
    have hs3 : s.size ≤ 3 := by omega
    clear h1 f1 f2 f3 f4
    go_wp2_with fail
    go_loopw [5, 6] (fun o i wr => ∃ k : Nat, k ≤ s.size ∧ i = .int .i64 k ∧ o = .int .i64 (cntF M s k) ∧ MW w w.heap.size A cA M wr) (fun _ i _ => s.size - (intOf i).toNat)
    case atStart => exact ⟨0, Nat.zero_le _, rfl, rfl, L1.out⟩
    case round =>
      clear L1
      obtain ⟨k, hk, rfl, rfl, hL⟩ := hrel
      have L2 := Lib.hid hL
      have hcl := cntF_le M s k
      clear hL
      by_cases hlt : k < s.size
      · have y0 := L2.out.c0
        have y1 := L2.out.c1
        have y2 := L2.out.c2
        have y3 := L2.out.c3
        go_wp2_with fail
        refine (c_l11Has A cA M s k _ L2.out.rot H1.out hlt).mono ?_
        rintro e w7 ⟨rfl, hb7⟩
        have L7 := Lib.hid (L2.out.ext hb7)
        have HCS := Lib.hid (show cntF M s (k + 1) = cntF M s k + (if fixB (prF M s k) = true then 1 else 0) from rfl)
        clear hb7 L2 y0 y1 y2 y3
        cases hf : fixB (prF M s k) with
        | true =>
          have HF := Lib.hid hf
          clear hf
          go_wp2_with fail
          exact ⟨⟨k + 1, by omega, by go_num, by rw [HCS.out, HF.out]; go_num, L7.out⟩, by simp [intOf]; omega⟩
        | false =>
          have HF := Lib.hid hf
          clear hf
          go_wp2_with fail
          exact ⟨⟨k + 1, by omega, by go_num, by rw [HCS.out, HF.out]; rfl, L7.out⟩, by simp [intOf]; omega⟩
      · have e : k = s.size := by omega
        subst e
        go_wp2_with fail
        go_ret
        exact ⟨by rw [HE.out]; rfl, L2.out.bel⟩
set_option maxHeartbeats 1000000 in
theorem c_sSheetRow (A : Option Addr) (cA : Nat) (M : Mch) (s : ByteArray) (n : Int) (w : World) (hR : IsRots w (.slice A M.l.length cA) M.l) (hz : MSz M) (hs : s.size ≤ 9223372036854775800) : Calls Try.prog 20 #[mV A cA M, .string s, .int .i64 n] w fun e w' => e = .returned (.string (rowR M s n)) ∧ Below w.heap.size w w' := by
  have L0 := Lib.hid (MW.start M (Below.refl w.heap.size w) hR)
  have HZ := Lib.hid hz
  have hz0 := grd_size s 0
  have hsum : ¬ 9223372036854775807 < s.size + 1 := by omega
  have HG := Lib.hid (grd_set M s (i := 0) (by omega))
  have hzle : (grd s 0).size ≤ 9223372036854775807 := by omega
  clear hR hz hz0
  go_enter Try.func20, Try.ntmps20
  have y0 := L0.out.c0
  have y1 := L0.out.c1
  have y2 := L0.out.c2
  have y3 := L0.out.c3
  go_wp2_with fail
  refine (c_l8Fits A cA M (grd s 0) _ L0.out.rot HZ.out hzle).mono ?_
  rintro e w1 ⟨rfl, hb1⟩
  rw [HG.out]
  have L1 := Lib.hid (L0.out.ext hb1)
  clear hb1 L0 y0 y1 y2 y3
  cases h1 : preB M s with
  | false =>
    have HE := Lib.hid (rowR_no (M := M) (s := s) (n := n) (by rw [h1]; rfl))
    clear h1
    go_wp2_with fail
    go_ret
    exact ⟨by rw [HE.out]; rfl, L1.out.bel⟩
  | true =>
    have HC := Lib.hid (fun w => c_l1In n 0 s.size w)
    obtain ⟨p1, p2, p3⟩ := (preB_iff M s).1 h1
    have p4 := rg_small p1
    have hs3 : s.size ≤ 2 := by omega
    by_cases h2 : 0 ≤ n ∧ n ≤ s.size
    · obtain ⟨k, rfl⟩ : ∃ k : Nat, n = (k : Int) := ⟨n.toNat, by omega⟩
      have hk : k ≤ s.size := by omega
      have HE := Lib.hid (rowR_ok h1 hk)
      have HSET : Hid (∀ i, i < 10 → setB M (grd s i) = true) := fun i hi => by rw [grd_set M s hi]; exact h1
      have hi : inB (k : Int) 0 (s.size : Int) = true := inB_true (by omega) (by omega)
      rw [hi] at HC
      clear h1 h2 hi p1 p2 p3 p4
      go_wp2_with (go_at_call 53; refine (HC.out _).mono ?_; rintro e w' ⟨rfl, rfl⟩)
      go_loopw [7, 8] (fun o i wr => ∃ j : Nat, j ≤ 10 ∧ i = .int .i64 j ∧ o = .string (rowS M s k j) ∧ MW w w.heap.size A cA M wr) (fun _ i _ => 10 - (intOf i).toNat)
      case atStart => exact ⟨0, Nat.zero_le _, rfl, rfl, L1.out⟩
      case round =>
        clear L1
        obtain ⟨j, hj, rfl, rfl, hL⟩ := hrel
        have L2 := Lib.hid hL
        have hrs := rowS_size M s k j
        clear hL
        by_cases hlt : j < 10
        · have y0 := L2.out.c0
          have y1 := L2.out.c1
          have y2 := L2.out.c2
          have y3 := L2.out.c3
          have hlw := L2.out.lt
          have hzj := grd_size s j
          have z1 := size_one (97 + (j : Int))
          have hkj : k < (grd s j).size := by omega
          have HS2 := Lib.hid (HSET.out j hlt)
          have HCS := Lib.hid (rowS_succ M s k j)
          clear hzj
          go_wp2_with fail
          refine wp_region_ext (by kernel_rfl) (by kernel_rfl) ?_
          repeat (go_big_quiet_step ((first
            | (go_at_call 60; exact Ext.call _ (c_l1LetterD _ _ hlt))
            | (go_at_call 54; exact Ext.call _ (c_l11Has A cA M (grd s j) k _ (L2.out.rot.ext (Subtype.property _)) HS2.out hkj)))))
          refine wpQuiet_nil ?_
          rintro _ ⟨⟨w4, hb4⟩, rfl⟩
          have L4 := Lib.hid (L2.out.ext hb4)
          clear hb4 y0 y1 y2 y3 L2 z1
          cases hf : fixB (prF M (grd s j) k) with
          | true =>
            have HF := Lib.hid hf
            clear hf
            go_wp2_with fail
            exact ⟨⟨j + 1, by omega, by go_num, by rw [HCS.out, HF.out]; rfl, L4.out⟩, by simp [intOf]; omega⟩
          | false =>
            have HF := Lib.hid hf
            clear hf
            go_wp2_with fail
            exact ⟨⟨j + 1, by omega, by go_num, by rw [HCS.out, HF.out]; rfl, L4.out⟩, by simp [intOf]; omega⟩
        · have e : j = 10 := by omega
          subst e
          go_wp2_with fail
          go_ret
          exact ⟨by rw [HE.out]; rfl, L2.out.bel⟩
    · have hi : inB n 0 (s.size : Int) = false := inB_false (by omega)
      have HE := Lib.hid (rowR_no (M := M) (s := s) (n := n) (by rw [hi]; simp))
      rw [hi] at HC
      clear h1 h2 hi p1 p2 p3 p4
      go_wp2_with (go_at_call 53; refine (HC.out _).mono ?_; rintro e w' ⟨rfl, rfl⟩)
      go_ret
      exact ⟨by rw [HE.out]; rfl, L1.out.bel⟩
end Go.Proofs.Ytnfeddnkokocfaa
