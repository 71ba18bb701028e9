/- Contracts of the reference's Encipher and what it calls (spec). -/
import Derived.Test.YtnfeddnkokocfaaSpecM
import Derived.Test.YtnfeddnkokocfaaEnc
namespace Go.Proofs.Ytnfeddnkokocfaa
set_option linter.unusedVariables false
set_option linter.unusedSimpArgs false
open Go.RowKit
attribute [local go_sem] Ext.cell
open BigFrame

theorem results_tmp3 {fn : Func} {a b c : Tmp} (h : fn.results = #[.tmp a, .tmp b, .tmp c]) (tmps : Array Value) (P : Program) (w : World) : (results fn tmps).run P w = .ok (.tuple #[tmps.getD a undef, tmps.getD b undef, tmps.getD c undef]) w := by
  simp [results, h]
/-- a machine lies at the world's own block, its cells open -/
abbrev HeldM (w : World) (A : Option Addr) (cA : Nat) (M : Mch) (W : World) : Prop :=
  W.cell? ⟨w.heap.size, 0, none⟩ = some (.slice A M.l.length cA) ∧ W.cell? ⟨w.heap.size, 1, none⟩ = some (.string M.rf) ∧ W.cell? ⟨w.heap.size, 2, none⟩ = some (.string M.rg) ∧ W.cell? ⟨w.heap.size, 3, none⟩ = some (.string M.pl) ∧ MW w w.heap.size A cA M W
theorem MW.held {w W : World} {A : Option Addr} {cA : Nat} {M : Mch} (h : MW w w.heap.size A cA M W) : HeldM w A cA M W := ⟨h.c0, h.c1, h.c2, h.c3, h⟩
theorem MW.drew {w W : World} {b : Nat} {A : Option Addr} {cA : Nat} {M : Mch} (h : MW w b A cA M W) : MW w b A cA M W.drew := h.ext (Below.refl _ _).drew
theorem kF_ren {M : Mch} (s : ByteArray) (h : mB M = true) {i : Nat} (hi : i < 10) : pn M.pl (turnF (thrF M s) (pn M.rf) (invF (pn M.pl) i)) = kF M s i := by
  obtain ⟨p1, p2⟩ := (plugB_iff _).1 ((mB_iff M).1 h).2
  rw [invF_invol (isP_pn p1) p2 hi]
  exact (kF_spec s h hi).symm
theorem c_l8OffsetsHeld (w wr : World) (A : Option Addr) (cA : Nat) (M : Mch) (s : ByteArray) (h : setB M s = true) (hS : HeldM w A cA M wr) : Calls Try.prog 145 #[mV A cA M, .string s] wr fun e w' => ∃ AO cO, e = .returned (.slice AO s.size cO) ∧ IsInts w' (.slice AO s.size cO) (ofL M s) ∧ HeldM w A cA M w' :=
  (c_l8Offsets A cA M s wr hS.2.2.2.2.rot h).mono fun _ _ ⟨AO, cO, h1, h2, h3⟩ => ⟨AO, cO, h1, h2, (hS.2.2.2.2.ext h3).held⟩
theorem c_l6ScrambleHeld (w wr : World) (A AO : Option Addr) (cA cO : Nat) (M : Mch) (s : ByteArray) (hO : IsInts wr (.slice AO s.size cO) (ofL M s)) (h : setB M s = true) (hS : HeldM w A cA M wr) : Calls Try.prog 144 #[.agg #[.slice A M.l.length cA, .string M.rf], .slice AO s.size cO] wr fun e w' => e = .returned (.string (pS (turnF (thrF M s) (pn M.rf)))) ∧ HeldM w A cA M w' :=
  (c_l6Scramble A AO cA cO M s wr hS.2.2.2.2.rot hO h).mono fun _ _ ⟨h1, h2⟩ => ⟨h1, (hS.2.2.2.2.ext h2).held⟩
theorem c_l2RenamedHeld (w wr : World) (A : Option Addr) (cA : Nat) (M : Mch) (s : ByteArray) (h : setB M s = true) (hS : HeldM w A cA M wr) : Calls Try.prog 143 #[.string (pS (turnF (thrF M s) (pn M.rf))), .string M.pl] wr fun e w' => e = .returned (.string (pS (kF M s))) ∧ HeldM w A cA M w' := by
  have hm := ((setB_iff M s).1 h).1
  have hp := ((plugB_iff _).1 ((mB_iff M).1 hm).2).1
  refine (c_renQ hp (c_l2Renamed (turnF (thrF M s) (pn M.rf)) (pn M.pl) wr ((thrF_P s hm).turn (refl_facts (mB_refl hm)).1) (isP_pn hp))).mono ?_
  rintro e w' ⟨rfl, hb⟩
  exact ⟨congrArg Ending.returned (congrArg Value.string (pS_congr fun i hi => kF_ren s hm hi)), (hS.2.2.2.2.ext hb).held⟩
set_option maxHeartbeats 1000000 in
theorem c_l8Perm (A : Option Addr) (cA : Nat) (M : Mch) (s : ByteArray) (w : World) (hR : IsRots w (.slice A M.l.length cA) M.l) (h : setB M s = true) : Calls Try.prog 112 #[mV A cA M, .string s] w fun e w' => e = .returned (.string (pS (kF M s))) ∧ Below w.heap.size w w' := by
  have L0 := Lib.hid (MW.start M (Below.refl w.heap.size w) hR)
  have H := Lib.hid h
  clear hR h
  have y0 := L0.out.c0
  have y1 := L0.out.c1
  have y2 := L0.out.c2
  have y3 := L0.out.c3
  go_enter Try.func112, Try.ntmps112
  go_upto_region 1 with (fail)
  generalize (w.alloc (.cells #[.slice A M.l.length cA, .string M.rf, .string M.rg, .string M.pl] 33)) = W1 at *
  go_region_held3 (fun w' => w'.cell? ⟨w.heap.size, 0, none⟩ = some (.slice A M.l.length cA) ∧ w'.cell? ⟨w.heap.size, 1, none⟩ = some (.string M.rf) ∧ w'.cell? ⟨w.heap.size, 2, none⟩ = some (.string M.rg) ∧ w'.cell? ⟨w.heap.size, 3, none⟩ = some (.string M.pl) ∧ MW w w.heap.size A cA M w')
    (first | assumption | exact ⟨y0, y1, y2, y3, L0.out.drew⟩)
    (first
      | (go_at_call 145; refine (c_l8OffsetsHeld w _ A cA M s H.out (by assumption)).mono ?_; rintro e w5 ⟨AO, cO, rfl, hI, hk5⟩)
      | (go_at_call 144; refine (c_l6ScrambleHeld w _ A _ cA _ M s (by assumption) H.out (by assumption)).mono ?_; rintro e w6 ⟨rfl, hk6⟩)
      | (go_at_call 143; refine (c_l2RenamedHeld w _ A cA M s H.out (by assumption)).mono ?_; rintro e w7 ⟨rfl, hk7⟩))
  all_goals
    have hb7 := hk7.2.2.2.2.bel
    go_wp2_with fail
    go_ret
    exact ⟨rfl, hb7⟩
/-- the permutations of the next n keys, as words -/
noncomputable def kpL (M : Mch) (s : ByteArray) (n : Nat) : List ByteArray := (List.range n).map (fun j => pS (kF M (it (stepS M.l) (j + 1) s)))
theorem kpL_len (M : Mch) (s : ByteArray) (n : Nat) : (kpL M s n).length = n := by simp [kpL]
theorem kpL_at (M : Mch) (s : ByteArray) {n i : Nat} (hi : i < n) : gS (kpL M s n) i = pS (kF M (it (stepS M.l) (i + 1) s)) := by
  unfold gS kpL; rw [List.getD_eq_getElem?_getD, List.getElem?_map, List.getElem?_range hi]; rfl
theorem kpL_succ (M : Mch) (s : ByteArray) (n : Nat) : (kpL M s (n + 1)).map Value.string = (kpL M s n).map Value.string ++ [.string (pS (kF M (it (stepS M.l) (n + 1) s)))] := by
  unfold kpL; rw [List.range_succ, List.map_append, List.map_append]; rfl
theorem kpL_small (M : Mch) (s : ByteArray) (n k : Nat) (hk : k < (kpL M s n).length) : (gS (kpL M s n) k).size ≤ 9223372036854775807 := by
  rw [kpL_at M s (by rwa [kpL_len] at hk), pS_size]; omega
set_option maxHeartbeats 1000000 in
theorem c_l8PermsO (A : Option Addr) (cA : Nat) (M : Mch) (s : ByteArray) (n : Nat) (w : World) (hR : IsRots w (.slice A M.l.length cA) M.l) (h : setB M s = true) (hn : n ≤ 1000000) : Calls Try.prog 68 #[mV A cA M, .string s, .int .i64 n] w fun e w' => ∃ v, e = .returned v ∧ Own w' w.heap.size 9 v ((kpL M s n).map .string) ∧ Below w.heap.size w w' := by
  have L0 := Lib.hid ((MW.start M (Below.refl w.heap.size w) hR).ext (ext_alloc _ (.cells #[] 9)))
  have O0 := Lib.hid (own_empty (w.alloc (.cells #[.slice A M.l.length cA, .string M.rf, .string M.rg, .string M.pl] 33)) 9)
  rw [World.size_alloc] at O0
  have HA : Hid (∀ b o, A = some ⟨b, o, none⟩ → b < w.heap.size) := by
    obtain ⟨b0, o0, hA, hb0⟩ := hR.blk (by have := win_facts (setB_win h); omega)
    exact fun b o e => by rw [hA] at e; injection e with e; injection e with e; omega
  have H := Lib.hid h
  clear hR h
  go_enter Try.func68, Try.ntmps68
  go_wp2_with fail
  go_loopw [1, 7, 8] (fun x o i wr => ∃ k : Nat, k ≤ n ∧ i = .int .i64 k ∧ x = .string (it (stepS M.l) k s) ∧ Own wr (w.heap.size + 1) 9 o ((kpL M s k).map .string) ∧ MW w w.heap.size A cA M wr) (fun _ _ i _ => n - (intOf i).toNat)
  case atStart => exact ⟨0, Nat.zero_le _, rfl, rfl, O0.out, L0.out⟩
  case round =>
    clear O0 L0
    obtain ⟨k, hk, rfl, rfl, ho, hL⟩ := hrel
    have O2 := Lib.hid ho
    have L2 := Lib.hid hL
    have hsz : w.heap.size + 1 ≤ wr.heap.size := hL.lt
    have y0 := hL.c0
    have y1 := hL.c1
    clear ho hL
    by_cases hlt : k < n
    · go_wp2_with fail
      refine (c_l7StepIt A cA M.l M.rf s k _ L2.out.rot (setB_win H.out)).mono ?_
      rintro e w3 ⟨rfl, hb3⟩
      have L3 := Lib.hid (L2.out.ext hb3)
      have O3 := Lib.hid (O2.out.ext hb3)
      have hsz3 : w.heap.size + 1 ≤ w3.heap.size := Nat.le_trans hsz hb3.size
      clear hb3 y0 y1 L2 O2
      have y0 := L3.out.c0
      have y1 := L3.out.c1
      have y2 := L3.out.c2
      have y3 := L3.out.c3
      go_wp2_with fail
      refine (c_l8Perm A cA M _ _ L3.out.rot (setB_it H.out (k + 1))).mono ?_
      rintro e w4 ⟨rfl, hb4⟩
      have L4 := Lib.hid (L3.out.ext hb4)
      have O4 := Lib.hid (O3.out.ext hb4)
      have hsz4 : w.heap.size + 1 ≤ w4.heap.size := Nat.le_trans hsz3 hb4.size
      have hlen : (kpL M s k).length ≤ 1000000 := by rw [kpL_len]; omega
      clear hb4 y0 y1 y2 y3 L3 O3
      go_wp2_with (at_builtin; refine app1 _ rfl _ _ _ rfl (w.heap.size + 1) 9 Try.underlying48 info_str rfl _ _ rfl O4.out _ rfl rfl (by rw [List.length_map]; omega) (by omega) (by omega) ?_; intro v' w5 hown5 hgr5)
      have hb5 := O4.out.below (Nat.le_refl _) hsz4 (Below.refl (w.heap.size + 1) w4) hgr5
      have L5 := L4.out.belowB hb5 (by omega) (fun b o e => by have := HA.out b o e; omega) (L4.out.bel.trans (hb5.mono (by omega)))
      refine ⟨⟨k + 1, by omega, by go_num, rfl, ?_, L5⟩, by simp [intOf]; omega⟩
      rw [kpL_succ]
      exact hown5
    · have e : k = n := by omega
      subst e
      go_wp2_with fail
      go_ret
      exact ⟨_, rfl, O2.out.lower (by omega), L2.out.bel⟩
theorem c_l8Perms (A : Option Addr) (cA : Nat) (M : Mch) (s : ByteArray) (n : Nat) (w : World) (hR : IsRots w (.slice A M.l.length cA) M.l) (h : setB M s = true) (hn : n ≤ 1000000) : Calls Try.prog 68 #[mV A cA M, .string s, .int .i64 n] w fun e w' => ∃ v, e = .returned v ∧ IsStrs w' v (kpL M s n) ∧ Below w.heap.size w w' :=
  (c_l8PermsO A cA M s n w hR h hn).mono fun _ _ ⟨v, h1, h2, h3⟩ => ⟨v, h1, h2.strs (by rw [kpL_len]; omega) (kpL_small M s _), h3⟩
theorem c_l1DigitD (t : ByteArray) (i : Nat) (w : World) (ht : wv t = true) (hi : i < t.size) : Calls Try.prog 79 #[.string t, .int .i64 i] w fun e w' => e = .returned (.int .i64 (dn t i : Int)) ∧ w = w' := by
  have h200 := ((wv_iff t).1 ht).1
  have hd := (dn_spec ht hi).2
  refine (c_l1Digit t i w hi (by omega)).mono ?_
  rintro e w' ⟨rfl, rfl⟩
  exact ⟨ret_int (by omega), rfl⟩
/-- the first k letters of what a machine makes of a word -/
noncomputable def encK (M : Mch) (s t : ByteArray) (k : Nat) : ByteArray := mkS k (fun i => 97 + (kF M (it (stepS M.l) (i + 1) s) (dn t i) : Int))
theorem encK_all (M : Mch) (s t : ByteArray) : encK M s t t.size = encW M s t := rfl
theorem encK_size (M : Mch) (s t : ByteArray) (k : Nat) : (encK M s t k).size = k := mkS_size _ _
set_option maxHeartbeats 1000000 in
theorem c_l8Encipher (A : Option Addr) (cA : Nat) (M : Mch) (s t : ByteArray) (w : World) (hR : IsRots w (.slice A M.l.length cA) M.l) (h : setB M s = true) (ht : wv t = true) : Calls Try.prog 65 #[mV A cA M, .string s, .string t] w fun e w' => e = .returned (.string (encW M s t)) ∧ Below w.heap.size w w' := by
  have L0 := Lib.hid (MW.start M (Below.refl w.heap.size w) hR)
  have H := Lib.hid h
  have HT := Lib.hid ht
  have h200 := ((wv_iff t).1 ht).1
  clear hR h ht
  have y0 := L0.out.c0
  have y1 := L0.out.c1
  have y2 := L0.out.c2
  have y3 := L0.out.c3
  go_enter Try.func65, Try.ntmps65
  go_wp2_with fail
  refine (c_l8Perms A cA M s t.size _ L0.out.rot H.out (by omega)).mono ?_
  rintro e w1 ⟨v, rfl, hv, hb1⟩
  obtain ⟨AL, cL, rfl⟩ := hv.form
  rw [kpL_len] at *
  have V1 := Lib.hid hv
  have B1 := Lib.hid (L0.out.ext hb1).bel
  clear hv hb1 y0 y1 y2 y3 L0
  go_wp2_with fail
  go_loopw [7, 9] (fun o i wr => ∃ k : Nat, k ≤ t.size ∧ i = .int .i64 k ∧ o = .string (encK M s t k) ∧ IsStrs wr (.slice AL t.size cL) (kpL M s t.size) ∧ Below w.heap.size w wr) (fun _ i _ => t.size - (intOf i).toNat)
  case atStart => exact ⟨0, Nat.zero_le _, rfl, rfl, V1.out, B1.out⟩
  case round =>
    clear V1 B1
    obtain ⟨k, hk, rfl, rfl, hV, hB⟩ := hrel
    have V := Lib.hid hV
    have B := Lib.hid hB
    have hz : (encK M s t k).size ≤ 200 := by rw [encK_size]; omega
    clear hV hB
    by_cases hlt : k < t.size
    · obtain ⟨b, o, rfl, hb, hc⟩ := V.out.at_ (k := k) (by rw [kpL_len]; exact hlt)
      rw [kpL_at M s hlt] at hc
      have HP := Lib.hid (kF_P (it (stepS M.l) (k + 1) s) ((setB_iff M s).1 H.out).1)
      have hd := (dn_spec HT.out hlt).1
      obtain ⟨d, hdd⟩ : ∃ d, dn t k = d := ⟨_, rfl⟩
      have HC := Lib.hid (fun w => c_l1DigitD t k w HT.out hlt)
      rw [hdd] at HC hd
      have hkf := HP.out.1 d hd
      have hz1 : (strOfNums [97 + (kF M (it (stepS M.l) (k + 1) s) d : Int)]).size ≤ 1 := by rw [one_size]; exact Nat.le_refl _
      have HDD := Lib.hid hdd
      have i1 : (0 : Int) ≤ (k : Int) := by omega
      have i2 : (k : Int) < (t.size : Int) := by omega
      clear hdd
      go_wp2_with fail
      refine wp_region_ext (by kernel_rfl) (by kernel_rfl) ?_
      repeat (go_big_quiet_step ((first
        | (go_at_call 79; exact Ext.same _ (HC.out _))
        | (go_at_call 78; exact Ext.same _ (c_imgS _ d _ HP.out hd))
        | (go_at_call 60; exact Ext.call _ (c_l1LetterD _ _ hkf)))))
      refine wpQuiet_nil ?_
      rintro _ ⟨⟨w4, hb4⟩, rfl⟩
      have V4 := Lib.hid (V.out.ext hb4)
      have B4 := Lib.hid (ext_trans B.out hb4)
      clear hb4 hc
      go_wp2_with fail
      exact ⟨⟨k + 1, by omega, by go_num, by rw [← HDD.out]; unfold encK; rw [mkS_succ], V4.out, B4.out⟩, by simp [intOf]; omega⟩
    · have e : k = t.size := by omega
      subst e
      go_wp2_with fail
      go_ret
      exact ⟨rfl, B.out⟩
set_option maxHeartbeats 400000 in
theorem c_sMachineValid (A : Option Addr) (cA : Nat) (M : Mch) (w : World) (hR : IsRots w (.slice A M.l.length cA) M.l) (hz : MSz M) : Calls Try.prog 104 #[mV A cA M] w fun e w' => e = .returned (.bool (mB M)) ∧ Below w.heap.size w w' := by
  have L0 := Lib.hid (MW.start M (Below.refl w.heap.size w) hR)
  have HZ := Lib.hid hz
  clear hR hz
  go_enter Try.func104, Try.ntmps104
  have y0 := L0.out.c0
  have y1 := L0.out.c1
  have y2 := L0.out.c2
  go_wp2_with fail
  refine (c_l7Windows _ M.l M.rf M.rg _ L0.out.rot HZ.out.1 HZ.out.2.1).mono ?_
  rintro e w1 ⟨rfl, hb1⟩
  have L1 := Lib.hid (L0.out.ext hb1)
  clear hb1 L0 y0 y1 y2
  have x3 := L1.out.c3
  cases h1 : winB M.l M.rf M.rg with
  | false =>
    have HE : Hid (mB M = false) := by show mB M = false; unfold mB; rw [h1]; rfl
    clear h1
    go_wp2_with fail
    go_ret
    exact ⟨by rw [HE.out]; rfl, L1.out.bel⟩
  | true =>
    have HE : Hid (mB M = plugB M.pl) := by show mB M = _; unfold mB; rw [h1]; rfl
    clear h1
    go_wp2_with fail
    refine (c_sPlugsValid M.pl _ HZ.out.2.2).mono ?_
    rintro e w2 ⟨rfl, hb2⟩
    have L2 := Lib.hid (L1.out.ext hb2)
    clear hb2 x3
    go_wp2_with fail
    go_ret
    exact ⟨by rw [HE.out]; rfl, L2.out.bel⟩
theorem setB_cases2 (M : Mch) (s : ByteArray) : (mB M = false ∧ setB M s = false) ∨ (mB M = true ∧ wv s = false ∧ setB M s = false) ∨ (mB M = true ∧ wv s = true ∧ setB M s = decide (s.size = M.rg.size)) := by
  unfold setB
  cases h1 : mB M
  · left; exact ⟨rfl, rfl⟩
  · right
    cases h2 : wv s
    · left; exact ⟨rfl, rfl, rfl⟩
    · right; exact ⟨rfl, rfl, rfl⟩
set_option maxHeartbeats 400000 in
theorem c_l8Fits (A : Option Addr) (cA : Nat) (M : Mch) (s : ByteArray) (w : World) (hR : IsRots w (.slice A M.l.length cA) M.l) (hz : MSz M) (hs : s.size ≤ 9223372036854775807) : Calls Try.prog 52 #[mV A cA M, .string s] w fun e w' => e = .returned (.bool (setB M s)) ∧ Below w.heap.size w w' := by
  have L0 := Lib.hid (MW.start M (Below.refl w.heap.size w) hR)
  have HZ := Lib.hid hz
  have hz1 := hz.2.1
  clear hR hz
  go_enter Try.func52, Try.ntmps52
  have y0 := L0.out.c0
  have y1 := L0.out.c1
  have y2 := L0.out.c2
  have y3 := L0.out.c3
  go_wp2_with fail
  refine (c_sMachineValid A cA M _ L0.out.rot HZ.out).mono ?_
  rintro e w1 ⟨rfl, hb1⟩
  have L1 := Lib.hid (L0.out.ext hb1)
  clear hb1 L0 y0 y1 y2 y3
  have x2 := L1.out.c2
  rcases setB_cases2 M s with ⟨h1, hr⟩ | ⟨h1, h2, hr⟩ | ⟨h1, h2, hr⟩
  · rw [h1]
    have HR := Lib.hid hr
    clear h1 hr
    go_wp2_with fail
    go_ret
    exact ⟨by rw [HR.out]; rfl, L1.out.bel⟩
  · rw [h1]
    have HR := Lib.hid hr
    clear h1 hr
    go_wp2_with (go_at_call 105; refine (c_specWordValid _ _ (by omega)).mono ?_; rintro e w' ⟨rfl, rfl⟩; rw [h2])
    go_ret
    exact ⟨by rw [HR.out]; rfl, L1.out.bel⟩
  · rw [h1]
    have HR := Lib.hid hr
    have HQ := Lib.hid (eq_cast s.size M.rg.size)
    clear h1 hr
    go_wp2_with (go_at_call 105; refine (c_specWordValid _ _ (by omega)).mono ?_; rintro e w' ⟨rfl, rfl⟩; rw [h2])
    go_ret
    exact ⟨by rw [HR.out]; exact ret_bool HQ.out, L1.out.bel⟩
end Go.Proofs.Ytnfeddnkokocfaa
