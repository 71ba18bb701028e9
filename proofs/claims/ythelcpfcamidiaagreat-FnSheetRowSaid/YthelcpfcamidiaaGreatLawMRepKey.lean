/- rcLetter, rcAll; the walk of FnHasRepeatKey. -/
import Derived.Test.YthelcpfcamidiaaGreatLawMa
import Derived.Test.YthelcpfcamidiaaGreatRowFns
import Derived.Test.YthelcpfcamidiaaGreatSpecRep
import Derived.Test.YthelcpfcamidiaaGreatDrawM
namespace Go.Proofs.YthelcpfcamidiaaGreat
set_option linter.unusedVariables false
set_option linter.unusedSimpArgs false
open Go.RowKit
attribute [local go_sem] Ext.cell
open BigFrame

theorem c_rcLetterM (n : Int) (w : World) (h0 : 0 ≤ n) (h1 : n ≤ 1000000) : Calls Tryz.prog 14 #[.int .i64 n] w fun e w' => e = .returned (.string (strOfNums [97 + n % 10])) ∧ Below w.heap.size w w' := by
  have hc := fun (w : World) (x : Int) => conv_one (P := Tryz.prog) w x 22 9 5 Tryz.underlying22 Tryz.underlying5 Tryz.underlying9
  go_enter Tryz.func14, Tryz.ntmps14
  go_wp2
  go_ret
  exact ⟨rfl, ext_alloc _ _⟩
theorem idx_int {P : Program} (t : TypeId) (s : ByteArray) (i : Int) (h : P.underlying t = some .string) (h0 : 0 ≤ i) (h1 : i < s.size) (w : World) :
    (Instr.index t (.string s) (.int .i64 i)).run P w = .ok (.int .u8 (bt s i.toNat)) w := by
  rw [run_index_string, dif_pos ⟨h0, h1⟩, bt_get]
  exact h
/-- a letter n times -/
def allW (i n : Nat) : ByteArray := mkS n (fun _ => 97 + (i : Int))
theorem allW_size (i n : Nat) : (allW i n).size = n := mkS_size _ _
theorem allW_succ (i n : Nat) : allW i (n + 1) = allW i n ++ strOfNums [97 + (i : Int)] := mkS_succ _ _
theorem allW_bt {i n k : Nat} (hi : i < 10) (hk : k < n) : bt (allW i n) k = 97 + (i : Int) := bt_mkS _ _ _ hk (by omega) (by omega)
theorem allW_wv {i n : Nat} (hi : i < 10) (hn : n ≤ 200) : wv (allW i n) = true := by
  rw [wv_iff, allW_size]
  refine ⟨by omega, fun k hk => ?_⟩
  rw [allW_bt hi hk]; omega
theorem c_rcAll (i n : Nat) (w : World) (hn : n ≤ 1000) : Calls Tryz.prog 37 #[.string (strOfNums [97 + (i : Int)]), .int .i64 n] w fun e w' => e = .returned (.string (allW i n)) ∧ Below w.heap.size w w' := by
  go_enter Tryz.func37, Tryz.ntmps37
  go_wp2_with fail
  go_loopw [5, 6] (fun x i' wr => ∃ k : Nat, k ≤ n ∧ i' = .int .i64 k ∧ x = .string (allW i k) ∧ Below w.heap.size w wr) (fun _ i' _ => n - (intOf i').toNat)
  case atStart => exact ⟨0, Nat.zero_le _, rfl, rfl, Below.refl _ _⟩
  case round =>
    obtain ⟨k, hk, rfl, rfl, hbr⟩ := hrel
    have HBR := Lib.hid hbr
    have hz := allW_size i k
    have hz1 := size_one (97 + (i : Int))
    clear hbr
    by_cases hlt : k < n
    · have i2 : (k : Int) < n := by omega
      go_wp2_with fail
      exact ⟨⟨k + 1, by omega, by go_num, by rw [allW_succ], HBR.out⟩, by simp [intOf]; omega⟩
    · have e : k = n := by omega
      subst e
      go_wp2_with fail
      go_ret
      exact ⟨rfl, HBR.out⟩
/-- f and g make the same of a letter below k -/
def sameB (f g : Nat → Nat) (k : Nat) : Bool := !(allB k (fun i => decide (f i ≠ g i)))
theorem sameB_zero (f g : Nat → Nat) : sameB f g 0 = false := rfl
theorem sameB_succ (f g : Nat → Nat) (k : Nat) : sameB f g (k + 1) = (sameB f g k || decide (f k = g k)) := by
  unfold sameB; rw [allB_succ, Bool.not_and]
  by_cases h : f k = g k <;> simp [h]
theorem sameB_iff (f g : Nat → Nat) (n : Nat) : sameB f g n = true ↔ ∃ i, i < n ∧ f i = g i := by
  induction n with
  | zero => simp [sameB_zero]
  | succ n ih =>
    rw [sameB_succ, Bool.or_eq_true, ih, decide_eq_true_eq]
    constructor
    · rintro (⟨i, h, e⟩ | e)
      · exact ⟨i, by omega, e⟩
      · exact ⟨n, by omega, e⟩
    · rintro ⟨i, h, e⟩
      by_cases hi : i = n
      · exact .inr (hi ▸ e)
      · exact .inl ⟨i, by omega, e⟩
theorem fix_sameB {M : Mch} (s : ByteArray) (h : mB M = true) (i : Nat) : fixB (prF M s i) = sameB (kF M (it (stepS M.l) (i + 1) s)) (kF M (it (stepS M.l) (i + s.size + 1) s)) 10 := by
  rw [Bool.eq_iff_iff, fix_same s h, sameB_iff]
/-- the letters of a double indicator of one letter -/
theorem dbl_all {M : Mch} {s : ByteArray} (h : setB M s = true) {i k : Nat} (hi : i < 10) (hk : k < s.size) :
    bt (encW M s (allW i s.size ++ allW i s.size)) k = 97 + (kF M (it (stepS M.l) (k + 1) s) i : Int) ∧ bt (encW M s (allW i s.size ++ allW i s.size)) (k + s.size) = 97 + (kF M (it (stepS M.l) (k + s.size + 1) s) i : Int) := by
  obtain ⟨hm, _, _⟩ := (setB_iff M s).1 h
  have hz := (setB_size h).2.1
  have hl : (allW i s.size ++ allW i s.size).size = s.size + s.size := by rw [ByteArray.size_append, allW_size]
  have hb : ∀ j, j < s.size + s.size → bt (allW i s.size ++ allW i s.size) j = 97 + (i : Int) := fun j hj => by
    rw [bt_append, allW_size]
    split
    · exact allW_bt hi (by omega)
    · exact allW_bt hi (by omega)
  have hw : wv (allW i s.size ++ allW i s.size) = true := by
    rw [wv_iff, hl]
    refine ⟨by omega, fun j hj => ?_⟩
    rw [hb j hj]; omega
  have hd : ∀ j, j < s.size + s.size → dn (allW i s.size ++ allW i s.size) j = i := fun j hj => by unfold dn; rw [hb j hj]; omega
  have e1 := (encW_bt (s := s) hm hw (i := k) (by omega)).1
  have e2 := (encW_bt (s := s) hm hw (i := k + s.size) (by omega)).1
  rw [hd _ (by omega)] at e1 e2
  exact ⟨e1, e2⟩
attribute [local go_sem high] idx_int
set_option maxHeartbeats 1000000 in
set_option maxRecDepth 100000 in
theorem walk_FnHasRepeatKey (a0 : Option Addr) (len0 cap0 : Nat) (z0 : List Int) (w : World) (w0 : IsRowB w a0 len0 cap0 z0) :
    Calls Tryz.prog 8 #[.slice a0 len0 cap0] w fun e w' => e = .returned (.bool true) ∧ Below w.heap.size w w' := by
  by_cases hl0 : 1048576 < len0
  · clear w0
    go_enter Tryz.func8, Tryz.ntmps8
    go_wp2_with fail
    go_ret
    exact ⟨rfl, Below.refl _ _⟩
  · have HC := Lib.hid (code_of w0 (by omega))
    clear w0
    go_enter Tryz.func8, Tryz.ntmps8
    go_wp2_with fail
    refine (c_DrawHasRepeat a0 len0 cap0 _ HC.out).mono ?_
    rintro e w1 ⟨A, cA, M, s, x, rfl, hR, _, hM, hs1, hs, hx1, hx2, hb1⟩
    have L1 := Lib.hid (MW.start M hb1 hR)
    have HM := Lib.hid hM.sz
    clear hR hb1 HC hM
    have x0 := L1.out.c0
    have x1 := L1.out.c1
    have x2 := L1.out.c2
    have x3 := L1.out.c3
    go_wp2_with fail
    refine (c_HasRepeat A cA M s x _ L1.out.rot HM.out (by omega)).mono ?_
    rintro e w2 ⟨rfl, hb2⟩
    obtain ⟨r, hr⟩ : ∃ r, repB M s x = r := ⟨_, rfl⟩
    rw [hr]
    have HR := Lib.hid hr
    have L2 := Lib.hid (L1.out.ext hb2)
    clear hb2 x0 x1 x2 x3 L1 hr
    have x0 := L2.out.c0
    have x1 := L2.out.c1
    have x2 := L2.out.c2
    have x3 := L2.out.c3
    go_wp2_with fail
    refine (c_sHasRepeat A cA M s x _ L2.out.rot HM.out (by omega)).mono ?_
    rintro e w3 ⟨rfl, hb3⟩
    rw [HR.out]
    have L3 := Lib.hid (L2.out.ext hb3)
    clear hb3 x0 x1 x2 x3 L2
    have x0 := L3.out.c0
    have x1 := L3.out.c1
    have x2 := L3.out.c2
    have x3 := L3.out.c3
    go_wp2_with fail
    refine (c_rcFits A cA M s _ L3.out.rot HM.out (by omega)).mono ?_
    rintro e w4 ⟨rfl, hb4⟩
    have L4 := Lib.hid (L3.out.ext hb4)
    clear hb4 x0 x1 x2 x3 L3
    have x0 := L4.out.c0
    have x1 := L4.out.c1
    have x2 := L4.out.c2
    have x3 := L4.out.c3
    cases h1 : setB M s with
    | false =>
      clear h1
      · skip
        go_wp2_with fail
        refine (c_sHasRepeat A cA M s x _ L4.out.rot HM.out (by omega)).mono ?_
        rintro e w5 ⟨rfl, hb5⟩
        rw [HR.out]
        have L5 := Lib.hid (L4.out.ext hb5)
        clear hb5 x0 x1 x2 x3 L4
        go_wp2_with fail
        go_ret
        exact ⟨by simp, L5.out.bel⟩
    | true =>
      have HS := Lib.hid h1
      clear h1
      by_cases h2 : x < 0
      · skip
        go_wp2_with fail
        refine (c_sHasRepeat A cA M s x _ L4.out.rot HM.out (by omega)).mono ?_
        rintro e w5 ⟨rfl, hb5⟩
        rw [HR.out]
        have L5 := Lib.hid (L4.out.ext hb5)
        clear hb5 x0 x1 x2 x3 L4
        go_wp2_with fail
        go_ret
        exact ⟨by simp, L5.out.bel⟩
      · by_cases h3 : (s.size : Int) ≤ x
        · skip
          go_wp2_with fail
          refine (c_sHasRepeat A cA M s x _ L4.out.rot HM.out (by omega)).mono ?_
          rintro e w5 ⟨rfl, hb5⟩
          rw [HR.out]
          have L5 := Lib.hid (L4.out.ext hb5)
          clear hb5 x0 x1 x2 x3 L4
          go_wp2_with fail
          go_ret
          exact ⟨by simp, L5.out.bel⟩
        · obtain ⟨k, rfl⟩ : ∃ k : Nat, x = (k : Int) := ⟨x.toNat, by omega⟩
          have hk : k < s.size := by omega
          have hz1 := (setB_size HS.out).1
          have hz3 := (setB_size HS.out).2.1
          have hrf : r = sameB (kF M (it (stepS M.l) (k + 1) s)) (kF M (it (stepS M.l) (k + s.size + 1) s)) 10 := by
            rw [← HR.out, repB_at HS.out hk, fix_sameB s ((setB_iff M s).1 HS.out).1]
          obtain ⟨f, hf⟩ : ∃ f, kF M (it (stepS M.l) (k + 1) s) = f := ⟨_, rfl⟩
          obtain ⟨g, hg⟩ : ∃ g, kF M (it (stepS M.l) (k + s.size + 1) s) = g := ⟨_, rfl⟩
          rw [hf, hg] at hrf
          have HF := Lib.hid hf
          have HG := Lib.hid hg
          have HRF := Lib.hid hrf
          clear hrf hf hg
          go_wp2_with fail
          go_loopw [7, 8] (fun q i wr => ∃ j : Nat, j ≤ 10 ∧ i = .int .i64 j ∧ q = .bool (sameB f g j) ∧ MW w w1.heap.size A cA M wr) (fun _ i _ => 10 - (intOf i).toNat)
          case atStart => exact ⟨0, by omega, rfl, rfl, L4.out⟩
          case round =>
            clear L4 x0 x1 x2 x3 h2 h3
            obtain ⟨j, hj, rfl, rfl, hL⟩ := hrel
            have L5 := Lib.hid hL
            clear hL
            obtain ⟨q, hq⟩ : ∃ q, sameB f g j = q := ⟨_, rfl⟩
            rw [hq]
            by_cases hlt : j < 10
            · have hd := dbl_all HS.out hlt hk
              rw [HF.out, HG.out] at hd
              have hss := sameB_succ f g j
              rw [hq] at hss
              have HSS := Lib.hid hss
              have hpz : (encW M s (allW j s.size ++ allW j s.size)).size = s.size + s.size := by rw [encW_size, ByteArray.size_append, allW_size]
              have hdb : dblR M s (allW j s.size) = .tuple #[.string (encW M s (allW j s.size ++ allW j s.size)), .bool true] := dblR_ok HS.out ((setB_iff M _).2 ⟨((setB_iff M s).1 HS.out).1, allW_wv hlt (by omega), by rw [allW_size]; exact ((setB_iff M s).1 HS.out).2.2⟩)
              obtain ⟨p, hp⟩ : ∃ p, encW M s (allW j s.size ++ allW j s.size) = p := ⟨_, rfl⟩
              rw [hp] at hd hpz hdb
              have hlet : strOfNums [97 + (j : Int) % 10] = strOfNums [97 + (j : Int)] := by rw [show (j : Int) % 10 = j by omega]
              have HDB := Lib.hid hdb
              have HLET := Lib.hid hlet
              have HD := Lib.hid hd
              have haz := allW_size j s.size
              have x0 := L5.out.c0
              have x1 := L5.out.c1
              have x2 := L5.out.c2
              have x3 := L5.out.c3
              have hlw := L5.out.lt
              clear hd hdb hlet hp hss hq
              go_wp2_with fail
              refine wp_region_ext (by kernel_rfl) (by kernel_rfl) ?_
              repeat (go_big_quiet_step ((first
                | (go_at_call 14; exact Ext.callv _ (c_rcLetterM _ _ (by omega) (by omega)) (congrArg Value.string HLET.out))
                | (go_at_call 37; exact Ext.call _ (c_rcAll j s.size _ (by omega)))
                | (go_at_call 36; exact Ext.callv _ (c_DoubleIndicator A cA M s (allW j s.size) _ (L5.out.rot.ext (Subtype.property _)) HM.out (by omega) (by omega)) HDB.out))))
              refine wpQuiet_nil ?_
              rintro _ ⟨⟨w6, hb6⟩, rfl⟩
              have L6 := Lib.hid (L5.out.ext hb6)
              clear hb6 x0 x1 x2 x3 L5
              have j1 : k < p.size := by omega
              have j2 : k + s.size < p.size := by omega
              have j3 : (0 : Int) ≤ (k : Int) + (s.size : Int) := by omega
              have i1 : (0 : Int) ≤ k := by omega
              have i2 : (k : Int) < (p.size : Int) := by omega
              have i3 : (k : Int) + (s.size : Int) < (p.size : Int) := by omega
              clear hpz haz
              cases q with
              | true =>
                have HSS2 : Hid (sameB f g (j + 1) = true) := by show _ = _; rw [HSS.out]; rfl
                go_wp2_with fail
                go_quiet (fail)
                go_wp2_with fail
                exact ⟨⟨j + 1, by omega, by go_num, by rw [HSS2.out], L6.out.ext (below_drewN (Below.refl _ _) _)⟩, by simp [intOf]; omega⟩
              | false =>
                go_wp2_with fail
                go_quiet (fail)
                go_wp2_with fail
                refine ⟨⟨j + 1, by omega, by go_num, ?_, L6.out.ext (below_drewN (Below.refl _ _) _)⟩, by simp [intOf]; omega⟩
                rw [HSS.out]
                rw [HD.out.1, HD.out.2, Bool.false_or]
                refine congrArg Value.bool ?_
                rw [Bool.eq_iff_iff, beq_iff_eq, decide_eq_true_eq]
                omega
            · have e : j = 10 := by omega
              subst e
              have e2 : r = q := by rw [← hq]; exact HRF.out
              subst e2
              go_wp2_with fail
              go_ret
              exact ⟨by simp, L5.out.bel⟩
end Go.Proofs.YthelcpfcamidiaaGreat
