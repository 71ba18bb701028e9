/- Contracts of fixes, DayProducts, HasRepeat, RepeatCount (impl). -/
import Derived.Test.YtnfeddnkokocfaaDayFn
namespace Go.Proofs.Ytnfeddnkokocfaa
set_option linter.unusedVariables false
set_option linter.unusedSimpArgs false
open Go.RowKit
attribute [local go_sem] Ext.cell
open BigFrame

/-- a whole permutation loaded, wherever it lies -/
theorem wpList_perm {ops : Array Oper} {rest : List Oper} {o : Oper} {a : Act} {w : World} {Q : Exit → Act → World → Prop} (hw : Region.wanted o (yielded ops a.tmps) = true) (x : Operand) (ho : o.op = .load 85 x)
    (b off : Nat) (hx : a.eval x = .pointer (some ⟨b, off, none⟩)) (f : Nat → Int) (hp : PermAt w b off f) (h : wpList Try.prog ops Q rest (a.put o.dst (.agg (permA f))) w) : wpList Try.prog ops Q (o :: rest) a w :=
  wpList_step fun _ hK => by rw [if_pos hw]; exact wp_load_mid 85 x ho b off hx _ _ hp.2 Try.underlying85 rfl (by rw [List.length_map, List.length_range]; exact size_perm) (hK _ _ h)
set_option maxHeartbeats 400000 in
theorem c_fixes (f : Nat → Nat) (w : World) (hf : ∀ i, i < 10 → f i < 10) : Calls Try.prog 58 #[pV f] w fun e w' => e = .returned (.bool (fixB f)) ∧ Below w.heap.size w w' := by
  have HF := Lib.hid hf
  have k0 := Lib.hid (Blk.new w 85 (permA fun i => (f i : Int)))
  clear hf
  go_enter Try.func58, Try.ntmps58
  go_wp2_with (refine wpList_load_row rfl 85 _ rfl w.heap.size rfl 85 (permA fun i => (f i : Int)) (0, 0) _ k0.out Try.underlying85 rfl (by rw [permA_size]; exact size_perm) ?_)
  go_loopw [6] (fun i wr => ∃ k : Nat, k ≤ 10 ∧ i = .int .i64 k ∧ allB k (fun i => decide (f i ≠ i)) = true ∧ Below w.heap.size w wr) (fun i _ => 10 - (intOf i).toNat)
  case atStart => exact ⟨0, by omega, rfl, rfl, ext_alloc _ _⟩
  case round =>
    obtain ⟨k, hk, rfl, ha, hbel⟩ := hrel
    have HA := Lib.hid ha
    have HB := Lib.hid hbel
    clear ha hbel
    by_cases hlt : k < 10
    · have hfk := HF.out k hlt
      have hix := idx_perm (fun i => (f i : Int)) hlt
      by_cases he : f k = k
      · have t1 : (((f k : Nat) : Int) == (k : Int)) = true := by rw [he]; simp
        have HE := Lib.hid he
        clear he
        go_wp2_with fail
        go_ret
        exact ⟨ret_bool ((fixB_iff f).2 ⟨k, hlt, HE.out⟩).symm, HB.out⟩
      · have t1 : (((f k : Nat) : Int) == (k : Int)) = false := by rw [beq_eq_false_iff_ne]; omega
        have HE := Lib.hid (show f k ≠ k from he)
        clear he
        go_wp2_with fail
        exact ⟨⟨k + 1, by omega, by go_num, allB_step HA.out (decide_eq_true HE.out), HB.out⟩, by simp [intOf]; omega⟩
    · have e : k = 10 := by omega
      subst e
      go_wp2_with fail
      go_ret
      exact ⟨by unfold fixB; rw [HA.out]; rfl, HB.out⟩
set_option maxHeartbeats 1000000 in
theorem c_DayProducts (A : Option Addr) (cA : Nat) (M : Mch) (s : ByteArray) (w : World) (hR : IsRots w (.slice A M.l.length cA) M.l) (hz : MSz M) (hs : s.size ≤ 9223372036854775807) : Calls Try.prog 33 #[mV A cA M, .string s] w fun e w' => ∃ v, e = .returned v ∧ Own w' w.heap.size 9 v ((prR M s).map .string) ∧ Below w.heap.size w w' := by
  have L0 := Lib.hid (MW.start M (Below.refl w.heap.size w) hR)
  have HZ := Lib.hid hz
  clear hR hz
  go_enter Try.func33, Try.ntmps33
  have y0 := L0.out.c0
  have y1 := L0.out.c1
  have y2 := L0.out.c2
  have y3 := L0.out.c3
  go_wp2_with fail
  refine (c_settingValid A cA M s _ L0.out.rot HZ.out hs).mono ?_
  rintro e w1 ⟨rfl, hb1⟩
  have L1 := Lib.hid (L0.out.ext hb1)
  clear hb1 y0 y1 y2 y3 L0
  cases h1 : setB M s with
  | false =>
    have HE := Lib.hid (prR_no h1)
    clear h1
    go_wp2_with fail
    go_ret
    refine ⟨_, rfl, ?_, L1.out.bel⟩
    rw [HE.out]
    exact Own.nil _ _ _
  | true =>
    have HE := Lib.hid (prR_ok h1)
    have H1 := Lib.hid h1
    obtain ⟨f1, f2, f3, f4⟩ := win_facts (setB_win h1)
    have hs3 : s.size ≤ 3 := by omega
    have hl1 : w.heap.size < w1.heap.size := L1.out.lt
    clear h1 f1 f2 f3 f4
    go_upto_region 4 with (at_make; refine make0 _ rfl _ _ _ rfl w1.heap.size 9 Try.underlying48 info_str _ _ _ rfl rfl (by omega) (by omega) (by omega) (Nat.le_refl _) ?_; intro v w3 hown hb3; obtain ⟨A4, c4, rfl⟩ := hown.slice; have HO := Lib.hid hown; have HB := Lib.hid hb3; clear hown hb3)
    have L3 := Lib.hid (L1.out.ext HB.out)
    have hl3 : w1.heap.size ≤ w3.heap.size := HB.out.size
    clear L1 HB
    have y0 := L3.out.c0
    have y1 := L3.out.c1
    have y2 := L3.out.c2
    have y3 := L3.out.c3
    go_wp2_with fail
    refine (c_dayProducts A cA M s _ L3.out.rot H1.out).mono ?_
    rintro e w4 ⟨vP, rfl, hPs, hb4⟩
    obtain ⟨AP, cP, rfl⟩ := Own.slice' hPs
    have PS := Lib.hid hPs
    have B4 := Lib.hid (L3.out.ext hb4).bel
    have O4 := Lib.hid (HO.out.ext hb4)
    have hl4 : w1.heap.size ≤ w4.heap.size := Nat.le_trans hl3 hb4.size
    clear hb4 hPs L3 HO y0 y1 y2 y3
    simp only [List.length_nil] at O4 ⊢
    go_wp2_with fail
    go_loopw [5, 19] (fun o i wr => ∃ k : Nat, k ≤ s.size ∧ i = .int .i64 k ∧ Own wr w1.heap.size 9 o ((prL M s k).map .string) ∧ wr.ownsRow w3.heap.size 85 10 (.slice AP s.size cP) s.size (rowP (prF M s) s.size) ∧ Below w.heap.size w wr ∧ w1.heap.size ≤ wr.heap.size) (fun _ i _ => s.size - (intOf i).toNat)
    case atStart => exact ⟨0, Nat.zero_le _, rfl, O4.out, PS.out, B4.out, hl4⟩
    case round =>
      clear O4 PS B4
      obtain ⟨k, hk, rfl, ho, hps, hB, hwl⟩ := hrel
      obtain ⟨A5, c5, rfl⟩ := ho.slice
      have O5 := Lib.hid ho
      have PS := Lib.hid hps
      have B5 := Lib.hid hB
      have hlen : ((prL M s k).map Value.string).length = k := by rw [List.length_map, prL_len]
      rw [hlen] at O5
      have HLEN := Lib.hid hlen
      clear ho hps hB hlen
      rw [HLEN.out]
      by_cases hlt : k < s.size
      · obtain ⟨g, rfl, hg, hp⟩ := (ownP_is PS.out (by omega)).at_ hlt
        have P1 := Lib.hid hp
        have KZ := Lib.hid (Blk.new wr 85 (permA fun _ => 0))
        have K1 := Lib.hid (Blk.new wr 85 (permA fun x => (prF M s k x : Int)))
        have F1 := Lib.hid (prF_P s ((setB_iff M s).1 H1.out).1 k).1
        have i1 : (0 : Int) ≤ (k : Int) := by omega
        have i2 : (k : Int) < (s.size : Int) := by omega
        have hba := ext_alloc wr (.cells (permA fun x => (prF M s k x : Int)) 85)
        have O6 := Lib.hid (O5.out.ext hba)
        have PS6 := Lib.hid (own_ext PS.out hba)
        have B6 := Lib.hid (ext_trans B5.out hba)
        have hw6 : w1.heap.size ≤ (wr.alloc (.cells (permA fun x => (prF M s k x : Int)) 85)).heap.size := Nat.le_trans hwl hba.size
        clear hp hba
        go_wp2_with (first
          | (refine wpList_perm rfl _ rfl g (k * 10) rfl (fun x => (prF M s k x : Int)) P1.out ?_)
          | (simp only [permA_zero]; refine wpList_store_row rfl 85 _ _ rfl wr.heap.size _ rfl rfl 85 _ KZ.out (by rw [permA_size]; exact size_perm) (by simp only [permA_size]) (permA_one _) ?_; rw [World.setRow_alloc_new])
          | (refine wpList_load_row rfl 85 _ rfl wr.heap.size rfl 85 (permA fun x => (prF M s k x : Int)) (0, 0) _ K1.out Try.underlying85 rfl (by rw [permA_size]; exact size_perm) ?_))
        refine (c_String (prF M s k) _ F1.out).mono ?_
        rintro e w7 ⟨rfl, hb7⟩
        have O7 := Lib.hid (O6.out.ext hb7)
        have PS7 := Lib.hid (own_ext PS6.out hb7)
        have B7 := Lib.hid (ext_trans B6.out hb7)
        have hw7 : w1.heap.size ≤ w7.heap.size := Nat.le_trans hw6 hb7.size
        clear hb7 O5 O6 PS PS6 B5 B6 KZ K1 P1
        have hlen : ((prL M s k).map Value.string).length ≤ 1000000000 := by rw [HLEN.out]; omega
        go_wp2_with (at_builtin; refine app1 _ rfl _ _ _ rfl w1.heap.size 9 Try.underlying48 info_str rfl _ _ rfl O7.out _ rfl rfl hlen (by omega) hw7 ?_; intro v' w9 hown9 hgr9)
        have hb9 := O7.out.below (Nat.le_refl _) hw7 (Below.refl w1.heap.size w7) hgr9
        refine ⟨⟨k + 1, by omega, by go_num, ?_, ?_, B7.out.trans (hb9.mono (by omega)), Nat.le_trans hw7 hb9.size⟩, by simp [intOf]; omega⟩
        · rw [prL_succ]; exact hown9
        · exact own_apart PS7.out O7.out (by decide) hgr9
      · have e : k = s.size := by omega
        subst e
        go_wp2_with fail
        go_ret
        refine ⟨_, rfl, ?_, B5.out⟩
        rw [HE.out]
        exact O5.out.lower (by omega)
set_option maxHeartbeats 1000000 in
theorem c_HasRepeat (A : Option Addr) (cA : Nat) (M : Mch) (s : ByteArray) (n : Int) (w : World) (hR : IsRots w (.slice A M.l.length cA) M.l) (hz : MSz M) (hs : s.size ≤ 9223372036854775807) : Calls Try.prog 16 #[mV A cA M, .string s, .int .i64 n] w fun e w' => e = .returned (.bool (repB M s n)) ∧ Below w.heap.size w w' := by
  have L0 := Lib.hid (MW.start M (Below.refl w.heap.size w) hR)
  have HZ := Lib.hid hz
  clear hR hz
  go_enter Try.func16, Try.ntmps16
  have y0 := L0.out.c0
  have y1 := L0.out.c1
  have y2 := L0.out.c2
  have y3 := L0.out.c3
  go_wp2_with fail
  refine (c_settingValid A cA M s _ L0.out.rot HZ.out hs).mono ?_
  rintro e w1 ⟨rfl, hb1⟩
  have L1 := Lib.hid (L0.out.ext hb1)
  clear hb1 y0 y1 y2 y3 L0
  cases h1 : setB M s with
  | false =>
    have HE := Lib.hid (repB_no (n := n) h1)
    clear h1
    go_wp2_with fail
    go_ret
    exact ⟨by rw [HE.out]; rfl, L1.out.bel⟩
  | true =>
    by_cases hn0 : n < 0
    · have HE := Lib.hid (repB_out (M := M) (s := s) (n := n) (by omega))
      clear h1
      go_wp2_with fail
      go_ret
      exact ⟨by rw [HE.out]; rfl, L1.out.bel⟩
    · by_cases hn1 : (s.size : Int) ≤ n
      · have HE := Lib.hid (repB_out (M := M) (s := s) (n := n) (by omega))
        clear h1
        go_wp2_with fail
        go_ret
        exact ⟨by rw [HE.out]; rfl, L1.out.bel⟩
      · obtain ⟨k, rfl⟩ : ∃ k : Nat, n = (k : Int) := ⟨n.toNat, by omega⟩
        have hk : k < s.size := by omega
        have HE := Lib.hid (repB_at h1 hk)
        have H1 := Lib.hid h1
        obtain ⟨f1, f2, f3, f4⟩ := win_facts (setB_win h1)
        have hs3 : s.size ≤ 3 := by omega
        have hl1 : w.heap.size < w1.heap.size := L1.out.lt
        have y0 := L1.out.c0
        have y1 := L1.out.c1
        have y2 := L1.out.c2
        have y3 := L1.out.c3
        have i1 : (0 : Int) ≤ (k : Int) := by omega
        have i2 : (k : Int) < (s.size : Int) := by omega
        clear h1 f1 f2 f3 f4 hn0 hn1
        go_wp2_with fail
        refine (c_dayProducts A cA M s _ L1.out.rot H1.out).mono ?_
        rintro e w4 ⟨vP, rfl, hPs, hb4⟩
        obtain ⟨AP, cP, rfl⟩ := Own.slice' hPs
        obtain ⟨g, rfl, hg, hp⟩ := (ownP_is hPs (by omega)).at_ hk
        have P1 := Lib.hid hp
        have B4 := Lib.hid (L1.out.ext hb4).bel
        have F1 := Lib.hid (prF_P s ((setB_iff M s).1 H1.out).1 k).1
        clear hb4 hPs hp L1 y0 y1 y2 y3
        go_wp2_with (refine wpList_perm rfl _ rfl g (k * 10) rfl (fun x => (prF M s k x : Int)) P1.out ?_)
        refine (c_fixes (prF M s k) _ F1.out).mono ?_
        rintro e w5 ⟨rfl, hb5⟩
        have B5 := Lib.hid (ext_trans B4.out hb5)
        clear hb5
        go_wp2_with fail
        go_ret
        exact ⟨by rw [HE.out]; rfl, B5.out⟩
set_option maxHeartbeats 1000000 in
theorem c_RepeatCount (A : Option Addr) (cA : Nat) (M : Mch) (s : ByteArray) (w : World) (hR : IsRots w (.slice A M.l.length cA) M.l) (hz : MSz M) (hs : s.size ≤ 9223372036854775807) : Calls Try.prog 19 #[mV A cA M, .string s] w fun e w' => e = .returned (.int .i64 (cntI M s)) ∧ Below w.heap.size w w' := by
  have L0 := Lib.hid (MW.start M (Below.refl w.heap.size w) hR)
  have HZ := Lib.hid hz
  clear hR hz
  go_enter Try.func19, Try.ntmps19
  have y0 := L0.out.c0
  have y1 := L0.out.c1
  have y2 := L0.out.c2
  have y3 := L0.out.c3
  go_wp2_with fail
  refine (c_settingValid A cA M s _ L0.out.rot HZ.out hs).mono ?_
  rintro e w1 ⟨rfl, hb1⟩
  have L1 := Lib.hid (L0.out.ext hb1)
  clear hb1 y0 y1 y2 y3 L0
  cases h1 : setB M s with
  | false =>
    have HE := Lib.hid (cntI_no h1)
    clear h1
    go_wp2_with fail
    go_ret
    exact ⟨by rw [HE.out]; rfl, L1.out.bel⟩
  | true =>
    have HE := Lib.hid (cntI_ok h1)
    have H1 := Lib.hid h1
    obtain ⟨f1, f2, f3, f4⟩ := win_facts (setB_win h1)
    have hs3 : s.size ≤ 3 := by omega
    have y0 := L1.out.c0
    have y1 := L1.out.c1
    have y2 := L1.out.c2
    have y3 := L1.out.c3
    clear h1 f1 f2 f3 f4
    go_wp2_with fail
    refine (c_dayProducts A cA M s _ L1.out.rot H1.out).mono ?_
    rintro e w4 ⟨vP, rfl, hPs, hb4⟩
    obtain ⟨AP, cP, rfl⟩ := Own.slice' hPs
    have PS := Lib.hid (ownP_is hPs (by omega))
    have B4 := Lib.hid (L1.out.ext hb4).bel
    clear hb4 hPs L1 y0 y1 y2 y3
    go_wp2_with fail
    go_loopw [5, 16] (fun o i wr => ∃ k : Nat, k ≤ s.size ∧ i = .int .i64 k ∧ o = .int .i64 (cntF M s k) ∧ IsPs wr (.slice AP s.size cP) s.size (prF M s) ∧ Below w.heap.size w wr) (fun _ i _ => s.size - (intOf i).toNat)
    case atStart => exact ⟨0, Nat.zero_le _, rfl, rfl, PS.out, B4.out⟩
    case round =>
      clear PS B4
      obtain ⟨k, hk, rfl, rfl, hps, hB⟩ := hrel
      have PS := Lib.hid hps
      have B5 := Lib.hid hB
      have hcl := cntF_le M s k
      clear hps hB
      by_cases hlt : k < s.size
      · obtain ⟨g, rfl, hg, hp⟩ := PS.out.at_ hlt
        have P1 := Lib.hid hp
        have KZ := Lib.hid (Blk.new wr 85 (permA fun _ => 0))
        have K1 := Lib.hid (Blk.new wr 85 (permA fun x => (prF M s k x : Int)))
        have F1 := Lib.hid (prF_P s ((setB_iff M s).1 H1.out).1 k).1
        have i1 : (0 : Int) ≤ (k : Int) := by omega
        have i2 : (k : Int) < (s.size : Int) := by omega
        have hba := ext_alloc wr (.cells (permA fun x => (prF M s k x : Int)) 85)
        have PS6 := Lib.hid (PS.out.ext hba)
        have B6 := Lib.hid (ext_trans B5.out hba)
        clear hp hba
        go_wp2_with (first
          | (refine wpList_perm rfl _ rfl g (k * 10) rfl (fun x => (prF M s k x : Int)) P1.out ?_)
          | (simp only [permA_zero]; refine wpList_store_row rfl 85 _ _ rfl wr.heap.size _ rfl rfl 85 _ KZ.out (by rw [permA_size]; exact size_perm) (by simp only [permA_size]) (permA_one _) ?_; rw [World.setRow_alloc_new])
          | (refine wpList_load_row rfl 85 _ rfl wr.heap.size rfl 85 (permA fun x => (prF M s k x : Int)) (0, 0) _ K1.out Try.underlying85 rfl (by rw [permA_size]; exact size_perm) ?_))
        refine (c_fixes (prF M s k) _ F1.out).mono ?_
        rintro e w7 ⟨rfl, hb7⟩
        have PS7 := Lib.hid (PS6.out.ext hb7)
        have B7 := Lib.hid (ext_trans B6.out hb7)
        have hcs : cntF M s (k + 1) = cntF M s k + (if fixB (prF M s k) = true then 1 else 0) := rfl
        have HCS := Lib.hid hcs
        clear hb7 PS PS6 B5 B6 KZ K1 P1 hcs
        cases hf : fixB (prF M s k) with
        | true =>
          have HF := Lib.hid hf
          clear hf
          go_wp2_with fail
          exact ⟨⟨k + 1, by omega, by go_num, by rw [HCS.out, HF.out]; go_num, PS7.out, B7.out⟩, by simp [intOf]; omega⟩
        | false =>
          have HF := Lib.hid hf
          clear hf
          go_wp2_with fail
          exact ⟨⟨k + 1, by omega, by go_num, by rw [HCS.out, HF.out]; rfl, PS7.out, B7.out⟩, by simp [intOf]; omega⟩
      · have e : k = s.size := by omega
        subst e
        go_wp2_with fail
        go_ret
        exact ⟨by rw [HE.out]; rfl, B5.out⟩
end Go.Proofs.Ytnfeddnkokocfaa
