/- Contract of KeyPerms (impl). -/
import Derived.Test.YtnfeddnkokocfaaKeys
import Derived.Test.YtnfeddnkokocfaaProd
import Derived.Test.YtnfeddnkokocfaaQT
namespace Go.Proofs.Ytnfeddnkokocfaa
set_option linter.unusedVariables false
set_option linter.unusedSimpArgs false
open Go.RowKit
attribute [local go_sem] Ext.cell
attribute [local go_sem] Oper.semAt_some
open BigFrame

theorem add_zero_addr (b j : Nat) : (⟨b, 0, none⟩ : Addr).add j = ⟨b, j, none⟩ := by unfold Addr.add; split <;> simp_all
/-- the frame of a round, its variables laid -/
noncomputable def kpFr (A : Option Addr) (cA : Nat) (M : Mch) (s : ByteArray) (w : World) (N b Bx BL : Nat) (A4 : Option Addr) (c4 j bp : Nat) : Act :=
  { tmps := #[mV A cA M, .string s, .int .i64 N, .pointer (some ⟨w.heap.size, 0, none⟩), undef, .pointer (some ⟨w.heap.size + 1, 0, none⟩), .slice none 0 0, .pointer (some ⟨BL, 0, none⟩), undef, .pointer (some ⟨bp, 0, none⟩),
      mV A cA M, .string s, .bool true, .bool false, .bool false, .int .i64 N, .bool false, .bool false, .bool false, .int .i64 N, .bool false, .bool false, .int .i64 N, .slice A4 0 c4, .int .i64 N, .bool false, undef, mV A cA M,
      .pointer (some ⟨b, 0, none⟩), .string s, .func (.func 116) #[] #[.pointer (some ⟨Bx, 0, none⟩), .pointer (some ⟨Bx + 1, 0, none⟩)], .string (it (stepS M.l) (j + 1) s), pV (kF M (it (stepS M.l) (j + 1) s)),
      undef, undef, undef, undef, undef, undef, undef, undef, undef, undef], defers := [] }
set_option maxHeartbeats 400000 in
set_option maxRecDepth 100000 in
theorem c_KeyPerms (A : Option Addr) (cA : Nat) (M : Mch) (s : ByteArray) (n : Int) (w : World) (hR : IsRots w (.slice A M.l.length cA) M.l) (hz : MSz M) (hs : s.size ≤ 9223372036854775807) : Calls Try.prog 27 #[mV A cA M, .string s, .int .i64 n] w fun e w' => ∃ v, e = .returned v ∧ Own w' w.heap.size 9 v ((kpR M s n).map .string) ∧ Below w.heap.size w w' := by
  have L0 := Lib.hid ((MW.start M (Below.refl w.heap.size w) hR).ext (ext_alloc _ (.cells #[.int .i64 n] 3)))
  have K0 := Lib.hid (Blk.new (w.alloc (.cells #[.slice A M.l.length cA, .string M.rf, .string M.rg, .string M.pl] 33)) 3 #[.int .i64 n])
  rw [World.size_alloc] at K0
  have HZ := Lib.hid hz
  have hRw := Lib.hid hR
  clear hR hz
  refine calls_marks Try.func27 rfl ?_
  simp only [Try.ntmps27, List.size_toArray, List.length_cons, List.length_nil, Nat.reduceAdd, Nat.reduceSub, Array.replicate_succ, Array.replicate_zero, List.push_toArray, List.append_toArray, List.nil_append, List.cons_append]
  have y0 := L0.out.c0
  have y1 := L0.out.c1
  have y2 := L0.out.c2
  have y3 := L0.out.c3
  have y4 := K0.out.cell 0
  go_upto_region 1 with fail
  generalize ((w.alloc (.cells #[.slice A M.l.length cA, .string M.rf, .string M.rg, .string M.pl] 33)).alloc (.cells #[.int .i64 n] 3)) = W0 at *
  go_wp2_with fail
  refine (c_settingValid A cA M s _ L0.out.rot HZ.out hs).mono ?_
  rintro e w1 ⟨rfl, hb1⟩
  have L1 := Lib.hid (L0.out.ext hb1)
  have K1 := Lib.hid (K0.out.ext hb1)
  clear hb1 y0 y1 y2 y3 y4 L0 K0
  cases h1 : setB M s with
  | false =>
    have HE := Lib.hid (kpR_no (M := M) (s := s) (n := n) (by rw [h1]; rfl))
    clear h1
    go_wp2_with fail
    refine marks_ret (.slice none 0 0) (by simp [results, Try.results27, go_sem]) rfl ⟨_, rfl, ?_, L1.out.bel⟩
    rw [HE.out]
    exact Own.nil _ _ _
  | true =>
    have y4 : w1.cell? ⟨w.heap.size + 1, 0, none⟩ = some (.int .i64 n) := K1.out.cell 0
    by_cases h2 : 0 ≤ n ∧ n ≤ 60
    · obtain ⟨k, rfl⟩ : ∃ k : Nat, n = (k : Int) := ⟨n.toNat, by omega⟩
      have hk60 : k ≤ 60 := by omega
      have HE := Lib.hid (kpR_ok h1 hk60)
      have H1 := Lib.hid h1
      clear h1
      go_upto_region 4 with (at_make; go_loud (refine make0 _ rfl _ _ _ rfl w1.heap.size 9 Try.underlying48 info_str _ _ _ rfl rfl (by omega) (by omega) (by omega) (Nat.le_refl _) ?_; intro v w3 hown hb3; obtain ⟨A4, c4, rfl⟩ := hown.slice; have HO := Lib.hid hown; have HB := Lib.hid hb3; clear hown hb3))
      have L3 := Lib.hid ((L1.out.ext HB.out).ext (ext_alloc w3 (.cells #[.slice A4 ([] : List Value).length c4] 48)))
      have K3 := Lib.hid ((K1.out.ext HB.out).ext (ext_alloc w3 (.cells #[.slice A4 ([] : List Value).length c4] 48)))
      have O3 := Lib.hid (HO.out.ext (ext_alloc w3 (.cells #[.slice A4 ([] : List Value).length c4] 48)))
      have X3 := Lib.hid (Blk.new w3 48 #[.slice A4 ([] : List Value).length c4])
      have hz3 : w.heap.size < w3.heap.size := (L1.out.ext HB.out).lt
      have HGM : Hid (∀ g, (Value.slice A4 ([] : List Value).length c4).ownBlock = some g → w1.heap.size ≤ g ∧ g < w3.heap.size) := fun g hg => HO.out.blk_lt hg
      have hlo : w.heap.size + 1 < w1.heap.size := K1.out.lt
      have hlo3 : w1.heap.size ≤ w3.heap.size := HB.out.size
      have hz4 : (w3.alloc (.cells #[.slice A4 ([] : List Value).length c4] 48)).heap.size = w3.heap.size + 1 := by simp
      have HZ4 := Lib.hid hz4
      clear HO HB L1 K1 y4 hz4
      simp only [List.length_nil] at *
      generalize w3.alloc (.cells #[.slice A4 0 c4] 48) = W4 at *
      generalize w3.heap.size = BL at *
      generalize w1.heap.size = lo at *
      have d1 : decide ((k : Int) < 0) = false := decide_eq_false (by omega)
      have d2 : decide (60 < (k : Int)) = false := decide_eq_false (by omega)
      have y4 : W4.cell? ⟨w.heap.size + 1, 0, none⟩ = some (.int .i64 (k : Int)) := K3.out.cell 0
      by_cases h0 : k = 0
      · have t1 : ((k : Int) == 0) = true := by rw [beq_iff_eq]; omega
        have y5 : W4.cell? ⟨BL, 0, none⟩ = some (.slice A4 0 c4) := X3.out.cell 0
        have H0 := Lib.hid h0
        clear h0
        go_wp2_with fail
        refine marks_ret (.slice A4 0 c4) (by simp [results, Try.results27, go_sem]) rfl ⟨_, rfl, ?_, L3.out.bel⟩
        rw [HE.out, H0.out]
        exact O3.out.lower (by omega)
      · have t1 : ((k : Int) == 0) = false := by rw [beq_eq_false_iff_ne]; omega
        have y0 := L3.out.c0
        have y1 := L3.out.c1
        have y2 := L3.out.c2
        have y3 := L3.out.c3
        have H0 : Hid (k ≠ 0) := h0
        clear h0
        go_wp2_with fail
        refine (c_newAssembly A cA M _ L3.out.rot ((setB_iff M s).1 H1.out).1).mono ?_
        rintro e w5 ⟨b, rfl, hge, hAs, hb5⟩
        have HK := Lib.hid (kReady.of (s := s) hb5 hge hAs)
        clear hb5 hge hAs y0 y1 y2 y3 y4
        go_wp2_with fail
        refine (c_keys _ _ _).mono ?_
        rintro e w6 ⟨rfl, rfl⟩
        generalize kW w5 b s = W6 at *
        generalize w5.heap.size = Bx at *
        have hk6 := HK.out
        clear HK
        go_wp2_with fail
        have HA : Hid (∀ b o, A = some ⟨b, o, none⟩ → b < w.heap.size) := by
          obtain ⟨bR, oR, hA0, hbR⟩ := hRw.out.blk (by have := win_facts (setB_win H1.out); omega)
          exact fun b o e => by rw [hA0] at e; injection e with e; injection e with e; omega
        obtain ⟨q1, q2, q3, q4, q5, q6, q7⟩ := hk6
        have hz4 := HZ4.out
        have E6 : Hid (KJ A cA M w b Bx BL lo 48 9 1 0 [] (.slice A4 0 c4) W6) := ⟨X3.out.ext q4, (Own.lower (O3.out.ext q4) (by omega)), fun g hg => .inl (HGM.out g hg), q1, ext_trans L3.out.bel q4⟩
        have N6 := Lib.hid (K3.out.ext q4)
        have hq1 := q1.2.1
        have HL : Hid (KL A w b Bx BL lo) := ⟨by omega, hlo3, by omega, q6, HA.out⟩
        clear K3 O3 X3 L3 q1 q4 HZ4 HGM
        refine (wpIn_wide (n := 6)).1 ?_
        refine wpIn_rangeFunc_st (F := Fence.wide) rfl (by omega) (gf := 116) (lb := #[.pointer (some ⟨Bx, 0, none⟩), .pointer (some ⟨Bx + 1, 0, none⟩)]) rfl trivial (enters_of Try.func116 (by kernel_rfl) rfl)
          (c_keysIt A cA M b Bx (Bx + 1) s (6 - 1) H1.out (by omega) (by omega) (fun b' o e => by have := HA.out b' o e; omega)) (fun k => rfl) (by omega) q2 q3 k 0 (Nat.pos_of_ne_zero H0.out)
          (fun j W => ∃ v, KJ A cA M w b Bx BL lo 48 9 1 j ((kpL M s j).map .string) v W ∧ Blk W (w.heap.size + 1) 3 #[.int .i64 (k : Int)])
          (fun j W => j = k ∧ ∃ v, KJ A cA M w b Bx BL lo 48 9 1 j ((kpL M s j).map .string) v W)
          (fun j X Y r hr h hg => h.imp fun v h => ⟨h.1.grownR hg (by omega) (by omega) HL.out, h.2.grownR hg (by omega)⟩) (fun j X Y r hr h hg => ⟨h.1, h.2.imp fun v h => h.grownR hg (by omega) (by omega) HL.out⟩)
          (fun j X h => by obtain ⟨v, h, _⟩ := h; exact h.st) ⟨_, E6.out, N6.out⟩
          (fun j a₁ W => (∃ v, KJ A cA M w b Bx BL lo 48 9 1 j ((kpL M s j).map .string) v W ∧ Blk W (w.heap.size + 1) 3 #[.int .i64 (k : Int)]) ∧ ∃ bp, Blk W bp 85 (permA fun i => (kF M (it (stepS M.l) (j + 1) s) i : Int)) ∧ Bx + 4 ≤ bp ∧ a₁ = kpFr A cA M s w k b Bx BL A4 c4 j bp)
          (fun j a₁ X Y r hr h hg => ⟨h.1.imp fun v h => ⟨h.1.grownR hg (by omega) (by omega) HL.out, h.2.grownR hg (by omega)⟩, h.2.imp fun bp h2 => ⟨h2.1.grownR hg (by omega), h2.2⟩⟩) ?assign ?body ?stop
        case assign =>
          intro l j W K hE hjN hsz hK
          have KZ := Lib.hid (Blk.new W 85 (permA fun _ => 0))
          unfold kE
          simp only [List.zip_toArray, List.zip_cons_cons, List.zip_nil_right, List.foldl_toArray, List.foldl_cons, List.foldl_nil, List.setIfInBounds_toArray, List.set_cons_succ, List.set_cons_zero]
          have HE' := Lib.hid hE
          have HK : Hid _ := Lib.hid hK
          clear hE hK
          gi_wp2_with (simp only [permA_zero]; refine in_store_row (WideF.round l) rfl 85 _ _ rfl W.heap.size _ rfl rfl 85 _ KZ.out (by rw [permA_size]; exact size_perm) (by simp only [permA_size]) (permA_one _) ?_; rw [World.setRow_alloc_new])
          simp only [Act.put]
          have k1 := Blk.new W 85 (permA fun i => (kF M (it (stepS M.l) (j + 1) s) i : Int))
          obtain ⟨bp, hbp⟩ : ∃ x, W.heap.size = x := ⟨_, rfl⟩
          have hle : Bx + 4 ≤ bp := by omega
          rw [hbp] at k1 ⊢
          refine HK.out _ _ ⟨HE'.out.imp fun v h => ⟨h.1.ext (ext_alloc W _), h.2.ext (ext_alloc W _)⟩, bp, k1, hle, rfl⟩ (ext_alloc W _)
        case body =>
          rintro l j _ W ⟨⟨v, hE, hN⟩, bp, hP, hbp, rfl⟩ hjN hsz hcB hfB
          obtain ⟨AV, cV, rfl⟩ := Own.slice' hE.row
          have o0 : W.cell? ⟨BL, 0, none⟩ = some (.slice AV j cV) := hE.box.cell 0
          have hbl : bp < W.heap.size := hP.lt
          have hol : BL < W.heap.size := hE.box.lt
          have hil : Bx + 1 < W.heap.size := hE.st.2.2.1
          have HE1 := Lib.hid hE
          have HN1 := Lib.hid hN
          have HP1 := Lib.hid hP.permAt
          have HKP := Lib.hid (kF_P (it (stepS M.l) (j + 1) s) ((setB_iff M s).1 H1.out).1).1
          have hjk := hjN
          unfold kpFr
          clear hE hN hP hcB hfB
          gi_wp2_with fail
          refine wpIn_region_alloc 2 3 _ (WideF.round l) (by kernel_rfl) (by kernel_rfl) (by kernel_rfl) rfl ?_
          dsimp only [List.take, List.drop]
          repeat (first
            | (go_big_quiet_want
               refine quiet_perm _ rfl bp 0 rfl (fun x => (kF M (it (stepS M.l) (j + 1) s) x : Int)) HP1.out ?_
               simp only [Act.put, List.setIfInBounds_toArray, List.set_cons_succ, List.set_cons_zero]
               go_big_quiet_on)
            | go_big_quiet_step ((go_at_call 71; exact Ext.call _ (c_String _ _ HKP.out))))
          refine wpQuiet_nil ?_
          refine atAlloc1 _ 9 _ rfl Try.underlying48 info_str (by omega) (by omega) #[.string (pS (kF M (it (stepS M.l) (j + 1) s)))] rfl rfl ?_
          intro w7 hb7
          have hba := ext_trans hb7 (ext_alloc w7 (.cells #[.string (pS (kF M (it (stepS M.l) (j + 1) s)))] 9))
          have E8 := Lib.hid (HE1.out.ext hba)
          have N8 := Lib.hid (HN1.out.ext hba)
          have S8 := Lib.hid (Stays.ext (Bw := Bx + 1) hba hil)
          have hz8 : W.heap.size ≤ (w7.alloc (.cells #[.string (pS (kF M (it (stepS M.l) (j + 1) s)))] 9)).heap.size := hba.size
          have hz9 : w.heap.size ≤ (w7.alloc (.cells #[.string (pS (kF M (it (stepS M.l) (j + 1) s)))] 9)).heap.size := by omega
          have hc8 := Lib.hid (cell_one_new w7 (.string (pS (kF M (it (stepS M.l) (j + 1) s)))) 9)
          clear hba hb7 o0 HE1 HN1
          gi_upto_region 9 with (gi_at_builtin; go_loud (refine inAppend (WideF.round l) rfl _ _ _ rfl w.heap.size 9 Try.underlying48 info_str rfl (by omega) _ j _ rfl E8.out.row [.string (pS (kF M (it (stepS M.l) (j + 1) s)))] w7.heap.size rfl rfl (fun j u hj => by (have := hc8.out j u hj; rwa [add_zero_addr] at this)) (fun u hu => by (rw [List.mem_singleton.1 hu]; rfl)) (by omega) (by omega) hz9 ?_; intro v' w9 hrow hg9 hob; obtain ⟨A9, c9, rfl⟩ := Own.slice' hrow; have kb := E8.out.boxAt HL.out hg9; have b0 := kb.cell 0; have b1 := kb.free 0; have HROW := Lib.hid hrow; have HG9 := Lib.hid hg9; have HOB := Lib.hid hob; clear hrow hg9 hob kb))
          have E9 := Lib.hid ((E8.out.app (m := 1) HL.out HROW.out HG9.out HOB.out (by omega)).congr (kpL_succ M s j).symm)
          have N9 := Lib.hid (E8.out.old HL.out HG9.out N8.out hlo (.slice A9 (j + 1) c9))
          have S9 := Lib.hid (S8.out.trans (E8.out.stays HL.out HG9.out (.slice A9 (j + 1) c9)))
          clear E8 N8 S8 b0 b1 HROW HG9 HOB hz8 hz9 hc8
          generalize w9.setCell ⟨BL, 0, none⟩ (.slice A9 (j + 1) c9) = w10 at *
          have c10 : w10.cell? ⟨BL, 0, none⟩ = some (.slice A9 (j + 1) c9) := E9.out.box.cell 0
          have n10 : w10.cell? ⟨w.heap.size + 1, 0, none⟩ = some (.int .i64 (k : Int)) := N9.out.cell 0
          by_cases hend : j + 1 = k
          · have t2 : ((j : Int) + 1 == (k : Int)) = true := by rw [beq_iff_eq]; omega
            have HEnd := Lib.hid hend
            clear hend
            gi_wp2_with fail
            exact ⟨rfl, S9.out.1, HEnd.out, _, E9.out⟩
          · have t2 : ((j : Int) + 1 == (k : Int)) = false := by rw [beq_eq_false_iff_ne]; omega
            gi_wp2_with fail
            exact ⟨S9.out.1, S9.out.2.1, S9.out.2.2, by omega, _, E9.out, N9.out⟩
        case stop =>
          rintro D j W ⟨rfl, v, hE⟩ rfl hD
          refine wpIn_wide.2 ?_
          obtain ⟨AV, cV, rfl⟩ := Own.slice' hE.row
          have EE := Lib.hid hE
          have HD := Lib.hid hD
          have o0 : W.cell? ⟨BL, 0, none⟩ = some (.slice AV j cV) := hE.box.cell 0
          clear hE hD
          go_wp2_with fail
          have E11 := Lib.hid (EE.out.grownR (grownBy_putObj' W W6.heap.size (.deferred none)) (by omega) (by omega) HL.out)
          refine marks_ret1 (.slice AV j cV) W6.heap.size rfl HD.out (by simp [results, Try.results27, go_sem]) ⟨_, rfl, ?_, E11.out.bel⟩
          have hx := E11.out.row
          rw [HE.out]
          show World.ownsRow _ _ _ 1 _ _ _
          rw [List.length_map, kpL_len]
          exact hx
    · have HE := Lib.hid (kpR_no (M := M) (s := s) (n := n) (by rw [h1, inB_false h2]; rfl))
      clear h1
      by_cases h3 : n < 0
      · clear h2
        go_wp2_with fail
        refine marks_ret (.slice none 0 0) (by simp [results, Try.results27, go_sem]) rfl ⟨_, rfl, ?_, L1.out.bel⟩
        rw [HE.out]
        exact Own.nil _ _ _
      · have h4 : 60 < n := by omega
        clear h2
        go_wp2_with fail
        refine marks_ret (.slice none 0 0) (by simp [results, Try.results27, go_sem]) rfl ⟨_, rfl, ?_, L1.out.bel⟩
        rw [HE.out]
        exact Own.nil _ _ _
end Go.Proofs.Ytnfeddnkokocfaa
