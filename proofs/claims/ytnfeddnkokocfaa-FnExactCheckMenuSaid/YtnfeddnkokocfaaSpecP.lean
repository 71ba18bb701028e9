/- SpecWheels, SpecWheels2, in one text. -/
import Derived.Test.YtnfeddnkokocfaaSpecPerm
import Derived.Test.YtnfeddnkokocfaaRotors
namespace Go.Proofs.Ytnfeddnkokocfaa
set_option linter.unusedVariables false
set_option linter.unusedSimpArgs false
/-! SpecWheels -/
section
open Go.RowKit

theorem bt_one {x : Int} (h0 : 0 ≤ x) (h1 : x ≤ 255) : bt (strOfNums [x]) 0 = x := by
  rw [bt_strOfNums [x] 0 (by simp) (by simpa using h0) (by simpa using h1)]; rfl
theorem size_one (x : Int) : (strOfNums [x]).size = 1 := by rw [strOfNums_size]; rfl
theorem hasB_app (a b : ByteArray) (x : Int) : hasB (a ++ b) x = (hasB a x || hasB b x) := by
  rw [Bool.eq_iff_iff, Bool.or_eq_true, hasB_iff, hasB_iff, hasB_iff]
  constructor
  · rintro ⟨j, hj, e⟩
    rw [bt_append] at e
    rw [ByteArray.size_append] at hj
    by_cases h : j < a.size
    · rw [if_pos h] at e; exact .inl ⟨j, h, e⟩
    · rw [if_neg h] at e; exact .inr ⟨j - a.size, by omega, e⟩
  · rintro (⟨j, hj, e⟩ | ⟨j, hj, e⟩)
    · exact ⟨j, by rw [ByteArray.size_append]; omega, by rw [bt_append, if_pos hj]; exact e⟩
    · exact ⟨a.size + j, by rw [ByteArray.size_append]; omega, by rw [bt_append, if_neg (by omega), Nat.add_sub_cancel_left]; exact e⟩
theorem hasB_one {x : Int} (y : Int) (h0 : 0 ≤ x) (h1 : x ≤ 255) : hasB (strOfNums [x]) y = decide (x = y) := by
  rw [Bool.eq_iff_iff, hasB_iff, decide_eq_true_eq]
  constructor
  · rintro ⟨j, hj, e⟩
    rw [size_one] at hj
    have : j = 0 := by omega
    subst this
    rw [bt_one h0 h1] at e; exact e
  · intro e; exact ⟨0, by rw [size_one]; omega, by rw [bt_one h0 h1]; exact e⟩
/-- the cycle of a letter under a plugboard -/
def cyc (p : ByteArray) (i : Nat) : ByteArray := if pn p i = i then strOfNums [97 + (i : Int)] else strOfNums [97 + (i : Int)] ++ strOfNums [97 + (pn p i : Int)]
theorem cyc_size (p : ByteArray) (i : Nat) : (cyc p i).size = if pn p i = i then 1 else 2 := by
  unfold cyc; split
  · exact size_one _
  · rw [ByteArray.size_append, size_one, size_one]
theorem cyc_has {p : ByteArray} {i : Nat} (hi : i < 10) (hp : pn p i < 10) {m : Nat} (_hm : m < 10) : hasB (cyc p i) (97 + (m : Int)) = (decide (i = m) || decide (pn p i = m)) := by
  unfold cyc
  split
  · rename_i e
    rw [hasB_one _ (by omega) (by omega), e]
    by_cases h : i = m
    · subst h; simp
    · rw [decide_eq_false (by omega), decide_eq_false h]; rfl
  · rw [hasB_app, hasB_one _ (by omega) (by omega), hasB_one _ (by omega) (by omega)]
    congr 1 <;> · rw [decide_eq_decide]; omega
set_option maxHeartbeats 400000 in
theorem c_l3Cycle (p : ByteArray) (i : Nat) (w : World) (h : plugB p = true) (hi : i < 10) : Calls Try.prog 167 #[.string p, .int .i64 i] w fun e w' => e = .returned (.string (cyc p i)) ∧ Below w.heap.size w w' := by
  obtain ⟨hp, hq⟩ := (plugB_iff p).1 h
  have HP := Lib.hid hp
  have HQ := Lib.hid (hq i hi)
  have hpl := pn_lt hp hi
  have E1 := Lib.hid (show (i : Int) % 10 = i by omega)
  have E2 := Lib.hid (show (pn p i : Int) % 10 = pn p i by omega)
  clear hp hq h
  go_enter Try.func167, Try.ntmps167
  go_wp2_with fail
  refine (c_l1Letter _ _ (by omega) (by omega)).mono ?_
  rintro e w1 ⟨rfl, hb1⟩
  rw [E1.out]
  have B1 := Lib.hid hb1
  clear hb1
  have z1 := size_one (97 + (i : Int))
  go_wp2_with (go_at_call 78; refine (c_l2ImageP p i _ HP.out hi).mono ?_; rintro e w' ⟨rfl, rfl⟩)
  go_loopg [5, 6] 1 (fun gk o n wr => ((gk = 1 ∧ o = .string (strOfNums [97 + (i : Int)]) ∧ n = .int .i64 (pn p i)) ∨ (gk = 0 ∧ pn p i ≠ i ∧ o = .string (strOfNums [97 + (i : Int)] ++ strOfNums [97 + (pn p i : Int)]) ∧ n = .int .i64 i)) ∧ Below w.heap.size w wr)
  case atStart => exact ⟨.inl ⟨rfl, rfl, rfl⟩, B1.out⟩
  case round =>
    obtain ⟨⟨hg, rfl, rfl⟩ | ⟨hg, hne, rfl, rfl⟩, hb⟩ := hrel
    · have HB := Lib.hid hb
      clear hb
      by_cases he : pn p i = i
      · have t1 : ((pn p i : Int) != (i : Int)) = false := by rw [he]; simp
        have HE := Lib.hid he
        clear he
        go_wp2_with fail
        go_ret
        exact ⟨by unfold cyc; rw [if_pos HE.out]; rfl, HB.out⟩
      · have t1 : ((pn p i : Int) != (i : Int)) = true := by rw [bne_iff_ne]; omega
        have HE := Lib.hid he
        clear he
        go_wp2_with fail
        refine (c_l1Letter _ _ (by omega) (by omega)).mono ?_
        rintro e w2 ⟨rfl, hb2⟩
        rw [E2.out]
        have B2 := Lib.hid (ext_trans HB.out hb2)
        clear hb2
        have z2 := size_one (97 + (pn p i : Int))
        go_wp2_with (go_at_call 78; refine (c_l2ImageP p (pn p i) _ HP.out hpl).mono ?_; rintro e w' ⟨rfl, rfl⟩; rw [HQ.out])
        go_roundg 0
        case measure => omega
        case rel => exact ⟨.inr ⟨rfl, HE.out, rfl, rfl⟩, B2.out⟩
    · have HE := Lib.hid hne
      clear hne
      go_wp2_with fail
      go_ret
      exact ⟨by unfold cyc; rw [if_neg HE.out]; rfl, hb⟩
theorem gS_app (L : List ByteArray) (x : ByteArray) : gS (L ++ [x]) L.length = x := by
  simp [gS, List.getD_eq_getElem?_getD]
/-- what the loop of CyclesOf has gathered below i -/
structure CInv (p : ByteArray) (i : Nat) (L : List ByteArray) (s : ByteArray) : Prop where
  has : ∀ m : Nat, m < 10 → hasB s (97 + (m : Int)) = decide (m < i ∨ pn p m < i)
  cnt : L.countP (fun x => decide (x.size = 1)) + moved p i = i
  len : L.length ≤ i
  siz : s.size ≤ 2 * i
  all : ∀ x, x ∈ L → x.size ≤ 2
theorem CInv.skip {p : ByteArray} (h : plugB p = true) {i : Nat} (hi : i < 10) {L : List ByteArray} {s : ByteArray} (hc : CInv p i L s) (hl : pn p i < i) : CInv p (i + 1) L s := by
  obtain ⟨hp, hq⟩ := (plugB_iff p).1 h
  refine ⟨fun m hm => ?_, ?_, by have := hc.len; omega, by have := hc.siz; omega, hc.all⟩
  · rw [hc.has m hm, decide_eq_decide]
    have hqm := hq m hm
    constructor
    · omega
    · rintro (h1 | h1)
      · by_cases e : m = i
        · subst e; exact .inr hl
        · exact .inl (by omega)
      · by_cases e : pn p m = i
        · rw [e] at hqm; rw [hqm] at hl; exact .inl hl
        · exact .inr (by omega)
  · have := hc.cnt
    simp only [moved]; rw [if_neg (by omega)]; omega
theorem CInv.add {p : ByteArray} (h : plugB p = true) {i : Nat} (hi : i < 10) {L : List ByteArray} {s : ByteArray} (hc : CInv p i L s) (hl : i ≤ pn p i) : CInv p (i + 1) (L ++ [cyc p i]) (s ++ cyc p i) := by
  obtain ⟨hp, hq⟩ := (plugB_iff p).1 h
  have hz := cyc_size p i
  refine ⟨fun m hm => ?_, ?_, by have := hc.len; simp; omega, ?_, fun x hx => ?_⟩
  · rw [hasB_app, hc.has m hm, cyc_has hi (pn_lt hp hi) hm, ← Bool.decide_or, ← Bool.decide_or, decide_eq_decide]
    have hqm := hq m hm
    have hqi := hq i hi
    constructor
    · rintro ((h1 | h1) | (h1 | h1))
      · exact .inl (by omega)
      · exact .inr (by omega)
      · exact .inl (by omega)
      · exact .inr (by rw [← h1, hqi]; omega)
    · rintro (h1 | h1)
      · by_cases e : m = i
        · exact .inr (.inl e.symm)
        · exact .inl (.inl (by omega))
      · by_cases e : pn p m = i
        · exact .inr (.inr (by rw [← e]; exact hqm))
        · exact .inl (.inr (by omega))
  · have := hc.cnt
    rw [List.countP_append, List.countP_cons, List.countP_nil, hz]
    simp only [moved]
    by_cases e : pn p i = i
    · simp [e]; omega
    · simp [e]; omega
  · have := hc.siz
    rw [ByteArray.size_append, hz]
    split <;> omega
  · rcases List.mem_append.1 hx with h1 | h1
    · exact hc.all x h1
    · rw [List.mem_singleton.1 h1, hz]; split <;> omega
theorem gS_mem {L : List ByteArray} {k : Nat} (hk : k < L.length) : gS L k ∈ L := by
  unfold gS; rw [List.getD_eq_getElem?_getD, List.getElem?_eq_getElem hk]; exact List.getElem_mem hk
theorem own_last {w : World} {B : Nat} {e : TypeId} {v : Value} {L : List ByteArray} {x : Value} (h : Own w B e v (L.map .string ++ [x])) : ∃ n g c, v = .slice (some ⟨g, 0, none⟩) n c ∧ n = L.length + 1 ∧ w.cell? ⟨g, L.length, none⟩ = some x := by
  obtain ⟨g, c, hv, hg1, hg2, hcell⟩ := h.at_ (k := L.length) (u := x) (by rw [List.getElem?_append_right (by simp)]; simp)
  exact ⟨_, g, c, hv, by simp, hcell⟩
set_option maxRecDepth 20000 in
set_option maxHeartbeats 800000 in
theorem c_CyclesOf (p : ByteArray) (w : World) (h : plugB p = true) : Calls Try.prog 139 #[.string p] w fun e w' => ∃ v L, e = .returned v ∧ IsStrs w' v L ∧ L.length ≤ 10 ∧ (∀ x, x ∈ L → x.size ≤ 2) ∧ L.countP (fun x => decide (x.size = 1)) + moved p 10 = 10 ∧ Below w.heap.size w w' := by
  have H := Lib.hid h
  have hps := permB_size ((plugB_iff p).1 h).1
  have hpv := ((plugB_iff p).1 h).1
  clear h
  go_enter Try.func139, Try.ntmps139
  go_wp2_with fail
  refine (c_sPermValid p _ (by omega)).mono ?_
  rintro e w1 ⟨rfl, hb1⟩
  rw [hpv]
  have B1 := Lib.hid (ext_trans (ext_alloc w (.cells #[] 9)) hb1)
  have O1 : Own w1 w.heap.size 9 (.slice (some ⟨w.heap.size, 0, none⟩) 0 0) (([] : List ByteArray).map .string) := by
    have h1 : Own (w.alloc (.cells #[] 9)) w.heap.size 9 (.slice (some ⟨w.heap.size, 0, none⟩) 0 0) [] := by
      have := World.ownsRow_made (base := w.heap.size) (e := 9) (size := 1) w #[] 0 (Nat.le_refl _) (by unfold maxLen; omega) rfl
      simpa [Own] using this
    exact h1.ext hb1
  have HO1 := Lib.hid O1
  clear hb1 hps hpv O1
  have hz1 : w.heap.size ≤ w1.heap.size := B1.out.size
  go_wp2_with fail
  go_loopg [3, 4, 5] 10 (fun gk o sn i wr => ∃ (k : Nat) (L : List ByteArray) (s : ByteArray), k + gk = 10 ∧ i = .int .i64 k ∧ sn = .string s ∧ Own wr w.heap.size 9 o (L.map .string) ∧ CInv p k L s ∧ Below w.heap.size w wr)
  case atStart =>
    exact ⟨0, [], ⟨#[]⟩, rfl, rfl, rfl, HO1.out, ⟨fun m _ => by rw [decide_eq_false (by omega)]; rfl, rfl, Nat.le_refl _, Nat.le_refl _, fun x hx => by cases hx⟩, B1.out⟩
  case round =>
    obtain ⟨k, L, s, hk, rfl, rfl, hown, hc, hbr⟩ := hrel
    have HOR := Lib.hid hown
    have HC := Lib.hid hc
    have HBR := Lib.hid hbr
    have hsz := hc.siz
    have hln := hc.len
    have hszr := hbr.size
    clear hown hc hbr
    by_cases hlt : k < 10
    · have hpl := pn_lt ((plugB_iff p).1 H.out).1 hlt
      have HF := Lib.hid (fnd_has s (97 + (k : Int)))
      have HH := Lib.hid (HC.out.has k hlt)
      have E1 : IntKind.u8.wrap (97 + (k : Int)) = 97 + (k : Int) := IntWalk.u8_in _ (by omega)
      have HFF : Hid (pn p k < k → 0 ≤ fnd s (97 + (k : Int)) s.size) := fun h => by
        have h1 := HF.out
        rw [HH.out, decide_eq_decide] at h1
        exact h1.2 (.inr h)
      have HFN : Hid (¬ pn p k < k → fnd s (97 + (k : Int)) s.size < 0) := fun h => by
        have h1 := HF.out
        rw [HH.out, decide_eq_decide] at h1
        apply Int.lt_of_not_ge
        intro h2
        rcases h1.1 h2 with h3 | h3 <;> omega
      by_cases hpk : pn p k < k
      · have hf := HFF.out hpk
        go_wp2_with (go_at_call 166; refine (c_l21Find s _ _ (by omega)).mono ?_; rintro e w' ⟨rfl, rfl⟩)
        go_roundg (10 - (k + 1))
        case measure => omega
        case rel => exact ⟨k + 1, L, s, by omega, by go_num, rfl, HOR.out, HC.out.skip H.out hlt hpk, HBR.out⟩
      · have hf := HFN.out hpk
        have hcs := cyc_size p k
        have hcs2 : (cyc p k).size ≤ 2 := by rw [hcs]; split <;> omega
        clear hcs
        go_wp2_with (go_at_call 166; refine (c_l21Find s _ _ (by omega)).mono ?_; rintro e w' ⟨rfl, rfl⟩)
        refine (c_l3Cycle p k _ H.out hlt).mono ?_
        rintro e w2 ⟨rfl, hb2⟩
        have HO2 := Lib.hid (HOR.out.ext hb2)
        have HB2 := Lib.hid (ext_trans HBR.out hb2)
        have hz2 : w.heap.size ≤ w2.heap.size := HB2.out.size
        clear hb2 hf E1
        go_wp2_with (at_builtin; refine app1 _ rfl _ _ _ rfl w.heap.size 9 Try.underlying48 info_str rfl _ _ rfl HO2.out _ rfl rfl (by simp; omega) (by omega) hz2 ?_; intro v' w4 hown4 hgr4; obtain ⟨n, g, c, rfl, hn, hcell⟩ := own_last hown4; have HN := Lib.hid hn; have e1 : IntKind.i64.wrap ((n : Int) - 1) = (L.length : Int) := (by rw [IntWalk.i64_in _ (by omega)]; omega); have l1 : (L.length : Int) < (n : Int) := (by omega); have HO4 := Lib.hid hown4; have HG4 := Lib.hid hgr4; clear hn hown4 hgr4)
        have HB4 := Lib.hid (HO2.out.below (Nat.le_refl _) hz2 HB2.out HG4.out)
        have HO5 := Lib.hid (show Own w4 w.heap.size 9 (.slice (some ⟨g, 0, none⟩) n c) ((L ++ [cyc p k]).map .string) by rw [List.map_append]; exact HO4.out)
        go_roundg (10 - (k + 1))
        case measure => omega
        case rel => exact ⟨k + 1, L ++ [cyc p k], s ++ cyc p k, by omega, by go_num, rfl, HO5.out, HC.out.add H.out hlt (by omega), HB4.out⟩
    · have e : k = 10 := by omega
      subst e
      go_wp2_with fail
      go_ret
      refine ⟨_, L, rfl, HOR.out.strs (by omega) (fun j hj => by have := HC.out.all _ (gS_mem hj); omega), by omega, HC.out.all, HC.out.cnt, HBR.out⟩
set_option maxHeartbeats 400000 in
theorem c_sRotorValid (wi no : ByteArray) (w : World) (hw : wi.size ≤ 9223372036854775807) (hn : no.size ≤ 9223372036854775807) : Calls Try.prog 156 #[.agg #[.string wi, .string no]] w fun e w' => e = .returned (.bool (rotB (wi, no))) ∧ Below w.heap.size w w' := by
  have K := Lib.hid (Blk.new w 144 #[.string wi, .string no])
  have B := Lib.hid (ext_alloc w (.cells #[.string wi, .string no] 144))
  rcases rotB_cases wi no with ⟨h1, hr⟩ | ⟨h1, h2, hr⟩ | ⟨h1, h2, h3, hr⟩ | ⟨h1, h2, h3, hr⟩
  · have HR := Lib.hid hr
    clear hr
    go_enter Try.func156, Try.ntmps156
    go_wp2_with fail
    refine (c_sPermValid wi _ (by omega)).mono ?_
    rintro e w1 ⟨rfl, hb1⟩
    rw [h1]
    have B1 := Lib.hid (ext_trans B.out hb1)
    clear hb1
    go_wp2_with fail
    go_ret
    exact ⟨by rw [HR.out]; rfl, B1.out⟩
  · have HR := Lib.hid hr
    clear hr
    go_enter Try.func156, Try.ntmps156
    go_wp2_with fail
    refine (c_sPermValid wi _ (by omega)).mono ?_
    rintro e w1 ⟨rfl, hb1⟩
    rw [h1]
    have B1 := Lib.hid (ext_trans B.out hb1)
    have x1 : w1.cell? ⟨w.heap.size, 1, none⟩ = some (.string no) := (K.out.ext hb1).cell 1
    clear hb1
    go_wp2_with fail
    go_ret
    exact ⟨by rw [HR.out]; rfl, B1.out⟩
  · have HR := Lib.hid hr
    clear hr
    go_enter Try.func156, Try.ntmps156
    go_wp2_with fail
    refine (c_sPermValid wi _ (by omega)).mono ?_
    rintro e w1 ⟨rfl, hb1⟩
    rw [h1]
    have B1 := Lib.hid (ext_trans B.out hb1)
    have x1 : w1.cell? ⟨w.heap.size, 1, none⟩ = some (.string no) := (K.out.ext hb1).cell 1
    clear hb1
    go_wp2_with (go_at_call 105; refine (c_specWordValid _ _ (by omega)).mono ?_; rintro e w' ⟨rfl, rfl⟩; rw [h3])
    go_ret
    exact ⟨by rw [HR.out]; rfl, B1.out⟩
  · have HR := Lib.hid hr
    clear hr
    go_enter Try.func156, Try.ntmps156
    go_wp2_with fail
    refine (c_sPermValid wi _ (by omega)).mono ?_
    rintro e w1 ⟨rfl, hb1⟩
    rw [h1]
    have B1 := Lib.hid (ext_trans B.out hb1)
    have K1 := Lib.hid (K.out.ext hb1)
    have x1 : w1.cell? ⟨w.heap.size, 1, none⟩ = some (.string no) := K1.out.cell 1
    clear hb1
    go_wp2_with (go_at_call 105; refine (c_specWordValid _ _ (by omega)).mono ?_; rintro e w' ⟨rfl, rfl⟩; rw [h3])
    go_loopw [3] (fun i wr => ∃ k : Nat, 1 ≤ k ∧ (k ≤ no.size ∨ k = 1) ∧ i = .int .i64 k ∧ allB k (fun i => decide (i = 0) || decide (bt no (i - 1) < bt no i)) = true ∧ Blk wr w.heap.size 144 #[.string wi, .string no] ∧ Below w.heap.size w wr) (fun i _ => 3 - (intOf i).toNat)
    case atStart => exact ⟨1, by omega, .inr rfl, rfl, rfl, K1.out, B1.out⟩
    case round =>
      obtain ⟨k, hk1, hk, rfl, ha, hkb, hbel⟩ := hrel
      have HA := Lib.hid ha
      have HK := Lib.hid hkb
      have y1 : wr.cell? ⟨w.heap.size, 1, none⟩ = some (.string no) := hkb.cell 1
      clear ha hkb
      by_cases hlt : k < no.size
      · have hkm : k - 1 < no.size := by omega
        have hb1 := bt_get no k hlt
        have hb2 := bt_get no (k - 1) hkm
        have e1 : IntKind.i64.wrap ((k : Int) - 1) = ((k - 1 : Nat) : Int) := by rw [IntWalk.i64_in _ (by omega)]; omega
        by_cases hc : bt no (k - 1) < bt no k
        · go_wp2_with fail
          go_quiet (fail)
          have t1 : decide (bt no k ≤ bt no (k - 1)) = false := by simp; omega
          clear e1
          go_wp2_with fail
          exact ⟨⟨k + 1, by omega, .inl (by omega), by go_num, allB_step HA.out (by simp [hc]), HK.out.drewN nq, below_drewN hbel nq⟩, by simp [intOf]; omega⟩
        · go_wp2_with fail
          go_quiet (fail)
          have t1 : decide (bt no k ≤ bt no (k - 1)) = true := by simp; omega
          clear e1
          go_wp2_with fail
          go_ret
          refine ⟨?_, below_drewN hbel nq⟩
          rw [HR.out]
          exact ret_bool (allB_false hlt (by simp [hc]; omega)).symm
      · go_wp2_with fail
        go_ret
        refine ⟨?_, hbel⟩
        rw [HR.out]
        refine ret_bool ?_
        symm
        rw [allB_iff]
        intro i hi
        exact (allB_iff _ _).1 HA.out i (by omega)
end
/-! SpecWheels2 -/
section
open Go.RowKit

theorem take_count (L : List ByteArray) (f : ByteArray → Bool) {k : Nat} (hk : k < L.length) : (L.take (k + 1)).countP f = (L.take k).countP f + (if f (gS L k) = true then 1 else 0) := by
  have : gS L k = L[k] := by unfold gS; rw [List.getD_eq_getElem?_getD, List.getElem?_eq_getElem hk]; rfl
  rw [List.take_add_one, List.getElem?_eq_getElem hk, List.countP_append, this]
  simp [List.countP_cons]
set_option maxHeartbeats 800000 in
theorem c_FixedLetters (p : ByteArray) (w : World) (h : plugB p = true) : Calls Try.prog 106 #[.string p] w fun e w' => ∃ s : ByteArray, e = .returned (.string s) ∧ s.size + moved p 10 = 10 ∧ Below w.heap.size w w' := by
  have H := Lib.hid h
  clear h
  go_enter Try.func106, Try.ntmps106
  go_wp2_with fail
  refine (c_CyclesOf p _ H.out).mono ?_
  rintro e w1 ⟨v, L, rfl, hi, hl, ha, hc, hb1⟩
  obtain ⟨A, c, rfl⟩ := hi.form
  have HI := Lib.hid hi
  have HA := Lib.hid ha
  have HC := Lib.hid hc
  have HB := Lib.hid hb1
  clear hi ha hc hb1
  go_wp2_with fail
  go_loopg [3, 5] L.length (fun gk o i wr => ∃ (k : Nat) (s : ByteArray), k + gk = L.length ∧ i = .int .i64 k ∧ o = .string s ∧ s.size = (L.take k).countP (fun x => decide (x.size = 1)) ∧ wr = w1)
  case atStart => exact ⟨0, ⟨#[]⟩, by omega, rfl, rfl, rfl, rfl⟩
  case round =>
    obtain ⟨k, s, hk, rfl, rfl, hs, rfl⟩ := hrel
    have HS := Lib.hid hs
    have hle : s.size ≤ 10 := by
      rw [hs]
      have := List.countP_le_length (l := L.take k) (p := fun x => decide (x.size = 1))
      have h2 := List.length_take_le k L
      have h3 : (L.take k).length ≤ L.length := by rw [List.length_take]; omega
      omega
    clear hs
    by_cases hlt : k < L.length
    · obtain ⟨b, o, rfl, hb, hcell⟩ := HI.out.at_ hlt
      have hsz := HA.out _ (gS_mem hlt)
      have HT := Lib.hid (take_count L (fun x => decide (x.size = 1)) hlt)
      by_cases he : (gS L k).size = 1
      · have t1 : (((gS L k).size : Int) == 1) = true := by rw [he]; rfl
        have HE := Lib.hid he
        clear he
        go_wp2_with fail
        go_roundg (L.length - (k + 1))
        case measure => omega
        case rel => exact ⟨k + 1, _, by omega, by go_num, rfl, by rw [ByteArray.size_append, HT.out, if_pos (decide_eq_true HE.out), HS.out, HE.out], rfl⟩
      · have t1 : (((gS L k).size : Int) == 1) = false := by rw [beq_eq_false_iff_ne]; omega
        have HE := Lib.hid he
        clear he
        go_wp2_with fail
        go_roundg (L.length - (k + 1))
        case measure => omega
        case rel => exact ⟨k + 1, _, by omega, by go_num, rfl, by rw [HT.out, if_neg (by simp [HE.out]), HS.out]; rfl, rfl⟩
    · have e : k = L.length := by omega
      subst e
      go_wp2_with fail
      go_ret
      refine ⟨s, rfl, ?_, HB.out⟩
      have h1 := HS.out
      rw [List.take_length] at h1
      rw [h1]; exact HC.out
theorem c_sPlugCount (p : ByteArray) (w : World) (hs : p.size ≤ 9223372036854775807) : Calls Try.prog 174 #[.string p] w fun e w' => e = .returned (.int .i64 (if plugB p = true then ((moved p 10 / 2 : Nat) : Int) else -1)) ∧ Below w.heap.size w w' := by
  cases h : plugB p
  all_goals
    have H := Lib.hid h
    go_enter Try.func174, Try.ntmps174
    go_wp2_with fail
    refine (c_sPlugsValid p _ hs).mono ?_
    rintro e w1 ⟨rfl, hb1⟩
    rw [h]
    have B1 := Lib.hid hb1
    clear h hb1
  · go_wp2_with fail
    go_ret
    exact ⟨rfl, B1.out⟩
  · go_wp2_with fail
    refine (c_FixedLetters p _ H.out).mono ?_
    rintro e w2 ⟨s, rfl, hz, hb2⟩
    have B2 := Lib.hid (ext_trans B1.out hb2)
    clear hb2
    have hle : s.size ≤ 10 := by omega
    have hm : (10 : Int) - (s.size : Int) = ((moved p 10 : Nat) : Int) := by omega
    have HM := Lib.hid hm
    clear hm
    go_wp2_with fail
    go_ret
    refine ⟨ret_int ?_, B2.out⟩
    have := HM.out
    rw [this]
theorem c_sReflectorValid (p : ByteArray) (w : World) (hs : p.size ≤ 9223372036854775807) : Calls Try.prog 157 #[.string p] w fun e w' => e = .returned (.bool (reflB p)) ∧ Below w.heap.size w w' := by
  have HR := Lib.hid (show ((if plugB p = true then ((moved p 10 / 2 : Nat) : Int) else -1) == (5 : Int)) = reflB p by
    unfold reflB
    cases plugB p
    · rfl
    · rw [if_pos rfl, Bool.true_and, Bool.eq_iff_iff, decide_eq_true_eq, beq_iff_eq]; omega)
  go_enter Try.func157, Try.ntmps157
  go_wp2_with fail
  refine (c_sPlugCount p _ hs).mono ?_
  rintro e w1 ⟨rfl, hb1⟩
  generalize (if plugB p = true then ((moved p 10 / 2 : Nat) : Int) else -1) = x at *
  go_wp2_with fail
  go_ret
  exact ⟨ret_bool HR.out, hb1⟩
theorem wheelsB_or (l : List Rot) (rf : ByteArray) : wheelsB l rf = (allB l.length (fun i => rotB (gR l i)) && (inB (l.length : Int) 1 3 && reflB rf)) := by
  unfold wheelsB inB
  rw [Bool.eq_iff_iff]
  simp only [Bool.and_eq_true, decide_eq_true_eq]
  constructor
  · rintro ⟨⟨a, b⟩, c, d⟩; exact ⟨d, ⟨by omega, by omega⟩, c⟩
  · rintro ⟨d, ⟨a, b⟩, c⟩; exact ⟨⟨by omega, by omega⟩, c, d⟩
set_option maxHeartbeats 800000 in
theorem c_sWheelsValid (vR : Value) (l : List Rot) (rf : ByteArray) (w : World) (hR : IsRots w vR l) (hf : rf.size ≤ 9223372036854775807) : Calls Try.prog 125 #[.agg #[vR, .string rf]] w fun e w' => e = .returned (.bool (wheelsB l rf)) ∧ Below w.heap.size w w' := by
  have B := Lib.hid (ext_alloc w (.cells #[vR, .string rf] 31))
  have K := Lib.hid (Blk.new w 31 #[vR, .string rf])
  have HR0 := Lib.hid (hR.ext B.out)
  have hll := hR.len_le
  obtain ⟨A, cA, rfl⟩ := hR.form
  clear hR
  have HW := Lib.hid (wheelsB_or l rf)
  go_enter Try.func125, Try.ntmps125
  go_wp2_with fail
  go_loopg [3] l.length (fun gk i wr => ∃ k : Nat, k + gk = l.length ∧ i = .int .i64 k ∧ allB k (fun i => rotB (gR l i)) = true ∧ IsRots wr (.slice A l.length cA) l ∧ Blk wr w.heap.size 31 #[.slice A l.length cA, .string rf] ∧ Below w.heap.size w wr)
  case atStart => exact ⟨0, by omega, rfl, rfl, HR0.out, K.out, B.out⟩
  case round =>
    obtain ⟨k, hk, rfl, ha, hrot, hblk, hbel⟩ := hrel
    have HA := Lib.hid ha
    have HRT := Lib.hid hrot
    have HBK := Lib.hid hblk
    have HBL := Lib.hid hbel
    have y0 : wr.cell? ⟨w.heap.size, 0, none⟩ = some (.slice A l.length cA) := hblk.cell 0
    have y1 : wr.cell? ⟨w.heap.size, 1, none⟩ = some (.string rf) := hblk.cell 1
    clear ha hbel hblk
    by_cases hlt : k < l.length
    · obtain ⟨b, o, rfl, hb, hc0, hc1⟩ := hrot.at_ hlt
      have hsz := hrot.size_le hlt
      clear hrot
      generalize hg : gR l k = rk at hc0 hc1 hsz
      obtain ⟨wi, no⟩ := rk
      have HG := Lib.hid hg
      clear hg
      go_wp2_with fail
      refine (c_sRotorValid wi no _ (by have := hsz.1; omega) (by have := hsz.2; omega)).mono ?_
      rintro e w3 ⟨rfl, hb3⟩
      have HB3 := Lib.hid hb3
      clear hb3 y0 y1 hc0 hc1
      cases hrb : rotB (wi, no) with
      | true =>
        have HRB := Lib.hid hrb
        clear hrb
        go_wp2_with fail
        go_roundg (l.length - (k + 1))
        case measure => omega
        case rel => exact ⟨k + 1, by omega, by go_num, allB_step HA.out (by rw [HG.out]; exact HRB.out), HRT.out.ext HB3.out, HBK.out.ext HB3.out, ext_trans HBL.out HB3.out⟩
      | false =>
        have HRB := Lib.hid hrb
        clear hrb
        go_wp2_with fail
        go_ret
        refine ⟨?_, ext_trans HBL.out HB3.out⟩
        rw [HW.out]
        exact ret_bool (by rw [allB_false hlt (by rw [HG.out]; exact HRB.out)]; rfl)
    · clear hrot
      have e : k = l.length := by omega
      subst e
      cases hin : inB (l.length : Int) 1 3 with
      | false =>
        go_wp2_with (go_at_call 53; refine (c_l1In _ _ _ _).mono ?_; rintro e w' ⟨rfl, rfl⟩; rw [hin])
        go_ret
        exact ⟨by rw [HW.out, HA.out, hin]; rfl, HBL.out⟩
      | true =>
        have HIN := Lib.hid hin
        go_wp2_with (go_at_call 53; refine (c_l1In _ _ _ _).mono ?_; rintro e w' ⟨rfl, rfl⟩; rw [hin])
        refine (c_sReflectorValid rf _ (by omega)).mono ?_
        rintro e w3 ⟨rfl, hb3⟩
        have HB3 := Lib.hid (ext_trans HBL.out hb3)
        clear hb3 y0 y1 hin
        go_wp2_with fail
        go_ret
        exact ⟨by rw [HW.out, HA.out, HIN.out]; rfl, HB3.out⟩
end
end Go.Proofs.Ytnfeddnkokocfaa
