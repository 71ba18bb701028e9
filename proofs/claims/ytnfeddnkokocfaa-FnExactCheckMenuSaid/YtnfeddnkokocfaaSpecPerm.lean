/- Contracts of the reference's functions on permutations and plugboards. -/
import Derived.Test.YtnfeddnkokocfaaKitB
import Derived.Test.YtnfeddnkokocfaaExact
import Derived.Test.YtnfeddnkokocfaaKitA
namespace Go.Proofs.Ytnfeddnkokocfaa
set_option linter.unusedVariables false
set_option linter.unusedSimpArgs false
open Go.RowKit

/-- the index of the first byte x among the first n of s, or -1 -/
def fnd (s : ByteArray) (x : Int) : Nat → Int
  | 0 => -1
  | n + 1 => if fnd s x n = -1 then (if bt s n = x then (n : Int) else -1) else fnd s x n
theorem fnd_none {s : ByteArray} {x : Int} {n : Nat} (h : ∀ k, k < n → bt s k ≠ x) : fnd s x n = -1 := by
  induction n with
  | zero => rfl
  | succ n ih => unfold fnd; rw [if_pos (ih fun k hk => h k (by omega)), if_neg (h n (by omega))]
theorem fnd_some {s : ByteArray} {x : Int} {n k : Nat} (hk : k < n) (e : bt s k = x) (h : ∀ j, j < k → bt s j ≠ x) : fnd s x n = k := by
  induction n with
  | zero => omega
  | succ n ih =>
    unfold fnd
    by_cases hn : k = n
    · subst hn; rw [if_pos (fnd_none h), if_pos e]
    · rw [ih (by omega), if_neg (by omega)]
theorem fnd_has (s : ByteArray) (x : Int) : decide (0 ≤ fnd s x s.size) = hasB s x := by
  by_cases h : ∃ k, k < s.size ∧ bt s k = x
  · obtain ⟨k, ⟨hk, e⟩, hl⟩ := least h
    rw [fnd_some hk e (fun j hj he => hl j hj ⟨by omega, he⟩), (hasB_iff s x).2 ⟨k, hk, e⟩]
    exact decide_eq_true (by omega)
  · have h' : ∀ k, k < s.size → bt s k ≠ x := fun k hk e => h ⟨k, hk, e⟩
    rw [fnd_none h']
    cases hb : hasB s x with
    | true => exact absurd ((hasB_iff s x).1 hb) h
    | false => rfl
theorem fnd_range (s : ByteArray) (x : Int) : -1 ≤ fnd s x s.size ∧ fnd s x s.size ≤ s.size := by
  by_cases h : ∃ k, k < s.size ∧ bt s k = x
  · obtain ⟨k, ⟨hk, e⟩, hl⟩ := least h
    rw [fnd_some hk e (fun j hj he => hl j hj ⟨by omega, he⟩)]
    omega
  · rw [fnd_none fun k hk e => h ⟨k, hk, e⟩]; omega
theorem c_l21Find (s : ByteArray) (x : Int) (w : World) (hs : s.size ≤ 9223372036854775807) : Calls Try.prog 166 #[.string s, .int .u8 x] w fun e w' => e = .returned (.int .i64 (fnd s x s.size)) ∧ w = w' := by
  go_enter Try.func166, Try.ntmps166
  go_wp2_with fail
  go_loop [5] (fun i => ∃ k : Nat, k ≤ s.size ∧ i = .int .i64 k ∧ ∀ j, j < k → bt s j ≠ x) (fun i => s.size - (intOf i).toNat)
  case atStart => exact ⟨0, Nat.zero_le _, rfl, fun j hj => by omega⟩
  case round =>
    obtain ⟨k, hk, rfl, ha⟩ := hrel
    have HA := Lib.hid ha
    clear ha
    by_cases hlt : k < s.size
    · have hb := bt_get s k hlt
      by_cases he : bt s k = x
      · have t1 : (bt s k == x) = true := by simp [he]
        have HE := Lib.hid he
        clear he
        go_wp2_with fail
        go_ret
        exact ⟨ret_int (fnd_some hlt HE.out HA.out).symm, rfl⟩
      · have t1 : (bt s k == x) = false := by simp [he]
        have HE := Lib.hid he
        clear he
        go_wp2_with fail
        go_round
        case rel =>
          refine ⟨k + 1, by omega, by go_num, fun j hj => ?_⟩
          by_cases e : j = k
          · rw [e]; exact HE.out
          · exact HA.out j (by omega)
        case measure => simp [intOf]; omega
    · go_wp2_with fail
      go_ret
      have e : k = s.size := by omega
      subst e
      exact ⟨ret_int (fnd_none HA.out).symm, rfl⟩
/-- n values, given by f -/
def rngV (f : Nat → Value) (n : Nat) : List Value := (List.range n).map f
theorem rngV_len (f : Nat → Value) (n : Nat) : (rngV f n).length = n := by simp [rngV]
theorem rngV_at (f : Nat → Value) {n i : Nat} (hi : i < n) : (rngV f n)[i]? = some (f i) := by
  unfold rngV; rw [List.getElem?_map, List.getElem?_range hi]; rfl
theorem rngV_congr {f g : Nat → Value} {n : Nat} (h : ∀ i, i < n → f i = g i) : rngV f n = rngV g n :=
  List.map_congr_left fun i hi => h i (List.mem_range.1 hi)
theorem rngV_set {f g : Nat → Value} {n j : Nat} {u : Value} (h : ∀ i, i < n → (if i = j then u else f i) = g i) : (rngV f n).set j u = rngV g n := by
  unfold rngV
  apply List.ext_getElem (by simp)
  intro i h1 h2
  simp only [List.length_map, List.length_range] at h2
  rw [List.getElem_set]
  simp only [List.getElem_map, List.getElem_range]
  rw [← h i h2]
  by_cases e : j = i
  · subst e; simp
  · rw [if_neg e, if_neg (fun x => e x.symm)]
theorem rngV_repl (z : Value) (n : Nat) : List.replicate n z = rngV (fun _ => z) n := by
  unfold rngV; apply List.ext_getElem (by simp); intro i h1 h2; simp
theorem rngV_ints (f : Nat → Int) (n : Nat) : rngV (fun i => .int .i64 (f i)) n = ((List.range n).map f).map (Value.int .i64) := by
  unfold rngV; rw [List.map_map]; rfl
def cntL (p : ByteArray) (n : Nat) : List Int := (List.range 10).map (fun m => (cnt p n m : Int))
theorem cntL_len (p : ByteArray) (n : Nat) : (cntL p n).length = 10 := by simp [cntL]
theorem cntL_at (p : ByteArray) (n : Nat) {m : Nat} (hm : m < 10) : gI (cntL p n) m = (cnt p n m : Int) := by
  simp [gI, cntL, List.getD_eq_getElem?_getD, hm]
theorem cnt_le (p : ByteArray) (n m : Nat) : cnt p n m ≤ n := by
  induction n with
  | zero => exact Nat.le_refl _
  | succ n ih => simp only [cnt]; split <;> omega
set_option maxHeartbeats 400000 in
theorem c_LetterCounts (p : ByteArray) (w : World) (h : wv p = true) : Calls Try.prog 176 #[.string p] w fun e w' => ∃ v, e = .returned v ∧ IsInts w' v (cntL p p.size) ∧ Below w.heap.size w w' := by
  have HV := Lib.hid ((wv_iff p).1 h)
  have hle : p.size ≤ 200 := HV.out.1
  go_enter Try.func176, Try.ntmps176
  go_wp2_with (first | (go_at_call 105; refine (c_specWordValid _ _ (by omega)).mono ?_; rintro e w' ⟨rfl, rfl⟩; rw [h]) | (at_make; refine makeN _ rfl _ _ _ rfl w.heap.size 3 Try.underlying69 info_int rfl _ _ _ _ 10 rfl rfl rfl rfl (by omega) (by omega) (Nat.le_refl _) ?_; intro w1 hown hb1))
  have HO := Lib.hid hown
  have HB := Lib.hid hb1
  clear hown hb1 h
  go_loopw [4] (fun i wr => ∃ k : Nat, k ≤ p.size ∧ i = .int .i64 k ∧ Own wr w.heap.size 3 (.slice (some ⟨w.heap.size, 0, none⟩) 10 10) (rngV (fun m => .int .i64 (cnt p k m)) 10) ∧ Below w.heap.size w wr) (fun i _ => p.size - (intOf i).toNat)
  case atStart => exact ⟨0, Nat.zero_le _, rfl, by have := HO.out; rw [rngV_repl] at this; exact this, HB.out⟩
  case round =>
    obtain ⟨k, hk, rfl, hown, hbr⟩ := hrel
    have HOR := Lib.hid hown
    have HBR := Lib.hid hbr
    by_cases hlt : k < p.size
    · have hr := HV.out.2 k hlt
      obtain ⟨D, hD⟩ : ∃ D : Nat, bt p k - 97 = (D : Int) := ⟨(bt p k - 97).toNat, by omega⟩
      have hD10 : D < 10 := by omega
      have hcell := hown.cellAt (rngV_at (fun m => .int .i64 (cnt p k m)) hD10)
      have hfree := hown.free (rngV_len _ _).symm D
      have hcl := cnt_le p k D
      have HDD := Lib.hid hD
      clear hown hbr
      go_wp2_with (go_at_call 79; refine (c_l1Digit p k _ hlt (by omega)).mono ?_; rintro e w' ⟨rfl, rfl⟩; rw [hD])
      refine ⟨⟨k + 1, by omega, by go_num, ?_, HBR.out.setCell (p := ⟨w.heap.size, D, none⟩) (Nat.le_refl _) _⟩, by simp [intOf]; omega⟩
      have := HOR.out.stored (rngV_len _ _).symm D (.int .i64 ((cnt p k D : Int) + 1))
      rw [rngV_set (g := fun m => .int .i64 (cnt p (k + 1) m)) (fun i _ => ?_)] at this
      · exact this
      · have hd := HDD.out
        simp only [cnt]
        by_cases e : i = D
        · subst e; rw [if_pos rfl, if_pos (by omega)]; simp
        · rw [if_neg e, if_neg (by omega)]; simp
    · clear hown hbr
      go_wp2_with fail
      go_ret
      have e : k = p.size := by omega
      subst e
      refine ⟨_, rfl, ?_, HBR.out⟩
      have h2 := HOR.out
      rw [rngV_ints] at h2
      exact h2.ints (by simp)
theorem permB_cases (p : ByteArray) : (p.size ≠ 10 ∧ permB p = false) ∨ (p.size = 10 ∧ wv p = false ∧ permB p = false) ∨ (p.size = 10 ∧ wv p = true ∧ permB p = allB 10 (fun m => decide (cnt p 10 m = 1))) := by
  by_cases h1 : p.size = 10
  · right
    cases h2 : wv p
    · left
      refine ⟨h1, rfl, ?_⟩
      cases h3 : permB p with
      | false => rfl
      | true =>
        have : wv p = true := (wv_iff p).2 ⟨by omega, fun k hk => permB_bt h3 (by omega)⟩
        rw [h2] at this; cases this
    · right
      refine ⟨h1, rfl, ?_⟩
      have hw := ((wv_iff p).1 h2).2
      rw [h1] at hw
      rw [Bool.eq_iff_iff, permB_cnt h1 hw, allB_iff]
      simp only [decide_eq_true_eq]
  · left
    refine ⟨h1, ?_⟩
    cases h3 : permB p with
    | false => rfl
    | true => exact absurd (permB_size h3) h1
set_option maxHeartbeats 400000 in
theorem c_sPermValid (p : ByteArray) (w : World) (hs : p.size ≤ 9223372036854775807) : Calls Try.prog 164 #[.string p] w fun e w' => e = .returned (.bool (permB p)) ∧ Below w.heap.size w w' := by
  rcases permB_cases p with ⟨h1, hr⟩ | ⟨h1, h2, hr⟩ | ⟨h1, h2, hr⟩
  · have HR := Lib.hid hr
    have t1 : ((p.size : Int) != 10) = true := by rw [bne_iff_ne]; omega
    clear hr
    go_enter Try.func164, Try.ntmps164
    go_wp2_with fail
    go_ret
    exact ⟨by rw [HR.out]; rfl, Below.refl _ _⟩
  · have HR := Lib.hid hr
    have t1 : ((p.size : Int) != 10) = false := by rw [h1]; rfl
    have HS := Lib.hid h1
    clear hr h1
    go_enter Try.func164, Try.ntmps164
    go_wp2_with (go_at_call 105; refine (c_specWordValid _ _ (by omega)).mono ?_; rintro e w' ⟨rfl, rfl⟩; rw [h2])
    go_ret
    exact ⟨by rw [HR.out]; rfl, Below.refl _ _⟩
  · have HR := Lib.hid hr
    have t1 : ((p.size : Int) != 10) = false := by rw [h1]; rfl
    have HS := Lib.hid h1
    have H2 := Lib.hid h2
    clear hr h1
    go_enter Try.func164, Try.ntmps164
    go_wp2_with (first | (go_at_call 105; refine (c_specWordValid _ _ (by omega)).mono ?_; rintro e w' ⟨rfl, rfl⟩; rw [h2]) | (go_at_call 176; refine (c_LetterCounts p _ H2.out).mono ?_; rintro e w1 ⟨v, rfl, hi, hb1⟩; obtain ⟨A, c, rfl⟩ := hi.form))
    have HI := Lib.hid hi
    have HB := Lib.hid hb1
    clear hi hb1 h2
    go_loop [4] (fun i => ∃ k : Nat, k ≤ 10 ∧ i = .int .i64 k ∧ allB k (fun m => decide (cnt p 10 m = 1)) = true) (fun i => 10 - (intOf i).toNat)
    case atStart => exact ⟨0, Nat.zero_le _, rfl, rfl⟩
    case round =>
      obtain ⟨k, hk, rfl, ha⟩ := hrel
      have HA := Lib.hid ha
      clear ha
      by_cases hlt : k < 10
      · obtain ⟨b, o, rfl, hb, hc⟩ := HI.out.at_ (k := k) (by rw [cntL_len]; exact hlt)
        rw [cntL_at p _ hlt, HS.out] at hc
        have hln : (k : Int) < ((cntL p p.size).length : Int) := by rw [cntL_len]; omega
        by_cases hc1 : cnt p 10 k = 1
        · have t2 : ((cnt p 10 k : Int) != 1) = false := by rw [hc1]; rfl
          have HC1 := Lib.hid hc1
          clear hc1
          go_wp2_with fail
          go_round
          case rel => exact ⟨k + 1, by omega, by go_num, allB_step HA.out (decide_eq_true HC1.out)⟩
          case measure => simp [intOf]; omega
        · have t2 : ((cnt p 10 k : Int) != 1) = true := by rw [bne_iff_ne]; omega
          have HC1 := Lib.hid hc1
          clear hc1
          go_wp2_with fail
          go_ret
          exact ⟨by rw [HR.out]; exact ret_bool (allB_false hlt (decide_eq_false HC1.out)).symm, HB.out⟩
      · go_wp2_with fail
        go_ret
        have e : k = 10 := by omega
        subst e
        exact ⟨by rw [HR.out, HA.out]; rfl, HB.out⟩
theorem c_l2Image (p : ByteArray) (n : Nat) (w : World) (hn : n < p.size) (hs : p.size ≤ 9223372036854775807) : Calls Try.prog 78 #[.string p, .int .i64 n] w fun e w' => e = .returned (.int .i64 (bt p n - 97)) ∧ w = w' := by
  go_enter Try.func78, Try.ntmps78
  go_wp2_with fail
  refine (c_l1Digit p n _ hn hs).mono ?_
  rintro e w' ⟨rfl, rfl⟩
  go_wp2_with fail
  go_ret
  exact ⟨rfl, rfl⟩
theorem c_l2ImageP (p : ByteArray) (n : Nat) (w : World) (h : permB p = true) (hn : n < 10) : Calls Try.prog 78 #[.string p, .int .i64 n] w fun e w' => e = .returned (.int .i64 (pn p n)) ∧ w = w' := by
  have := c_l2Image p n w (by rw [permB_size h]; exact hn) (by rw [permB_size h]; omega)
  rw [pn_bt h hn, show (97 + (pn p n : Int) - 97) = pn p n by omega] at this
  exact this
theorem backS_row {p : ByteArray} (h : permB p = true) {k j : Nat} (hk : k < 10) (hj : j < 10) : (if j = pn p k then (97 + (k : Int)) else (if bk p j < k then 97 + (bk p j : Int) else 0)) = if bk p j < k + 1 then 97 + (bk p j : Int) else 0 := by
  by_cases e : j = pn p k
  · subst e; rw [if_pos rfl, bk_of h hk, if_pos (by omega)]
  · rw [if_neg e]
    have hne : bk p j ≠ k := fun e' => e (by rw [← e', pn_bk h hj])
    by_cases h2 : bk p j < k
    · rw [if_pos h2, if_pos (by omega)]
    · rw [if_neg h2, if_neg (by omega)]
set_option maxHeartbeats 400000 in
theorem c_l2Back (p : ByteArray) (w : World) (h : permB p = true) : Calls Try.prog 165 #[.string p] w fun e w' => e = .returned (.string (backS p)) ∧ Below w.heap.size w w' := by
  have HP := Lib.hid h
  clear h
  go_enter Try.func165, Try.ntmps165
  go_wp2_with (at_make; refine makeN _ rfl _ _ _ rfl w.heap.size 5 Try.underlying61 info_u8 rfl _ _ _ _ 10 rfl rfl rfl rfl (by omega) (by omega) (Nat.le_refl _) ?_; intro w1 hown hb1)
  have hz : w.heap.size < w1.heap.size := (hown.blk_lt (g := w.heap.size) rfl).2
  have HR1 := Lib.hid (Row.ofOwn hown hz)
  have HB := Lib.hid hb1
  clear hown hb1
  go_loopw [4] (fun i wr => ∃ k : Nat, k ≤ 10 ∧ i = .int .i64 k ∧ Row wr w.heap.size 10 (fun j => if bk p j < k then 97 + (bk p j : Int) else 0) ∧ Below w.heap.size w wr) (fun i _ => 10 - (intOf i).toNat)
  case atStart => exact ⟨0, Nat.zero_le _, rfl, HR1.out.congr (fun i _ => by simp), HB.out⟩
  case round =>
    obtain ⟨k, hk, rfl, hrow, hbel⟩ := hrel
    have HRW := Lib.hid hrow
    have HBL := Lib.hid hbel
    by_cases hlt : k < 10
    · have hpl := pn_lt HP.out hlt
      have hcell := hrow.cell hpl
      have hfree := hrow.free hpl
      have hbk : bk p (pn p k) = k := bk_of HP.out hlt
      simp only [hbk, Nat.lt_irrefl, if_false] at hcell
      clear hrow hbel hbk
      go_wp2_with (go_at_call 78; refine (c_l2ImageP p k _ HP.out hlt).mono ?_; rintro e w' ⟨rfl, rfl⟩)
      exact ⟨⟨k + 1, by omega, by go_num, (HRW.out.set hpl _).congr (fun j hj => backS_row HP.out hlt hj), HBL.out.setCell (p := ⟨w.heap.size, pn p k, none⟩) (Nat.le_refl _) _⟩, by simp [intOf]; omega⟩
    · clear hrow hbel
      have e : k = 10 := by omega
      subst e
      have hcv := conv_row (P := Try.prog) HRW.out 61 9 5 10 Try.underlying61 Try.underlying5 Try.underlying9
      go_wp2_with fail
      go_ret
      exact ⟨ret_str (mkS_congr (fun j hj => if_pos (bk_lt HP.out hj))), HBL.out⟩
theorem c_sPlugsValid (p : ByteArray) (w : World) (hs : p.size ≤ 9223372036854775807) : Calls Try.prog 138 #[.string p] w fun e w' => e = .returned (.bool (plugB p)) ∧ Below w.heap.size w w' := by
  cases h : permB p
  · have HP := Lib.hid (show plugB p = false by unfold plugB; rw [h]; rfl)
    go_enter Try.func138, Try.ntmps138
    go_wp2_with fail
    refine (c_sPermValid p _ hs).mono ?_
    rintro e w1 ⟨rfl, hb1⟩
    rw [h]
    clear h
    go_wp2_with fail
    go_ret
    exact ⟨by rw [HP.out]; rfl, hb1⟩
  · have HP := Lib.hid h
    have HQ := Lib.hid (plug_back h)
    go_enter Try.func138, Try.ntmps138
    go_wp2_with fail
    refine (c_sPermValid p _ hs).mono ?_
    rintro e w1 ⟨rfl, hb1⟩
    rw [h]
    have B1 := Lib.hid hb1
    clear h hb1
    go_wp2_with fail
    refine (c_l2Back p _ HP.out).mono ?_
    rintro e w2 ⟨rfl, hb2⟩
    have B2 := Lib.hid (ext_trans B1.out hb2)
    clear hb2
    have HE := Lib.hid (bs_eq (backS p) p)
    go_wp2_with fail
    go_ret
    refine ⟨ret_bool ?_, B2.out⟩
    rw [HE.out, Bool.eq_iff_iff, decide_eq_true_eq]
    exact HQ.out
end Go.Proofs.Ytnfeddnkokocfaa
