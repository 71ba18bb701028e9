/- Contracts of the reference's l3Cycle, CyclesOf, FixedLetters at any permutation. -/
import Derived.Test.YtnfeddnkokocfaaSpecMach3
namespace Go.Proofs.Ytnfeddnkokocfaa
set_option linter.unusedVariables false
set_option linter.unusedSimpArgs false
open Go.RowKit

theorem it_lt {f : Nat → Nat} (h : IsP f) (n : Nat) {i : Nat} (hi : i < 10) : it f n i < 10 := it_inv f (fun x => x < 10) (fun x hx => h.1 x hx) n hi
theorem it_inj {f : Nat → Nat} (h : IsP f) (n : Nat) {i j : Nat} (hi : i < 10) (hj : j < 10) (e : it f n i = it f n j) : i = j := by
  induction n with
  | zero => exact e
  | succ n ih => exact ih (h.2 _ (it_lt h n hi) _ (it_lt h n hj) e)
theorem cyc_back {f : Nat → Nat} (h : IsP f) {i : Nat} (hi : i < 10) : ∃ n, 1 ≤ n ∧ n ≤ 10 ∧ it f n i = i := by
  obtain ⟨a, b, hab, hb, e⟩ := pigeon 10 (fun k => it f k i) (fun k _ => it_lt h k hi)
  refine ⟨b - a, by omega, by omega, ?_⟩
  refine it_inj h a (it_lt h _ hi) hi ?_
  show it f a (it f (b - a) i) = it f a i
  rw [← it_add, show a + (b - a) = b by omega]
  exact e.symm
open Classical in
/-- how long the cycle of a letter is -/
noncomputable def cycN (f : Nat → Nat) (i : Nat) : Nat := if h : ∃ n, 1 ≤ n ∧ it f n i = i then (least h).choose else 0
theorem cycN_spec {f : Nat → Nat} (h : IsP f) {i : Nat} (hi : i < 10) : 1 ≤ cycN f i ∧ cycN f i ≤ 10 ∧ it f (cycN f i) i = i ∧ ∀ k, 1 ≤ k → k < cycN f i → it f k i ≠ i := by
  obtain ⟨n, h1, h2, h3⟩ := cyc_back h hi
  have hex : ∃ n, 1 ≤ n ∧ it f n i = i := ⟨n, h1, h3⟩
  have hs := (least hex).choose_spec
  have e : cycN f i = (least hex).choose := by unfold cycN; rw [dif_pos hex]
  rw [← e] at hs
  refine ⟨hs.1.1, ?_, hs.1.2, fun k hk1 hk2 hk3 => hs.2 k hk2 ⟨hk1, hk3⟩⟩
  apply Nat.le_of_not_lt
  intro hlt
  exact hs.2 n (by omega) ⟨h1, h3⟩
theorem cycN_one {f : Nat → Nat} (h : IsP f) {i : Nat} (hi : i < 10) : cycN f i = 1 ↔ f i = i := by
  obtain ⟨h1, h2, h3, h4⟩ := cycN_spec h hi
  constructor
  · intro e; rw [e] at h3; exact h3
  · intro e
    apply Nat.le_antisymm _ h1
    apply Nat.le_of_not_lt
    intro hlt
    exact h4 1 (Nat.le_refl _) hlt e
/-- the first n letters of the cycle of a letter -/
noncomputable def cycK (f : Nat → Nat) (i n : Nat) : ByteArray := mkS n (fun j => 97 + ((it f j i : Nat) : Int))
theorem cycK_size (f : Nat → Nat) (i n : Nat) : (cycK f i n).size = n := mkS_size _ _
theorem cycK_succ (f : Nat → Nat) (i n : Nat) : cycK f i (n + 1) = cycK f i n ++ strOfNums [97 + ((it f n i : Nat) : Int)] := mkS_succ _ _
theorem cycK_has {f : Nat → Nat} (h : IsP f) {i : Nat} (hi : i < 10) (n m : Nat) : hasB (cycK f i n) (97 + (m : Int)) = true ↔ ∃ j, j < n ∧ it f j i = m := by
  rw [hasB_iff]
  constructor
  · rintro ⟨j, hj, e⟩
    rw [cycK_size] at hj
    have := it_lt h j hi
    unfold cycK at e
    rw [bt_mkS _ _ _ hj (by omega) (by omega)] at e
    exact ⟨j, hj, by omega⟩
  · rintro ⟨j, hj, e⟩
    have := it_lt h j hi
    refine ⟨j, by rw [cycK_size]; exact hj, ?_⟩
    unfold cycK
    rw [bt_mkS _ _ _ hj (by omega) (by omega), e]
/-- m is in the cycle of i -/
def Orb (f : Nat → Nat) (i m : Nat) : Prop := ∃ n, it f n i = m
theorem cyc_orb {f : Nat → Nat} (h : IsP f) {i : Nat} (hi : i < 10) (m : Nat) : hasB (cycK f i (cycN f i)) (97 + (m : Int)) = true ↔ Orb f i m := by
  obtain ⟨h1, h2, h3, h4⟩ := cycN_spec h hi
  rw [cycK_has h hi]
  constructor
  · rintro ⟨j, _, e⟩; exact ⟨j, e⟩
  · rintro ⟨n, e⟩
    refine ⟨n % cycN f i, Nat.mod_lt _ h1, ?_⟩
    rw [← Nat.mod_add_div n (cycN f i), it_add, it_mul h3] at e
    exact e
/-- what the loop of CyclesOf has gathered below k -/
structure GInv (f : Nat → Nat) (k : Nat) (L : List ByteArray) (s : ByteArray) : Prop where
  has : ∀ m : Nat, m < 10 → (hasB s (97 + (m : Int)) = true ↔ ∃ j, j < k ∧ Orb f j m)
  one : (∃ x, x ∈ L ∧ x.size = 1) ↔ ∃ j, j < k ∧ f j = j
  len : L.length ≤ k
  siz : s.size ≤ 10 * k
  all : ∀ x, x ∈ L → x.size ≤ 10
theorem GInv.skip {f : Nat → Nat} (h : IsP f) {k : Nat} (hk : k < 10) {L : List ByteArray} {s : ByteArray} (hc : GInv f k L s) (hl : hasB s (97 + (k : Int)) = true) : GInv f (k + 1) L s := by
  obtain ⟨j0, hj0, n0, e0⟩ := (hc.has k hk).1 hl
  refine ⟨fun m hm => ?_, ?_, by have := hc.len; omega, by have := hc.siz; omega, hc.all⟩
  · rw [hc.has m hm]
    constructor
    · rintro ⟨j, hj, o⟩; exact ⟨j, by omega, o⟩
    · rintro ⟨j, hj, n, o⟩
      by_cases e : j = k
      · subst e
        exact ⟨j0, hj0, n + n0, by rw [it_add, e0]; exact o⟩
      · exact ⟨j, by omega, n, o⟩
  · rw [hc.one]
    constructor
    · rintro ⟨j, hj, o⟩; exact ⟨j, by omega, o⟩
    · rintro ⟨j, hj, o⟩
      by_cases e : j = k
      · subst e
        have e1 : it f n0 j = j := by
          clear e0
          induction n0 with
          | zero => rfl
          | succ n ih => rw [it_succ, ih]; exact o
        have := it_inj h n0 (by omega) hk (e0.trans e1.symm)
        omega
      · exact ⟨j, by omega, o⟩
theorem GInv.add {f : Nat → Nat} (h : IsP f) {k : Nat} (hk : k < 10) {L : List ByteArray} {s : ByteArray} (hc : GInv f k L s) : GInv f (k + 1) (L ++ [cycK f k (cycN f k)]) (s ++ cycK f k (cycN f k)) := by
  obtain ⟨h1, h2, h3, h4⟩ := cycN_spec h hk
  refine ⟨fun m hm => ?_, ?_, by have := hc.len; simp; omega, ?_, fun x hx => ?_⟩
  · rw [hasB_app, Bool.or_eq_true, hc.has m hm, cyc_orb h hk]
    constructor
    · rintro (⟨j, hj, o⟩ | o)
      · exact ⟨j, by omega, o⟩
      · exact ⟨k, by omega, o⟩
    · rintro ⟨j, hj, o⟩
      by_cases e : j = k
      · subst e; exact .inr o
      · exact .inl ⟨j, by omega, o⟩
  · constructor
    · rintro ⟨x, hx, e⟩
      rcases List.mem_append.1 hx with hx | hx
      · obtain ⟨j, hj, o⟩ := hc.one.1 ⟨x, hx, e⟩
        exact ⟨j, by omega, o⟩
      · rw [List.mem_singleton.1 hx, cycK_size] at e
        exact ⟨k, by omega, (cycN_one h hk).1 e⟩
    · rintro ⟨j, hj, o⟩
      by_cases e : j = k
      · subst e
        exact ⟨_, List.mem_append.2 (.inr (List.mem_singleton.2 rfl)), by rw [cycK_size]; exact (cycN_one h hk).2 o⟩
      · obtain ⟨x, hx, e⟩ := hc.one.2 ⟨j, by omega, o⟩
        exact ⟨x, List.mem_append.2 (.inl hx), e⟩
  · have := hc.siz
    rw [ByteArray.size_append, cycK_size]
    omega
  · rcases List.mem_append.1 hx with h1 | h1
    · exact hc.all x h1
    · rw [List.mem_singleton.1 h1, cycK_size]; exact h2
/-- some letter is fixed -/
def fixB (f : Nat → Nat) : Bool := !(allB 10 (fun i => decide (f i ≠ i)))
theorem fixB_iff (f : Nat → Nat) : fixB f = true ↔ ∃ i, i < 10 ∧ f i = i := by
  unfold fixB
  rw [Bool.not_eq_true', ← Bool.not_eq_true, allB_iff]
  constructor
  · intro h
    apply Classical.byContradiction
    intro hn
    exact h fun k hk => decide_eq_true fun e => hn ⟨k, hk, e⟩
  · rintro ⟨i, hi, e⟩ h
    exact of_decide_eq_true (h i hi) e
theorem fixB_congr {f g : Nat → Nat} (h : ∀ i, i < 10 → f i = g i) : fixB f = fixB g := by
  unfold fixB; rw [allB_congr (fun k hk => by rw [h k hk])]
set_option maxHeartbeats 400000 in
theorem c_l3CycleG (p : ByteArray) (i : Nat) (w : World) (h : permB p = true) (hi : i < 10) : Calls Try.prog 167 #[.string p, .int .i64 i] w fun e w' => e = .returned (.string (cycK (pn p) i (cycN (pn p) i))) ∧ Below w.heap.size w w' := by
  have HP := Lib.hid h
  have HF := Lib.hid (isP_pn h)
  have HS := Lib.hid (cycN_spec (isP_pn h) hi)
  have hpl := pn_lt h hi
  have E1 := Lib.hid (show (i : Int) % 10 = i by omega)
  obtain ⟨N, hN⟩ : ∃ N, cycN (pn p) i = N := ⟨_, rfl⟩
  rw [hN] at HS ⊢
  have hN1 := HS.out.1
  have hN2 := HS.out.2.1
  clear hN h
  go_enter Try.func167, Try.ntmps167
  go_wp2_with fail
  refine (c_l1Letter _ _ (by omega) (by omega)).mono ?_
  rintro e w1 ⟨rfl, hb1⟩
  rw [E1.out]
  have B1 := Lib.hid hb1
  clear hb1
  go_wp2_with (go_at_call 78; refine (c_l2ImageP p i _ HP.out hi).mono ?_; rintro e w' ⟨rfl, rfl⟩)
  go_loopg [5, 6] 10 (fun gk o n wr => ∃ k : Nat, k < N ∧ gk = 10 - k ∧ o = .string (cycK (pn p) i (k + 1)) ∧ n = .int .i64 ((it (pn p) (k + 1) i : Nat) : Int) ∧ Below w.heap.size w wr)
  case atStart => exact ⟨0, hN1, rfl, rfl, rfl, B1.out⟩
  case round =>
    clear B1
    obtain ⟨k, hk, hgk, rfl, rfl, hb⟩ := hrel
    have HB := Lib.hid hb
    clear hb
    have hz := cycK_size (pn p) i (k + 1)
    obtain ⟨d, hd⟩ : ∃ d, it (pn p) (k + 1) i = d := ⟨_, rfl⟩
    have hd10 : d < 10 := by rw [← hd]; exact it_lt HF.out _ hi
    rw [hd]
    have HD := Lib.hid hd
    clear hd
    by_cases he : d = i
    · have t1 : ((d : Int) != (i : Int)) = false := by rw [he]; simp
      have HE : Hid (k + 1 = N) := by
        show k + 1 = N
        apply Classical.byContradiction
        intro hne
        exact HS.out.2.2.2 (k + 1) (by omega) (by omega) (HD.out.trans he)
      clear he hz
      go_wp2_with fail
      go_ret
      exact ⟨by rw [HE.out]; rfl, HB.out⟩
    · have t1 : ((d : Int) != (i : Int)) = true := by rw [bne_iff_ne]; omega
      have HE : Hid (k + 1 < N) := by
        show k + 1 < N
        apply Classical.byContradiction
        intro hne
        have e : k + 1 = N := by omega
        exact he (HD.out.symm.trans (by rw [e]; exact HS.out.2.2.1))
      have E2 := Lib.hid (show (d : Int) % 10 = d by omega)
      have hk10 := HE.out
      clear he
      go_wp2_with fail
      refine (c_l1Letter _ _ (by omega) (by omega)).mono ?_
      rintro e w2 ⟨rfl, hb2⟩
      rw [E2.out]
      have B2 := Lib.hid (ext_trans HB.out hb2)
      clear hb2
      have z2 := size_one (97 + (d : Int))
      go_wp2_with (go_at_call 78; refine (c_l2ImageP p d _ HP.out hd10).mono ?_; rintro e w' ⟨rfl, rfl⟩)
      go_roundg (10 - (k + 1))
      case measure => omega
      case rel => exact ⟨k + 1, HE.out, by omega, by rw [← HD.out, cycK_succ (pn p) i (k + 1)], by rw [← HD.out]; rfl, B2.out⟩
set_option maxRecDepth 20000 in
set_option maxHeartbeats 800000 in
theorem c_CyclesOfG (p : ByteArray) (w : World) (h : permB p = true) : Calls Try.prog 139 #[.string p] w fun e w' => ∃ v L, e = .returned v ∧ IsStrs w' v L ∧ L.length ≤ 10 ∧ (∀ x, x ∈ L → x.size ≤ 10) ∧ ((∃ x, x ∈ L ∧ x.size = 1) ↔ fixB (pn p) = true) ∧ Below w.heap.size w w' := by
  have H := Lib.hid h
  have HF := Lib.hid (isP_pn h)
  have hps := permB_size h
  have HPV := Lib.hid h
  go_enter Try.func139, Try.ntmps139
  go_wp2_with fail
  refine (c_sPermValid p _ (by omega)).mono ?_
  rintro e w1 ⟨rfl, hb1⟩
  rw [h]
  have B1 := Lib.hid (ext_trans (ext_alloc w (.cells #[] 9)) hb1)
  have HO1 := Lib.hid ((own_empty w 9).ext hb1)
  clear hb1 hps h
  have hz1 : w.heap.size ≤ w1.heap.size := B1.out.size
  go_wp2_with fail
  go_loopg [3, 4, 5] 10 (fun gk o sn i wr => ∃ (k : Nat) (L : List ByteArray) (s : ByteArray), k + gk = 10 ∧ i = .int .i64 k ∧ sn = .string s ∧ Own wr w.heap.size 9 o (L.map .string) ∧ GInv (pn p) k L s ∧ Below w.heap.size w wr)
  case atStart =>
    exact ⟨0, [], ⟨#[]⟩, rfl, rfl, rfl, HO1.out, ⟨fun m _ => by rw [hasB_iff]; exact ⟨fun ⟨k, hk, _⟩ => absurd hk (Nat.not_lt_zero k), fun ⟨j, hj, _⟩ => by omega⟩, ⟨fun ⟨x, hx, _⟩ => (by cases hx), fun ⟨j, hj, _⟩ => (by omega)⟩, Nat.le_refl _, Nat.le_refl _, fun x hx => by cases hx⟩, B1.out⟩
  case round =>
    obtain ⟨k, L, s, hk, rfl, rfl, hown, hc, hbr⟩ := hrel
    have HOR := Lib.hid hown
    have HC := Lib.hid hc
    have HBR := Lib.hid hbr
    have hsz := hc.siz
    have hln := hc.len
    have hszr := hbr.size
    clear hown hc hbr
    by_cases hlt : k < 10
    · have HFI := Lib.hid (fnd_has s (97 + (k : Int)))
      have E1 : IntKind.u8.wrap (97 + (k : Int)) = 97 + (k : Int) := IntWalk.u8_in _ (by omega)
      cases hh : hasB s (97 + (k : Int)) with
      | true =>
        have hf : 0 ≤ fnd s (97 + (k : Int)) s.size := by
          have h1 := HFI.out
          rw [hh] at h1
          exact of_decide_eq_true h1
        have HH := Lib.hid hh
        clear hh
        go_wp2_with (go_at_call 166; refine (c_l21Find s _ _ (by omega)).mono ?_; rintro e w' ⟨rfl, rfl⟩)
        go_roundg (10 - (k + 1))
        case measure => omega
        case rel => exact ⟨k + 1, L, s, by omega, by go_num, rfl, HOR.out, HC.out.skip HF.out hlt HH.out, HBR.out⟩
      | false =>
        have hf : fnd s (97 + (k : Int)) s.size < 0 := by
          have h1 := HFI.out
          rw [hh] at h1
          have := of_decide_eq_false h1
          omega
        have HH := Lib.hid hh
        obtain ⟨q1, q2, _, _⟩ := cycN_spec HF.out hlt
        have hcs2 : (cycK (pn p) k (cycN (pn p) k)).size ≤ 10 := by rw [cycK_size]; exact q2
        have HADD := Lib.hid (HC.out.add HF.out hlt)
        obtain ⟨cw, hcw⟩ : ∃ cw, cycK (pn p) k (cycN (pn p) k) = cw := ⟨_, rfl⟩
        rw [hcw] at hcs2 HADD
        have HCW := Lib.hid hcw
        clear hh q1 q2 hcw
        go_wp2_with (go_at_call 166; refine (c_l21Find s _ _ (by omega)).mono ?_; rintro e w' ⟨rfl, rfl⟩)
        refine (c_l3CycleG p k _ H.out hlt).mono ?_
        rintro e w2 ⟨rfl, hb2⟩
        rw [HCW.out]
        have HO2 := Lib.hid (HOR.out.ext hb2)
        have HB2 := Lib.hid (ext_trans HBR.out hb2)
        have hz2 : w.heap.size ≤ w2.heap.size := HB2.out.size
        clear hb2 hf E1
        go_wp2_with (at_builtin; refine app1 _ rfl _ _ _ rfl w.heap.size 9 Try.underlying48 info_str rfl _ _ rfl HO2.out _ rfl rfl (by simp; omega) (by omega) hz2 ?_; intro v' w4 hown4 hgr4; obtain ⟨n, g, c, rfl, hn, hcell⟩ := own_last hown4; have HN := Lib.hid hn; have e1 : IntKind.i64.wrap ((n : Int) - 1) = (L.length : Int) := (by rw [IntWalk.i64_in _ (by omega)]; omega); have l1 : (L.length : Int) < (n : Int) := (by omega); have HO4 := Lib.hid hown4; have HG4 := Lib.hid hgr4; clear hn hown4 hgr4)
        have HB4 := Lib.hid (HO2.out.below (Nat.le_refl _) hz2 HB2.out HG4.out)
        have HO5 := Lib.hid (show Own w4 w.heap.size 9 (.slice (some ⟨g, 0, none⟩) n c) ((L ++ [cw]).map .string) by rw [List.map_append]; exact HO4.out)
        go_roundg (10 - (k + 1))
        case measure => omega
        case rel => exact ⟨k + 1, L ++ [cw], s ++ cw, by omega, by go_num, rfl, HO5.out, HADD.out, HB4.out⟩
    · have e : k = 10 := by omega
      subst e
      go_wp2_with fail
      go_ret
      refine ⟨_, L, rfl, HOR.out.strs (by omega) (fun j hj => by have := HC.out.all _ (gS_mem hj); omega), by omega, HC.out.all, ?_, HBR.out⟩
      rw [HC.out.one, fixB_iff]
set_option maxHeartbeats 800000 in
theorem c_FixedLettersG (p : ByteArray) (w : World) (h : permB p = true) : Calls Try.prog 106 #[.string p] w fun e w' => ∃ s : ByteArray, e = .returned (.string s) ∧ (0 < s.size ↔ fixB (pn p) = true) ∧ s.size ≤ 10 ∧ Below w.heap.size w w' := by
  have H := Lib.hid h
  clear h
  go_enter Try.func106, Try.ntmps106
  go_wp2_with fail
  refine (c_CyclesOfG p _ H.out).mono ?_
  rintro e w1 ⟨v, L, rfl, hi, hl, ha, hc, hb1⟩
  obtain ⟨A, c, rfl⟩ := hi.form
  have HI := Lib.hid hi
  have HA := Lib.hid ha
  have HC := Lib.hid hc
  have HB := Lib.hid hb1
  clear hi ha hc hb1
  go_wp2_with fail
  go_loopg [3, 5] L.length (fun gk o i wr => ∃ (k : Nat) (s : ByteArray), k + gk = L.length ∧ i = .int .i64 k ∧ o = .string s ∧ s.size = (L.take k).countP (fun x => decide (x.size = 1)) ∧ wr = w1)
  case atStart => exact ⟨0, ⟨#[]⟩, by omega, rfl, rfl, rfl, rfl⟩
  case round =>
    obtain ⟨k, s, hk, rfl, rfl, hs, rfl⟩ := hrel
    have HS := Lib.hid hs
    have hle : s.size ≤ 10 := by
      rw [hs]
      have := List.countP_le_length (l := L.take k) (p := fun x => decide (x.size = 1))
      have h2 := List.length_take_le k L
      have h3 : (L.take k).length ≤ L.length := by rw [List.length_take]; omega
      omega
    clear hs
    by_cases hlt : k < L.length
    · obtain ⟨b, o, rfl, hb, hcell⟩ := HI.out.at_ hlt
      have hsz := HA.out _ (gS_mem hlt)
      have HT := Lib.hid (take_count L (fun x => decide (x.size = 1)) hlt)
      by_cases he : (gS L k).size = 1
      · have t1 : (((gS L k).size : Int) == 1) = true := by rw [he]; rfl
        have HE := Lib.hid he
        clear he
        go_wp2_with fail
        go_roundg (L.length - (k + 1))
        case measure => omega
        case rel => exact ⟨k + 1, _, by omega, by go_num, rfl, by rw [ByteArray.size_append, HT.out, if_pos (decide_eq_true HE.out), HS.out, HE.out], rfl⟩
      · have t1 : (((gS L k).size : Int) == 1) = false := by rw [beq_eq_false_iff_ne]; omega
        have HE := Lib.hid he
        clear he
        go_wp2_with fail
        go_roundg (L.length - (k + 1))
        case measure => omega
        case rel => exact ⟨k + 1, _, by omega, by go_num, rfl, by rw [HT.out, if_neg (by simp [HE.out]), HS.out]; rfl, rfl⟩
    · have e : k = L.length := by omega
      subst e
      go_wp2_with fail
      go_ret
      refine ⟨s, rfl, ?_, hle, HB.out⟩
      have h1 := HS.out
      rw [List.take_length] at h1
      rw [h1, ← HC.out, List.countP_pos_iff]
      simp only [decide_eq_true_eq]
end Go.Proofs.Ytnfeddnkokocfaa
