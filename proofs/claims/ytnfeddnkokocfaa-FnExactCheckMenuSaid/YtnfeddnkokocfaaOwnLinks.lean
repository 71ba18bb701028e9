/- Slices of links (structs of two strings and a number) that a call makes itself; sz.., to.., eq.. on links. -/
import Derived.Test.YtnfeddnkokocfaaSpecPerm
import Derived.Test.YtnfeddnkokocfaaLinks
namespace Go.Proofs.Ytnfeddnkokocfaa
set_option linter.unusedVariables false
set_option linter.unusedSimpArgs false
open Go.RowKit

/-- cell j of a row of links -/
def cellL (f : Nat → Lnk) (j : Nat) : Value := if j % 3 = 0 then .string (f (j / 3)).1 else if j % 3 = 1 then .string (f (j / 3)).2.1 else .int .i64 (f (j / 3)).2.2
theorem cellL_0 (f : Nat → Lnk) (k : Nat) : cellL f (k * 3) = .string (f k).1 := by
  unfold cellL; rw [if_pos (by omega), show k * 3 / 3 = k by omega]
theorem cellL_1 (f : Nat → Lnk) (k : Nat) : cellL f (k * 3 + 1) = .string (f k).2.1 := by
  unfold cellL; rw [if_neg (by omega), if_pos (by omega), show (k * 3 + 1) / 3 = k by omega]
theorem cellL_2 (f : Nat → Lnk) (k : Nat) : cellL f (k * 3 + 2) = .int .i64 (f k).2.2 := by
  unfold cellL; rw [if_neg (by omega), if_neg (by omega), show (k * 3 + 2) / 3 = k by omega]
/-- v is a slice of links of the call's own, from block B on: f 0, .., f (n-1) -/
def OwnL (w : World) (B : Nat) (v : Value) (n : Nat) (f : Nat → Lnk) : Prop := w.ownsRow B 110 3 v n (rngV (cellL f) (n * 3))
theorem OwnL.congr {w : World} {B : Nat} {v : Value} {n : Nat} {f g : Nat → Lnk} (h : OwnL w B v n f) (e : ∀ i, i < n → f i = g i) : OwnL w B v n g := by
  unfold OwnL at h ⊢
  rw [← rngV_congr (f := cellL f) (g := cellL g)]
  · exact h
  · intro i hi
    unfold cellL
    rw [e (i / 3) (by omega)]
theorem OwnL.nil (w : World) (B : Nat) (f : Nat → Lnk) : OwnL w B (.slice none 0 0) 0 f := World.ownsRow_nil w B _ 3
theorem OwnL.kept {w w' : World} {B n : Nat} {v : Value} {f : Nat → Lnk} (h : OwnL w B v n f) {row : Option Nat} (hg : w.grownBy w' row) (hne : ∀ g, row = some g → v.ownBlock ≠ some g) : OwnL w' B v n f := by
  refine World.ownsRow.kept h hg ?_
  rcases hv : v.ownBlock with _ | g
  · exact .inl rfl
  · exact .inr fun he => hne g he.symm hv
theorem OwnL.ext {w w' : World} {B n : Nat} {v : Value} {f : Nat → Lnk} (h : OwnL w B v n f) (hb : Below w.heap.size w w') : OwnL w' B v n f :=
  h.kept (row := none) ⟨hb.os, hb.tape, hb.output, hb.size, fun k hk _ => hb.block k hk⟩ (fun g hg => by cases hg)
theorem OwnL.blk_lt {w : World} {B n : Nat} {v : Value} {f : Nat → Lnk} (h : OwnL w B v n f) {g : Nat} (hg : v.ownBlock = some g) : B ≤ g ∧ g < w.heap.size := World.ownsRow.lt h g hg
theorem OwnL.slice {w : World} {B n : Nat} {v : Value} {f : Nat → Lnk} (h : OwnL w B v n f) : ∃ A c, v = .slice A n c := by
  rcases h.2 with ⟨rfl, e⟩ | ⟨g, cap, cur, rfl, _⟩
  · exact ⟨none, 0, by rw [e]⟩
  · exact ⟨_, cap, rfl⟩
theorem OwnL.at0 {w : World} {B n : Nat} {v : Value} {f : Nat → Lnk} (h : OwnL w B v n f) (hn : 0 < n) : ∃ g c, v = .slice (some ⟨g, 0, none⟩) n c ∧ B ≤ g ∧ g < w.heap.size := by
  rcases h.2 with ⟨rfl, e⟩ | ⟨g, cap, cur, rfl, hb, hg, _⟩
  · omega
  · exact ⟨g, cap, rfl, hb, (Array.getElem?_eq_some_iff.1 hg).1⟩
theorem OwnL.cells {w : World} {B n g c : Nat} {f : Nat → Lnk} (h : OwnL w B (.slice (some ⟨g, 0, none⟩) n c) n f) {k : Nat} (hk : k < n) : w.cell? ⟨g, k * 3, none⟩ = some (.string (f k).1) ∧ w.cell? ⟨g, k * 3 + 1, none⟩ = some (.string (f k).2.1) ∧ w.cell? ⟨g, k * 3 + 2, none⟩ = some (.int .i64 (f k).2.2) := by
  refine ⟨?_, ?_, ?_⟩
  · rw [World.ownsRow.cellAt h (k * 3) (by omega), rngV_at _ (by omega), cellL_0]
  · rw [World.ownsRow.cellAt h (k * 3 + 1) (by omega), rngV_at _ (by omega), cellL_1]
  · rw [World.ownsRow.cellAt h (k * 3 + 2) (by omega), rngV_at _ (by omega), cellL_2]
theorem OwnL.free {w : World} {B n g c : Nat} {f : Nat → Lnk} (h : OwnL w B (.slice (some ⟨g, 0, none⟩) n c) n f) (j : Nat) : w.frozen? ⟨g, j, none⟩ = false := World.ownsRow.frozenAt h j
theorem OwnL.set {w : World} {B n g c : Nat} {f : Nat → Lnk} (h : OwnL w B (.slice (some ⟨g, 0, none⟩) n c) n f) (k : Nat) (r : Lnk) {f' : Nat → Lnk} (hf : ∀ i, i < n → (if i = k then r else f i) = f' i) :
    OwnL (((w.setCell ⟨g, k * 3, none⟩ (.string r.1)).setCell ⟨g, k * 3 + 1, none⟩ (.string r.2.1)).setCell ⟨g, k * 3 + 2, none⟩ (.int .i64 r.2.2)) B (.slice (some ⟨g, 0, none⟩) n c) n f' := by
  have h1 := (World.ownsRow.stored h (k * 3) (.string r.1)).1
  have h2 := (World.ownsRow.stored h1 (k * 3 + 1) (.string r.2.1)).1
  have h3 := (World.ownsRow.stored h2 (k * 3 + 2) (.int .i64 r.2.2)).1
  rw [rngV_set (f := cellL f) (g := fun j => if j = k * 3 then .string r.1 else cellL f j) (fun i _ => rfl), rngV_set (g := fun j => if j = k * 3 + 1 then .string r.2.1 else if j = k * 3 then .string r.1 else cellL f j) (fun i _ => rfl), rngV_set (g := cellL f')] at h3
  · exact h3
  · intro i hi
    have e := hf (i / 3) (by omega)
    unfold cellL
    rw [← e]
    by_cases e1 : i = k * 3 + 2
    · subst e1; rw [if_pos rfl, if_neg (by omega), if_neg (by omega), if_pos (by omega)]
    · rw [if_neg e1]
      by_cases e2 : i = k * 3 + 1
      · subst e2; rw [if_pos rfl, if_neg (by omega), if_pos (by omega), if_pos (by omega)]
      · rw [if_neg e2]
        by_cases e3 : i = k * 3
        · subst e3; rw [if_pos rfl, if_pos (by omega), if_pos (by omega)]
        · rw [if_neg e3]
          by_cases e4 : i / 3 = k
          · omega
          · rw [if_neg e4]
theorem OwnL.links {w : World} {B : Nat} {v : Value} {l : List Lnk} (h : OwnL w B v l.length (gL l)) (hl : l.length ≤ 9223372036854775807) (hs : ∀ k, k < l.length → (gL l k).1.size ≤ 9223372036854775807 ∧ (gL l k).2.1.size ≤ 9223372036854775807) : IsLinks w v l := by
  obtain ⟨A, c, rfl⟩ := h.slice
  refine ⟨A, c, rfl, hl, hs, fun k hk => ?_⟩
  obtain ⟨g, c', e, _, hlt⟩ := h.at0 (by omega)
  injection e with e1 _ e3
  subst e1 e3
  obtain ⟨h0, h1, h2⟩ := h.cells hk
  exact ⟨g, 0, rfl, hlt, by rw [Nat.zero_add]; exact h0, by rw [Nat.zero_add]; exact h1, by rw [Nat.zero_add]; exact h2⟩
theorem info_link : (Try.prog.info? 110).map (fun i => (i.zero, i.size, i.bytes)) = some (some (.agg #[.string ByteArray.empty, .string ByteArray.empty, .int .i64 0]), 3, 40) := by kernel_rfl
theorem made_link (n : Nat) : (madeCells #[.string ByteArray.empty, .string ByteArray.empty, .int .i64 0] (n * 3)).toList = rngV (cellL (fun _ => (ByteArray.empty, ByteArray.empty, 0))) (n * 3) := by
  unfold madeCells rngV
  rw [Array.toList_map, Array.toList_range]
  refine List.map_congr_left fun j _ => ?_
  have : j % 3 = 0 ∨ j % 3 = 1 ∨ j % 3 = 2 := by omega
  unfold cellL
  rcases this with e | e | e
  · rw [if_pos e]; show (#[Value.string ByteArray.empty, .string ByteArray.empty, .int .i64 0])[j % 3]! = _; rw [e]; rfl
  · rw [if_neg (by omega), if_pos e]; show (#[Value.string ByteArray.empty, .string ByteArray.empty, .int .i64 0])[j % 3]! = _; rw [e]; rfl
  · rw [if_neg (by omega), if_neg (by omega)]; show (#[Value.string ByteArray.empty, .string ByteArray.empty, .int .i64 0])[j % 3]! = _; rw [e]; rfl
/-- make([]Link, n) -/
theorem makeL {P : Program} (w : World) {ops : Array Oper} {rest : List Oper} {o : Oper} {a : Act} {Q : Exit → Act → World → Prop}
    (hg : o.guard = none) (l c : Operand) (t : TypeId) (hop : o.op = Op.makeSlice t l c)
    (B : Nat) (h1 : P.underlying t = some (.slice 110)) (hinfo : (P.info? 110).map (fun i => (i.zero, i.size, i.bytes)) = some (some (.agg #[.string ByteArray.empty, .string ByteArray.empty, .int .i64 0]), 3, 40))
    (kl kc : IntKind) (L C : Int) (n : Nat) (hl : a.eval l = .int kl L) (hc : a.eval c = .int kc C) (hL : L = (n : Int)) (hC : C = (n : Int)) (hn : n ≤ 1000000000) (b4 : B ≤ w.heap.size)
    (hK : ∀ w', OwnL w' B (.slice (some ⟨w.heap.size, 0, none⟩) n n) n (fun _ => (ByteArray.empty, ByteArray.empty, 0)) → Below w.heap.size w w' → wpList P ops Q rest (a.put o.dst (.slice (some ⟨w.heap.size, 0, none⟩) n n)) w') :
    wpList P ops Q (o :: rest) a w := by
  obtain ⟨i, hi, hz0, hz1, hz2⟩ := info_parts hinfo
  refine wpList_make_full (P := P) w hg l c t hop B 110 i _ 3 h1 hi hz0 hz1 kl kc L C n hl hc hL hC ?_ (by unfold maxLen; omega) b4 (fun w' ho hgr => hK w' ?_ ?_)
  · rw [hz2]; omega
  · unfold OwnL; rw [← made_link]; exact ho
  · exact (Below.refl _ _).grown hgr (Nat.le_refl _) (fun k hk => by cases hk)
theorem c_szLink (f t : ByteArray) (n left : Int) (w : World) (hw : f.size ≤ 9223372036854775807) (hn : t.size ≤ 9223372036854775807) (h0 : 0 ≤ left) (h1 : left ≤ 1048576) :
    Calls Try.prog 75 #[.agg #[.string f, .string t, .int .i64 n], .int .i64 left] w fun e w' => ∃ r : Int, e = .returned (.int .i64 r) ∧ -1 ≤ r ∧ r ≤ left ∧ (0 ≤ r → f.size ≤ 1048576 ∧ t.size ≤ 1048576) ∧ Below w.heap.size w w' := by
  by_cases h2 : left < f.size
  · go_enter Try.func75, Try.ntmps75
    go_wp2_with fail
    go_ret
    exact ⟨-1, rfl, by omega, by omega, fun h => by omega, ext_alloc _ _⟩
  · by_cases h3 : left - f.size < t.size
    · go_enter Try.func75, Try.ntmps75
      go_wp2_with fail
      go_ret
      exact ⟨-1, rfl, by omega, by omega, fun h => by omega, ext_alloc _ _⟩
    · go_enter Try.func75, Try.ntmps75
      go_wp2_with fail
      go_ret
      exact ⟨_, rfl, by omega, by omega, fun h => ⟨by omega, by omega⟩, ext_alloc _ _⟩
set_option maxHeartbeats 400000 in
theorem c_szLinkS (A : Option Addr) (cA : Nat) (l : List Lnk) (left : Int) (w : World) (hR : IsLinks w (.slice A l.length cA) l) (h0 : 0 ≤ left) (h1 : left ≤ 1048576) :
    Calls Try.prog 34 #[.slice A l.length cA, .int .i64 left] w fun e w' => ∃ r : Int, e = .returned (.int .i64 r) ∧ -1 ≤ r ∧ r ≤ left ∧ (0 ≤ r → l.length ≤ 1048576) ∧ Below w.heap.size w w' := by
  have HL := Lib.hid hR
  have hll := hR.len_le
  clear hR
  by_cases h : left < l.length
  · go_enter Try.func34, Try.ntmps34
    go_wp2_with fail
    go_ret
    exact ⟨-1, rfl, by omega, by omega, fun h => by omega, Below.refl _ _⟩
  · go_enter Try.func34, Try.ntmps34
    go_wp2_with fail
    go_loopg [1, 5] l.length (fun gk r i wr => ∃ (k : Nat) (x : Int), k + gk = l.length ∧ i = .int .i64 k ∧ r = .int .i64 x ∧ 0 ≤ x ∧ x ≤ left ∧ Below w.heap.size w wr)
    case atStart => exact ⟨0, left - l.length, by omega, rfl, rfl, by omega, by omega, Below.refl _ _⟩
    case round =>
      obtain ⟨k, x, hk, rfl, rfl, hx0, hx1, hb⟩ := hrel
      have HB := Lib.hid hb
      clear hb
      by_cases hlt : k < l.length
      · obtain ⟨b, o, rfl, hb, hc0, hc1, hc2⟩ := (HL.out.ext HB.out).at_ hlt
        have hs := HL.out.sizes hlt
        generalize hg : gL l k = rk at hc0 hc1 hc2 hs
        obtain ⟨f, t, n⟩ := rk
        clear hg
        go_wp2_with fail
        refine (c_szLink f t n x _ (by have := hs.1; omega) (by have := hs.2; omega) (by omega) (by omega)).mono ?_
        rintro e w2 ⟨r, rfl, hr0, hr1, hr2, hb2⟩
        have HB2 := Lib.hid (ext_trans HB.out hb2)
        clear hr2 hb2
        by_cases hq : r < 0
        · go_wp2_with fail
          go_ret
          exact ⟨-1, rfl, by omega, by omega, fun h => by omega, HB2.out⟩
        · go_wp2_with fail
          go_roundg (l.length - (k + 1))
          case measure => omega
          case rel =>
            exact ⟨k + 1, r, by omega, by go_num, rfl, by omega, by omega, HB2.out⟩
      · have e : k = l.length := by omega
        subst e
        go_wp2_with fail
        go_ret
        exact ⟨x, rfl, by omega, hx1, fun _ => by omega, HB.out⟩
set_option maxHeartbeats 400000 in
theorem c_toLink (f t : ByteArray) (n : Int) (w : World) : Calls Try.prog 80 #[.agg #[.string f, .string t, .int .i64 n]] w fun e w' => e = .returned (.agg #[.string f, .string t, .int .i64 n]) ∧ Below w.heap.size w w' := by
  have k1 := (Blk.new (w.alloc (.cells #[.string f, .string t, .int .i64 n] 107)) 110 #[.string f, .string t, .int .i64 n]).alloc (.cells #[.string f, .string t, .int .i64 n] 110)
  rw [show (w.alloc (.cells #[.string f, .string t, .int .i64 n] 107)).heap.size = w.heap.size + 1 by simp] at k1
  have K1 := Lib.hid k1
  clear k1
  go_enter Try.func80, Try.ntmps80
  go_wp2_with fail
  have q0 := K1.out.cell 0
  have q1 := K1.out.cell 1
  have q2 := K1.out.cell 2
  refine bodyPost_ret (v := .agg #[.string f, .string t, .int .i64 n]) (by simp [results, Try.results80, go_sem, q0, q1, q2]) rfl ⟨rfl, ((ext_alloc w _).alloc (by simp) _).alloc (by simp; omega) _⟩
set_option maxHeartbeats 400000 in
theorem c_toLinkS (A : Option Addr) (cA : Nat) (l : List Lnk) (w : World) (hR : IsLinks w (.slice A l.length cA) l) (h1 : l.length ≤ 1048576) :
    Calls Try.prog 36 #[.slice A l.length cA] w fun e w' => ∃ v', e = .returned v' ∧ OwnL w' w.heap.size v' l.length (gL l) ∧ Below w.heap.size w w' := by
  have HL := Lib.hid hR
  clear hR
  go_enter Try.func36, Try.ntmps36
  go_wp2_with (at_make; refine makeL _ rfl _ _ _ rfl w.heap.size Try.underlying57 info_link _ _ _ _ l.length rfl rfl rfl rfl (by omega) (Nat.le_refl _) ?_; intro w1 hown hb1)
  have HO := Lib.hid hown
  have HB := Lib.hid hb1
  clear hown hb1
  go_loopw [4] (fun i wr => ∃ k : Nat, k ≤ l.length ∧ i = .int .i64 k ∧ OwnL wr w.heap.size (.slice (some ⟨w.heap.size, 0, none⟩) l.length l.length) l.length (fun i => if i < k then gL l i else (ByteArray.empty, ByteArray.empty, 0)) ∧ Below w.heap.size w wr) (fun i _ => l.length - (intOf i).toNat)
  case atStart => exact ⟨0, Nat.zero_le _, rfl, HO.out.congr (fun i _ => by simp), HB.out⟩
  case round =>
    obtain ⟨k, hk, rfl, hown, hbr⟩ := hrel
    have HOR := Lib.hid hown
    have HBR := Lib.hid hbr
    clear hown hbr
    by_cases hlt : k < l.length
    · obtain ⟨b, o, rfl, hb, hc0, hc1, hc2⟩ := (HL.out.ext HBR.out).at_ hlt
      generalize hg : gL l k = rk at hc0 hc1 hc2
      obtain ⟨f, t, n⟩ := rk
      have HG := Lib.hid hg
      clear hg
      go_wp2_with fail
      refine (c_toLink f t n _).mono ?_
      rintro e w2 ⟨rfl, hb2⟩
      have HO2 := Lib.hid (HOR.out.ext hb2)
      have HB2 := Lib.hid (ext_trans HBR.out hb2)
      clear hb2 hc0 hc1 hc2
      obtain ⟨d0, d1, d2⟩ := HO2.out.cells hlt
      simp only [Nat.lt_irrefl, if_false] at d0 d1 d2
      have e0 := HO2.out.free (k * 3)
      have e1 := HO2.out.free (k * 3 + 1)
      have e2 := HO2.out.free (k * 3 + 2)
      go_wp2_with fail
      refine ⟨⟨k + 1, by omega, by go_num, HO2.out.set k (f, t, n) (fun i _ => ?_), ((HB2.out.setCell (p := ⟨w.heap.size, k * 3, none⟩) (Nat.le_refl _) _).setCell (p := ⟨w.heap.size, k * 3 + 1, none⟩) (Nat.le_refl _) _).setCell (p := ⟨w.heap.size, k * 3 + 2, none⟩) (Nat.le_refl _) _⟩, by simp [intOf]; omega⟩
      by_cases e : i = k
      · subst e; rw [if_pos rfl, if_pos (by omega), HG.out]
      · by_cases e2 : i < k
        · rw [if_neg e, if_pos e2, if_pos (by omega)]
        · rw [if_neg e, if_neg e2, if_neg (by omega)]
    · go_wp2_with fail
      go_ret
      have e : k = l.length := by omega
      subst e
      exact ⟨_, rfl, HOR.out.congr (fun i hi => if_pos hi), HBR.out⟩
set_option maxHeartbeats 400000 in
theorem c_eqLink (f t : ByteArray) (n : Int) (w : World) : Calls Try.prog 84 #[.agg #[.string f, .string t, .int .i64 n], .agg #[.string f, .string t, .int .i64 n]] w fun e w' => e = .returned (.bool true) ∧ Below w.heap.size w w' := by
  have t1 := bs_yes (a := f) rfl
  have t2 := bs_yes (a := t) rfl
  have t3 : (n == n) = true := by simp
  go_enter Try.func84, Try.ntmps84
  go_wp2_with fail
  go_ret
  exact ⟨rfl, (ext_alloc w _).alloc (by simp) _⟩
set_option maxHeartbeats 800000 in
theorem c_eqLinkS (A : Option Addr) (cA : Nat) (A' : Option Addr) (cA' : Nat) (l : List Lnk) (w : World) (hR : IsLinks w (.slice A l.length cA) l) (hR' : IsLinks w (.slice A' l.length cA') l) :
    Calls Try.prog 38 #[.slice A l.length cA, .slice A' l.length cA'] w fun e w' => e = .returned (.bool true) ∧ Below w.heap.size w w' := by
  have HL := Lib.hid hR
  have HL' := Lib.hid hR'
  have hll := hR.len_le
  clear hR hR'
  go_enter Try.func38, Try.ntmps38
  go_wp2_with fail
  go_loopg [5] l.length (fun gk i wr => ∃ k : Nat, k + gk = l.length ∧ i = .int .i64 k ∧ Below w.heap.size w wr)
  case atStart => exact ⟨0, by omega, rfl, Below.refl _ _⟩
  case round =>
    obtain ⟨k, hk, rfl, hb⟩ := hrel
    have HB := Lib.hid hb
    clear hb
    by_cases hlt : k < l.length
    · obtain ⟨b, o, rfl, hb, hc0, hc1, hc2⟩ := (HL.out.ext HB.out).at_ hlt
      obtain ⟨b', o', rfl, hb', hd0, hd1, hd2⟩ := (HL'.out.ext HB.out).at_ hlt
      generalize gL l k = rk at hc0 hc1 hc2 hd0 hd1 hd2
      obtain ⟨f, t, n⟩ := rk
      have i1 : (0 : Int) ≤ (k : Int) := by omega
      have i2 : (k : Int) < (l.length : Int) := by omega
      go_wp2_with fail
      go_region_held3 (fun w' => w'.cell? ⟨b, o + k * 3, none⟩ = some (.string f) ∧ w'.cell? ⟨b, o + k * 3 + 1, none⟩ = some (.string t) ∧ w'.cell? ⟨b, o + k * 3 + 2, none⟩ = some (.int .i64 n) ∧ w'.cell? ⟨b', o' + k * 3, none⟩ = some (.string f) ∧ w'.cell? ⟨b', o' + k * 3 + 1, none⟩ = some (.string t) ∧ w'.cell? ⟨b', o' + k * 3 + 2, none⟩ = some (.int .i64 n))
        (first | exact ⟨hc0, hc1, hc2, hd0, hd1, hd2⟩ | exact hk8)
        (first | (go_at_call 84; refine (c_eqLink f t n _).mono ?_; rintro e w8 ⟨rfl, hb8⟩; have hk8 : w8.cell? ⟨b, o + k * 3, none⟩ = some (.string f) ∧ w8.cell? ⟨b, o + k * 3 + 1, none⟩ = some (.string t) ∧ w8.cell? ⟨b, o + k * 3 + 2, none⟩ = some (.int .i64 n) ∧ w8.cell? ⟨b', o' + k * 3, none⟩ = some (.string f) ∧ w8.cell? ⟨b', o' + k * 3 + 1, none⟩ = some (.string t) ∧ w8.cell? ⟨b', o' + k * 3 + 2, none⟩ = some (.int .i64 n) := ⟨(hb8.cell (p := ⟨b, o + k * 3, none⟩) hb).trans hc0, (hb8.cell (p := ⟨b, o + k * 3 + 1, none⟩) hb).trans hc1, (hb8.cell (p := ⟨b, o + k * 3 + 2, none⟩) hb).trans hc2, (hb8.cell (p := ⟨b', o' + k * 3, none⟩) hb').trans hd0, (hb8.cell (p := ⟨b', o' + k * 3 + 1, none⟩) hb').trans hd1, (hb8.cell (p := ⟨b', o' + k * 3 + 2, none⟩) hb').trans hd2⟩))
      have HB8 := Lib.hid (ext_trans HB.out ((Below.refl wr.heap.size wr).drew.trans hb8))
      clear hk8 hb8 hc0 hc1 hc2 hd0 hd1 hd2
      go_wp2_with fail
      go_roundg (l.length - (k + 1))
      case measure => omega
      case rel => exact ⟨k + 1, by omega, by go_num, HB8.out⟩
    · have e : k = l.length := by omega
      subst e
      go_wp2_with fail
      go_ret
      exact ⟨rfl, HB.out⟩
end Go.Proofs.Ytnfeddnkokocfaa
