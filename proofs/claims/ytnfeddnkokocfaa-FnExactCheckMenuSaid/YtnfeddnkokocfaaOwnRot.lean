/- Slices of rotors (structs of two strings) that a call makes itself; sz.., to.., eq.. on rotors and wheels. -/
import Derived.Test.YtnfeddnkokocfaaSpecPerm
import Derived.Test.YtnfeddnkokocfaaRotors
namespace Go.Proofs.Ytnfeddnkokocfaa
set_option linter.unusedVariables false
set_option linter.unusedSimpArgs false
open Go.RowKit

/-- cell j of a row of rotors -/
def cellR (f : Nat → Rot) (j : Nat) : Value := if j % 2 = 0 then .string (f (j / 2)).1 else .string (f (j / 2)).2
theorem cellR_0 (f : Nat → Rot) (k : Nat) : cellR f (k * 2) = .string (f k).1 := by
  unfold cellR; rw [if_pos (by omega), show k * 2 / 2 = k by omega]
theorem cellR_1 (f : Nat → Rot) (k : Nat) : cellR f (k * 2 + 1) = .string (f k).2 := by
  unfold cellR; rw [if_neg (by omega), show (k * 2 + 1) / 2 = k by omega]
/-- v is a slice of rotors of the call's own, from block B on: f 0, .., f (n-1) -/
def OwnR (w : World) (B : Nat) (v : Value) (n : Nat) (f : Nat → Rot) : Prop := w.ownsRow B 144 2 v n (rngV (cellR f) (n * 2))
theorem OwnR.congr {w : World} {B : Nat} {v : Value} {n : Nat} {f g : Nat → Rot} (h : OwnR w B v n f) (e : ∀ i, i < n → f i = g i) : OwnR w B v n g := by
  unfold OwnR at h ⊢
  rw [← rngV_congr (f := cellR f) (g := cellR g)]
  · exact h
  · intro i hi
    unfold cellR
    rw [e (i / 2) (by omega)]
theorem OwnR.nil (w : World) (B : Nat) (f : Nat → Rot) : OwnR w B (.slice none 0 0) 0 f := World.ownsRow_nil w B _ 2
theorem OwnR.kept {w w' : World} {B n : Nat} {v : Value} {f : Nat → Rot} (h : OwnR w B v n f) {row : Option Nat} (hg : w.grownBy w' row) (hne : ∀ g, row = some g → v.ownBlock ≠ some g) : OwnR w' B v n f := by
  refine World.ownsRow.kept h hg ?_
  rcases hv : v.ownBlock with _ | g
  · exact .inl rfl
  · exact .inr fun he => hne g he.symm hv
theorem OwnR.ext {w w' : World} {B n : Nat} {v : Value} {f : Nat → Rot} (h : OwnR w B v n f) (hb : Below w.heap.size w w') : OwnR w' B v n f :=
  h.kept (row := none) ⟨hb.os, hb.tape, hb.output, hb.size, fun k hk _ => hb.block k hk⟩ (fun g hg => by cases hg)
theorem OwnR.blk_lt {w : World} {B n : Nat} {v : Value} {f : Nat → Rot} (h : OwnR w B v n f) {g : Nat} (hg : v.ownBlock = some g) : B ≤ g ∧ g < w.heap.size := World.ownsRow.lt h g hg
theorem OwnR.far {w w' : World} {B n : Nat} {v : Value} {f : Nat → Rot} (h : OwnR w B v n f) (hg : w.grownBy w' v.ownBlock) : ∀ k, k < w.heap.size → k < B → w'.heap[k]? = w.heap[k]? :=
  fun k hk hB => hg.block k hk fun he => by have := (h.blk_lt he.symm).1; omega
theorem OwnR.slice {w : World} {B n : Nat} {v : Value} {f : Nat → Rot} (h : OwnR w B v n f) : ∃ A c, v = .slice A n c := by
  rcases h.2 with ⟨rfl, e⟩ | ⟨g, cap, cur, rfl, _⟩
  · exact ⟨none, 0, by rw [e]⟩
  · exact ⟨_, cap, rfl⟩
theorem OwnR.at0 {w : World} {B n : Nat} {v : Value} {f : Nat → Rot} (h : OwnR w B v n f) (hn : 0 < n) : ∃ g c, v = .slice (some ⟨g, 0, none⟩) n c ∧ B ≤ g ∧ g < w.heap.size := by
  rcases h.2 with ⟨rfl, e⟩ | ⟨g, cap, cur, rfl, hb, hg, _⟩
  · omega
  · exact ⟨g, cap, rfl, hb, (Array.getElem?_eq_some_iff.1 hg).1⟩
theorem OwnR.cells {w : World} {B n g c : Nat} {f : Nat → Rot} (h : OwnR w B (.slice (some ⟨g, 0, none⟩) n c) n f) {k : Nat} (hk : k < n) : w.cell? ⟨g, k * 2, none⟩ = some (.string (f k).1) ∧ w.cell? ⟨g, k * 2 + 1, none⟩ = some (.string (f k).2) := by
  constructor
  · rw [World.ownsRow.cellAt h (k * 2) (by omega), rngV_at _ (by omega), cellR_0]
  · rw [World.ownsRow.cellAt h (k * 2 + 1) (by omega), rngV_at _ (by omega), cellR_1]
theorem OwnR.free {w : World} {B n g c : Nat} {f : Nat → Rot} (h : OwnR w B (.slice (some ⟨g, 0, none⟩) n c) n f) (j : Nat) : w.frozen? ⟨g, j, none⟩ = false := World.ownsRow.frozenAt h j
theorem OwnR.set {w : World} {B n g c : Nat} {f : Nat → Rot} (h : OwnR w B (.slice (some ⟨g, 0, none⟩) n c) n f) (k : Nat) (r : Rot) {f' : Nat → Rot} (hf : ∀ i, i < n → (if i = k then r else f i) = f' i) :
    OwnR ((w.setCell ⟨g, k * 2, none⟩ (.string r.1)).setCell ⟨g, k * 2 + 1, none⟩ (.string r.2)) B (.slice (some ⟨g, 0, none⟩) n c) n f' := by
  have h1 := (World.ownsRow.stored h (k * 2) (.string r.1)).1
  have h2 := (World.ownsRow.stored h1 (k * 2 + 1) (.string r.2)).1
  rw [rngV_set (f := cellR f) (g := fun j => if j = k * 2 then .string r.1 else cellR f j) (fun i _ => rfl), rngV_set (g := cellR f')] at h2
  · exact h2
  · intro i hi
    have e := hf (i / 2) (by omega)
    unfold cellR
    rw [← e]
    by_cases e1 : i = k * 2 + 1
    · subst e1; rw [if_pos rfl, if_neg (by omega), if_pos (by omega)]
    · rw [if_neg e1]
      by_cases e2 : i = k * 2
      · subst e2; rw [if_pos rfl, if_pos (by omega), if_pos (by omega)]
      · rw [if_neg e2]
        by_cases e3 : i / 2 = k
        · omega
        · rw [if_neg e3]
theorem OwnR.setFar {w : World} {B n : Nat} {v : Value} {f : Nat → Rot} (h : OwnR w B v n f) {p : Addr} (hp : p.block < B) (u : Value) : OwnR (w.setCell p u) B v n f :=
  h.kept (row := some p.block) (grow_set (World.grownBy.refl _ _) (.inl rfl) u) (fun g hg he => by injection hg with hg; have := (h.blk_lt he).1; omega)
theorem OwnR.rots {w : World} {B : Nat} {v : Value} {l : List Rot} (h : OwnR w B v l.length (gR l)) (hl : l.length ≤ 9223372036854775807) (hs : ∀ k, k < l.length → (gR l k).1.size ≤ 9223372036854775807 ∧ (gR l k).2.size ≤ 9223372036854775807) : IsRots w v l := by
  obtain ⟨A, c, rfl⟩ := h.slice
  refine ⟨A, c, rfl, hl, hs, fun k hk => ?_⟩
  obtain ⟨g, c', e, _, hlt⟩ := h.at0 (by omega)
  injection e with e1 _ e3
  subst e1 e3
  obtain ⟨h0, h1⟩ := h.cells hk
  exact ⟨g, 0, rfl, hlt, by rw [Nat.zero_add]; exact h0, by rw [Nat.zero_add]; exact h1⟩
theorem info_rot : (Try.prog.info? 144).map (fun i => (i.zero, i.size, i.bytes)) = some (some (.agg #[.string ByteArray.empty, .string ByteArray.empty]), 2, 32) := by kernel_rfl
theorem made_rot (n : Nat) : (madeCells #[.string ByteArray.empty, .string ByteArray.empty] (n * 2)).toList = rngV (cellR (fun _ => (ByteArray.empty, ByteArray.empty))) (n * 2) := by
  unfold madeCells rngV
  rw [Array.toList_map, Array.toList_range]
  refine List.map_congr_left fun j _ => ?_
  have : j % 2 = 0 ∨ j % 2 = 1 := by omega
  unfold cellR
  rcases this with e | e
  · rw [if_pos e]; show (#[Value.string ByteArray.empty, .string ByteArray.empty])[j % 2]! = _; rw [e]; rfl
  · rw [if_neg (by omega)]; show (#[Value.string ByteArray.empty, .string ByteArray.empty])[j % 2]! = _; rw [e]; rfl
/-- make([]Rotor, n) -/
theorem makeR {P : Program} (w : World) {ops : Array Oper} {rest : List Oper} {o : Oper} {a : Act} {Q : Exit → Act → World → Prop}
    (hg : o.guard = none) (l c : Operand) (t : TypeId) (hop : o.op = Op.makeSlice t l c)
    (B : Nat) (h1 : P.underlying t = some (.slice 144)) (hinfo : (P.info? 144).map (fun i => (i.zero, i.size, i.bytes)) = some (some (.agg #[.string ByteArray.empty, .string ByteArray.empty]), 2, 32))
    (kl kc : IntKind) (L C : Int) (n : Nat) (hl : a.eval l = .int kl L) (hc : a.eval c = .int kc C) (hL : L = (n : Int)) (hC : C = (n : Int)) (hn : n ≤ 1000000000) (b4 : B ≤ w.heap.size)
    (hK : ∀ w', OwnR w' B (.slice (some ⟨w.heap.size, 0, none⟩) n n) n (fun _ => (ByteArray.empty, ByteArray.empty)) → Below w.heap.size w w' → wpList P ops Q rest (a.put o.dst (.slice (some ⟨w.heap.size, 0, none⟩) n n)) w') :
    wpList P ops Q (o :: rest) a w := by
  obtain ⟨i, hi, hz0, hz1, hz2⟩ := info_parts hinfo
  refine wpList_make_full (P := P) w hg l c t hop B 144 i _ 2 h1 hi hz0 hz1 kl kc L C n hl hc hL hC ?_ (by unfold maxLen; omega) b4 (fun w' ho hgr => hK w' ?_ ?_)
  · rw [hz2]; omega
  · unfold OwnR; rw [← made_rot]; exact ho
  · exact (Below.refl _ _).grown hgr (Nat.le_refl _) (fun k hk => by cases hk)
theorem c_szRotor (wi no : ByteArray) (left : Int) (w : World) (hw : wi.size ≤ 9223372036854775807) (hn : no.size ≤ 9223372036854775807) (h0 : 0 ≤ left) (h1 : left ≤ 1048576) :
    Calls Try.prog 137 #[.agg #[.string wi, .string no], .int .i64 left] w fun e w' => ∃ r : Int, e = .returned (.int .i64 r) ∧ -1 ≤ r ∧ r ≤ left ∧ (0 ≤ r → wi.size ≤ 1048576 ∧ no.size ≤ 1048576) ∧ Below w.heap.size w w' := by
  by_cases h2 : left < wi.size
  · go_enter Try.func137, Try.ntmps137
    go_wp2_with fail
    go_ret
    exact ⟨-1, rfl, by omega, by omega, fun h => by omega, ext_alloc _ _⟩
  · by_cases h3 : left - wi.size < no.size
    · go_enter Try.func137, Try.ntmps137
      go_wp2_with fail
      go_ret
      exact ⟨-1, rfl, by omega, by omega, fun h => by omega, ext_alloc _ _⟩
    · go_enter Try.func137, Try.ntmps137
      go_wp2_with fail
      go_ret
      exact ⟨_, rfl, by omega, by omega, fun h => ⟨by omega, by omega⟩, ext_alloc _ _⟩
set_option maxHeartbeats 400000 in
theorem c_szRotorS (A : Option Addr) (cA : Nat) (l : List Rot) (left : Int) (w : World) (hR : IsRots w (.slice A l.length cA) l) (h0 : 0 ≤ left) (h1 : left ≤ 1048576) :
    Calls Try.prog 103 #[.slice A l.length cA, .int .i64 left] w fun e w' => ∃ r : Int, e = .returned (.int .i64 r) ∧ -1 ≤ r ∧ r ≤ left ∧ (0 ≤ r → l.length ≤ 1048576 ∧ ∀ k, k < l.length → (gR l k).1.size ≤ 1048576 ∧ (gR l k).2.size ≤ 1048576) ∧ Below w.heap.size w w' := by
  have HL := Lib.hid hR
  have hll := hR.len_le
  clear hR
  by_cases h : left < l.length
  · go_enter Try.func103, Try.ntmps103
    go_wp2_with fail
    go_ret
    exact ⟨-1, rfl, by omega, by omega, fun h => by omega, Below.refl _ _⟩
  · go_enter Try.func103, Try.ntmps103
    go_wp2_with fail
    go_loopg [1, 5] l.length (fun gk r i wr => ∃ (k : Nat) (x : Int), k + gk = l.length ∧ i = .int .i64 k ∧ r = .int .i64 x ∧ 0 ≤ x ∧ x ≤ left ∧ (∀ j, j < k → (gR l j).1.size ≤ 1048576 ∧ (gR l j).2.size ≤ 1048576) ∧ Below w.heap.size w wr)
    case atStart => exact ⟨0, left - l.length, by omega, rfl, rfl, by omega, by omega, fun j hj => by omega, Below.refl _ _⟩
    case round =>
      obtain ⟨k, x, hk, rfl, rfl, hx0, hx1, hall, hb⟩ := hrel
      have HA := Lib.hid hall
      have HB := Lib.hid hb
      clear hall hb
      by_cases hlt : k < l.length
      · obtain ⟨b, o, rfl, hb, hc0, hc1⟩ := (HL.out.ext HB.out).at_ hlt
        have hs := HL.out.size_le hlt
        generalize hg : gR l k = rk at hc0 hc1 hs
        obtain ⟨wi, no⟩ := rk
        have HG := Lib.hid hg
        clear hg
        go_wp2_with fail
        refine (c_szRotor wi no x _ (by have := hs.1; omega) (by have := hs.2; omega) (by omega) (by omega)).mono ?_
        rintro e w2 ⟨r, rfl, hr0, hr1, hr2, hb2⟩
        have HB2 := Lib.hid (ext_trans HB.out hb2)
        have HR2 := Lib.hid hr2
        clear hr2 hb2
        by_cases hq : r < 0
        · go_wp2_with fail
          go_ret
          exact ⟨-1, rfl, by omega, by omega, fun h => by omega, HB2.out⟩
        · go_wp2_with fail
          go_roundg (l.length - (k + 1))
          case measure => omega
          case rel =>
            refine ⟨k + 1, r, by omega, by go_num, rfl, by omega, by omega, fun j hj => ?_, HB2.out⟩
            by_cases e : j = k
            · subst e; rw [HG.out]; exact HR2.out (by omega)
            · exact HA.out j (by omega)
      · have e : k = l.length := by omega
        subst e
        go_wp2_with fail
        go_ret
        exact ⟨x, rfl, by omega, hx1, fun _ => ⟨by omega, HA.out⟩, HB.out⟩
set_option maxHeartbeats 400000 in
theorem c_szWheels (A : Option Addr) (cA : Nat) (l : List Rot) (rf : ByteArray) (left : Int) (w : World) (hR : IsRots w (.slice A l.length cA) l) (hf : rf.size ≤ 9223372036854775807) (h0 : 0 ≤ left) (h1 : left ≤ 1048576) :
    Calls Try.prog 51 #[.agg #[.slice A l.length cA, .string rf], .int .i64 left] w fun e w' => ∃ r : Int, e = .returned (.int .i64 r) ∧ -1 ≤ r ∧ r ≤ left ∧ (0 ≤ r → (l.length ≤ 1048576 ∧ ∀ k, k < l.length → (gR l k).1.size ≤ 1048576 ∧ (gR l k).2.size ≤ 1048576) ∧ rf.size ≤ 1048576) ∧ Below w.heap.size w w' := by
  have HL := Lib.hid (hR.ext (ext_alloc w (.cells #[.slice A l.length cA, .string rf] 24)))
  have K := Lib.hid (Blk.new w 24 #[.slice A l.length cA, .string rf])
  clear hR
  go_enter Try.func51, Try.ntmps51
  go_wp2_with fail
  refine (c_szRotorS A cA l left _ HL.out h0 h1).mono ?_
  rintro e w1 ⟨r, rfl, hr0, hr1, hr2, hb1⟩
  have HR2 := Lib.hid hr2
  have HB := Lib.hid (ext_trans (ext_alloc w _) hb1)
  have x1 : w1.cell? ⟨w.heap.size, 1, none⟩ = some (.string rf) := (K.out.ext hb1).cell 1
  clear hr2 hb1
  by_cases hr : r < 0
  · go_wp2_with fail
    go_ret
    exact ⟨-1, rfl, by omega, by omega, fun h => by omega, HB.out⟩
  · by_cases hq : r < rf.size
    · go_wp2_with fail
      go_ret
      exact ⟨-1, rfl, by omega, by omega, fun h => by omega, HB.out⟩
    · go_wp2_with fail
      go_ret
      exact ⟨_, rfl, by omega, by omega, fun h => ⟨HR2.out (by omega), by omega⟩, HB.out⟩
end Go.Proofs.Ytnfeddnkokocfaa
