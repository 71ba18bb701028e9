/- Contracts of the source of the draws: pick, num, of, and the words that are drawn. -/
import Derived.Test.YtnfeddnkokocfaaKitA
namespace Go.Proofs.Ytnfeddnkokocfaa
set_option linter.unusedVariables false
set_option linter.unusedSimpArgs false
open Go.RowKit

/-- block g is a source of draws (l21Rd), at most P picks old -/
def Rd (w : World) (g P : Nat) : Prop :=
  g < w.heap.size ∧ ∃ A n c p, p ≤ P ∧ n ≤ 2000 ∧ w.cell? ⟨g, 0, none⟩ = some (.slice A n c) ∧ w.cell? ⟨g, 1, none⟩ = some (.int .i64 (p : Nat)) ∧ w.frozen? ⟨g, 1, none⟩ = false ∧
    ∀ k, k < n → ∃ b o x, A = some ⟨b, o, none⟩ ∧ b < g ∧ w.cell? ⟨b, o + k, none⟩ = some (.int .u8 x) ∧ 0 ≤ x ∧ x ≤ 255
theorem Rd.below {w w' : World} {g P : Nat} (h : Rd w g P) (hb : Below (g + 1) w w') : Rd w' g P := by
  obtain ⟨h0, A, n, c, p, h1, h2, h3, h4, h5, h6⟩ := h
  refine ⟨Nat.lt_of_lt_of_le h0 hb.size, A, n, c, p, h1, h2, (hb.cell (p := ⟨g, 0, none⟩) (by simp)).trans h3, (hb.cell (p := ⟨g, 1, none⟩) (by simp)).trans h4, (hb.frozen (p := ⟨g, 1, none⟩) (by simp)).trans h5, fun k hk => ?_⟩
  obtain ⟨b, o, x, e, hb', hc, hx⟩ := h6 k hk
  exact ⟨b, o, x, e, hb', (hb.cell (p := ⟨b, o + k, none⟩) (by simp; omega)).trans hc, hx⟩
theorem Rd.ext {w w' : World} {g P : Nat} (h : Rd w g P) (hb : Below w.heap.size w w') : Rd w' g P := h.below (hb.mono h.1)
theorem Rd.more {w : World} {g P P' : Nat} (h : Rd w g P) (hP : P ≤ P') : Rd w g P' := by
  obtain ⟨h0, A, n, c, p, h1, h⟩ := h
  exact ⟨h0, A, n, c, p, Nat.le_trans h1 hP, h⟩
theorem Rd.drewN {w : World} {g P : Nat} (h : Rd w g P) (k : Nat) : Rd (w.drewN k) g P := h
theorem Rd.drew {w : World} {g P : Nat} (h : Rd w g P) : Rd w.drew g P := h
/-- an append to a row of the call's own, made behind the source, keeps it -/
theorem Rd.own {w w' : World} {g P B : Nat} {e : TypeId} {v : Value} {l : List Value} (h : Rd w g P) (ho : Own w B e v l) (hB : g < B) (hg : w.grownBy w' v.ownBlock) : Rd w' g P :=
  h.below ⟨hg.os, hg.tape, hg.output, hg.size, fun k hk => ho.far hg k (by have := h.1; omega) (by omega)⟩
theorem Rd.setFar {w : World} {g P : Nat} (h : Rd w g P) {p : Addr} (hp : g < p.block) (u : Value) : Rd (w.setCell p u) g P := h.below ((Below.refl _ _).setCell hp u)
/-- an old slice is kept by a draw -/
theorem IsStrs.grown {w w' : World} {v : Value} {l : List ByteArray} {g : Nat} (h : IsStrs w v l) (hg : w.grownBy w' (some g)) (hne : ∀ A c b o, v = .slice A l.length c → A = some ⟨b, o, none⟩ → b ≠ g) : IsStrs w' v l := by
  obtain ⟨A, c, rfl, h1, h2, h3⟩ := h
  refine ⟨A, c, rfl, h1, h2, fun k hk => ?_⟩
  obtain ⟨b, o, e, hlt, hc⟩ := h3 k hk
  exact ⟨b, o, e, Nat.lt_of_lt_of_le hlt hg.size, (hg.cell_far _ hlt (fun e' => hne A c b o rfl e (by injection e'))).trans hc⟩
theorem grow_alloc {a w : World} {row : Option Nat} (h : a.grownBy w row) (o : Obj) : a.grownBy (w.alloc o) row :=
  ⟨h.os, h.tape, h.output, Nat.le_trans h.size (by simp), fun i hi hne => (Below.heap_alloc w o i (Nat.lt_of_lt_of_le hi h.size)).trans (h.block i hi hne)⟩
theorem grow_then {a b c : World} {g : Nat} (h : a.grownBy b (some g)) (k : b.grownBy c (some g)) : a.grownBy c (some g) := h.trans k
theorem grow_ext2 {a b c : World} {row : Option Nat} (h : a.grownBy b row) (k : Below b.heap.size b c) : a.grownBy c row := h.trans (grow_ext k row)
/-- a literal list of strings, of integers -/
theorem lit_strs (w : World) (l : List ByteArray) (t : TypeId) (hl : l.length ≤ 1000) (hs : ∀ k, k < l.length → (gS l k).size ≤ 9223372036854775807) : IsStrs (w.alloc (.cells (l.map Value.string).toArray t)) (.slice (some ⟨w.heap.size, 0, none⟩) l.length l.length) l := by
  refine ⟨_, _, rfl, by omega, hs, fun k hk => ⟨w.heap.size, 0, rfl, by simp, ?_⟩⟩
  rw [Nat.zero_add, World.cell?_alloc_at _ _ _ _ rfl]
  simp [gS, List.getD_eq_getElem?_getD, List.getElem?_eq_getElem hk]
theorem lit_ints (w : World) (l : List Int) (t : TypeId) (hl : l.length ≤ 1000) : IsInts (w.alloc (.cells (l.map (Value.int .i64)).toArray t)) (.slice (some ⟨w.heap.size, 0, none⟩) l.length l.length) l := by
  refine ⟨_, _, rfl, by omega, fun k hk => ⟨w.heap.size, 0, rfl, by simp, ?_⟩⟩
  rw [Nat.zero_add, World.cell?_alloc_at _ _ _ _ rfl]
  simp [gI, List.getD_eq_getElem?_getD, List.getElem?_eq_getElem hk]

theorem xor_div (x : Nat) (h : x < 2 ^ 40) : ∃ y : Nat, bits .xor .i64 (x : Int) ((x : Int) / 64) = (y : Int) := by
  refine ⟨x ^^^ (x / 64), ?_⟩
  rw [← xor_nat x (x / 64) (by omega) (by omega)]
  simp

set_option maxHeartbeats 1000000 in
set_option maxRecDepth 100000 in
theorem c_pick (g P : Nat) (n : Int) (w : World) (hr : Rd w g P) (hP : P ≤ 1000000) (hn : 1 ≤ n) (hn2 : n ≤ 1000000) :
    Calls Try.prog 98 #[.pointer (some ⟨g, 0, none⟩), .int .i64 n] w fun e w' => ∃ m : Nat, e = .returned (.int .i64 m) ∧ (m : Int) < n ∧ Rd w' g (P + 1) ∧ w.grownBy w' (some g) := by
  obtain ⟨h0, A, L, c, p, h1, h2, h3, h4, h5, h6⟩ := hr
  -- the world behind the first store
  have hc0 : (w.setCell ⟨g, 1, none⟩ (.int .i64 ((p : Int) + 1))).cell? ⟨g, 0, none⟩ = some (.slice A L c) := by
    rw [World.cell?_setCell_other _ _ _ _ (by simp)]; exact h3
  have hc1 : (w.setCell ⟨g, 1, none⟩ (.int .i64 ((p : Int) + 1))).cell? ⟨g, 1, none⟩ = some (.int .i64 ((p : Int) + 1)) := World.cell?_setCell_same _ _ _ h4
  have hR : Rd (w.setCell ⟨g, 1, none⟩ (.int .i64 ((p : Int) + 1))) g (P + 1) := by
    refine ⟨by simpa [World.setCell] using h0, A, L, c, p + 1, by omega, h2, hc0, by rw [hc1]; simp, by rw [World.frozen?_setCell]; exact h5, fun k hk => ?_⟩
    obtain ⟨b, o, x, e, hb', hc, hx⟩ := h6 k hk
    exact ⟨b, o, x, e, hb', by rw [World.cell?_setCell_other _ _ _ _ (by intro h; injection h with h1 h2; omega)]; exact hc, hx⟩
  have hG : w.grownBy (w.setCell ⟨g, 1, none⟩ (.int .i64 ((p : Int) + 1))) (some g) := grow_set (World.grownBy.refl _ _) (.inl rfl) _
  have H6 : Hid (∀ k, k < L → ∃ b o x, A = some ⟨b, o, none⟩ ∧ b < g ∧ (w.setCell ⟨g, 1, none⟩ (.int .i64 ((p : Int) + 1))).cell? ⟨b, o + k, none⟩ = some (.int .u8 x) ∧ 0 ≤ x ∧ x ≤ 255) := by
    intro k hk
    obtain ⟨b, o, x, e, hb', hc, hx⟩ := h6 k hk
    exact ⟨b, o, x, e, hb', by rw [World.cell?_setCell_other _ _ _ _ (by intro h; injection h with h1 h2; omega)]; exact hc, hx⟩
  have HR := Lib.hid hR
  have HG := Lib.hid hG
  clear hR hG h6
  have hn0 : ¬ n < 1 := by omega
  have t0 : decide (n < 1) = false := by simpa using hn0
  have nz : (n == 0) = false := by rw [beq_eq_false_iff_ne]; omega
  by_cases hL : L = 0
  · have t1 : ((L : Int) == 0) = true := by simp [hL]
    clear hL
    go_enter Try.func98, Try.ntmps98
    go_wp2_with fail
    go_ret
    exact ⟨0, rfl, by omega, HR.out, HG.out⟩
  · have t1 : ((L : Int) == 0) = false := by simp [hL]
    by_cases hp : p < L
    · obtain ⟨b, o, x, rfl, hb, hc, hx0, hx1⟩ := H6.out p hp
      clear hL
      go_enter Try.func98, Try.ntmps98
      go_wp2_with fail
      go_ret
      have m0 := Int.emod_nonneg x (show n ≠ 0 by omega)
      have m1 := Int.emod_lt_of_pos x (show 0 < n by omega)
      obtain ⟨m, hm⟩ := Int.eq_ofNat_of_zero_le m0
      exact ⟨m, by rw [← hm]; rfl, by omega, HR.out, HG.out⟩
    · obtain ⟨j1, hj1⟩ : ∃ j, p % L = j := ⟨_, rfl⟩
      obtain ⟨j2, hj2⟩ : ∃ j, (p * 7 + 3) % L = j := ⟨_, rfl⟩
      obtain ⟨d, hd⟩ : ∃ j, p / L = j := ⟨_, rfl⟩
      have q1 : j1 < L := hj1 ▸ Nat.mod_lt _ (by omega)
      have q2 : j2 < L := hj2 ▸ Nat.mod_lt _ (by omega)
      obtain ⟨b, o, x, rfl, hb, hc, hx0, hx1⟩ := H6.out j1 q1
      obtain ⟨b', o', y, e, hb', hc', hy0, hy1⟩ := H6.out j2 q2
      injection e with e; injection e with e e'
      subst e e'
      obtain ⟨X, rfl⟩ := Int.eq_ofNat_of_zero_le hx0
      obtain ⟨Y, rfl⟩ := Int.eq_ofNat_of_zero_le hy0
      have q3 : d ≤ p := hd ▸ Nat.div_le_self _ _
      have bnd : X * 131 + Y * 1117 + p * 29 + d * 53 < 2 ^ 40 := by omega
      obtain ⟨Z, hZ⟩ := xor_div _ bnd
      have HZ := Lib.hid hZ
      clear hZ
      have i1 : (0 : Int) ≤ (j1 : Int) := by omega
      have i2 : (j1 : Int) < (L : Int) := by omega
      have i3 : (0 : Int) ≤ (j2 : Int) := by omega
      have i4 : (j2 : Int) < (L : Int) := by omega
      have z1 : ¬ (L : Int) = 0 := by omega
      have Z2 := Lib.hid hL
      have r1 : (p : Int).tmod (L : Int) = (j1 : Int) := by rw [Int.tmod_eq_emod_of_nonneg (by omega), ← hj1]; simp
      have r2 : ((p : Int) * 7 + 3).tmod (L : Int) = (j2 : Int) := by rw [Int.tmod_eq_emod_of_nonneg (by omega), ← hj2]; simp
      have r3 : (p : Int).tdiv (L : Int) = (d : Int) := by rw [Int.tdiv_eq_ediv_of_nonneg (by omega), ← hd]; simp
      clear hj1 hj2 hd
      have w1 : IntKind.i64.wrap ((X : Int) * 131) = (X : Int) * 131 := IntWalk.i64_in _ (by omega)
      have w2 : IntKind.i64.wrap ((p : Int) * 7) = (p : Int) * 7 := IntWalk.i64_in _ (by omega)
      have w3 : IntKind.i64.wrap ((p : Int) * 7 + 3) = (p : Int) * 7 + 3 := IntWalk.i64_in _ (by omega)
      have w4 : IntKind.i64.wrap ((Y : Int) * 1117) = (Y : Int) * 1117 := IntWalk.i64_in _ (by omega)
      have w5 : IntKind.i64.wrap ((X : Int) * 131 + (Y : Int) * 1117) = (X : Int) * 131 + (Y : Int) * 1117 := IntWalk.i64_in _ (by omega)
      have w6 : IntKind.i64.wrap ((p : Int) * 29) = (p : Int) * 29 := IntWalk.i64_in _ (by omega)
      have w7 : IntKind.i64.wrap ((X : Int) * 131 + (Y : Int) * 1117 + (p : Int) * 29) = (X : Int) * 131 + (Y : Int) * 1117 + (p : Int) * 29 := IntWalk.i64_in _ (by omega)
      have w8 : IntKind.i64.wrap (d : Int) = (d : Int) := IntWalk.i64_in _ (by omega)
      have w9 : IntKind.i64.wrap ((d : Int) * 53) = (d : Int) * 53 := IntWalk.i64_in _ (by omega)
      have w10 : IntKind.i64.wrap ((X : Int) * 131 + (Y : Int) * 1117 + (p : Int) * 29 + (d : Int) * 53) = (X : Int) * 131 + (Y : Int) * 1117 + (p : Int) * 29 + (d : Int) * 53 := IntWalk.i64_in _ (by omega)
      have W1 := Lib.hid w1; have W2 := Lib.hid w2; have W3 := Lib.hid w3; have W4 := Lib.hid w4; have W5 := Lib.hid w5
      have W6 := Lib.hid w6; have W7 := Lib.hid w7; have W8 := Lib.hid w8; have W9 := Lib.hid w9; have W10 := Lib.hid w10
      have R1 := Lib.hid r1; have R2 := Lib.hid r2; have R3 := Lib.hid r3
      clear w1 w2 w3 w4 w5 w6 w7 w8 w9 w10 r1 r2 r3 hL
      go_enter Try.func98, Try.ntmps98
      go_wp2_with fail
      have w1 := W1.out; have w2 := W2.out; have w3 := W3.out; have w4 := W4.out; have w5 := W5.out
      have w6 := W6.out; have w7 := W7.out; have w8 := W8.out; have w9 := W9.out; have w10 := W10.out
      have r1 := R1.out; have r2 := R2.out; have r3 := R3.out
      have z2 := Z2.out
      go_quiet (fail)
      clear z2 w1 w2 w3 w4 w5 w6 w7 w8 w9 w10 r1 r2 r3
      go_wp2_with fail
      have hz : bits .xor .i64 ((X : Int) * 131 + (Y : Int) * 1117 + (p : Int) * 29 + (d : Int) * 53) (((X : Int) * 131 + (Y : Int) * 1117 + (p : Int) * 29 + (d : Int) * 53) / 64) = (Z : Int) := by
        have := HZ.out; simpa using this
      have m0 := Int.emod_nonneg (Z : Int) (show n ≠ 0 by omega)
      have m1 := Int.emod_lt_of_pos (Z : Int) (show 0 < n by omega)
      obtain ⟨m, hm⟩ := Int.eq_ofNat_of_zero_le m0
      go_ret
      refine ⟨m, ret_int ?_, by omega, HR.out.drewN _, grow_drewN HG.out _⟩
      rw [hz, Int.tmod_eq_emod_of_nonneg (by omega), hm]

theorem c_num (g P : Nat) (v : Value) (l : List Int) (w : World) (hr : Rd w g P) (hP : P ≤ 1000000) (hl : IsInts w v l) (h0 : 0 < l.length) (h1 : l.length ≤ 1000) (hne : ∀ A c b o, v = .slice A l.length c → A = some ⟨b, o, none⟩ → b ≠ g) :
    Calls Try.prog 99 #[.pointer (some ⟨g, 0, none⟩), v] w fun e w' => ∃ m : Nat, e = .returned (.int .i64 (gI l m)) ∧ m < l.length ∧ Rd w' g (P + 1) ∧ w.grownBy w' (some g) := by
  have HL := Lib.hid hl
  have HR := Lib.hid hr
  obtain ⟨A, c, rfl⟩ := hl.form
  obtain ⟨b0, o0, rfl, hb0, _⟩ := hl.at_ h0
  have hne' := hne _ _ _ _ rfl rfl
  clear hl hr hne
  go_enter Try.func99, Try.ntmps99
  go_wp2_with fail
  refine (c_pick g P _ _ HR.out hP (by omega) (by omega)).mono ?_
  rintro e w1 ⟨m, rfl, hm, hr1, hg1⟩
  have hm' : m < l.length := by omega
  obtain ⟨b, o, e, hb, hc⟩ := HL.out.at_ hm'
  injection e with e; injection e with e1 e2
  subst e1 e2
  have hc' : w1.cell? ⟨b0, o0 + m, none⟩ = some (.int .i64 (gI l m)) := (hg1.cell_far ⟨b0, o0 + m, none⟩ hb (fun e' => hne' (by injection e'))).trans hc
  have HR1 := Lib.hid hr1
  have HG1 := Lib.hid hg1
  clear hr1 hg1 hc
  go_wp2_with fail
  go_ret
  exact ⟨m, rfl, hm', HR1.out, HG1.out⟩

theorem c_of (g P : Nat) (v : Value) (l : List ByteArray) (w : World) (hr : Rd w g P) (hP : P ≤ 1000000) (hl : IsStrs w v l) (h0 : 0 < l.length) (h1 : l.length ≤ 1000) (hne : ∀ A c b o, v = .slice A l.length c → A = some ⟨b, o, none⟩ → b ≠ g) :
    Calls Try.prog 127 #[.pointer (some ⟨g, 0, none⟩), v] w fun e w' => ∃ m : Nat, e = .returned (.string (gS l m)) ∧ m < l.length ∧ Rd w' g (P + 1) ∧ w.grownBy w' (some g) := by
  have HL := Lib.hid hl
  have HR := Lib.hid hr
  obtain ⟨A, c, rfl⟩ := hl.form
  obtain ⟨b0, o0, rfl, hb0, _⟩ := hl.at_ h0
  have hne' := hne _ _ _ _ rfl rfl
  clear hl hr hne
  go_enter Try.func127, Try.ntmps127
  go_wp2_with fail
  refine (c_pick g P _ _ HR.out hP (by omega) (by omega)).mono ?_
  rintro e w1 ⟨m, rfl, hm, hr1, hg1⟩
  have hm' : m < l.length := by omega
  obtain ⟨b, o, e, hb, hc⟩ := HL.out.at_ hm'
  injection e with e; injection e with e1 e2
  subst e1 e2
  have hc' : w1.cell? ⟨b0, o0 + m, none⟩ = some (.string (gS l m)) := (hg1.cell_far ⟨b0, o0 + m, none⟩ hb (fun e' => hne' (by injection e'))).trans hc
  have HR1 := Lib.hid hr1
  have HG1 := Lib.hid hg1
  clear hr1 hg1 hc
  go_wp2_with fail
  go_ret
  exact ⟨m, rfl, hm', HR1.out, HG1.out⟩

theorem c_l1Some (g P : Nat) (n : Nat) (w : World) (hr : Rd w g P) (hP : P + n ≤ 1000000) (hn : n ≤ 1000) :
    Calls Try.prog 132 #[.pointer (some ⟨g, 0, none⟩), .int .i64 n] w fun e w' => ∃ s : ByteArray, e = .returned (.string s) ∧ s.size = n ∧ (∀ k, k < n → 97 ≤ bt s k ∧ bt s k < 107) ∧ Rd w' g (P + n) ∧ w.grownBy w' (some g) := by
  have HR := Lib.hid hr
  clear hr
  go_enter Try.func132, Try.ntmps132
  go_wp2_with fail
  go_loopw [5, 6] (fun o i wr => ∃ (k : Nat) (s : ByteArray), k ≤ n ∧ i = .int .i64 k ∧ o = .string s ∧ s.size = k ∧ (∀ j, j < k → 97 ≤ bt s j ∧ bt s j < 107) ∧ Rd wr g (P + k) ∧ w.grownBy wr (some g)) (fun _ i _ => n - (intOf i).toNat)
  case atStart => exact ⟨0, ByteArray.empty, Nat.zero_le _, rfl, rfl, rfl, fun j hj => by omega, HR.out, World.grownBy.refl _ _⟩
  case round =>
    obtain ⟨k, s, hk, rfl, rfl, hs, hbt, hrd, hgr⟩ := hrel
    have HS := Lib.hid hs
    have HBT := Lib.hid hbt
    have HRD := Lib.hid hrd
    have HGR := Lib.hid hgr
    have hs' : s.size ≤ 1000 := by omega
    clear hs hbt hrd hgr
    by_cases hlt : k < n
    · go_wp2_with fail
      refine (c_pick g (P + k) _ _ HRD.out (by omega) (by omega) (by omega)).mono ?_
      rintro e w1 ⟨m, rfl, hm, hr1, hg1⟩
      have HR1 := Lib.hid hr1
      have HG1 := Lib.hid hg1
      clear hr1 hg1
      go_wp2_with fail
      refine (c_l1Letter _ _ (by omega) (by omega)).mono ?_
      rintro e w2 ⟨rfl, hb2⟩
      have hz : (strOfNums [97 + (m : Int) % 10]).size = 1 := by rw [strOfNums_size]; rfl
      have HB2 := Lib.hid hb2
      clear hb2
      go_wp2_with fail
      refine ⟨⟨k + 1, s ++ strOfNums [97 + (m : Int) % 10], by omega, by go_num, rfl, by rw [ByteArray.size_append, HS.out, strOfNums_size]; rfl, fun j hj => ?_, HR1.out.ext HB2.out, grow_ext2 (HGR.out.trans HG1.out) HB2.out⟩, by simp [intOf]; omega⟩
      rw [bt_append]
      split
      · exact HBT.out j (by have := HS.out; omega)
      · have e : j - s.size = 0 := by have := HS.out; omega
        rw [e, bt_strOfNums _ _ (by simp) (by simp; omega) (by simp; omega)]
        simp; omega
    · go_wp2_with fail
      go_ret
      have e : k = n := by omega
      subst e
      exact ⟨s, rfl, HS.out, HBT.out, HRD.out, HGR.out⟩

theorem c_l1Word (g P : Nat) (n : Nat) (w : World) (hr : Rd w g P) (hP : P + n + 1 ≤ 1000000) (hn : n ≤ 900) :
    Calls Try.prog 93 #[.pointer (some ⟨g, 0, none⟩), .int .i64 n] w fun e w' => ∃ s : ByteArray, e = .returned (.string s) ∧ s.size ≤ n ∧ (∀ k, k < s.size → 97 ≤ bt s k ∧ bt s k < 107) ∧ Rd w' g (P + n + 1) ∧ w.grownBy w' (some g) := by
  have HR := Lib.hid hr
  clear hr
  go_enter Try.func93, Try.ntmps93
  go_wp2_with fail
  refine (c_pick g P _ _ HR.out (by omega) (by omega) (by omega)).mono ?_
  rintro e w1 ⟨m, rfl, hm, hr1, hg1⟩
  have HR1 := Lib.hid hr1
  have HG1 := Lib.hid hg1
  clear hr1 hg1
  go_wp2_with fail
  refine (c_l1Some g (P + 1) m _ HR1.out (by omega) (by omega)).mono ?_
  rintro e w2 ⟨s, rfl, hs, hbt, hr2, hg2⟩
  have HS := Lib.hid hs
  have HBT := Lib.hid hbt
  have HR2 := Lib.hid hr2
  have HG2 := Lib.hid hg2
  clear hs hbt hr2 hg2
  go_wp2_with fail
  go_ret
  have e := HS.out
  exact ⟨s, rfl, by omega, by rw [e]; exact HBT.out, HR2.out.more (by omega), HG1.out.trans HG2.out⟩
theorem c_l21Many (s : ByteArray) (n : Nat) (w : World) (hs : s.size ≤ 10) (hn : n ≤ 255) :
    Calls Try.prog 131 #[.string s, .int .i64 n] w fun e w' => ∃ t : ByteArray, e = .returned (.string t) ∧ t.size ≤ 1000000 ∧ w = w' := by
  go_enter Try.func131, Try.ntmps131
  go_wp2_with fail
  go_loop [0, 1, 5] (fun a i o => ∃ (k : Nat) (a' o' : ByteArray), k * a'.size ≤ 10 * 255 ∧ o'.size + k * a'.size ≤ 10 * 255 ∧ a'.size ≤ 10 * 510 ∧ k ≤ 255 ∧ i = .int .i64 k ∧ a = .string a' ∧ o = .string o') (fun _ i _ => (intOf i).toNat)
  case atStart =>
    have h : n * s.size ≤ 255 * 10 := Nat.mul_le_mul hn hs
    exact ⟨n, s, ByteArray.empty, by omega, by show 0 + _ ≤ _; omega, by omega, hn, rfl, rfl, rfl⟩
  case round =>
    obtain ⟨k, a', o', h1, h2, h3, h4, rfl, rfl, rfl⟩ := hrel
    by_cases h0 : k = 0
    · have t0 : decide (0 < (k : Int)) = false := by simp [h0]
      have t1 : ¬ (0 < (k : Int)) := by omega
      have H2 := Lib.hid h2
      have H1 := Lib.hid h1
      clear h0 h1 h2
      go_wp2_with fail
      go_ret
      exact ⟨o', rfl, by have := H2.out; omega, rfl⟩
    · have hk : k = 2 * (k / 2) + k % 2 := by omega
      have hm : k * a'.size = 2 * ((k / 2) * a'.size) + (k % 2) * a'.size := by
        calc k * a'.size = (2 * (k / 2) + k % 2) * a'.size := by rw [← hk]
          _ = 2 * ((k / 2) * a'.size) + (k % 2) * a'.size := by rw [Nat.add_mul, Nat.mul_assoc]
      have ha : a'.size ≤ 10 * 255 := by
        have : 1 * a'.size ≤ k * a'.size := Nat.mul_le_mul_right _ (by omega)
        omega
      obtain ⟨q, hq⟩ : ∃ q, k / 2 = q := ⟨_, rfl⟩
      obtain ⟨M, hM⟩ : ∃ M, q * a'.size = M := ⟨_, rfl⟩
      have hM2 : q * (a' ++ a').size = 2 * M := by rw [ByteArray.size_append, ← hM, Nat.mul_add]; omega
      have HM := Lib.hid hM
      have HM2 := Lib.hid hM2
      have HQ := Lib.hid hq
      rw [hq, hM] at hm
      have HMM := Lib.hid hm
      have H1 := Lib.hid h1
      have H2 := Lib.hid h2
      have h5 : o'.size ≤ 2550 := by omega
      clear hM hM2 hq hm hk h1 h2
      by_cases hodd : k % 2 = 1
      · have t1 : ((k : Int) % 2 == 1) = true := by simp; omega
        have HO := Lib.hid hodd
        clear hodd
        go_wp2_with fail
        have e1 := HMM.out; have e2 := H1.out; have e3 := H2.out; have e4 := HO.out; have e5 := HQ.out; have e6 := HM2.out
        rw [e4, Nat.one_mul] at e1
        refine ⟨⟨q, a' ++ a', o' ++ a', by omega, by rw [ByteArray.size_append]; omega, by rw [ByteArray.size_append]; omega, by omega, by rw [← e5]; simp, rfl, rfl⟩, by simp [intOf]; omega⟩
      · have t1 : ((k : Int) % 2 == 1) = false := by rw [beq_eq_false_iff_ne]; omega
        have HO := Lib.hid hodd
        clear hodd
        go_wp2_with fail
        have e1 := HMM.out; have e2 := H1.out; have e3 := H2.out; have e4 := HO.out; have e5 := HQ.out; have e6 := HM2.out
        have e7 : k % 2 = 0 := by omega
        rw [e7, Nat.zero_mul] at e1
        refine ⟨⟨q, a' ++ a', o', by omega, by omega, by rw [ByteArray.size_append]; omega, by omega, by rw [← e5]; simp, rfl, rfl⟩, by simp [intOf]; omega⟩

theorem gS_mem {l : List ByteArray} {k : Nat} (h : k < l.length) : gS l k ∈ l := by
  unfold gS; rw [List.getD_eq_getElem?_getD, List.getElem?_eq_getElem h]; exact List.getElem_mem h
theorem gI_mem {l : List Int} {k : Nat} (h : k < l.length) : gI l k ∈ l := by
  unfold gI; rw [List.getD_eq_getElem?_getD, List.getElem?_eq_getElem h]; exact List.getElem_mem h
/-- a draw out of a literal list -/
theorem c_ofL (g P : Nat) (l : List ByteArray) (n : Nat) (arr : Array Value) (t : TypeId) (w : World) (hn : n = l.length) (ha : arr = (l.map Value.string).toArray) (hr : Rd w g P) (hP : P ≤ 1000000)
    (h0 : 0 < l.length) (h1 : l.length ≤ 1000) (hs : ∀ s ∈ l, s.size ≤ 1000) :
    Calls Try.prog 127 #[.pointer (some ⟨g, 0, none⟩), .slice (some ⟨w.heap.size, 0, none⟩) n n] (w.alloc (.cells arr t)) fun e w' => ∃ s, e = .returned (.string s) ∧ s ∈ l ∧ Rd w' g (P + 1) ∧ w.grownBy w' (some g) := by
  subst hn ha
  refine (c_of g P _ l _ (hr.ext (ext_alloc _ _)) hP (lit_strs w l t h1 (fun k hk => Nat.le_trans (hs _ (gS_mem hk)) (by omega))) h0 h1 ?_).mono ?_
  · intro A c b o e1 e2
    injection e1 with e1
    rw [e2] at e1
    injection e1 with e1; injection e1 with e1
    have := hr.1
    omega
  · rintro e w2 ⟨j, rfl, hj, hr2, hg2⟩
    exact ⟨_, rfl, gS_mem hj, hr2, (grow_alloc (World.grownBy.refl _ _) _).trans hg2⟩
theorem c_numL (g P : Nat) (l : List Int) (n : Nat) (arr : Array Value) (t : TypeId) (w : World) (hn : n = l.length) (ha : arr = (l.map (Value.int .i64)).toArray) (hr : Rd w g P) (hP : P ≤ 1000000)
    (h0 : 0 < l.length) (h1 : l.length ≤ 1000) :
    Calls Try.prog 99 #[.pointer (some ⟨g, 0, none⟩), .slice (some ⟨w.heap.size, 0, none⟩) n n] (w.alloc (.cells arr t)) fun e w' => ∃ x, e = .returned (.int .i64 x) ∧ x ∈ l ∧ Rd w' g (P + 1) ∧ w.grownBy w' (some g) := by
  subst hn ha
  refine (c_num g P _ l _ (hr.ext (ext_alloc _ _)) hP (lit_ints w l t h1) h0 h1 ?_).mono ?_
  · intro A c b o e1 e2
    injection e1 with e1
    rw [e2] at e1
    injection e1 with e1; injection e1 with e1
    have := hr.1
    omega
  · rintro e w2 ⟨j, rfl, hj, hr2, hg2⟩
    exact ⟨_, rfl, gI_mem hj, hr2, (grow_alloc (World.grownBy.refl _ _) _).trans hg2⟩

set_option maxHeartbeats 400000 in
theorem c_l1Bad (g P : Nat) (s : ByteArray) (w : World) (hr : Rd w g P) (hP : P + 2 ≤ 1000000) (hs : s.size ≤ 1000) :
    Calls Try.prog 92 #[.pointer (some ⟨g, 0, none⟩), .string s] w fun e w' => ∃ t : ByteArray, e = .returned (.string t) ∧ t.size ≤ 1000000 ∧ Rd w' g (P + 2) ∧ w.grownBy w' (some g) := by
  have HR := Lib.hid hr
  clear hr
  go_enter Try.func92, Try.ntmps92
  go_wp2_with fail
  refine (c_pick g P _ _ HR.out (by omega) (by omega) (by omega)).mono ?_
  rintro e w1 ⟨m, rfl, hm, hr1, hg1⟩
  have HR1 := Lib.hid hr1
  have HG1 := Lib.hid hg1
  clear hr1 hg1
  by_cases m0 : m = 0
  · have t0 : ((m : Int) == 0) = true := by simp [m0]
    clear m0
    go_wp2_with fail
    refine (c_ofL g (P + 1) [⟨#[107]⟩, ⟨#[32]⟩, ⟨#[65]⟩, ⟨#[45]⟩] _ _ _ _ rfl rfl HR1.out (by omega) (by decide) (by decide) (by decide)).mono ?_
    rintro e w2 ⟨t, rfl, ht, hr2, hg2⟩
    have ht' : t.size ≤ 1000 := by
      have : ∀ t ∈ [(⟨#[107]⟩ : ByteArray), ⟨#[32]⟩, ⟨#[65]⟩, ⟨#[45]⟩], t.size ≤ 1000 := by decide
      exact this t ht
    have HR2 := Lib.hid hr2
    have HG2 := Lib.hid hg2
    clear hr2 hg2 ht
    go_wp2_with fail
    go_ret
    exact ⟨_, rfl, by rw [ByteArray.size_append]; omega, HR2.out, HG1.out.trans HG2.out⟩
  · have t0 : ((m : Int) == 0) = false := by simp [m0]
    by_cases m1 : m = 1
    · have t1 : ((m : Int) == 1) = true := by simp [m1]
      clear m0 m1
      go_wp2_with fail
      refine (c_ofL g (P + 1) [⟨#[122]⟩, ⟨#[48]⟩] _ _ _ _ rfl rfl HR1.out (by omega) (by decide) (by decide) (by decide)).mono ?_
      rintro e w2 ⟨t, rfl, ht, hr2, hg2⟩
      have ht' : t.size ≤ 1000 := by
        have : ∀ t ∈ [(⟨#[122]⟩ : ByteArray), ⟨#[48]⟩], t.size ≤ 1000 := by decide
        exact this t ht
      have HR2 := Lib.hid hr2
      have HG2 := Lib.hid hg2
      clear hr2 hg2 ht
      go_wp2_with fail
      go_ret
      exact ⟨_, rfl, by rw [ByteArray.size_append]; omega, HR2.out, HG1.out.trans HG2.out⟩
    · have t1 : ((m : Int) == 1) = false := by rw [beq_eq_false_iff_ne]; omega
      by_cases m2 : m = 2
      · have t2 : ((m : Int) == 2) = true := by simp [m2]
        clear m0 m1 m2
        go_wp2_with fail
        refine (c_numL g (P + 1) [200, 201, 199] _ _ _ _ rfl rfl HR1.out (by omega) (by decide) (by decide)).mono ?_
        rintro e w2 ⟨x, rfl, hx, hr2, hg2⟩
        have hx' : ∃ n : Nat, x = (n : Int) ∧ n ≤ 255 := by
          simp at hx
          rcases hx with rfl | rfl | rfl
          · exact ⟨200, rfl, by omega⟩
          · exact ⟨201, rfl, by omega⟩
          · exact ⟨199, rfl, by omega⟩
        obtain ⟨n, rfl, hn⟩ := hx'
        have HR2 := Lib.hid hr2
        have HG2 := Lib.hid hg2
        clear hr2 hg2 hx
        go_wp2_with fail
        refine (c_l21Many ⟨#[106]⟩ n _ (by decide) hn).mono ?_
        rintro e w3 ⟨t, rfl, ht, rfl⟩
        go_wp2_with fail
        go_ret
        exact ⟨_, rfl, ht, HR2.out, HG1.out.trans HG2.out⟩
      · have t2 : ((m : Int) == 2) = false := by rw [beq_eq_false_iff_ne]; omega
        clear m0 m1 m2
        go_wp2_with fail
        go_ret
        exact ⟨_, rfl, by omega, HR1.out.more (by omega), HG1.out⟩

theorem c_l21Open (A : Option Addr) (n c : Nat) (w : World) (hn : n ≤ 140737488355328) (hc : n ≤ c) (h : ∀ k, k < n → ∃ b o x, A = some ⟨b, o, none⟩ ∧ b < w.heap.size ∧ w.cell? ⟨b, o + k, none⟩ = some (.int .u8 x) ∧ 0 ≤ x ∧ x ≤ 255) :
    Calls Try.prog 89 #[.slice A n c] w fun e w' => ∃ g, e = .returned (.pointer (some ⟨g, 0, none⟩)) ∧ w.heap.size ≤ g ∧ Rd w' g 0 ∧ Below w.heap.size w w' := by
  have H := Lib.hid h
  clear h
  by_cases hl : 2000 < n
  · obtain ⟨b, o, x, rfl, _⟩ := H.out 0 (by omega)
    go_enter Try.func89, Try.ntmps89
    go_wp2_with fail
    go_ret
    refine ⟨w.heap.size, rfl, Nat.le_refl _, ⟨by simp, some ⟨b, o, none⟩, 2000, c, 0, Nat.zero_le _, by omega, ?_, ?_, ?_, fun k hk => ?_⟩, ext_alloc _ _⟩
    · rw [World.cell?_alloc_at _ _ _ _ rfl]; rfl
    · rw [World.cell?_alloc_at _ _ _ _ rfl]; rfl
    · exact World.frozen?_alloc_at _ _ _ _ rfl
    · obtain ⟨b, o, x, e, hb, hc, hx⟩ := H.out k (by omega)
      exact ⟨b, o, x, e, hb, by rw [World.cell?_alloc_past _ _ _ hb]; exact hc, hx⟩
  · have t1 : decide (2000 < (n : Int)) = false := by simp; omega
    go_enter Try.func89, Try.ntmps89
    go_wp2_with fail
    go_ret
    refine ⟨w.heap.size, rfl, Nat.le_refl _, ⟨by simp, A, n, c, 0, Nat.zero_le _, by omega, ?_, ?_, ?_, fun k hk => ?_⟩, ext_alloc _ _⟩
    · rw [World.cell?_alloc_at _ _ _ _ rfl]; rfl
    · rw [World.cell?_alloc_at _ _ _ _ rfl]; rfl
    · exact World.frozen?_alloc_at _ _ _ _ rfl
    · obtain ⟨b, o, x, e, hb, hc, hx⟩ := H.out k hk
      exact ⟨b, o, x, e, hb, by rw [World.cell?_alloc_past _ _ _ hb]; exact hc, hx⟩

end Go.Proofs.Ytnfeddnkokocfaa
