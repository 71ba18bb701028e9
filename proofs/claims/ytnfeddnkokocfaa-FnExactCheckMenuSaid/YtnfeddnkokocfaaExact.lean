/- Contracts of the laws' own functions on slices: sz.., to.., eq... -/
import Derived.Test.YtnfeddnkokocfaaKitA
namespace Go.Proofs.Ytnfeddnkokocfaa
set_option linter.unusedVariables false
set_option linter.unusedSimpArgs false
open Go.RowKit

theorem Own.cellAt {w : World} {B : Nat} {e : TypeId} {g c n : Nat} {l : List Value} (h : Own w B e (.slice (some ⟨g, 0, none⟩) n c) l) {j : Nat} {u : Value} (hj : l[j]? = some u) : w.cell? ⟨g, j, none⟩ = some u := by
  obtain ⟨g2, c2, h, _, _, hc⟩ := h.at_ hj
  injection h with h; injection h with h; injection h with h
  rw [h]; exact hc
/-- make([]T, n) -/
theorem makeN {P : Program} (w : World) {ops : Array Oper} {rest : List Oper} {o : Oper} {a : Act} {Q : Exit → Act → World → Prop}
    (hg : o.guard = none) (l c : Operand) (t : TypeId) (hop : o.op = Op.makeSlice t l c)
    (B : Nat) (e : TypeId) {z : Value} {bytes : Nat} (h1 : P.underlying t = some (.slice e)) (hinfo : (P.info? e).map (fun i => (i.zero, i.size, i.bytes)) = some (some z, 1, bytes)) (hz : z.cells = #[z])
    (kl kc : IntKind) (L C : Int) (n : Nat) (hl : a.eval l = .int kl L) (hc : a.eval c = .int kc C) (hL : L = (n : Int)) (hC : C = (n : Int)) (hn : n ≤ 1000000000) (hby : bytes ≤ 1000) (b4 : B ≤ w.heap.size)
    (hK : ∀ w', Own w' B e (.slice (some ⟨w.heap.size, 0, none⟩) n n) (List.replicate n z) → Below w.heap.size w w' → wpList P ops Q rest (a.put o.dst (.slice (some ⟨w.heap.size, 0, none⟩) n n)) w') :
    wpList P ops Q (o :: rest) a w := by
  obtain ⟨i, hi, hz0, hz1, hz2⟩ := info_parts hinfo
  refine wpList_make_full (P := P) w hg l c t hop B e i z 1 h1 hi hz0 hz1 kl kc L C n hl hc hL hC ?_ (by unfold maxLen; omega) b4 (fun w' ho hgr => hK w' ?_ ?_)
  · rw [hz2]
    have : bytes * n ≤ 1000 * 1000000000 := Nat.mul_le_mul hby hn
    omega
  · rw [hz, Nat.mul_one, toList_madeCells_one] at ho
    unfold Own
    simpa using ho
  · exact (Below.refl _ _).grown hgr (Nat.le_refl _) (fun k hk => by cases hk)

/-- make([]byte, n), as a row of zeros -/
theorem Row.ofOwn {w : World} {B g n : Nat} {e : TypeId} (h : Own w B e (.slice (some ⟨g, 0, none⟩) n n) (List.replicate n (.int .u8 0))) (hg : g < w.heap.size) : Row w g n (fun _ => 0) :=
  ⟨hg, fun i hi => ⟨h.cellAt (by simp [hi]), h.free (by simp) i⟩⟩
/-- the first k elements of l, then z -/
def fillV (f : Nat → Value) (z : Value) (n k : Nat) : List Value := (List.range n).map (fun i => if i < k then f i else z)
theorem fillV_zero (f : Nat → Value) (z : Value) (n : Nat) : fillV f z n 0 = List.replicate n z := by
  unfold fillV
  apply List.ext_getElem (by simp)
  intro i h1 h2; simp
theorem fillV_len (f : Nat → Value) (z : Value) (n k : Nat) : (fillV f z n k).length = n := by simp [fillV]
theorem fillV_set (f : Nat → Value) (z : Value) (n k : Nat) (_hk : k < n) : (fillV f z n k).set k (f k) = fillV f z n (k + 1) := by
  unfold fillV
  apply List.ext_getElem (by simp)
  intro i h1 h2
  simp only [List.length_map, List.length_range] at h2
  rw [List.getElem_set]
  simp only [List.getElem_map, List.getElem_range]
  by_cases e : k = i
  · subst e; simp
  · rw [if_neg e]
    by_cases h : i < k
    · rw [if_pos h, if_pos (by omega)]
    · rw [if_neg h, if_neg (by omega)]
theorem fillV_at (f : Nat → Value) (z : Value) (n k i : Nat) (hi : i < n) : (fillV f z n k)[i]? = some (if i < k then f i else z) := by
  unfold fillV; rw [List.getElem?_map, List.getElem?_range hi]; rfl
theorem fillV_all (f : Nat → Value) (z : Value) (n : Nat) : fillV f z n n = (List.range n).map f := by
  unfold fillV
  exact List.map_congr_left fun i hi => if_pos (List.mem_range.1 hi)
theorem strs_range (l : List ByteArray) : (List.range l.length).map (fun i => Value.string (gS l i)) = l.map Value.string := by
  apply List.ext_getElem (by simp)
  intro i h1 h2
  have : i < l.length := by simpa using h2
  simp [gS, List.getD_eq_getElem?_getD, List.getElem?_eq_getElem this]
theorem ints_range (l : List Int) : (List.range l.length).map (fun i => Value.int .i64 (gI l i)) = l.map (Value.int .i64) := by
  apply List.ext_getElem (by simp)
  intro i h1 h2
  have : i < l.length := by simpa using h2
  simp [gI, List.getD_eq_getElem?_getD, List.getElem?_eq_getElem this]

theorem c_eqStringS (v v' : Value) (l : List ByteArray) (w : World) (hl : IsStrs w v l) (hl' : IsStrs w v' l) :
    Calls Try.prog 28 #[v, v'] w fun e w' => e = .returned (.bool true) ∧ Below w.heap.size w w' := by
  have HL := Lib.hid hl
  have HL' := Lib.hid hl'
  have hll := hl.len_le
  obtain ⟨A, c, rfl⟩ := hl.form
  obtain ⟨A', c', rfl⟩ := hl'.form
  clear hl hl'
  go_enter Try.func28, Try.ntmps28
  go_wp2_with fail
  go_loopw [5] (fun i wr => ∃ k : Nat, k ≤ l.length ∧ i = .int .i64 k ∧ Below w.heap.size w wr) (fun i _ => l.length - (intOf i).toNat)
  case atStart => exact ⟨0, Nat.zero_le _, rfl, Below.refl _ _⟩
  case round =>
    obtain ⟨k, hk, rfl, hbr⟩ := hrel
    have HBR := Lib.hid hbr
    clear hbr
    by_cases hlt : k < l.length
    · obtain ⟨b, o, rfl, hb, hc⟩ := (HL.out.ext HBR.out).at_ hlt
      obtain ⟨b', o', rfl, hb', hc'⟩ := (HL'.out.ext HBR.out).at_ hlt
      have i1 : (0 : Int) ≤ k := by omega
      have i2 : (k : Int) < l.length := by omega
      go_wp2_with fail
      go_quiet (fail)
      go_wp2_with fail
      exact ⟨⟨k + 1, by omega, by go_num, below_drewN HBR.out _⟩, by simp [intOf]; omega⟩
    · go_wp2_with fail
      go_ret
      exact ⟨rfl, HBR.out⟩
end Go.Proofs.Ytnfeddnkokocfaa
