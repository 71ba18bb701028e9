/- Contracts of windowsValid, pawls, step .. (impl). -/
import Derived.Test.YtnfeddnkokocfaaRotors
import Derived.Test.YtnfeddnkokocfaaShelf
import Derived.Lib.IndexAny
namespace Go.Proofs.Ytnfeddnkokocfaa
set_option linter.unusedVariables false
set_option linter.unusedSimpArgs false
open Go.RowKit

theorem winB_cases (l : List Rot) (rf s : ByteArray) : (wheelsB l rf = false ∧ winB l rf s = false) ∨ (wheelsB l rf = true ∧ s.size ≠ l.length ∧ winB l rf s = false) ∨ (wheelsB l rf = true ∧ s.size = l.length ∧ winB l rf s = wv s) := by
  unfold winB
  cases h1 : wheelsB l rf
  · left; exact ⟨rfl, rfl⟩
  · right
    by_cases h2 : s.size = l.length
    · right; exact ⟨rfl, h2, by rw [decide_eq_true h2]; simp⟩
    · left; exact ⟨rfl, h2, by rw [decide_eq_false h2]; simp⟩
set_option maxHeartbeats 400000 in
theorem c_windowsValid (vR : Value) (l : List Rot) (rf s : ByteArray) (w : World) (hR : IsRots w vR l) (hf : rf.size ≤ 9223372036854775807) (hs : s.size ≤ 9223372036854775807) : Calls Try.prog 110 #[.agg #[vR, .string rf], .string s] w fun e w' => e = .returned (.bool (winB l rf s)) ∧ Below w.heap.size w w' := by
  have K := Lib.hid (Blk.new w 31 #[vR, .string rf])
  have B := Lib.hid (ext_alloc w (.cells #[vR, .string rf] 31))
  have HR0 := Lib.hid (hR.ext B.out)
  have hll := hR.len_le
  obtain ⟨A, cA, rfl⟩ := hR.form
  clear hR
  rcases winB_cases l rf s with ⟨h1, hr⟩ | ⟨h1, h2, hr⟩ | ⟨h1, h2, hr⟩
  all_goals
    have HR := Lib.hid hr
    clear hr
    go_enter Try.func110, Try.ntmps110
    go_wp2_with fail
    refine (c_WheelsValid _ l rf _ HR0.out (by omega)).mono ?_
    rintro e w1 ⟨rfl, hb1⟩
    rw [h1]
    have B1 := Lib.hid (ext_trans B.out hb1)
    have x0 : w1.cell? ⟨w.heap.size, 0, none⟩ = some (.slice A l.length cA) := (K.out.ext hb1).cell 0
    clear hb1
  · go_wp2_with fail
    go_ret
    exact ⟨by rw [HR.out]; rfl, B1.out⟩
  · have t1 : ((s.size : Int) == (l.length : Int)) = false := by rw [beq_eq_false_iff_ne]; omega
    go_wp2_with fail
    go_ret
    exact ⟨by rw [HR.out]; rfl, B1.out⟩
  · have t1 : ((s.size : Int) == (l.length : Int)) = true := by rw [beq_iff_eq]; omega
    go_wp2_with (go_at_call 43; refine (c_WordValid _ _ (by omega)).mono ?_; rintro e w' ⟨rfl, rfl⟩)
    go_ret
    exact ⟨by rw [HR.out]; rfl, B1.out⟩
theorem has_index (n : ByteArray) (x : Int) (h0 : 0 ≤ x) (h1 : x ≤ 255) : decide (0 ≤ Lib.indexByte n.data.toList x.toNat.toUInt8) = hasB n x := by
  rw [← Lib.contains_iff_indexByte, Bool.eq_iff_iff, hasB_iff, List.contains_iff_mem, List.mem_iff_getElem]
  constructor
  · rintro ⟨j, hj, e⟩
    refine ⟨j, by simpa using hj, ?_⟩
    unfold bt
    rw [List.getD_eq_getElem?_getD, List.getElem?_eq_getElem hj, e]
    simp
    omega
  · rintro ⟨j, hj, e⟩
    have hj' : j < n.data.toList.length := by simpa using hj
    refine ⟨j, hj', ?_⟩
    unfold bt at e
    rw [List.getD_eq_getElem?_getD, List.getElem?_eq_getElem hj'] at e
    apply UInt8.toNat_inj.1
    simp at e ⊢
    omega
/-- the cells of an array of three flags -/
def boolA (f : Nat → Bool) : Array Value := ((List.range 3).map (fun i => Value.bool (f i))).toArray
theorem boolA_size (f : Nat → Bool) : (boolA f).size = 3 := by simp [boolA]
theorem boolA_at (f : Nat → Bool) {k : Nat} (hk : k < 3) : (boolA f)[k]? = some (.bool (f k)) := by simp [boolA, hk]
theorem boolA_congr {f g : Nat → Bool} (h : ∀ k, k < 3 → f k = g k) : boolA f = boolA g := by
  unfold boolA
  congr 1
  refine List.map_congr_left fun k hk => ?_
  rw [h k (List.mem_range.1 hk)]
theorem boolA_set (f : Nat → Bool) {k : Nat} (_hk : k < 3) (x : Bool) : (boolA f).setIfInBounds k (.bool x) = boolA (fun i => if i = k then x else f i) := by
  apply Array.ext_getElem?
  intro i
  rw [Array.getElem?_setIfInBounds]
  by_cases hi : i < 3
  · rw [boolA_at _ hi]
    by_cases e : k = i
    · subst e; rw [if_pos rfl, if_pos (by rw [boolA_size]; exact hi), boolA_at _ hi, if_pos rfl]
    · rw [if_neg e, boolA_at _ hi, if_neg (fun h => e h.symm)]
  · have h1 : ∀ g : Nat → Bool, (boolA g)[i]? = none := fun g => by rw [Array.getElem?_eq_none_iff, boolA_size]; omega
    rw [h1, h1]
    by_cases e : k = i
    · rw [if_pos e, if_neg (by rw [boolA_size]; omega)]
    · rw [if_neg e]
theorem boolA_one (f : Nat → Bool) : (boolA f).all (·.oneCell') = true := by
  unfold boolA
  rw [List.all_toArray, List.all_eq_true]
  intro x hx
  obtain ⟨i, _, rfl⟩ := List.mem_map.1 hx
  rfl
theorem boolA_zero : (#[.bool false, .bool false, .bool false] : Array Value) = boolA (fun _ => false) := rfl
end Go.Proofs.Ytnfeddnkokocfaa
