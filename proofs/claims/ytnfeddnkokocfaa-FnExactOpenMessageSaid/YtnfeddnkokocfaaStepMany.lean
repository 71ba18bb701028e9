/- Contracts of StepMoves, StepMany, StepWindows, LeftMoves (impl). -/
import Derived.Test.YtnfeddnkokocfaaStep
namespace Go.Proofs.Ytnfeddnkokocfaa
set_option linter.unusedVariables false
set_option linter.unusedSimpArgs false
open Go.RowKit

theorem win_facts {l : List Rot} {rf s : ByteArray} (h : winB l rf s = true) : 1 ≤ s.size ∧ s.size ≤ 3 ∧ s.size = l.length ∧ wv s = true := by
  obtain ⟨h1, h2, h3⟩ := (winB_iff l rf s).1 h
  have := wheelsB_len h1
  exact ⟨by omega, by omega, h3, h2⟩
theorem c_stepIt (vR : Value) (l : List Rot) (rf s : ByteArray) (n : Nat) (w : World) (hR : IsRots w vR l) (h : winB l rf s = true) : Calls Try.prog 117 #[.agg #[vR, .string rf], .string (it (stepS l) n s)] w fun e w' => e = .returned (.string (it (stepS l) (n + 1) s)) ∧ Below w.heap.size w w' := by
  obtain ⟨h1, h2, h3, h4⟩ := win_facts (it_win n h)
  exact c_step vR l rf _ w hR h1 h2 h3 h4
/-- a box of wheels at the head of a call, and what came behind it -/
structure WInv (w wr : World) (A : Option Addr) (cA : Nat) (l : List Rot) (rf : ByteArray) : Prop where
  box : Blk wr w.heap.size 31 #[.slice A l.length cA, .string rf]
  rot : IsRots wr (.slice A l.length cA) l
  bel : Below w.heap.size w wr
theorem WInv.start {w : World} {A : Option Addr} {cA : Nat} {l : List Rot} (rf : ByteArray) (hR : IsRots w (.slice A l.length cA) l) : WInv w (w.alloc (.cells #[.slice A l.length cA, .string rf] 31)) A cA l rf :=
  ⟨Blk.new _ _ _, hR.ext (ext_alloc _ _), ext_alloc _ _⟩
theorem WInv.ext {w wr w2 : World} {A : Option Addr} {cA : Nat} {l : List Rot} {rf : ByteArray} (h : WInv w wr A cA l rf) (hb : Below wr.heap.size wr w2) : WInv w w2 A cA l rf :=
  ⟨h.box.ext hb, h.rot.ext hb, ext_trans h.bel hb⟩
theorem WInv.drew {w wr : World} {A : Option Addr} {cA : Nat} {l : List Rot} {rf : ByteArray} (h : WInv w wr A cA l rf) : WInv w wr.drew A cA l rf :=
  h.ext (Below.refl _ _).drew
theorem WInv.c0 {w wr : World} {A : Option Addr} {cA : Nat} {l : List Rot} {rf : ByteArray} (h : WInv w wr A cA l rf) : wr.cell? ⟨w.heap.size, 0, none⟩ = some (.slice A l.length cA) := h.box.cell 0
theorem WInv.c1 {w wr : World} {A : Option Addr} {cA : Nat} {l : List Rot} {rf : ByteArray} (h : WInv w wr A cA l rf) : wr.cell? ⟨w.heap.size, 1, none⟩ = some (.string rf) := h.box.cell 1

def manyOk (l : List Rot) (rf s : ByteArray) (n : Int) : Bool := winB l rf s && (decide (0 ≤ n) && decide (n ≤ 2000))
def manyR (l : List Rot) (rf s : ByteArray) (n : Int) : Value := .tuple #[.string (if manyOk l rf s n = true then it (stepS l) n.toNat s else ByteArray.empty), .bool (manyOk l rf s n)]
theorem manyR_ok {l : List Rot} {rf s : ByteArray} {n : Int} (h : manyOk l rf s n = true) : manyR l rf s n = .tuple #[.string (it (stepS l) n.toNat s), .bool true] := by unfold manyR; rw [if_pos h, h]
theorem manyR_no {l : List Rot} {rf s : ByteArray} {n : Int} (h : manyOk l rf s n = false) : manyR l rf s n = .tuple #[.string ByteArray.empty, .bool false] := by unfold manyR; rw [if_neg (by rw [h]; simp), h]
theorem manyOk_cases (l : List Rot) (rf s : ByteArray) (n : Int) : (winB l rf s = false ∧ manyOk l rf s n = false) ∨ (winB l rf s = true ∧ n < 0 ∧ manyOk l rf s n = false) ∨ (winB l rf s = true ∧ 0 ≤ n ∧ 2000 < n ∧ manyOk l rf s n = false) ∨ (winB l rf s = true ∧ ∃ N : Nat, n = N ∧ N ≤ 2000 ∧ manyOk l rf s n = true) := by
  unfold manyOk
  cases h1 : winB l rf s
  · left; exact ⟨rfl, rfl⟩
  · right
    by_cases h2 : n < 0
    · left; exact ⟨rfl, h2, by rw [decide_eq_false (by omega)]; rfl⟩
    · right
      by_cases h3 : 2000 < n
      · left; exact ⟨rfl, by omega, h3, by rw [decide_eq_false (show ¬ n ≤ 2000 by omega)]; simp⟩
      · right; exact ⟨rfl, n.toNat, by omega, by omega, by rw [decide_eq_true (show n ≤ 2000 by omega), decide_eq_true (show 0 ≤ n by omega)]; rfl⟩
set_option maxHeartbeats 400000 in
theorem c_StepMany (vR : Value) (l : List Rot) (rf s : ByteArray) (n : Int) (w : World) (hR : IsRots w vR l) (hf : rf.size ≤ 9223372036854775807) (hs : s.size ≤ 9223372036854775807) : Calls Try.prog 86 #[.agg #[vR, .string rf], .string s, .int .i64 n] w fun e w' => e = .returned (manyR l rf s n) ∧ Below w.heap.size w w' := by
  obtain ⟨A, cA, rfl⟩ := hR.form
  have I0 := Lib.hid (WInv.start rf hR)
  clear hR
  rcases manyOk_cases l rf s n with ⟨h1, hr⟩ | ⟨h1, h2, hr⟩ | ⟨h1, h2, h3, hr⟩ | ⟨h1, N, rfl, h2, hr⟩
  all_goals
    have HR := Lib.hid hr
    clear hr
    go_enter Try.func86, Try.ntmps86
    go_wp2_with fail
    refine (c_windowsValid _ l rf s _ I0.out.rot (by omega) (by omega)).mono ?_
    rintro e w1 ⟨rfl, hb1⟩
    rw [h1]
    have I1 := Lib.hid (I0.out.ext hb1)
    clear hb1
    have H1 := Lib.hid h1
    clear h1
  · go_wp2_with fail
    go_ret2
    exact ⟨by rw [manyR_no HR.out]; rfl, I1.out.bel⟩
  · go_wp2_with fail
    go_ret2
    exact ⟨by rw [manyR_no HR.out]; rfl, I1.out.bel⟩
  · go_wp2_with fail
    go_ret2
    exact ⟨by rw [manyR_no HR.out]; rfl, I1.out.bel⟩
  · go_wp2_with fail
    go_loopw [1, 21] (fun x i wr => ∃ k : Nat, k ≤ N ∧ i = .int .i64 k ∧ x = .string (it (stepS l) k s) ∧ WInv w wr A cA l rf) (fun _ i _ => N - (intOf i).toNat)
    case atStart => exact ⟨0, by omega, rfl, rfl, I1.out⟩
    case round =>
      obtain ⟨k, hk, rfl, rfl, hi⟩ := hrel
      have HI := Lib.hid hi
      have y0 := hi.c0
      have y1 := hi.c1
      clear hi
      by_cases hlt : k < N
      · go_wp2_with fail
        refine (c_stepIt _ l rf s k _ HI.out.rot H1.out).mono ?_
        rintro e w2 ⟨rfl, hb2⟩
        have HI2 := Lib.hid (HI.out.ext hb2)
        clear hb2
        go_wp2_with fail
        exact ⟨⟨k + 1, by omega, by go_num, rfl, HI2.out⟩, by simp [intOf]; omega⟩
      · have e : k = N := by omega
        subst e
        go_wp2_with fail
        go_ret2
        exact ⟨by rw [manyR_ok HR.out]; simp, HI.out.bel⟩
theorem c_StepWindows (vR : Value) (l : List Rot) (rf s : ByteArray) (w : World) (hR : IsRots w vR l) (hf : rf.size ≤ 9223372036854775807) (hs : s.size ≤ 9223372036854775807) : Calls Try.prog 40 #[.agg #[vR, .string rf], .string s] w fun e w' => e = .returned (manyR l rf s 1) ∧ Below w.heap.size w w' := by
  obtain ⟨A, cA, rfl⟩ := hR.form
  have I0 := Lib.hid (WInv.start rf hR)
  clear hR
  go_enter Try.func40, Try.ntmps40
  go_wp2_with fail
  refine (c_StepMany _ l rf s 1 _ I0.out.rot (by omega) (by omega)).mono ?_
  rintro e w1 ⟨rfl, hb1⟩
  have I1 := Lib.hid (I0.out.ext hb1)
  clear hb1
  rcases hm : manyOk l rf s 1 with _ | _
  · have HM := Lib.hid hm
    rw [manyR_no hm]
    clear hm
    go_wp2_with fail
    go_ret2
    exact ⟨by rw [manyR_no HM.out]; rfl, I1.out.bel⟩
  · have HM := Lib.hid hm
    rw [manyR_ok hm]
    clear hm
    go_wp2_with fail
    go_ret2
    exact ⟨by rw [manyR_ok HM.out]; rfl, I1.out.bel⟩
def leftOk := manyOk
def leftR (l : List Rot) (rf s : ByteArray) (n : Int) : Int := if manyOk l rf s n = true then (leftN l s n.toNat : Int) else -1
end Go.Proofs.Ytnfeddnkokocfaa
