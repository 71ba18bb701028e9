/- Contracts of the running pin wheels. -/
import Derived.Test.YtomgkpiogbmfgaaFits
import Derived.Test.YtomgkpiogbmfgaaOwn
import Derived.Laws.CopyOwn
namespace Go.Proofs.Ytomgkpiogbmfgaa
open Go.RowKit

/-- block g is a pins object: its cage, and its four positions -/
def PinB (w : World) (g : Nat) (vW vB : Value) (f : Nat → Int) : Prop :=
  g < w.heap.size ∧ w.cell? ⟨g, 0, none⟩ = some vW ∧ w.cell? ⟨g, 1, none⟩ = some vB ∧
    ∀ i, i < 4 → w.cell? ⟨g, 2 + i, none⟩ = some (.int .i64 (f i)) ∧ w.frozen? ⟨g, 2 + i, none⟩ = false
theorem PinB.block {w w' : World} {g : Nat} {vW vB : Value} {f : Nat → Int} (h : PinB w g vW vB f) (hs : w.heap.size ≤ w'.heap.size) (hb : w'.heap[g]? = w.heap[g]?) : PinB w' g vW vB f := by
  have hc : ∀ i, w'.cell? ⟨g, i, none⟩ = w.cell? ⟨g, i, none⟩ := fun i => World.cell?_of_block (a := ⟨g, i, none⟩) hb
  have hf : ∀ i, w'.frozen? ⟨g, i, none⟩ = w.frozen? ⟨g, i, none⟩ := fun i => World.frozen?_of_block (a := ⟨g, i, none⟩) hb
  exact ⟨Nat.lt_of_lt_of_le h.1 hs, by rw [hc]; exact h.2.1, by rw [hc]; exact h.2.2.1, fun i hi => by rw [hc, hf]; exact h.2.2.2 i hi⟩
theorem PinB.ext {w w' : World} {g : Nat} {vW vB : Value} {f : Nat → Int} (h : PinB w g vW vB f) (hb : Below w.heap.size w w') : PinB w' g vW vB f := h.block hb.size (hb.block g h.1)
theorem PinB.congr {w : World} {g : Nat} {vW vB : Value} {f f' : Nat → Int} (h : PinB w g vW vB f) (e : ∀ i, i < 4 → f i = f' i) : PinB w g vW vB f' :=
  ⟨h.1, h.2.1, h.2.2.1, fun i hi => by rw [← e i hi]; exact h.2.2.2 i hi⟩
theorem PinB.set {w : World} {g : Nat} {vW vB : Value} {f : Nat → Int} (h : PinB w g vW vB f) {k : Nat} (hk : k < 4) (x : Int) :
    PinB (w.setCell ⟨g, 2 + k, none⟩ (.int .i64 x)) g vW vB (fun i => if i = k then x else f i) := by
  refine ⟨by simpa [World.setCell] using h.1, ?_, ?_, fun i hi => ?_⟩
  · rw [World.cell?_setCell_other _ _ _ _ (by simp)]; exact h.2.1
  · rw [World.cell?_setCell_other _ _ _ _ (by simp)]; exact h.2.2.1
  · obtain ⟨h1, h2⟩ := h.2.2.2 i hi
    refine ⟨?_, by rw [World.frozen?_setCell]; exact h2⟩
    by_cases e : i = k
    · subst e
      simp only [if_true]
      exact World.cell?_setCell_same _ _ _ h1
    · simp only [if_neg e]
      rw [World.cell?_setCell_other _ _ _ _ (by intro h; injection h with h1 h2; omega)]
      exact h1
theorem PinB.drew {w : World} {g : Nat} {vW vB : Value} {f : Nat → Int} (h : PinB w g vW vB f) : PinB w.drew g vW vB f := h

/-- the set of the wheels whose pins are out -/
def outN (ws : List ByteArray) (f : Nat → Int) : Nat → Nat
  | 0 => 0
  | k + 1 => if bt (gS ws k) (f k).toNat = 49 then outN ws f k + 2 ^ k else outN ws f k
theorem outN_lt (ws : List ByteArray) (f : Nat → Int) (k : Nat) : outN ws f k < 2 ^ k := by
  induction k with
  | zero => exact Nat.lt_of_lt_of_le Nat.zero_lt_one (Nat.le_refl _)
  | succ k ih => unfold outN; rw [Nat.pow_succ]; split <;> omega
theorem outN_or (ws : List ByteArray) (f : Nat → Int) (k : Nat) : outN ws f k ||| 2 ^ k = outN ws f k + 2 ^ k := by
  have := Nat.two_pow_add_eq_or_of_lt (outN_lt ws f k) 1
  rw [Nat.mul_one] at this
  rw [Nat.or_comm, ← this, Nat.add_comm]
theorem pow_or (ws : List ByteArray) (f : Nat → Int) {k : Nat} (hk : k < 4) : bits .or .i64 (outN ws f k : Int) (wrap64 (2 ^ k)) = ((outN ws f k + 2 ^ k : Nat) : Int) := by
  have h1 := outN_lt ws f k
  have h2 : 2 ^ k ≤ 2 ^ 4 := Nat.pow_le_pow_right (by omega) (by omega)
  rw [pow_wrap (by omega), ← outN_or, ← or_nat _ _ (by omega) (by omega)]
  simp
def mvB (b S : Int) : Bool := bits .and .i64 b S != 0
/-- the number of the bars that are moved -/
def movN (bs : List Int) (S : Int) : Nat → Nat
  | 0 => 0
  | k + 1 => if mvB (gI bs k) S = true then movN bs S k + 1 else movN bs S k
theorem movN_le (bs : List Int) (S : Int) (k : Nat) : movN bs S k ≤ k := by
  induction k with
  | zero => exact Nat.le_refl _
  | succ k ih => unfold movN; split <;> omega
def disp (ws : List ByteArray) (bs : List Int) (f : Nat → Int) : Nat := movN bs (outN ws f ws.length) bs.length

theorem c_out (g : Nat) (vW vB : Value) (ws : List ByteArray) (f : Nat → Int) (w : World) (hp : PinB w g vW vB f) (hW : IsStrs w vW ws) (h4 : ws.length ≤ 4)
    (hf : ∀ i, i < ws.length → 0 ≤ f i ∧ f i < (gS ws i).size) :
    Calls Try.prog 55 #[.pointer (some ⟨g, 0, none⟩)] w fun e w' => e = .returned (.int .i64 (outN ws f ws.length)) ∧ w = w' := by
  have HW := Lib.hid hW
  have HF := Lib.hid hf
  obtain ⟨A, cA, rfl⟩ := hW.form
  obtain ⟨p1, p2, p3, p4⟩ := hp
  have P4 := Lib.hid p4
  clear hW hf p4
  go_enter Try.func55, Try.ntmps55
  go_wp2_with fail
  go_loop [3, 12] (fun s i => ∃ k : Nat, k ≤ ws.length ∧ i = .int .i64 k ∧ s = .int .i64 (outN ws f k)) (fun _ i => ws.length - (intOf i).toNat)
  case atStart => exact ⟨0, Nat.zero_le _, rfl, rfl⟩
  case round =>
    obtain ⟨k, hk, rfl, rfl⟩ := hrel
    by_cases hlt : k < ws.length
    · obtain ⟨b, o, rfl, hb, hc⟩ := HW.out.at_ hlt
      obtain ⟨f0, f1⟩ := HF.out k hlt
      have hcell := (P4.out k (by omega)).1
      obtain ⟨j, hj⟩ := Int.eq_ofNat_of_zero_le f0
      have HJ := Lib.hid hj
      have hjl : j < (gS ws k).size := by omega
      have hbt := bt_get (gS ws k) j hjl
      have hcell' : w.cell? ⟨g, 2 + k, none⟩ = some (.int .i64 (j : Int)) := by rw [hcell, hj]
      clear hj hcell f0 f1
      have hle : outN ws f k < 2 ^ k := outN_lt ws f k
      by_cases q : bt (gS ws k) j = 49
      · have t1 : (bt (gS ws k) j == 49) = true := by simp [q]
        have HQ := Lib.hid q
        clear q
        go_wp2_with fail
        refine ⟨⟨k + 1, by omega, by go_num, ?_⟩, by simp [intOf]; omega⟩
        show _ = Value.int .i64 (outN ws f (k + 1) : Nat)
        rw [outN]
        rw [HJ.out, Int.toNat_natCast, if_pos HQ.out, pow_or ws f (by omega)]
      · have t1 : (bt (gS ws k) j == 49) = false := by simp [q]
        have HQ := Lib.hid q
        clear q
        go_wp2_with fail
        exact ⟨⟨k + 1, by omega, by go_num, by show _ = Value.int .i64 (outN ws f (k + 1) : Nat); rw [outN]; rw [HJ.out, Int.toNat_natCast, if_neg HQ.out]⟩, by simp [intOf]; omega⟩
    · go_wp2_with fail
      go_ret
      have e : k = ws.length := by omega
      subst e
      exact ⟨rfl, rfl⟩

theorem c_displacement (g : Nat) (vW vB : Value) (ws : List ByteArray) (bs : List Int) (f : Nat → Int) (w : World) (hp : PinB w g vW vB f) (hW : IsStrs w vW ws) (hB : IsInts w vB bs) (h4 : ws.length ≤ 4)
    (hf : ∀ i, i < ws.length → 0 ≤ f i ∧ f i < (gS ws i).size) :
    Calls Try.prog 36 #[.pointer (some ⟨g, 0, none⟩)] w fun e w' => e = .returned (.int .i64 (disp ws bs f)) ∧ w = w' := by
  have HB := Lib.hid hB
  have HC := Lib.hid (c_out g vW vB ws f w hp hW h4 hf)
  obtain ⟨B, cB, rfl⟩ := hB.form
  obtain ⟨p1, p2, p3, p4⟩ := hp
  have hbl := hB.len_le
  clear hW hf p4 hB
  go_enter Try.func36, Try.ntmps36
  go_wp2_with fail
  refine HC.out.mono ?_
  rintro e w' ⟨rfl, rfl⟩
  go_wp2_with fail
  go_loop [4, 15] (fun n i => ∃ k : Nat, k ≤ bs.length ∧ i = .int .i64 k ∧ n = .int .i64 (movN bs (outN ws f ws.length) k)) (fun _ i => bs.length - (intOf i).toNat)
  case atStart => exact ⟨0, Nat.zero_le _, rfl, rfl⟩
  case round =>
    obtain ⟨k, hk, rfl, rfl⟩ := hrel
    have hm := movN_le bs (outN ws f ws.length) k
    by_cases hlt : k < bs.length
    · obtain ⟨b, o, rfl, hb, hc⟩ := HB.out.at_ hlt
      cases q : (bits .and .i64 (gI bs k) (outN ws f ws.length : Int) != 0) with
      | true =>
        go_wp2_with fail
        refine ⟨⟨k + 1, by omega, by go_num, ?_⟩, by simp [intOf]; omega⟩
        show _ = Value.int .i64 (movN bs (outN ws f ws.length) (k + 1) : Nat)
        rw [movN, if_pos (show mvB _ _ = true from q)]
        go_num
      | false =>
        go_wp2_with fail
        refine ⟨⟨k + 1, by omega, by go_num, ?_⟩, by simp [intOf]; omega⟩
        show _ = Value.int .i64 (movN bs (outN ws f ws.length) (k + 1) : Nat)
        rw [movN, if_neg (show ¬ mvB _ _ = true by unfold mvB; rw [q]; simp)]
    · go_wp2_with fail
      go_ret
      have e : k = bs.length := by omega
      subst e
      exact ⟨rfl, rfl⟩

end Go.Proofs.Ytomgkpiogbmfgaa
