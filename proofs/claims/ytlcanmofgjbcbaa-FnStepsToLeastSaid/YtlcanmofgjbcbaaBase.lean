/- Plain lemmas on bytes, strings, lists and loops, used by the walks of this seat. No conditions. -/
import Derived.Test.YtlcanmofgjbcbaaProg
import Derived.WalkKit
import Derived.WalkLawsBesides
import Derived.WalkSpells
import Derived.Lib.Hide
import Derived.Deep.QuietTactic
import Derived.BigQuiet
import Derived.StillTailTactics
import Derived.Deep.RegionHeld3
import Derived.Deep.RegionLaw
import Derived.Deep.DrawnRows
import Derived.Deep.LoopGhost
import Derived.Deep.DeepCutAuto
import Derived.Maps.AppendAt
import Derived.Deep.AppendLies
import Derived.Laws.BytesArg
import Derived.Handy
namespace Go.Proofs.Ytlcanmofgjbcbaa
set_option linter.unusedVariables false
set_option linter.unusedSimpArgs false
open Go.RowKit

theorem ret_bool {a b : Bool} (h : a = b) : Ending.returned (.bool a) = .returned (.bool b) := by rw [h]
theorem ret_int {k : IntKind} {a b : Int} (h : a = b) : Ending.returned (.int k a) = .returned (.int k b) := by rw [h]
theorem ret_str {a b : ByteArray} (h : a = b) : Ending.returned (.string a) = .returned (.string b) := by rw [h]

/-- all numbers below n pass -/
def allB : Nat → (Nat → Bool) → Bool
  | 0, _ => true
  | n + 1, p => allB n p && p n
theorem allB_zero (p : Nat → Bool) : allB 0 p = true := rfl
theorem allB_succ (n : Nat) (p : Nat → Bool) : allB (n + 1) p = (allB n p && p n) := rfl
theorem allB_step {n : Nat} {p : Nat → Bool} (h : allB n p = true) (hp : p n = true) : allB (n + 1) p = true := by rw [allB_succ, h, hp]; rfl
theorem allB_iff (n : Nat) (p : Nat → Bool) : allB n p = true ↔ ∀ k, k < n → p k = true := by
  induction n with
  | zero => exact ⟨fun _ k hk => absurd hk (by omega), fun _ => rfl⟩
  | succ n ih =>
    rw [allB_succ, Bool.and_eq_true, ih]
    constructor
    · rintro ⟨h1, h2⟩ k hk
      rcases Nat.lt_succ_iff_lt_or_eq.1 hk with h | h
      · exact h1 k h
      · exact h ▸ h2
    · intro h
      exact ⟨fun k hk => h k (by omega), h n (by omega)⟩
theorem allB_false {n k : Nat} {p : Nat → Bool} (hk : k < n) (hp : p k = false) : allB n p = false := by
  cases h : allB n p with
  | false => rfl
  | true => have := (allB_iff n p).1 h k hk; rw [hp] at this; cases this
theorem allB_congr {n : Nat} {p q : Nat → Bool} (h : ∀ k, k < n → p k = q k) : allB n p = allB n q := by
  induction n with
  | zero => rfl
  | succ n ih => rw [allB_succ, allB_succ, ih (fun k hk => h k (by omega)), h n (by omega)]

/-- the byte at an index, as a number -/
def bt (s : ByteArray) (k : Nat) : Int := ((s.data.toList.getD k 0).toNat : Int)
theorem bt_range (s : ByteArray) (k : Nat) : 0 ≤ bt s k ∧ bt s k ≤ 255 := by
  unfold bt; have := (s.data.toList.getD k 0).toNat_lt; omega
theorem bt_get (s : ByteArray) (k : Nat) (h : k < s.size) : ((s[k]'h).toNat : Int) = bt s k := by
  have : s[k]'h = s.data.toList.getD k 0 := by
    rw [List.getD_eq_getElem?_getD, List.getElem?_eq_getElem (by simpa using h)]
    rfl
  rw [this]; rfl
theorem size_toList (s : ByteArray) : s.data.toList.length = s.size := by simp
theorem bt_ext {a b : ByteArray} (hs : a.size = b.size) (h : ∀ k, k < a.size → bt a k = bt b k) : a = b := by
  have hl : a.data.toList = b.data.toList := by
    apply List.ext_getElem (by rw [size_toList, size_toList, hs])
    intro k h1 h2
    have hk : k < a.size := by rw [← size_toList]; exact h1
    have e := h k hk
    unfold bt at e
    rw [List.getD_eq_getElem?_getD, List.getD_eq_getElem?_getD, List.getElem?_eq_getElem h1, List.getElem?_eq_getElem h2] at e
    simp only [Option.getD_some] at e
    exact UInt8.toNat_inj.1 (by omega)
  cases a; cases b
  simp only [ByteArray.mk.injEq]
  exact Array.toList_inj.1 hl
/-- the string of n bytes given by a function -/
def mkS (n : Nat) (f : Nat → Int) : ByteArray := strOfNums ((List.range n).map f)
theorem mkS_size (n : Nat) (f : Nat → Int) : (mkS n f).size = n := by unfold mkS; rw [strOfNums_size]; simp
theorem ofNat_toNat (x : Int) (h0 : 0 ≤ x) (h1 : x ≤ 255) : ((UInt8.ofNat x.toNat).toNat : Int) = x := by
  rw [UInt8.toNat_ofNat']; omega
theorem bt_strOfNums (xs : List Int) (k : Nat) (h : k < xs.length) (h0 : 0 ≤ xs.getD k 0) (h1 : xs.getD k 0 ≤ 255) : bt (strOfNums xs) k = xs.getD k 0 := by
  unfold bt
  rw [strOfNums_data, List.getD_eq_getElem?_getD, List.getElem?_map, List.getElem?_eq_getElem h]
  rw [List.getD_eq_getElem?_getD, List.getElem?_eq_getElem h] at h0 h1 ⊢
  simp only [Option.map_some, Option.getD_some] at h0 h1 ⊢
  exact ofNat_toNat _ h0 h1
theorem bt_mkS (n : Nat) (f : Nat → Int) (k : Nat) (h : k < n) (h0 : 0 ≤ f k) (h1 : f k ≤ 255) : bt (mkS n f) k = f k := by
  have e : ((List.range n).map f).getD k 0 = f k := by
    rw [List.getD_eq_getElem?_getD, List.getElem?_map, List.getElem?_range h]; rfl
  unfold mkS
  rw [bt_strOfNums _ _ (by simpa using h) (by rw [e]; exact h0) (by rw [e]; exact h1), e]
theorem mkS_congr {n : Nat} {f g : Nat → Int} (h : ∀ k, k < n → f k = g k) : mkS n f = mkS n g := by
  unfold mkS
  rw [List.map_congr_left (fun k hk => h k (List.mem_range.1 hk))]
theorem bt_append (a b : ByteArray) (k : Nat) : bt (a ++ b) k = if k < a.size then bt a k else bt b (k - a.size) := by
  unfold bt
  have : (a ++ b).data.toList = a.data.toList ++ b.data.toList := by simp
  rw [this, List.getD_eq_getElem?_getD, List.getElem?_append, size_toList]
  split <;> simp [List.getD_eq_getElem?_getD]
theorem mkS_succ (n : Nat) (f : Nat → Int) : mkS (n + 1) f = mkS n f ++ strOfNums [f n] := by
  unfold mkS strOfNums
  rw [List.range_succ, List.map_append, List.map_append, ByteArray.mk_append_mk]
  rfl
theorem mkS_zero (f : Nat → Int) : mkS 0 f = ByteArray.empty := rfl
theorem eq_mkS (s : ByteArray) : s = mkS s.size (bt s) := by
  apply bt_ext (by rw [mkS_size])
  intro k hk
  rw [bt_mkS _ _ _ hk (bt_range s k).1 (bt_range s k).2]

/-- elements of lists, zero or empty outside -/
def gI (l : List Int) (k : Nat) : Int := l.getD k 0
def gS (l : List ByteArray) (k : Nat) : ByteArray := l.getD k ByteArray.empty

theorem pow_le4 {n : Nat} (h : n ≤ 4) : 1 ≤ (2 : Int) ^ n ∧ (2 : Int) ^ n ≤ 16 := by
  have : n = 0 ∨ n = 1 ∨ n = 2 ∨ n = 3 ∨ n = 4 := by omega
  rcases this with rfl | rfl | rfl | rfl | rfl <;> omega
theorem pow_wrap {n : Nat} (h : n ≤ 4) : wrap64 ((2 : Int) ^ n) = 2 ^ n := by
  have : n = 0 ∨ n = 1 ∨ n = 2 ∨ n = 3 ∨ n = 4 := by omega
  rcases this with rfl | rfl | rfl | rfl | rfl <;> exact IntWalk.wrap64_in _ (by omega)

theorem bv_nat (a : Nat) (ha : a < 2 ^ 62) : (BitVec.ofInt 64 (a : Int)).toNat = a := by
  rw [BitVec.ofInt_natCast, BitVec.toNat_ofNat]
  exact Nat.mod_eq_of_lt (by omega)
theorem or_nat (a b : Nat) (ha : a < 2 ^ 62) (hb : b < 2 ^ 62) : bits .or .i64 (a : Int) (b : Int) = ((a ||| b : Nat) : Int) := by
  have hx : a ||| b < 2 ^ 62 := Nat.or_lt_two_pow ha hb
  show IntKind.i64.wrap ((BitVec.ofInt 64 (a : Int) ||| BitVec.ofInt 64 (b : Int)).toNat : Int) = _
  rw [BitVec.toNat_or, bv_nat a ha, bv_nat b hb]
  exact IntWalk.i64_in _ (by omega)
theorem and_nat (a b : Nat) (ha : a < 2 ^ 62) (hb : b < 2 ^ 62) : bits .and .i64 (a : Int) (b : Int) = ((a &&& b : Nat) : Int) := by
  have hx : a &&& b < 2 ^ 62 := Nat.and_lt_two_pow _ hb
  show IntKind.i64.wrap ((BitVec.ofInt 64 (a : Int) &&& BitVec.ofInt 64 (b : Int)).toNat : Int) = _
  rw [BitVec.toNat_and, bv_nat a ha, bv_nat b hb]
  exact IntWalk.i64_in _ (by omega)
theorem xor_nat (a b : Nat) (ha : a < 2 ^ 62) (hb : b < 2 ^ 62) : bits .xor .i64 (a : Int) (b : Int) = ((a ^^^ b : Nat) : Int) := by
  have hx : a ^^^ b < 2 ^ 62 := Nat.xor_lt_two_pow ha hb
  show IntKind.i64.wrap ((BitVec.ofInt 64 (a : Int) ^^^ BitVec.ofInt 64 (b : Int)).toNat : Int) = _
  rw [BitVec.toNat_xor, bv_nat a ha, bv_nat b hb]
  exact IntWalk.i64_in _ (by omega)
theorem still {P : Program} {f : FuncId} {args : Array Value} {w : World} {v : Value} (h : Calls P f args w fun e w' => e = .returned v ∧ w = w') :
    Calls P f args w fun e w' => e = .returned v ∧ w' = w := h.mono fun _ _ h => ⟨h.1, h.2.symm⟩

/-- block g holds n bytes, given by f, which may be written -/
def Row (w : World) (g n : Nat) (f : Nat → Int) : Prop :=
  g < w.heap.size ∧ ∀ i, i < n → w.cell? ⟨g, i, none⟩ = some (.int .u8 (f i)) ∧ w.frozen? ⟨g, i, none⟩ = false
theorem Row.lt {w : World} {g n : Nat} {f : Nat → Int} (h : Row w g n f) : g < w.heap.size := h.1
theorem Row.cell {w : World} {g n : Nat} {f : Nat → Int} (h : Row w g n f) {i : Nat} (hi : i < n) : w.cell? ⟨g, i, none⟩ = some (.int .u8 (f i)) := (h.2 i hi).1
theorem Row.free {w : World} {g n : Nat} {f : Nat → Int} (h : Row w g n f) {i : Nat} (hi : i < n) : w.frozen? ⟨g, i, none⟩ = false := (h.2 i hi).2
theorem Row.drew {w : World} {g n : Nat} {f : Nat → Int} (h : Row w g n f) : Row w.drew g n f := h
theorem Row.congr {w : World} {g n : Nat} {f f' : Nat → Int} (h : Row w g n f) (e : ∀ i, i < n → f i = f' i) : Row w g n f' :=
  ⟨h.1, fun i hi => by rw [← e i hi]; exact h.2 i hi⟩
theorem Row.below {w w' : World} {B g n : Nat} {f : Nat → Int} (h : Row w g n f) (hb : Below B w w') (hg : g < B) : Row w' g n f :=
  ⟨Nat.lt_of_lt_of_le h.1 hb.size, fun i hi => ⟨(hb.cell (p := ⟨g, i, none⟩) hg).trans (h.2 i hi).1, (hb.frozen (p := ⟨g, i, none⟩) hg).trans (h.2 i hi).2⟩⟩
theorem Row.ext {w w' : World} {g n : Nat} {f : Nat → Int} (h : Row w g n f) (hb : Below w.heap.size w w') : Row w' g n f := h.below hb h.1
theorem Row.set {w : World} {g n : Nat} {f : Nat → Int} (h : Row w g n f) {k : Nat} (hk : k < n) (x : Int) :
    Row (w.setCell ⟨g, k, none⟩ (.int .u8 x)) g n (fun i => if i = k then x else f i) := by
  refine ⟨by simpa [World.setCell] using h.1, fun i hi => ?_⟩
  obtain ⟨h1, h2⟩ := h.2 i hi
  by_cases e : i = k
  · subst e
    refine ⟨?_, ?_⟩
    · simp only [if_true]
      exact World.cell?_setCell_same _ _ _ h1
    · rw [World.frozen?_setCell]; exact h2
  · refine ⟨?_, ?_⟩
    · simp only [if_neg e]
      rw [World.cell?_setCell_other _ _ _ _ (by intro h; injection h with h1 h2; omega)]
      exact h1
    · rw [World.frozen?_setCell]; exact h2
theorem below_setRow {a w : World} {B g k : Nat} (h : Below B a w) (hg : B ≤ g) (x : Value) : Below B a (w.setCell ⟨g, k, none⟩ x) := h.setCell (p := ⟨g, k, none⟩) hg x

theorem wpList_bytes {P : Program} (w : World) {ops : Array Oper} {rest : List Oper} {o : Oper} {a : Act} {Q : Exit → Act → World → Prop}
    (hg : o.guard = none) (src dst e : TypeId) (x : Operand) (hop : o.op = Op.convert src dst x)
    (hs : P.underlying src = some .string) (hd : P.underlying dst = some (.slice e)) (he : P.underlying e = some (.int .u8)) (s : ByteArray) (hx : a.eval x = .string s)
    (hK : ∀ cap w', Row w' w.heap.size s.size (bt s) → Below w.heap.size w w' → wpList P ops Q rest (a.put o.dst (.slice (some ⟨w.heap.size, 0, none⟩) s.size cap)) w') :
    wpList P ops Q (o :: rest) a w := by
  refine wpList_plain hg fun K hK' => ?_
  have hrun := run_bytes_of_string (P := P) w src dst e s hs hd he
  generalize grownCap w s.size 0 e = cap at hrun
  have hb : Below w.heap.size w (w.drew.alloc (.cells (bytesRow s cap) e ((bytesRow s cap).size, (bytesRow s cap).size + 1))) :=
    (Below.refl _ _).drew.alloc (Nat.le_refl _) _
  have hr : Row (w.drew.alloc (.cells (bytesRow s cap) e ((bytesRow s cap).size, (bytesRow s cap).size + 1))) w.heap.size s.size (bt s) := by
    refine ⟨by simp, fun i hi => ⟨?_, ?_⟩⟩
    · have h1 := World.cell?_alloc_mark w.drew (bytesRow s cap) e ((bytesRow s cap).size, (bytesRow s cap).size + 1) i
      have h2 := bytesRow_at s cap i hi
      rw [h2] at h1
      have h3 : ((s.data[i]'hi).toNat : Int) = bt s i := bt_get s i hi
      rw [h3] at h1
      exact h1
    · have h1 := World.frozen?_alloc_mark w.drew (bytesRow s cap) e (bytesRow s cap).size ((bytesRow s cap).size + 1) i
      have h2 : i < (bytesRow s cap).size := by
        unfold bytesRow
        rw [Array.size_append, Array.size_map]
        exact Nat.lt_of_lt_of_le hi (Nat.le_add_right _ _)
      have h3 : (decide ((bytesRow s cap).size ≤ i) && decide (i < (bytesRow s cap).size + 1)) = false := by simp; omega
      exact h1.trans h3
  generalize w.drew.alloc (.cells (bytesRow s cap) e ((bytesRow s cap).size, (bytesRow s cap).size + 1)) = w' at *
  unfold Oper.wp
  simp [execOp, hop, hx, hrun, Result.andThen]
  exact hK' _ _ (hK cap w' hr hb)

theorem conv_row {P : Program} {w : World} {g n : Nat} {f : Nat → Int} (h : Row w g n f) (src dst e : TypeId) (cap : Nat)
    (hs : P.underlying src = some (.slice e)) (he : P.underlying e = some (.int .u8)) (hd : P.underlying dst = some .string) :
    (convert src dst (.slice (some ⟨g, 0, none⟩) n cap)).run P w = .ok (.string (mkS n f)) w := by
  refine run_convert_bytes_arg w src e hs he g 0 n cap ((List.range n).map f) (by simp) (fun i hi => ?_) dst hd
  rw [Nat.zero_add, h.cell hi, List.getD_eq_getElem?_getD, List.getElem?_map, List.getElem?_range hi]
  rfl
theorem conv_one {P : Program} (w : World) (x : Int) (src dst e : TypeId)
    (hs : P.underlying src = some (.slice e)) (he : P.underlying e = some (.int .u8)) (hd : P.underlying dst = some .string) :
    (convert src dst (.slice (some ⟨w.heap.size, 0, none⟩) 1 1)).run P (w.alloc (.cells #[.int .u8 x] e)) = .ok (.string (strOfNums [x])) (w.alloc (.cells #[.int .u8 x] e)) := by
  refine run_convert_bytes_arg _ src e hs he w.heap.size 0 1 1 [x] rfl (fun i hi => ?_) dst hd
  have : i = 0 := by omega
  subst this
  exact cell_one_new w (.int .u8 x) e 0 _ rfl

theorem bcell {W w1 : World} {B : Nat} (hb : Below B W w1) : (∀ b o, b < B → w1.cell? ⟨b, o, none⟩ = W.cell? ⟨b, o, none⟩) ∧ (∀ b o, b < B → w1.frozen? ⟨b, o, none⟩ = W.frozen? ⟨b, o, none⟩) :=
  ⟨fun b o h => hb.cell (p := ⟨b, o, none⟩) h, fun b o h => hb.frozen (p := ⟨b, o, none⟩) h⟩
/-- what is there stays; new memory may have come -/
theorem ext_trans {a b c : World} (h : Below a.heap.size a b) (k : Below b.heap.size b c) : Below a.heap.size a c := h.trans (k.mono h.size)
theorem ext_alloc (w : World) (o : Obj) : Below w.heap.size w (w.alloc o) := (Below.refl _ _).alloc (Nat.le_refl _) o

end Go.Proofs.Ytlcanmofgjbcbaa
