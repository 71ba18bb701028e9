/- Base, Words, Mem, Own, StrEq, Cls, in one text. -/
import Derived.Test.YtnfeddnkokocfaaProg
import Derived.WalkKit
import Derived.WalkLawsBesides
import Derived.WalkSpells
import Derived.Lib.Hide
import Derived.Deep.QuietTactic
import Derived.BigQuiet
import Derived.StillTailTactics
import Derived.Deep.RegionHeld3
import Derived.Deep.RegionLaw
import Derived.Deep.DrawnRows
import Derived.Deep.LoopGhost
import Derived.Deep.DeepCutAuto
import Derived.Maps.AppendAt
import Derived.Deep.AppendLies
import Derived.Laws.BytesArg
import Derived.Handy
namespace Go.Proofs.Ytnfeddnkokocfaa
set_option linter.unusedVariables false
set_option linter.unusedSimpArgs false
/-! Base -/
section
open Go.RowKit

theorem ret_bool {a b : Bool} (h : a = b) : Ending.returned (.bool a) = .returned (.bool b) := by rw [h]
theorem ret_int {k : IntKind} {a b : Int} (h : a = b) : Ending.returned (.int k a) = .returned (.int k b) := by rw [h]
theorem ret_str {a b : ByteArray} (h : a = b) : Ending.returned (.string a) = .returned (.string b) := by rw [h]

/-- all numbers below n pass -/
def allB : Nat → (Nat → Bool) → Bool
  | 0, _ => true
  | n + 1, p => allB n p && p n
theorem allB_zero (p : Nat → Bool) : allB 0 p = true := rfl
theorem allB_succ (n : Nat) (p : Nat → Bool) : allB (n + 1) p = (allB n p && p n) := rfl
theorem allB_step {n : Nat} {p : Nat → Bool} (h : allB n p = true) (hp : p n = true) : allB (n + 1) p = true := by rw [allB_succ, h, hp]; rfl
theorem allB_iff (n : Nat) (p : Nat → Bool) : allB n p = true ↔ ∀ k, k < n → p k = true := by
  induction n with
  | zero => exact ⟨fun _ k hk => absurd hk (by omega), fun _ => rfl⟩
  | succ n ih =>
    rw [allB_succ, Bool.and_eq_true, ih]
    constructor
    · rintro ⟨h1, h2⟩ k hk
      rcases Nat.lt_succ_iff_lt_or_eq.1 hk with h | h
      · exact h1 k h
      · exact h ▸ h2
    · intro h
      exact ⟨fun k hk => h k (by omega), h n (by omega)⟩
theorem allB_false {n k : Nat} {p : Nat → Bool} (hk : k < n) (hp : p k = false) : allB n p = false := by
  cases h : allB n p with
  | false => rfl
  | true => have := (allB_iff n p).1 h k hk; rw [hp] at this; cases this
theorem allB_congr {n : Nat} {p q : Nat → Bool} (h : ∀ k, k < n → p k = q k) : allB n p = allB n q := by
  induction n with
  | zero => rfl
  | succ n ih => rw [allB_succ, allB_succ, ih (fun k hk => h k (by omega)), h n (by omega)]

/-- the byte at an index, as a number -/
def bt (s : ByteArray) (k : Nat) : Int := ((s.data.toList.getD k 0).toNat : Int)
theorem bt_range (s : ByteArray) (k : Nat) : 0 ≤ bt s k ∧ bt s k ≤ 255 := by
  unfold bt; have := (s.data.toList.getD k 0).toNat_lt; omega
theorem bt_get (s : ByteArray) (k : Nat) (h : k < s.size) : ((s[k]'h).toNat : Int) = bt s k := by
  have : s[k]'h = s.data.toList.getD k 0 := by
    rw [List.getD_eq_getElem?_getD, List.getElem?_eq_getElem (by simpa using h)]
    rfl
  rw [this]; rfl
theorem size_toList (s : ByteArray) : s.data.toList.length = s.size := by simp
theorem bt_ext {a b : ByteArray} (hs : a.size = b.size) (h : ∀ k, k < a.size → bt a k = bt b k) : a = b := by
  have hl : a.data.toList = b.data.toList := by
    apply List.ext_getElem (by rw [size_toList, size_toList, hs])
    intro k h1 h2
    have hk : k < a.size := by rw [← size_toList]; exact h1
    have e := h k hk
    unfold bt at e
    rw [List.getD_eq_getElem?_getD, List.getD_eq_getElem?_getD, List.getElem?_eq_getElem h1, List.getElem?_eq_getElem h2] at e
    simp only [Option.getD_some] at e
    exact UInt8.toNat_inj.1 (by omega)
  cases a; cases b
  simp only [ByteArray.mk.injEq]
  exact Array.toList_inj.1 hl
/-- the string of n bytes given by a function -/
def mkS (n : Nat) (f : Nat → Int) : ByteArray := strOfNums ((List.range n).map f)
theorem mkS_size (n : Nat) (f : Nat → Int) : (mkS n f).size = n := by unfold mkS; rw [strOfNums_size]; simp
theorem ofNat_toNat (x : Int) (h0 : 0 ≤ x) (h1 : x ≤ 255) : ((UInt8.ofNat x.toNat).toNat : Int) = x := by
  rw [UInt8.toNat_ofNat']; omega
theorem bt_strOfNums (xs : List Int) (k : Nat) (h : k < xs.length) (h0 : 0 ≤ xs.getD k 0) (h1 : xs.getD k 0 ≤ 255) : bt (strOfNums xs) k = xs.getD k 0 := by
  unfold bt
  rw [strOfNums_data, List.getD_eq_getElem?_getD, List.getElem?_map, List.getElem?_eq_getElem h]
  rw [List.getD_eq_getElem?_getD, List.getElem?_eq_getElem h] at h0 h1 ⊢
  simp only [Option.map_some, Option.getD_some] at h0 h1 ⊢
  exact ofNat_toNat _ h0 h1
theorem bt_mkS (n : Nat) (f : Nat → Int) (k : Nat) (h : k < n) (h0 : 0 ≤ f k) (h1 : f k ≤ 255) : bt (mkS n f) k = f k := by
  have e : ((List.range n).map f).getD k 0 = f k := by
    rw [List.getD_eq_getElem?_getD, List.getElem?_map, List.getElem?_range h]; rfl
  unfold mkS
  rw [bt_strOfNums _ _ (by simpa using h) (by rw [e]; exact h0) (by rw [e]; exact h1), e]
theorem mkS_congr {n : Nat} {f g : Nat → Int} (h : ∀ k, k < n → f k = g k) : mkS n f = mkS n g := by
  unfold mkS
  rw [List.map_congr_left (fun k hk => h k (List.mem_range.1 hk))]
theorem bt_append (a b : ByteArray) (k : Nat) : bt (a ++ b) k = if k < a.size then bt a k else bt b (k - a.size) := by
  unfold bt
  have : (a ++ b).data.toList = a.data.toList ++ b.data.toList := by simp
  rw [this, List.getD_eq_getElem?_getD, List.getElem?_append, size_toList]
  split <;> simp [List.getD_eq_getElem?_getD]
theorem mkS_succ (n : Nat) (f : Nat → Int) : mkS (n + 1) f = mkS n f ++ strOfNums [f n] := by
  unfold mkS strOfNums
  rw [List.range_succ, List.map_append, List.map_append, ByteArray.mk_append_mk]
  rfl
theorem mkS_zero (f : Nat → Int) : mkS 0 f = ByteArray.empty := rfl
theorem eq_mkS (s : ByteArray) : s = mkS s.size (bt s) := by
  apply bt_ext (by rw [mkS_size])
  intro k hk
  rw [bt_mkS _ _ _ hk (bt_range s k).1 (bt_range s k).2]

/-- elements of lists, zero or empty outside -/
def gI (l : List Int) (k : Nat) : Int := l.getD k 0
def gS (l : List ByteArray) (k : Nat) : ByteArray := l.getD k ByteArray.empty

theorem pow_le4 {n : Nat} (h : n ≤ 4) : 1 ≤ (2 : Int) ^ n ∧ (2 : Int) ^ n ≤ 16 := by
  have : n = 0 ∨ n = 1 ∨ n = 2 ∨ n = 3 ∨ n = 4 := by omega
  rcases this with rfl | rfl | rfl | rfl | rfl <;> omega
theorem pow_wrap {n : Nat} (h : n ≤ 4) : wrap64 ((2 : Int) ^ n) = 2 ^ n := by
  have : n = 0 ∨ n = 1 ∨ n = 2 ∨ n = 3 ∨ n = 4 := by omega
  rcases this with rfl | rfl | rfl | rfl | rfl <;> exact IntWalk.wrap64_in _ (by omega)

theorem bv_nat (a : Nat) (ha : a < 2 ^ 62) : (BitVec.ofInt 64 (a : Int)).toNat = a := by
  rw [BitVec.ofInt_natCast, BitVec.toNat_ofNat]
  exact Nat.mod_eq_of_lt (by omega)
theorem or_nat (a b : Nat) (ha : a < 2 ^ 62) (hb : b < 2 ^ 62) : bits .or .i64 (a : Int) (b : Int) = ((a ||| b : Nat) : Int) := by
  have hx : a ||| b < 2 ^ 62 := Nat.or_lt_two_pow ha hb
  show IntKind.i64.wrap ((BitVec.ofInt 64 (a : Int) ||| BitVec.ofInt 64 (b : Int)).toNat : Int) = _
  rw [BitVec.toNat_or, bv_nat a ha, bv_nat b hb]
  exact IntWalk.i64_in _ (by omega)
theorem and_nat (a b : Nat) (ha : a < 2 ^ 62) (hb : b < 2 ^ 62) : bits .and .i64 (a : Int) (b : Int) = ((a &&& b : Nat) : Int) := by
  have hx : a &&& b < 2 ^ 62 := Nat.and_lt_two_pow _ hb
  show IntKind.i64.wrap ((BitVec.ofInt 64 (a : Int) &&& BitVec.ofInt 64 (b : Int)).toNat : Int) = _
  rw [BitVec.toNat_and, bv_nat a ha, bv_nat b hb]
  exact IntWalk.i64_in _ (by omega)
theorem xor_nat (a b : Nat) (ha : a < 2 ^ 62) (hb : b < 2 ^ 62) : bits .xor .i64 (a : Int) (b : Int) = ((a ^^^ b : Nat) : Int) := by
  have hx : a ^^^ b < 2 ^ 62 := Nat.xor_lt_two_pow ha hb
  show IntKind.i64.wrap ((BitVec.ofInt 64 (a : Int) ^^^ BitVec.ofInt 64 (b : Int)).toNat : Int) = _
  rw [BitVec.toNat_xor, bv_nat a ha, bv_nat b hb]
  exact IntWalk.i64_in _ (by omega)
theorem still {P : Program} {f : FuncId} {args : Array Value} {w : World} {v : Value} (h : Calls P f args w fun e w' => e = .returned v ∧ w = w') :
    Calls P f args w fun e w' => e = .returned v ∧ w' = w := h.mono fun _ _ h => ⟨h.1, h.2.symm⟩

/-- block g holds n bytes, given by f, which may be written -/
def Row (w : World) (g n : Nat) (f : Nat → Int) : Prop :=
  g < w.heap.size ∧ ∀ i, i < n → w.cell? ⟨g, i, none⟩ = some (.int .u8 (f i)) ∧ w.frozen? ⟨g, i, none⟩ = false
theorem Row.lt {w : World} {g n : Nat} {f : Nat → Int} (h : Row w g n f) : g < w.heap.size := h.1
theorem Row.cell {w : World} {g n : Nat} {f : Nat → Int} (h : Row w g n f) {i : Nat} (hi : i < n) : w.cell? ⟨g, i, none⟩ = some (.int .u8 (f i)) := (h.2 i hi).1
theorem Row.free {w : World} {g n : Nat} {f : Nat → Int} (h : Row w g n f) {i : Nat} (hi : i < n) : w.frozen? ⟨g, i, none⟩ = false := (h.2 i hi).2
theorem Row.drew {w : World} {g n : Nat} {f : Nat → Int} (h : Row w g n f) : Row w.drew g n f := h
theorem Row.congr {w : World} {g n : Nat} {f f' : Nat → Int} (h : Row w g n f) (e : ∀ i, i < n → f i = f' i) : Row w g n f' :=
  ⟨h.1, fun i hi => by rw [← e i hi]; exact h.2 i hi⟩
theorem Row.below {w w' : World} {B g n : Nat} {f : Nat → Int} (h : Row w g n f) (hb : Below B w w') (hg : g < B) : Row w' g n f :=
  ⟨Nat.lt_of_lt_of_le h.1 hb.size, fun i hi => ⟨(hb.cell (p := ⟨g, i, none⟩) hg).trans (h.2 i hi).1, (hb.frozen (p := ⟨g, i, none⟩) hg).trans (h.2 i hi).2⟩⟩
theorem Row.ext {w w' : World} {g n : Nat} {f : Nat → Int} (h : Row w g n f) (hb : Below w.heap.size w w') : Row w' g n f := h.below hb h.1
theorem Row.set {w : World} {g n : Nat} {f : Nat → Int} (h : Row w g n f) {k : Nat} (hk : k < n) (x : Int) :
    Row (w.setCell ⟨g, k, none⟩ (.int .u8 x)) g n (fun i => if i = k then x else f i) := by
  refine ⟨by simpa [World.setCell] using h.1, fun i hi => ?_⟩
  obtain ⟨h1, h2⟩ := h.2 i hi
  by_cases e : i = k
  · subst e
    refine ⟨?_, ?_⟩
    · simp only [if_true]
      exact World.cell?_setCell_same _ _ _ h1
    · rw [World.frozen?_setCell]; exact h2
  · refine ⟨?_, ?_⟩
    · simp only [if_neg e]
      rw [World.cell?_setCell_other _ _ _ _ (by intro h; injection h with h1 h2; omega)]
      exact h1
    · rw [World.frozen?_setCell]; exact h2
theorem below_setRow {a w : World} {B g k : Nat} (h : Below B a w) (hg : B ≤ g) (x : Value) : Below B a (w.setCell ⟨g, k, none⟩ x) := h.setCell (p := ⟨g, k, none⟩) hg x

theorem wpList_bytes {P : Program} (w : World) {ops : Array Oper} {rest : List Oper} {o : Oper} {a : Act} {Q : Exit → Act → World → Prop}
    (hg : o.guard = none) (src dst e : TypeId) (x : Operand) (hop : o.op = Op.convert src dst x)
    (hs : P.underlying src = some .string) (hd : P.underlying dst = some (.slice e)) (he : P.underlying e = some (.int .u8)) (s : ByteArray) (hx : a.eval x = .string s)
    (hK : ∀ cap w', Row w' w.heap.size s.size (bt s) → Below w.heap.size w w' → wpList P ops Q rest (a.put o.dst (.slice (some ⟨w.heap.size, 0, none⟩) s.size cap)) w') :
    wpList P ops Q (o :: rest) a w := by
  refine wpList_plain hg fun K hK' => ?_
  have hrun := run_bytes_of_string (P := P) w src dst e s hs hd he
  generalize grownCap w s.size 0 e = cap at hrun
  have hb : Below w.heap.size w (w.drew.alloc (.cells (bytesRow s cap) e ((bytesRow s cap).size, (bytesRow s cap).size + 1))) :=
    (Below.refl _ _).drew.alloc (Nat.le_refl _) _
  have hr : Row (w.drew.alloc (.cells (bytesRow s cap) e ((bytesRow s cap).size, (bytesRow s cap).size + 1))) w.heap.size s.size (bt s) := by
    refine ⟨by simp, fun i hi => ⟨?_, ?_⟩⟩
    · have h1 := World.cell?_alloc_mark w.drew (bytesRow s cap) e ((bytesRow s cap).size, (bytesRow s cap).size + 1) i
      have h2 := bytesRow_at s cap i hi
      rw [h2] at h1
      have h3 : ((s.data[i]'hi).toNat : Int) = bt s i := bt_get s i hi
      rw [h3] at h1
      exact h1
    · have h1 := World.frozen?_alloc_mark w.drew (bytesRow s cap) e (bytesRow s cap).size ((bytesRow s cap).size + 1) i
      have h2 : i < (bytesRow s cap).size := by
        unfold bytesRow
        rw [Array.size_append, Array.size_map]
        exact Nat.lt_of_lt_of_le hi (Nat.le_add_right _ _)
      have h3 : (decide ((bytesRow s cap).size ≤ i) && decide (i < (bytesRow s cap).size + 1)) = false := by simp; omega
      exact h1.trans h3
  generalize w.drew.alloc (.cells (bytesRow s cap) e ((bytesRow s cap).size, (bytesRow s cap).size + 1)) = w' at *
  unfold Oper.wp
  simp [execOp, hop, hx, hrun, Result.andThen]
  exact hK' _ _ (hK cap w' hr hb)

theorem conv_row {P : Program} {w : World} {g n : Nat} {f : Nat → Int} (h : Row w g n f) (src dst e : TypeId) (cap : Nat)
    (hs : P.underlying src = some (.slice e)) (he : P.underlying e = some (.int .u8)) (hd : P.underlying dst = some .string) :
    (convert src dst (.slice (some ⟨g, 0, none⟩) n cap)).run P w = .ok (.string (mkS n f)) w := by
  refine run_convert_bytes_arg w src e hs he g 0 n cap ((List.range n).map f) (by simp) (fun i hi => ?_) dst hd
  rw [Nat.zero_add, h.cell hi, List.getD_eq_getElem?_getD, List.getElem?_map, List.getElem?_range hi]
  rfl
theorem conv_one {P : Program} (w : World) (x : Int) (src dst e : TypeId)
    (hs : P.underlying src = some (.slice e)) (he : P.underlying e = some (.int .u8)) (hd : P.underlying dst = some .string) :
    (convert src dst (.slice (some ⟨w.heap.size, 0, none⟩) 1 1)).run P (w.alloc (.cells #[.int .u8 x] e)) = .ok (.string (strOfNums [x])) (w.alloc (.cells #[.int .u8 x] e)) := by
  refine run_convert_bytes_arg _ src e hs he w.heap.size 0 1 1 [x] rfl (fun i hi => ?_) dst hd
  have : i = 0 := by omega
  subst this
  exact cell_one_new w (.int .u8 x) e 0 _ rfl

theorem bcell {W w1 : World} {B : Nat} (hb : Below B W w1) : (∀ b o, b < B → w1.cell? ⟨b, o, none⟩ = W.cell? ⟨b, o, none⟩) ∧ (∀ b o, b < B → w1.frozen? ⟨b, o, none⟩ = W.frozen? ⟨b, o, none⟩) :=
  ⟨fun b o h => hb.cell (p := ⟨b, o, none⟩) h, fun b o h => hb.frozen (p := ⟨b, o, none⟩) h⟩
/-- what is there stays; new memory may have come -/
theorem ext_trans {a b c : World} (h : Below a.heap.size a b) (k : Below b.heap.size b c) : Below a.heap.size a c := h.trans (k.mono h.size)
theorem ext_alloc (w : World) (o : Obj) : Below w.heap.size w (w.alloc o) := (Below.refl _ _).alloc (Nat.le_refl _) o

end
/-! Words -/
section
open Go.RowKit

def isL (x : Int) : Bool := decide (97 ≤ x) && decide (x < 107)
theorem isL_true {x : Int} (h0 : 97 ≤ x) (h1 : x < 107) : isL x = true := by unfold isL; simp; omega
theorem isL_false {x : Int} (h : ¬ (97 ≤ x ∧ x < 107)) : isL x = false := by unfold isL; simp; omega
theorem isL_iff (x : Int) : isL x = true ↔ 97 ≤ x ∧ x < 107 := by unfold isL; simp
def wv (s : ByteArray) : Bool := decide (s.size ≤ 200) && allB s.size (fun k => isL (bt s k))
theorem wv_iff (s : ByteArray) : wv s = true ↔ s.size ≤ 200 ∧ ∀ k, k < s.size → 97 ≤ bt s k ∧ bt s k < 107 := by
  unfold wv; rw [Bool.and_eq_true, allB_iff]; simp [isL_iff]
theorem wv_long {s : ByteArray} (h : 200 < s.size) : wv s = false := by unfold wv; simp; omega
theorem wv_bad {s : ByteArray} {k : Nat} (hk : k < s.size) (h : isL (bt s k) = false) : wv s = false := by
  unfold wv; rw [allB_false hk h]; simp
theorem wv_good {s : ByteArray} (h : s.size ≤ 200) (ha : allB s.size (fun k => isL (bt s k)) = true) : wv s = true := by
  unfold wv; rw [ha]; simp; exact h

theorem c_isLetter (x : Int) (w : World) : Calls Try.prog 94 #[.int .u8 x] w fun e w' => e = .returned (.bool (isL x)) ∧ w = w' := by
  by_cases h : 97 ≤ x
  · go_enter Try.func94, Try.ntmps94
    go_wp2
    go_ret
    exact ⟨ret_bool (by unfold isL; simp [h]), rfl⟩
  · have h' : decide (97 ≤ x) = false := by simpa using h
    go_enter Try.func94, Try.ntmps94
    go_wp2
    go_ret
    exact ⟨ret_bool (by rw [isL_false (by omega)]), rfl⟩

theorem c_number (x : Int) (w : World) (h0 : 97 ≤ x) (h1 : x ≤ 255) : Calls Try.prog 83 #[.int .u8 x] w fun e w' => e = .returned (.int .i64 (x - 97)) ∧ w = w' := by
  go_enter Try.func83, Try.ntmps83
  go_wp2
  go_ret
  exact ⟨rfl, rfl⟩

theorem c_letter (x : Int) (w : World) (h0 : 0 ≤ x) (h1 : x ≤ 158) : Calls Try.prog 62 #[.int .i64 x] w fun e w' => e = .returned (.int .u8 (97 + x)) ∧ w = w' := by
  go_enter Try.func62, Try.ntmps62
  go_wp2
  go_ret
  exact ⟨rfl, rfl⟩

theorem c_l1Digit (s : ByteArray) (i : Nat) (w : World) (hi : i < s.size) (_hs : s.size ≤ 9223372036854775807) :
    Calls Try.prog 79 #[.string s, .int .i64 i] w fun e w' => e = .returned (.int .i64 (bt s i - 97)) ∧ w = w' := by
  have hb := bt_get s i hi
  have hr := bt_range s i
  go_enter Try.func79, Try.ntmps79
  go_wp2
  go_ret
  exact ⟨rfl, rfl⟩

def inB (n lo hi : Int) : Bool := decide (lo ≤ n) && decide (n ≤ hi)
theorem inB_true {n lo hi : Int} (h0 : lo ≤ n) (h1 : n ≤ hi) : inB n lo hi = true := by unfold inB; simp; omega
theorem inB_false {n lo hi : Int} (h : ¬ (lo ≤ n ∧ n ≤ hi)) : inB n lo hi = false := by unfold inB; simp; omega
theorem c_l1In (n lo hi : Int) (w : World) : Calls Try.prog 53 #[.int .i64 n, .int .i64 lo, .int .i64 hi] w fun e w' => e = .returned (.bool (inB n lo hi)) ∧ w = w' := by
  by_cases h : lo ≤ n
  · go_enter Try.func53, Try.ntmps53
    go_wp2
    go_ret
    exact ⟨ret_bool (by unfold inB; simp [h]), rfl⟩
  · have h' : decide (lo ≤ n) = false := by simpa using h
    go_enter Try.func53, Try.ntmps53
    go_wp2
    go_ret
    exact ⟨ret_bool (by rw [inB_false (by omega)]), rfl⟩

theorem tm10 (n : Int) (h0 : -1000000 ≤ n) (h1 : n ≤ 1000000) : wrap64 (97 + (wrap64 (n.tmod 10 + 10)).tmod 10) % 256 = 97 + n % 10 := by
  have h2 : n.tmod 10 = if n % 10 = 0 ∨ 0 ≤ n then n % 10 else n % 10 - 10 := by
    rw [Int.tmod_eq_emod]
    by_cases h : 0 ≤ n ∨ (10 : Int) ∣ n
    · rw [if_pos h, if_pos (by omega)]; omega
    · rw [if_neg h, if_neg (by omega)]; simp
  have h3 : wrap64 (n.tmod 10 + 10) = n.tmod 10 + 10 := IntWalk.wrap64_in _ (by rw [h2]; split <;> omega)
  have h4 : (n.tmod 10 + 10).tmod 10 = n % 10 := by
    rw [Int.tmod_eq_emod_of_nonneg (by rw [h2]; split <;> omega), h2]; split <;> omega
  rw [h3, h4, IntWalk.wrap64_in _ (by omega)]; omega

theorem c_l1Letter (n : Int) (w : World) (h0 : -1000000 ≤ n) (h1 : n ≤ 1000000) : Calls Try.prog 60 #[.int .i64 n] w fun e w' => e = .returned (.string (strOfNums [97 + n % 10])) ∧ Below w.heap.size w w' := by
  have hc := fun (w : World) (x : Int) => conv_one (P := Try.prog) w x 61 9 5 Try.underlying61 Try.underlying5 Try.underlying9
  have he := Lib.hid (tm10 n h0 h1)
  clear h0 h1
  go_enter Try.func60, Try.ntmps60
  go_wp2
  go_ret
  exact ⟨ret_str (by rw [he.out]), ext_alloc _ _⟩

theorem c_shifted (b n : Int) (w : World) (h0 : 97 ≤ b) (h1 : b < 107) (h2 : 0 ≤ n) (h3 : n ≤ 1000000) : Calls Try.prog 150 #[.int .u8 b, .int .i64 n] w fun e w' => e = .returned (.int .u8 (97 + (b - 97 + n) % 10)) ∧ w = w' := by
  go_enter Try.func150, Try.ntmps150
  go_wp2_with fail
  refine (c_number _ _ (by omega) (by omega)).mono ?_
  rintro e w' ⟨rfl, rfl⟩
  go_wp2_with fail
  refine (c_letter _ _ (by omega) (by omega)).mono ?_
  rintro e w' ⟨rfl, rfl⟩
  go_wp2
  go_ret
  exact ⟨rfl, rfl⟩

theorem c_specWordValid (s : ByteArray) (w : World) (hs : s.size ≤ 9223372036854775807) : Calls Try.prog 105 #[.string s] w fun e w' => e = .returned (.bool (wv s)) ∧ w = w' := by
  by_cases h : 200 < s.size
  · go_enter Try.func105, Try.ntmps105
    go_wp2_with fail
    go_ret
    exact ⟨ret_bool (wv_long h).symm, rfl⟩
  · go_enter Try.func105, Try.ntmps105
    go_wp2_with fail
    go_loop [3] (fun i => ∃ k : Nat, k ≤ s.size ∧ i = .int .i64 k ∧ allB k (fun k => isL (bt s k)) = true) (fun i => s.size - (intOf i).toNat)
    case atStart => exact ⟨0, Nat.zero_le _, rfl, rfl⟩
    case round =>
      obtain ⟨k, hk, rfl, ha⟩ := hrel
      have HA := Lib.hid ha
      clear ha
      by_cases hlt : k < s.size
      · have hr := bt_range s k
        go_wp2_with fail
        refine (c_l1Digit s k _ hlt hs).mono ?_
        rintro e w' ⟨rfl, rfl⟩
        go_wp2_with fail
        refine (c_l1In _ _ _ _).mono ?_
        rintro e w' ⟨rfl, rfl⟩
        by_cases hc : 97 ≤ bt s k ∧ bt s k < 107
        · rw [inB_true (by omega) (by omega)]
          go_wp2_with fail
          go_round
          case rel => exact ⟨k + 1, by omega, by go_num, allB_step HA.out (isL_true hc.1 hc.2)⟩
          case measure => simp [intOf]; omega
        · rw [inB_false (by omega)]
          go_wp2_with fail
          go_ret
          exact ⟨ret_bool (wv_bad hlt (isL_false hc)).symm, rfl⟩
      · go_wp2_with fail
        go_ret
        have e : k = s.size := by omega
        subst e
        exact ⟨ret_bool (wv_good (by omega) HA.out).symm, rfl⟩

theorem c_WordValid (s : ByteArray) (w : World) (hs : s.size ≤ 9223372036854775807) : Calls Try.prog 43 #[.string s] w fun e w' => e = .returned (.bool (wv s)) ∧ w = w' := by
  by_cases h : 200 < s.size
  · go_enter Try.func43, Try.ntmps43
    go_wp2_with fail
    go_ret
    exact ⟨ret_bool (wv_long h).symm, rfl⟩
  · go_enter Try.func43, Try.ntmps43
    go_wp2_with fail
    go_loop [9] (fun i => ∃ k : Nat, k ≤ s.size ∧ i = .int .i64 k ∧ allB k (fun k => isL (bt s k)) = true) (fun i => s.size - (intOf i).toNat)
    case atStart => exact ⟨0, Nat.zero_le _, rfl, rfl⟩
    case round =>
      obtain ⟨k, hk, rfl, ha⟩ := hrel
      have HA := Lib.hid ha
      clear ha
      by_cases hlt : k < s.size
      · have hr := bt_range s k
        have hb := bt_get s k hlt
        go_wp2_with fail
        refine (c_isLetter _ _).mono ?_
        rintro e w' ⟨rfl, rfl⟩
        by_cases hc : 97 ≤ bt s k ∧ bt s k < 107
        · have hq := isL_true hc.1 hc.2
          rw [hq]
          go_wp2_with fail
          go_round
          case rel => exact ⟨k + 1, by omega, by go_num, allB_step HA.out hq⟩
          case measure => simp [intOf]; omega
        · have hq := isL_false hc
          rw [hq]
          go_wp2_with fail
          go_ret
          exact ⟨ret_bool (wv_bad hlt hq).symm, rfl⟩
      · go_wp2_with fail
        go_ret
        have e : k = s.size := by omega
        subst e
        exact ⟨ret_bool (wv_good (by omega) HA.out).symm, rfl⟩

/-- letters of v and a multiple of those of w added up -/
def mixS (v w : ByteArray) (t : Int) : ByteArray := mkS v.size (fun k => 97 + (bt v k - 97 + t * (bt w k - 97)) % 10)
def mixOk (v w : ByteArray) : Bool := wv v && wv w && decide (v.size = w.size)
def mixR (v w : ByteArray) (t : Int) : Value := .tuple #[.string (if mixOk v w = true then mixS v w t else ByteArray.empty), .bool (mixOk v w)]
theorem mixOk_iff (v w : ByteArray) : mixOk v w = true ↔ wv v = true ∧ wv w = true ∧ v.size = w.size := by unfold mixOk; simp [and_assoc]
theorem mix_nine (v w : ByteArray) : mixS v w 9 = mixS v w (-1) := mkS_congr fun k _ => by omega
theorem mixR_nine (v w : ByteArray) : mixR v w 9 = mixR v w (-1) := by unfold mixR; rw [mix_nine]
theorem mixR_ok {v w : ByteArray} {t : Int} (h : mixOk v w = true) : mixR v w t = .tuple #[.string (mixS v w t), .bool true] := by unfold mixR; rw [if_pos h, h]
theorem mixR_no {v w : ByteArray} {t : Int} (h : mixOk v w = false) : mixR v w t = .tuple #[.string ByteArray.empty, .bool false] := by unfold mixR; rw [if_neg (by rw [h]; simp), h]
theorem mixOk_cases (v w : ByteArray) : (wv v = false ∧ mixOk v w = false) ∨ (wv v = true ∧ wv w = false ∧ mixOk v w = false) ∨
    (wv v = true ∧ wv w = true ∧ ((v.size : Int) != (w.size : Int)) = true ∧ mixOk v w = false) ∨
    (wv v = true ∧ wv w = true ∧ ((v.size : Int) != (w.size : Int)) = false ∧ mixOk v w = true) := by
  unfold mixOk
  cases h1 : wv v <;> cases h2 : wv w <;> simp
  by_cases h3 : v.size = w.size
  · right; omega
  · left; omega






end
/-! Mem -/
section
open Go.RowKit

/-- a slice that reads as a list of strings -/
def IsStrs (w : World) (v : Value) (l : List ByteArray) : Prop :=
  ∃ A c, v = .slice A l.length c ∧ l.length ≤ 9223372036854775807 ∧ (∀ k, k < l.length → (gS l k).size ≤ 9223372036854775807) ∧
    ∀ k, k < l.length → ∃ b o, A = some ⟨b, o, none⟩ ∧ b < w.heap.size ∧ w.cell? ⟨b, o + k, none⟩ = some (.string (gS l k))
/-- a slice that reads as a list of integers -/
def IsInts (w : World) (v : Value) (l : List Int) : Prop :=
  ∃ A c, v = .slice A l.length c ∧ l.length ≤ 9223372036854775807 ∧
    ∀ k, k < l.length → ∃ b o, A = some ⟨b, o, none⟩ ∧ b < w.heap.size ∧ w.cell? ⟨b, o + k, none⟩ = some (.int .i64 (gI l k))
theorem IsStrs.ext {w w' : World} {v : Value} {l : List ByteArray} (h : IsStrs w v l) (hb : Below w.heap.size w w') : IsStrs w' v l := by
  obtain ⟨A, c, rfl, h1, h2, h3⟩ := h
  refine ⟨A, c, rfl, h1, h2, fun k hk => ?_⟩
  obtain ⟨b, o, e, hlt, hc⟩ := h3 k hk
  exact ⟨b, o, e, Nat.lt_of_lt_of_le hlt hb.size, (hb.cell (p := ⟨b, o + k, none⟩) hlt).trans hc⟩
theorem IsInts.ext {w w' : World} {v : Value} {l : List Int} (h : IsInts w v l) (hb : Below w.heap.size w w') : IsInts w' v l := by
  obtain ⟨A, c, rfl, h1, h3⟩ := h
  refine ⟨A, c, rfl, h1, fun k hk => ?_⟩
  obtain ⟨b, o, e, hlt, hc⟩ := h3 k hk
  exact ⟨b, o, e, Nat.lt_of_lt_of_le hlt hb.size, (hb.cell (p := ⟨b, o + k, none⟩) hlt).trans hc⟩
theorem IsStrs.at_ {w : World} {A : Option Addr} {n c : Nat} {l : List ByteArray} (h : IsStrs w (.slice A n c) l) {k : Nat} (hk : k < l.length) :
    ∃ b o, A = some ⟨b, o, none⟩ ∧ b < w.heap.size ∧ w.cell? ⟨b, o + k, none⟩ = some (.string (gS l k)) := by
  obtain ⟨A', c', e, h1, h2, h3⟩ := h
  injection e with e1 e2 e3
  subst e1
  exact h3 k hk
theorem IsInts.at_ {w : World} {A : Option Addr} {n c : Nat} {l : List Int} (h : IsInts w (.slice A n c) l) {k : Nat} (hk : k < l.length) :
    ∃ b o, A = some ⟨b, o, none⟩ ∧ b < w.heap.size ∧ w.cell? ⟨b, o + k, none⟩ = some (.int .i64 (gI l k)) := by
  obtain ⟨A', c', e, h1, h3⟩ := h
  injection e with e1 e2 e3
  subst e1
  exact h3 k hk
theorem IsStrs.len_le {w : World} {v : Value} {l : List ByteArray} (h : IsStrs w v l) : l.length ≤ 9223372036854775807 := by
  obtain ⟨A', c', e, h1, h2, h3⟩ := h; exact h1
theorem IsInts.len_le {w : World} {v : Value} {l : List Int} (h : IsInts w v l) : l.length ≤ 9223372036854775807 := by
  obtain ⟨A', c', e, h1, h3⟩ := h; exact h1
theorem IsStrs.size_le {w : World} {v : Value} {l : List ByteArray} (h : IsStrs w v l) {k : Nat} (hk : k < l.length) : (gS l k).size ≤ 9223372036854775807 := by
  obtain ⟨A', c', e, h1, h2, h3⟩ := h; exact h2 k hk
theorem IsStrs.form {w : World} {v : Value} {l : List ByteArray} (h : IsStrs w v l) : ∃ A c, v = .slice A l.length c := by
  obtain ⟨A', c', e, h1, h2, h3⟩ := h; exact ⟨A', c', e⟩
theorem IsInts.form {w : World} {v : Value} {l : List Int} (h : IsInts w v l) : ∃ A c, v = .slice A l.length c := by
  obtain ⟨A', c', e, h1, h3⟩ := h; exact ⟨A', c', e⟩

/-- a box of two cells, laid at the head of a call, and what came behind it -/
theorem box2 {w wr : World} {x y : Value} {t : TypeId} (h : Below (w.heap.size + 1) (w.alloc (.cells #[x, y] t)) wr) :
    wr.cell? ⟨w.heap.size, 0, none⟩ = some x ∧ wr.cell? ⟨w.heap.size, 1, none⟩ = some y ∧ Below w.heap.size w wr ∧ w.heap.size < wr.heap.size := by
  refine ⟨?_, ?_, (ext_alloc w _).trans (h.mono (by omega)), ?_⟩
  · rw [h.cell (p := ⟨w.heap.size, 0, none⟩) (by simp), World.cell?_alloc_at _ _ _ _ rfl]; rfl
  · rw [h.cell (p := ⟨w.heap.size, 1, none⟩) (by simp), World.cell?_alloc_at _ _ _ _ rfl]; rfl
  · have := h.size; simp at this; omega

end
/-! Own -/
section
open Go.RowKit

theorem info_u8 : (Try.prog.info? 5).map (fun i => (i.zero, i.size, i.bytes)) = some (some (.int .u8 0), 1, 1) := by kernel_rfl
theorem info_int : (Try.prog.info? 3).map (fun i => (i.zero, i.size, i.bytes)) = some (some (.int .i64 0), 1, 8) := by kernel_rfl
theorem info_str : (Try.prog.info? 9).map (fun i => (i.zero, i.size, i.bytes)) = some (some (.string ByteArray.empty), 1, 16) := by kernel_rfl

/-- v is a slice of the call's own, from block B on, of elements of type e, one cell each: l -/
def Own (w : World) (B : Nat) (e : TypeId) (v : Value) (l : List Value) : Prop := w.ownsRow B e 1 v l.length l
theorem Own.nil (w : World) (B : Nat) (e : TypeId) : Own w B e (.slice none 0 0) [] := World.ownsRow_nil w B e 1
theorem Own.kept {w w' : World} {B : Nat} {e : TypeId} {v : Value} {l : List Value} (h : Own w B e v l) {row : Option Nat} (hg : w.grownBy w' row) (hne : ∀ g, row = some g → g < B) : Own w' B e v l := by
  refine World.ownsRow.kept h hg ?_
  rcases hv : v.ownBlock with _ | g
  · exact .inl rfl
  · refine .inr fun he => ?_
    have h1 := hne g he.symm
    have h2 := (World.ownsRow.lt h g hv).1
    omega
theorem Own.ext {w w' : World} {B : Nat} {e : TypeId} {v : Value} {l : List Value} (h : Own w B e v l) (hb : Below w.heap.size w w') : Own w' B e v l :=
  h.kept (row := none) ⟨hb.os, hb.tape, hb.output, hb.size, fun k hk _ => hb.block k hk⟩ (fun g hg => by cases hg)
theorem Own.drew {w : World} {B : Nat} {e : TypeId} {v : Value} {l : List Value} (h : Own w B e v l) : Own w.drew B e v l := h
theorem Own.drewN {w : World} {B : Nat} {e : TypeId} {v : Value} {l : List Value} (h : Own w B e v l) (n : Nat) : Own (w.drewN n) B e v l := h
theorem Own.alloc {w : World} {B : Nat} {e : TypeId} {v : Value} {l : List Value} (h : Own w B e v l) (o : Obj) : Own (w.alloc o) B e v l := World.ownsRow.alloc h o
theorem Own.below {w w' w0 : World} {B B' : Nat} {e : TypeId} {v : Value} {l : List Value} (h : Own w B e v l) (hB : B' ≤ B) (hBw : B' ≤ w.heap.size) (hb : Below B' w0 w) (hg : w.grownBy w' v.ownBlock) : Below B' w0 w' :=
  hb.grown hg hBw (fun k hk => Nat.le_trans hB (World.ownsRow.lt h k hk).1)
theorem Own.far {w w' : World} {B : Nat} {e : TypeId} {v : Value} {l : List Value} (h : Own w B e v l) (hg : w.grownBy w' v.ownBlock) : ∀ k, k < w.heap.size → k < B → w'.heap[k]? = w.heap[k]? :=
  fun k hk hB => hg.block k hk fun he => by have := (World.ownsRow.lt h k he.symm).1; omega
theorem Own.at_ {w : World} {B : Nat} {e : TypeId} {v : Value} {l : List Value} (h : Own w B e v l) {k : Nat} {u : Value} (hk : l[k]? = some u) :
    ∃ g c, v = .slice (some ⟨g, 0, none⟩) l.length c ∧ B ≤ g ∧ g < w.heap.size ∧ w.cell? ⟨g, k, none⟩ = some u := by
  have hl : k < l.length := (List.getElem?_eq_some_iff.1 hk).1
  obtain ⟨g, cap, hv, hb, hlt⟩ := World.ownsRow.form h (by omega)
  refine ⟨g, cap, hv, hb, hlt, ?_⟩
  have := World.ownsRow.cells h (g := g) (by rw [hv]; rfl) k u hk
  have e1 : (⟨g, 0, none⟩ : Addr).add k = ⟨g, k, none⟩ := by unfold Addr.add; split <;> simp_all
  rw [e1] at this
  exact this
theorem Own.slice {w : World} {B : Nat} {e : TypeId} {v : Value} {l : List Value} (h : Own w B e v l) : ∃ A c, v = .slice A l.length c := by
  rcases h.2 with ⟨rfl, e⟩ | ⟨g, cap, cur, rfl, _⟩
  · exact ⟨none, 0, by rw [e]⟩
  · exact ⟨_, cap, rfl⟩
theorem Own.ints {w : World} {B : Nat} {e : TypeId} {v : Value} {l : List Int} (h : Own w B e v (l.map (.int .i64))) (hl : l.length ≤ 9223372036854775807) : IsInts w v l := by
  obtain ⟨A, c, hv⟩ := h.slice
  refine ⟨A, c, by rw [hv, List.length_map], hl, fun k hk => ?_⟩
  obtain ⟨g, c', hv', _, hlt, hc⟩ := h.at_ (k := k) (u := .int .i64 (gI l k)) (by
    rw [List.getElem?_map, List.getElem?_eq_getElem hk]; simp [gI, List.getD_eq_getElem?_getD, List.getElem?_eq_getElem hk])
  have : A = some ⟨g, 0, none⟩ := by rw [hv] at hv'; injection hv'
  exact ⟨g, 0, this, hlt, by rw [Nat.zero_add]; exact hc⟩
theorem Own.strs {w : World} {B : Nat} {e : TypeId} {v : Value} {l : List ByteArray} (h : Own w B e v (l.map .string)) (hl : l.length ≤ 9223372036854775807) (hs : ∀ k, k < l.length → (gS l k).size ≤ 9223372036854775807) : IsStrs w v l := by
  obtain ⟨A, c, hv⟩ := h.slice
  refine ⟨A, c, by rw [hv, List.length_map], hl, hs, fun k hk => ?_⟩
  obtain ⟨g, c', hv', _, hlt, hc⟩ := h.at_ (k := k) (u := .string (gS l k)) (by
    rw [List.getElem?_map, List.getElem?_eq_getElem hk]; simp [gS, List.getD_eq_getElem?_getD, List.getElem?_eq_getElem hk])
  have : A = some ⟨g, 0, none⟩ := by rw [hv] at hv'; injection hv'
  exact ⟨g, 0, this, hlt, by rw [Nat.zero_add]; exact hc⟩
/-- string(out) of bytes of the call's own -/
theorem conv_own {P : Program} {w : World} {B : Nat} {v : Value} {l : List Int} (src dst e : TypeId) (h : Own w B e v (l.map (.int .u8)))
    (hs : P.underlying src = some (.slice e)) (he : P.underlying e = some (.int .u8)) (hd : P.underlying dst = some .string) :
    (convert src dst v).run P w = .ok (.string (strOfNums l)) w := by
  obtain ⟨A, c, hv⟩ := h.slice
  rcases h.2 with ⟨e1, e2⟩ | ⟨g, cap, cur, hv', _⟩
  · rw [e1, run_convert_bytes_nil w src e hs he 0 0 dst hd]
    have : l = [] := by simpa using e2
    rw [this]; rfl
  · rw [hv', List.length_map]
    refine run_convert_bytes_arg w src e hs he g 0 l.length cap l rfl (fun i hi => ?_) dst hd
    obtain ⟨g', c', hv2, _, _, hc⟩ := h.at_ (k := i) (u := .int .u8 (l.getD i 0)) (by
      rw [List.getElem?_map, List.getElem?_eq_getElem hi]; simp [List.getD_eq_getElem?_getD, List.getElem?_eq_getElem hi])
    have : g = g' := by rw [hv'] at hv2; injection hv2 with h1; injection h1 with h1; injection h1
    rw [Nat.zero_add, this]; exact hc

/-- append(s, y) of one element of one cell: at the built-in, behind the one-cell block of y -/
theorem app1 {P : Program} (w : World) {ops : Array Oper} {rest : List Oper} {o : Oper} {a : Act} {Q : Exit → Act → World → Prop} (hgd : o.guard = none) (s x : Operand) (t : TypeId)
    (ho : o.op = .call { callee := .builtin .append, args := #[s, x], argTypes := #[t, t] })
    (B : Nat) (e : TypeId) {z : Value} {bytes : Nat} (ht : P.underlying t = some (.slice e)) (hinfo : (P.info? e).map (fun i => (i.zero, i.size, i.bytes)) = some (some z, 1, bytes)) (hzs : z.cells.size = 1)
    (v : Value) (l : List Value) (hs : a.eval s = v) (hown : Own w B e v l) (y : Value) (hx : a.eval x = .slice (some ⟨w.heap.size, 0, none⟩) 1 1) (h1 : y.oneCell' = true)
    (hlen : l.length ≤ 1000000000) (hby : bytes ≤ 1000) (hbase : B ≤ w.heap.size)
    (h : ∀ v' w', Own w' B e v' (l ++ [y]) → w.grownBy w' v.ownBlock → wpList P ops Q rest (a.put o.dst v') w') :
    wpList P ops Q (o :: rest) a (w.alloc (.cells #[y] e)) := by
  obtain ⟨i, hi, hz0, hz1, hz2⟩ := info_parts hinfo
  refine wpList_append_own_at (P := P) (w.alloc (.cells #[y] e)) hgd s x t ho B e i z 1 bytes ht hi hz0 hz1 hz2 hzs (by omega) v l.length l hs (hown.alloc _) ⟨w.heap.size, 0, none⟩ 1 1 [y] hx rfl (cell_one_new w y e)
    (by simpa using h1) (by unfold maxLen; omega) ?_ (by simp; omega) ?_
  · have : (l.length + 1) * bytes ≤ 1000000001 * 1000 := Nat.mul_le_mul (by omega) hby
    omega
  · intro v' w' ho' hg' _ _
    refine h v' w' ?_ ?_
    · unfold Own; simpa using ho'
    · exact ⟨hg'.os, hg'.tape, hg'.output, Nat.le_trans (by simp) hg'.size, fun k hk hne => (hg'.block k (by simp; omega) hne).trans (Below.heap_alloc w _ k hk)⟩
/-- make([]T, 0, n) -/
theorem make0 {P : Program} (w : World) {ops : Array Oper} {rest : List Oper} {o : Oper} {a : Act} {Q : Exit → Act → World → Prop}
    (hg : o.guard = none) (l c : Operand) (t : TypeId) (hop : o.op = Op.makeSlice t l c)
    (B : Nat) (e : TypeId) {z : Value} {bytes : Nat} (h1 : P.underlying t = some (.slice e)) (hinfo : (P.info? e).map (fun i => (i.zero, i.size, i.bytes)) = some (some z, 1, bytes))
    (kl kc : IntKind) (C : Int) (hl : a.eval l = .int kl 0) (hc : a.eval c = .int kc C) (hC0 : 0 ≤ C) (hC1 : C ≤ 1000000000) (hby : bytes ≤ 1000) (b4 : B ≤ w.heap.size)
    (hK : ∀ v w', Own w' B e v [] → Below w.heap.size w w' → wpList P ops Q rest (a.put o.dst v) w') :
    wpList P ops Q (o :: rest) a w := by
  obtain ⟨i, hi, hz0, hz1, hz2⟩ := info_parts hinfo
  refine wpList_make_own (P := P) w hg l c t hop B e i z 1 h1 hi hz0 hz1 kl kc C C.toNat hl hc (by omega) ?_ (by unfold maxLen; omega) b4 (fun w' ho hgr => hK _ w' ho ?_)
  · rw [hz2]
    have : bytes * C.toNat ≤ 1000 * 1000000000 := Nat.mul_le_mul hby (by omega)
    omega
  · exact (Below.refl _ _).grown hgr (Nat.le_refl _) (fun k hk => by cases hk)
theorem grow_set {a w : World} {g : Nat} (h : a.grownBy w (some g)) {p : Addr} (hp : p.block = g ∨ a.heap.size ≤ p.block) (u : Value) : a.grownBy (w.setCell p u) (some g) :=
  ⟨h.os, h.tape, h.output, by simpa [World.setCell] using h.size, fun i hi hne => (Below.heap_setCell w p u i (by
    rintro rfl
    rcases hp with hp | hp
    · exact hne (by rw [hp])
    · omega)).trans (h.block i hi hne)⟩
theorem grow_drew {a w : World} {row : Option Nat} (h : a.grownBy w row) : a.grownBy w.drew row := ⟨h.os, h.tape, h.output, h.size, h.block⟩
theorem grow_drewN {a w : World} {row : Option Nat} (h : a.grownBy w row) (n : Nat) : a.grownBy (w.drewN n) row := ⟨h.os, h.tape, h.output, h.size, h.block⟩
theorem grow_ext {a w : World} (h : Below a.heap.size a w) (row : Option Nat) : a.grownBy w row := ⟨h.os, h.tape, h.output, h.size, fun i hi _ => h.block i hi⟩
theorem grow_set1 {a : World} {g : Nat} {p : Addr} (hp : p.block = g ∨ a.heap.size ≤ p.block) {u : Value} : a.grownBy (a.setCell p u).drew (some g) := grow_drew (grow_set (World.grownBy.refl _ _) hp u)
theorem grow_set2 {a : World} {g : Nat} {p q : Addr} (hp : p.block = g ∨ a.heap.size ≤ p.block) (hq : q.block = g ∨ a.heap.size ≤ q.block) {u v : Value} : a.grownBy ((a.setCell p u).setCell q v).drew (some g) := grow_drew (grow_set (grow_set (World.grownBy.refl _ _) hp u) hq v)

/-- block b is just the cells cs, of type t, all of which may be written -/
def Blk (w : World) (b : Nat) (t : TypeId) (cs : Array Value) : Prop := w.heap[b]? = some (.cells cs t (0, 0))
theorem Blk.lt {w : World} {b : Nat} {t : TypeId} {cs : Array Value} (h : Blk w b t cs) : b < w.heap.size := (Array.getElem?_eq_some_iff.1 h).1
theorem Blk.cell {w : World} {b : Nat} {t : TypeId} {cs : Array Value} (h : Blk w b t cs) (i : Nat) : w.cell? ⟨b, i, none⟩ = cs[i]? := cell_of_row w b i cs t (0, 0) h
theorem Blk.free {w : World} {b : Nat} {t : TypeId} {cs : Array Value} (h : Blk w b t cs) (i : Nat) : w.frozen? ⟨b, i, none⟩ = false := by
  unfold Blk at h; simp [World.frozen?, h]
theorem Blk.new (w : World) (t : TypeId) (cs : Array Value) : Blk (w.alloc (.cells cs t)) w.heap.size t cs := heap_alloc_new w _
theorem Blk.alloc {w : World} {b : Nat} {t : TypeId} {cs : Array Value} (h : Blk w b t cs) (o : Obj) : Blk (w.alloc o) b t cs := (Below.heap_alloc w o b h.lt).trans h
theorem Blk.drewN {w : World} {b : Nat} {t : TypeId} {cs : Array Value} (h : Blk w b t cs) (n : Nat) : Blk (w.drewN n) b t cs := h
theorem Blk.drew {w : World} {b : Nat} {t : TypeId} {cs : Array Value} (h : Blk w b t cs) : Blk w.drew b t cs := h
theorem Blk.set {w : World} {b : Nat} {t : TypeId} {cs : Array Value} (h : Blk w b t cs) (i : Nat) (u : Value) : Blk (w.setCell ⟨b, i, none⟩ u) b t (cs.setIfInBounds i u) := by
  unfold Blk at h ⊢
  simp [World.setCell, Array.getElem?_modify, h]
theorem Blk.far {w : World} {b : Nat} {t : TypeId} {cs : Array Value} (h : Blk w b t cs) {p : Addr} (hp : b ≠ p.block) (u : Value) : Blk (w.setCell p u) b t cs := (Below.heap_setCell w p u b hp).trans h
theorem Blk.below {w w' : World} {B b : Nat} {t : TypeId} {cs : Array Value} (h : Blk w b t cs) (hb : Below B w w') (hB : b < B) : Blk w' b t cs := (hb.block b hB).trans h
theorem Blk.ext {w w' : World} {b : Nat} {t : TypeId} {cs : Array Value} (h : Blk w b t cs) (hb : Below w.heap.size w w') : Blk w' b t cs := h.below hb h.lt
theorem Blk.grown {w w' : World} {b : Nat} {t : TypeId} {cs : Array Value} {row : Option Nat} (h : Blk w b t cs) (hb : w.grownBy w' row) (hg : some b ≠ row) : Blk w' b t cs := (hb.block b h.lt hg).trans h
/-- an append to an own row keeps an older block -/
theorem Blk.own {w w' : World} {b B : Nat} {t e : TypeId} {cs : Array Value} {v : Value} {l : List Value} (h : Blk w b t cs) (ho : Own w B e v l) (hB : b < B) (hg : w.grownBy w' v.ownBlock) : Blk w' b t cs :=
  (ho.far hg b h.lt hB).trans h
theorem Own.keptNe {w w' : World} {B : Nat} {e : TypeId} {v : Value} {l : List Value} (h : Own w B e v l) {row : Option Nat} (hg : w.grownBy w' row) (hne : ∀ g, row = some g → v.ownBlock ≠ some g) : Own w' B e v l := by
  refine World.ownsRow.kept h hg ?_
  rcases hv : v.ownBlock with _ | g
  · exact .inl rfl
  · exact .inr fun he => hne g he.symm hv
theorem Own.blk_lt {w : World} {B : Nat} {e : TypeId} {v : Value} {l : List Value} (h : Own w B e v l) {g : Nat} (hg : v.ownBlock = some g) : B ≤ g ∧ g < w.heap.size := World.ownsRow.lt h g hg
theorem Own.lower {w : World} {B B' : Nat} {e : TypeId} {v : Value} {l : List Value} (h : Own w B e v l) (hB : B' ≤ B) : Own w B' e v l := by
  refine ⟨h.1, ?_⟩
  rcases h.2 with h2 | ⟨g, cap, cur, h3, h4, h5⟩
  · exact .inl h2
  · exact .inr ⟨g, cap, cur, h3, by omega, h5⟩
theorem Own.ne_type {w : World} {B B' : Nat} {e e' : TypeId} {v v' : Value} {l l' : List Value} (h : Own w B e v l) (h' : Own w B' e' v' l') (hne : e ≠ e') : ∀ g, v.ownBlock = some g → v'.ownBlock ≠ some g := by
  intro g hg hg'
  rcases h.2 with ⟨rfl, _⟩ | ⟨g1, cap, cur, rfl, _, hh, _⟩
  · cases hg
  · rcases h'.2 with ⟨rfl, _⟩ | ⟨g2, cap2, cur2, rfl, _, hh2, _⟩
    · cases hg'
    · have e1 : g1 = g := by simpa [Value.ownBlock] using hg
      have e2 : g2 = g := by simpa [Value.ownBlock] using hg'
      subst e1 e2
      rw [hh] at hh2
      injection hh2 with hh2
      injection hh2 with _ ht
      exact hne ht
theorem grow_own {a w w' : World} {B : Nat} {e : TypeId} {v : Value} {l : List Value} {row : Option Nat} (h : a.grownBy w row) (ho : Own w B e v l) (hB : a.heap.size ≤ B) (hg : w.grownBy w' v.ownBlock) : a.grownBy w' row :=
  ⟨hg.os.trans h.os, hg.tape.trans h.tape, hg.output.trans h.output, Nat.le_trans h.size hg.size, fun k hk hne => (ho.far hg k (Nat.lt_of_lt_of_le hk h.size) (by omega)).trans (h.block k hk hne)⟩
theorem grow_new {a w : World} {row : Option Nat} (h : a.grownBy w row) {p : Addr} (hp : a.heap.size ≤ p.block) (u : Value) : a.grownBy (w.setCell p u) row :=
  ⟨h.os, h.tape, h.output, by simpa [World.setCell] using h.size, fun i hi hne => (Below.heap_setCell w p u i (by omega)).trans (h.block i hi hne)⟩
theorem Own.setFar {w : World} {B : Nat} {e : TypeId} {v : Value} {l : List Value} (h : Own w B e v l) {p : Addr} (hp : p.block < B) (u : Value) : Own (w.setCell p u) B e v l :=
  h.kept (row := some p.block) (grow_set (World.grownBy.refl _ _) (.inl rfl) u) (fun x hx => by injection hx with hx; omega)
theorem box_ne {w : World} {b tc o b' : Nat} {a1 a2 : Option Addr} {n1 n2 c1 c2 : Nat} {x : Value} (hk : Blk w b tc #[.slice a1 n1 c1, .slice a2 n2 c2]) (hc : w.cell? ⟨b', o, none⟩ = some x) (hx : ∀ a n c, x ≠ .slice a n c) : b' ≠ b := by
  rintro rfl
  rw [hk.cell] at hc
  match o, hc with
  | 0, hc => simp at hc; exact hx _ _ _ hc.symm
  | 1, hc => simp at hc; exact hx _ _ _ hc.symm
  | n + 2, hc => simp at hc
theorem IsStrs.setBox {w : World} {b tc j : Nat} {a1 a2 : Option Addr} {n1 n2 c1 c2 : Nat} {v : Value} {l : List ByteArray} (h : IsStrs w v l) (hk : Blk w b tc #[.slice a1 n1 c1, .slice a2 n2 c2]) (u : Value) : IsStrs (w.setCell ⟨b, j, none⟩ u) v l := by
  obtain ⟨A, c, rfl, h1, h2, h3⟩ := h
  refine ⟨A, c, rfl, h1, h2, fun k hkl => ?_⟩
  obtain ⟨b', o, e, hlt, hc⟩ := h3 k hkl
  have hne := box_ne hk hc (fun _ _ _ h => by cases h)
  exact ⟨b', o, e, by simpa [World.setCell] using hlt, by rw [World.cell?_setCell_other _ _ _ _ (by intro h; injection h with h1 h2; omega)]; exact hc⟩
theorem IsInts.setBox {w : World} {b tc j : Nat} {a1 a2 : Option Addr} {n1 n2 c1 c2 : Nat} {v : Value} {l : List Int} (h : IsInts w v l) (hk : Blk w b tc #[.slice a1 n1 c1, .slice a2 n2 c2]) (u : Value) : IsInts (w.setCell ⟨b, j, none⟩ u) v l := by
  obtain ⟨A, c, rfl, h1, h3⟩ := h
  refine ⟨A, c, rfl, h1, fun k hkl => ?_⟩
  obtain ⟨b', o, e, hlt, hc⟩ := h3 k hkl
  have hne := box_ne hk hc (fun _ _ _ h => by cases h)
  exact ⟨b', o, e, by simpa [World.setCell] using hlt, by rw [World.cell?_setCell_other _ _ _ _ (by intro h; injection h with h1 h2; omega)]; exact hc⟩
theorem IsStrs.grownNe {w w' : World} {v : Value} {l : List ByteArray} {g : Nat} (h : IsStrs w v l) (hg : w.grownBy w' (some g)) (hne : v.ownBlock ≠ some g) : IsStrs w' v l := by
  obtain ⟨A, c, rfl, h1, h2, h3⟩ := h
  refine ⟨A, c, rfl, h1, h2, fun k hk => ?_⟩
  obtain ⟨b, o, rfl, hlt, hc⟩ := h3 k hk
  exact ⟨b, o, rfl, Nat.lt_of_lt_of_le hlt hg.size, (hg.cell_far ⟨b, o + k, none⟩ hlt hne).trans hc⟩
theorem IsInts.grownNe {w w' : World} {v : Value} {l : List Int} {g : Nat} (h : IsInts w v l) (hg : w.grownBy w' (some g)) (hne : v.ownBlock ≠ some g) : IsInts w' v l := by
  obtain ⟨A, c, rfl, h1, h3⟩ := h
  refine ⟨A, c, rfl, h1, fun k hk => ?_⟩
  obtain ⟨b, o, rfl, hlt, hc⟩ := h3 k hk
  exact ⟨b, o, rfl, Nat.lt_of_lt_of_le hlt hg.size, (hg.cell_far ⟨b, o + k, none⟩ hlt hne).trans hc⟩
theorem Own.ne_blk {w : World} {B g : Nat} {e : TypeId} {v : Value} {l : List Value} (h : Own w B e v l) (hg : g < B) : v.ownBlock ≠ some g := fun he => by
  have := (h.blk_lt he).1; omega
theorem Own.stored {w : World} {B : Nat} {e : TypeId} {g c n : Nat} {l : List Value} (h : Own w B e (.slice (some ⟨g, 0, none⟩) n c) l) (hn : n = l.length) (j : Nat) (u : Value) :
    Own (w.setCell ⟨g, j, none⟩ u) B e (.slice (some ⟨g, 0, none⟩) n c) (l.set j u) := by
  subst hn
  have := (World.ownsRow.stored h j u).1
  unfold Own
  simpa using this
theorem Own.free {w : World} {B : Nat} {e : TypeId} {g c n : Nat} {l : List Value} (h : Own w B e (.slice (some ⟨g, 0, none⟩) n c) l) (hn : n = l.length) (j : Nat) : w.frozen? ⟨g, j, none⟩ = false := by
  subst hn
  exact World.ownsRow.frozenAt h j
end
/-! StrEq -/
section
open Go.RowKit
theorem bs_eq (a b : ByteArray) : (a.toList == b.toList) = decide (a = b) := by
  rw [ByteArray.toList_eq, ByteArray.toList_eq, Bool.eq_iff_iff]
  simp only [beq_iff_eq, decide_eq_true_eq]
  constructor
  · intro h
    cases a; cases b
    simp only [ByteArray.mk.injEq]
    exact Array.toList_inj.1 h
  · rintro rfl; rfl
theorem bs_yes {a b : ByteArray} (h : a = b) : (a.toList == b.toList) = true := by rw [bs_eq, decide_eq_true h]
theorem bs_no {a b : ByteArray} (h : a ≠ b) : (a.toList == b.toList) = false := by rw [bs_eq, decide_eq_false h]
theorem bs_nyes {a b : ByteArray} (h : a = b) : (a.toList != b.toList) = false := by unfold bne; rw [bs_yes h]; rfl
theorem bs_nno {a b : ByteArray} (h : a ≠ b) : (a.toList != b.toList) = true := by unfold bne; rw [bs_no h]; rfl
end
/-! Cls -/
section
open Go.RowKit

/-- the worlds in which all is as it was, but for new memory -/
def Ext (W : World) := { w' : World // Below W.heap.size W w' }
instance (W : World) : Nonempty (Ext W) := ⟨⟨W, Below.refl _ _⟩⟩
theorem Ext.cell {W : World} (x : Ext W) (b o : Nat) (h : b < W.heap.size) : x.1.cell? ⟨b, o, none⟩ = W.cell? ⟨b, o, none⟩ := x.2.cell (p := ⟨b, o, none⟩) h
theorem Ext.call {W : World} {P : Program} {f : FuncId} {args : Array Value} {v : Value} (x : Ext W) (h : Calls P f args x.1 fun e w' => e = .returned v ∧ Below x.1.heap.size x.1 w') :
    Calls P f args x.1 fun e w'' => e = .returned v ∧ ∃ y : Ext W, w'' = y.1 := h.mono fun _ _ ⟨he, hb⟩ => ⟨he, ⟨_, ext_trans x.2 hb⟩, rfl⟩
theorem Ext.callv {W : World} {P : Program} {f : FuncId} {args : Array Value} {u v : Value} (x : Ext W) (h : Calls P f args x.1 fun e w' => e = .returned u ∧ Below x.1.heap.size x.1 w') (e : u = v) :
    Calls P f args x.1 fun e w'' => e = .returned v ∧ ∃ y : Ext W, w'' = y.1 := e ▸ Ext.call x h
theorem Ext.same {W : World} {P : Program} {f : FuncId} {args : Array Value} {v : Value} (x : Ext W) (h : Calls P f args x.1 fun e w' => e = .returned v ∧ x.1 = w') :
    Calls P f args x.1 fun e w'' => e = .returned v ∧ ∃ y : Ext W, w'' = y.1 := h.mono fun _ _ ⟨he, hb⟩ => ⟨he, x, hb.symm⟩
theorem wp_region_ext {P : Program} {id : Nat} {Q : Exit → Act → World → Prop} {a : Act} {w : World} {l : List Oper} (hm : P.follows .mixedOrders = true) (hB : Region.lexB .any l.toArray = true)
    (h : wpQuiet P l.toArray (fun w' => ∃ x : Ext w, w' = x.1) (fun a' => ∀ w', (∃ x : Ext w, w' = x.1) → Q .normal a' w') l a) : (Code.region id l.toArray true).wp P Q a w :=
  wp_region_quiet (C := fun w' => ∃ x : Ext w, w' = x.1) hm hB ⟨⟨_, (Below.refl _ _).drew⟩, rfl⟩ (by simpa using h)
end
end Go.Proofs.Ytnfeddnkokocfaa
