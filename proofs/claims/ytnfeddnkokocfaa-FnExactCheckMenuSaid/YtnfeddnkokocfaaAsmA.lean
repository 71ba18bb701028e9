/- Asm, Asm2, Asm3, in one text. -/
import Derived.Test.YtnfeddnkokocfaaMachOff
import Derived.Test.YtnfeddnkokocfaaRefl
namespace Go.Proofs.Ytnfeddnkokocfaa
set_option linter.unusedVariables false
set_option linter.unusedSimpArgs false
/-! Asm -/
section
open Go.RowKit
attribute [local go_sem] Ext.cell
open BigFrame

/-- block b has n cells, given by f, which may be written -/
def Fn (w : World) (b n : Nat) (t : TypeId) (f : Nat → Value) : Prop := ∃ cs : Array Value, Blk w b t cs ∧ cs.size = n ∧ ∀ j, j < n → cs[j]? = some (f j)
theorem Fn.lt {w : World} {b n : Nat} {t : TypeId} {f : Nat → Value} (h : Fn w b n t f) : b < w.heap.size := by obtain ⟨cs, h1, _⟩ := h; exact h1.lt
theorem Fn.cell {w : World} {b n : Nat} {t : TypeId} {f : Nat → Value} (h : Fn w b n t f) {j : Nat} (hj : j < n) : w.cell? ⟨b, j, none⟩ = some (f j) := by
  obtain ⟨cs, h1, h2, h3⟩ := h; rw [h1.cell]; exact h3 j hj
theorem Fn.free {w : World} {b n : Nat} {t : TypeId} {f : Nat → Value} (h : Fn w b n t f) (j : Nat) : w.frozen? ⟨b, j, none⟩ = false := by
  obtain ⟨cs, h1, _⟩ := h; exact h1.free j
theorem Fn.ext {w w' : World} {b n : Nat} {t : TypeId} {f : Nat → Value} (h : Fn w b n t f) (hb : Below w.heap.size w w') : Fn w' b n t f := by
  obtain ⟨cs, h1, h2, h3⟩ := h; exact ⟨cs, h1.ext hb, h2, h3⟩
theorem Fn.set {w : World} {b n : Nat} {t : TypeId} {f : Nat → Value} (h : Fn w b n t f) (i : Nat) (u : Value) : Fn (w.setCell ⟨b, i, none⟩ u) b n t (fun j => if j = i then u else f j) := by
  obtain ⟨cs, h1, h2, h3⟩ := h
  refine ⟨_, h1.set i u, by rw [Array.size_setIfInBounds]; exact h2, fun j hj => ?_⟩
  show _ = some (if j = i then u else f j)
  rw [Array.getElem?_setIfInBounds]
  by_cases e : i = j
  · subst e; rw [if_pos rfl, if_pos (by omega), if_pos rfl]
  · rw [if_neg e, if_neg (fun q : j = i => e q.symm)]; exact h3 j hj
theorem Fn.congr {w : World} {b n : Nat} {t : TypeId} {f g : Nat → Value} (h : Fn w b n t f) (e : ∀ j, j < n → f j = g j) : Fn w b n t g := by
  obtain ⟨cs, h1, h2, h3⟩ := h; exact ⟨cs, h1, h2, fun j hj => by rw [← e j hj]; exact h3 j hj⟩
/-- a run of cells laid over others -/
def ovr (f : Nat → Value) (o : Nat) (vs : List Value) (j : Nat) : Value := if o ≤ j ∧ j < o + vs.length then vs.getD (j - o) (.bool false) else f j
theorem Fn.setCells {b n : Nat} {t : TypeId} : ∀ (vs : List Value) (o : Nat) {w : World} {f : Nat → Value}, Fn w b n t f → Fn (w.setCells b o vs) b n t (ovr f o vs) := by
  intro vs
  induction vs with
  | nil => intro o w f h; exact h.congr (fun j _ => by unfold ovr; rw [if_neg (by simp only [List.length_nil]; omega)])
  | cons v vs ih =>
    intro o w f h
    refine (ih (o + 1) (h.set o v)).congr (fun j _ => ?_)
    unfold ovr
    simp only [List.length_cons]
    by_cases e : j = o
    · subst e
      rw [if_neg (by omega), if_pos rfl, if_pos (by omega), Nat.sub_self]
      rfl
    · by_cases e2 : o + 1 ≤ j ∧ j < o + 1 + vs.length
      · rw [if_pos e2, if_pos (by omega), show j - o = (j - (o + 1)) + 1 by omega]
        rfl
      · rw [if_neg e2, if_neg e, if_neg (by omega)]
theorem Fn.there {w : World} {b n : Nat} {t : TypeId} {f : Nat → Value} (h : Fn w b n t f) {o k : Nat} (hk : o + k ≤ n) : w.there b o k := fun j hj => ⟨by rw [h.cell (by omega)]; rfl, h.free _⟩
theorem Fn.permAt {w : World} {b n : Nat} {t : TypeId} {f : Nat → Value} (h : Fn w b n t f) {o : Nat} {g : Nat → Int} (ho : o + 10 ≤ n) (hg : ∀ x, x < 10 → f (o + x) = .int .u8 (g x)) : PermAt w b o g := by
  refine ⟨h.lt, fun j v hv => ?_⟩
  have hj : j < 10 := by have := (List.getElem?_eq_some_iff.1 hv).1; simpa using this
  rw [h.cell (by omega), hg j hj]
  rw [List.getElem?_map, List.getElem?_range hj] at hv
  exact hv
theorem ovr_in (f : Nat → Value) (o : Nat) (g : Nat → Int) {x : Nat} (hx : x < 10) : ovr f o (permA g).toList (o + x) = .int .u8 (g x) := by
  unfold ovr permA
  simp only [List.length_map, List.length_range]
  rw [if_pos (by omega), Nat.add_sub_cancel_left, List.getD_eq_getElem?_getD, List.getElem?_map, List.getElem?_range hx]
  rfl
theorem ovr_out (f : Nat → Value) (o : Nat) (g : Nat → Int) {j : Nat} (hj : j < o ∨ o + 10 ≤ j) : ovr f o (permA g).toList j = f j := by
  unfold ovr permA
  simp only [List.length_map, List.length_range]
  rw [if_neg (by omega)]
theorem setCells_below {a w : World} {B b : Nat} (hb : B ≤ b) : ∀ (vs : List Value) (o : Nat) {w : World}, Below B a w → Below B a (w.setCells b o vs) := by
  intro vs
  induction vs with
  | nil => intro o w h; exact h
  | cons v vs ih => intro o w h; exact ih (o + 1) (h.setCell (p := ⟨b, o, none⟩) hb v)

/-- the cells of an assembly, the rotors below i (and rotor i below o) turned -/
def AsmF (A : Option Addr) (cA : Nat) (M : Mch) (i o : Nat) (f : Nat → Value) : Prop :=
  f 0 = .slice A M.l.length cA ∧ f 1 = .string M.rf ∧ f 2 = .string M.rg ∧ f 3 = .string M.pl ∧ (∀ x, x < 10 → f (4 + x) = .int .u8 (pn M.pl x : Int)) ∧ (∀ x, x < 10 → f (14 + x) = .int .u8 (pn M.rf x : Int)) ∧
  ∀ i' o' x, (i' < i ∨ i' = i ∧ o' < o) → i' < 3 → o' < 10 → x < 10 → f (24 + i' * 100 + o' * 10 + x) = .int .u8 (rotF (gR M.l i').1 o' x : Int)
/-- the assembly of a machine lies in block b -/
structure Asm (w : World) (b : Nat) (A : Option Addr) (cA : Nat) (M : Mch) : Prop where
  c0 : w.cell? ⟨b, 0, none⟩ = some (.slice A M.l.length cA)
  c1 : w.cell? ⟨b, 1, none⟩ = some (.string M.rf)
  c2 : w.cell? ⟨b, 2, none⟩ = some (.string M.rg)
  c3 : w.cell? ⟨b, 3, none⟩ = some (.string M.pl)
  lt : b < w.heap.size
  rot : IsRots w (.slice A M.l.length cA) M.l
  pl : PermAt w b 4 (fun x => (pn M.pl x : Int))
  rf : PermAt w b 14 (fun x => (pn M.rf x : Int))
  tu : ∀ i o, i < M.l.length → o < 10 → PermAt w b (24 + i * 100 + o * 10) (fun x => (rotF (gR M.l i).1 o x : Int))
theorem Asm.ext {w w' : World} {b : Nat} {A : Option Addr} {cA : Nat} {M : Mch} (h : Asm w b A cA M) (hb : Below w.heap.size w w') : Asm w' b A cA M :=
  ⟨(hb.cell (p := ⟨b, 0, none⟩) h.lt).trans h.c0, (hb.cell (p := ⟨b, 1, none⟩) h.lt).trans h.c1, (hb.cell (p := ⟨b, 2, none⟩) h.lt).trans h.c2, (hb.cell (p := ⟨b, 3, none⟩) h.lt).trans h.c3, Nat.lt_of_lt_of_le h.lt hb.size, h.rot.ext hb, h.pl.ext hb, h.rf.ext hb, fun i o hi ho => (h.tu i o hi ho).ext hb⟩
theorem Asm.of {w : World} {b : Nat} {t : TypeId} {A : Option Addr} {cA : Nat} {M : Mch} {f : Nat → Value} (h : Fn w b 324 t f) (hf : AsmF A cA M M.l.length 0 f) (hl : M.l.length ≤ 3) (hR : IsRots w (.slice A M.l.length cA) M.l) : Asm w b A cA M := by
  obtain ⟨a0, a1, a2, a3, a4, a5, a6⟩ := hf
  exact ⟨by rw [h.cell (by omega), a0], by rw [h.cell (by omega), a1], by rw [h.cell (by omega), a2], by rw [h.cell (by omega), a3], h.lt, hR, h.permAt (by omega) a4, h.permAt (by omega) a5,
    fun i o hi ho => h.permAt (by omega) (fun x hx => a6 i o x (.inl hi) (by omega) ho hx)⟩
theorem AsmF.step {A : Option Addr} {cA : Nat} {M : Mch} {i o : Nat} {f : Nat → Value} (h : AsmF A cA M i o f) (hi : i < 3) (ho : o < 10) : AsmF A cA M i (o + 1) (ovr f (24 + i * 100 + o * 10) (permA fun x => (rotF (gR M.l i).1 o x : Int)).toList) := by
  obtain ⟨a0, a1, a2, a3, a4, a5, a6⟩ := h
  refine ⟨by rw [ovr_out _ _ _ (by omega), a0], by rw [ovr_out _ _ _ (by omega), a1], by rw [ovr_out _ _ _ (by omega), a2], by rw [ovr_out _ _ _ (by omega), a3], fun x hx => by rw [ovr_out _ _ _ (by omega), a4 x hx], fun x hx => by rw [ovr_out _ _ _ (by omega), a5 x hx], fun i' o' x hio h3 h10 hx => ?_⟩
  by_cases e : i' = i ∧ o' = o
  · obtain ⟨rfl, rfl⟩ := e
    exact ovr_in _ _ _ hx
  · rw [ovr_out _ _ _ (by omega)]
    exact a6 i' o' x (by omega) h3 h10 hx
theorem AsmF.next {A : Option Addr} {cA : Nat} {M : Mch} {i : Nat} {f : Nat → Value} (h : AsmF A cA M i 10 f) : AsmF A cA M (i + 1) 0 f := by
  obtain ⟨a0, a1, a2, a3, a4, a5, a6⟩ := h
  exact ⟨a0, a1, a2, a3, a4, a5, fun i' o' x hio h3 h10 hx => a6 i' o' x (by omega) h3 h10 hx⟩
/-- the cells of a new assembly -/
def asm0 (v0 v1 v2 v3 : Value) (j : Nat) : Value := match j with | 0 => v0 | 1 => v1 | 2 => v2 | 3 => v3 | _ => .int .u8 0
end
/-! Asm2 -/
section
open Go.RowKit
attribute [local go_sem] Ext.cell
open BigFrame

/-- the cells of a new assembly, as a block -/
def asmA (v0 v1 v2 v3 : Value) : Array Value := ((List.range 324).map (asm0 v0 v1 v2 v3)).toArray
theorem asmA_fn (w : World) (t : TypeId) (v0 v1 v2 v3 : Value) : Fn (w.alloc (.cells (asmA v0 v1 v2 v3) t)) w.heap.size 324 t (asm0 v0 v1 v2 v3) :=
  ⟨_, Blk.new w t _, by simp [asmA], fun j hj => by simp [asmA, hj]⟩
theorem asm_zero (v0 v1 v2 v3 : Value) : (((Try.zeroCells142.setIfInBounds 0 v0).setIfInBounds 1 v1).setIfInBounds 2 v2).setIfInBounds 3 v3 = asmA v0 v1 v2 v3 := by kernel_rfl
theorem plugR_ok {p : ByteArray} (h : plugB p = true) : plugR p = .tuple #[pV (pn p), .bool true] := by unfold plugR pV; rw [h]; simp
theorem IsRots.belowB {w w' : World} {A : Option Addr} {n c B : Nat} {l : List Rot} (h : IsRots w (.slice A n c) l) (hb : Below B w w') (hA : ∀ b o, A = some ⟨b, o, none⟩ → b < B) : IsRots w' (.slice A n c) l := by
  obtain ⟨A', c', e, h1, h2, h3⟩ := h
  refine ⟨A', c', e, h1, h2, fun k hk => ?_⟩
  obtain ⟨b', o, e', hlt, hc, hd⟩ := h3 k hk
  have e1 : A = A' := by injection e
  have hb' : b' < B := hA b' o (e1.trans e')
  exact ⟨b', o, e', Nat.lt_of_lt_of_le hlt hb.size, (hb.cell (p := ⟨b', o + k * 2, none⟩) hb').trans hc, (hb.cell (p := ⟨b', o + k * 2 + 1, none⟩) hb').trans hd⟩
theorem MW.belowB {w W W' : World} {b B : Nat} {A : Option Addr} {cA : Nat} {M : Mch} (h : MW w b A cA M W) (hb : Below B W W') (hB : b < B) (hA : ∀ b o, A = some ⟨b, o, none⟩ → b < B) (hw : Below w.heap.size w W') : MW w b A cA M W' :=
  ⟨(hb.cell (p := ⟨b, 0, none⟩) hB).trans h.c0, (hb.cell (p := ⟨b, 1, none⟩) hB).trans h.c1, (hb.cell (p := ⟨b, 2, none⟩) hB).trans h.c2, (hb.cell (p := ⟨b, 3, none⟩) hB).trans h.c3, Nat.lt_of_lt_of_le h.lt hb.size, h.rot.belowB hb hA, hw⟩
theorem Blk.farCells {b' : Nat} {b : Nat} {t : TypeId} {cs : Array Value} (hne : b ≠ b') : ∀ (vs : List Value) (o : Nat) {w : World}, Blk w b t cs → Blk (w.setCells b' o vs) b t cs := by
  intro vs
  induction vs with
  | nil => intro o w h; exact h
  | cons v vs ih => intro o w h; exact ih (o + 1) (h.far (p := ⟨b', o, none⟩) hne v)
theorem size_setCells (b : Nat) : ∀ (vs : List Value) (o : Nat) (w : World), (w.setCells b o vs).heap.size = w.heap.size := by
  intro vs
  induction vs with
  | nil => intro o w; rfl
  | cons v vs ih => intro o w; show ((w.setCell ⟨b, o, none⟩ v).setCells b (o + 1) vs).heap.size = _; rw [ih]; simp [World.setCell]
theorem AsmF.start {A : Option Addr} {cA : Nat} {M : Mch} : AsmF A cA M 0 0 (ovr (ovr (asm0 (.slice A M.l.length cA) (.string M.rf) (.string M.rg) (.string M.pl)) 4 (permA fun i => (pn M.pl i : Int)).toList) 14 (permA fun i => (pn M.rf i : Int)).toList) := by
  refine ⟨?_, ?_, ?_, ?_, fun x hx => ?_, fun x hx => ?_, fun i' o' x h _ _ _ => by omega⟩
  · rw [ovr_out _ _ _ (by omega), ovr_out _ _ _ (by omega)]; rfl
  · rw [ovr_out _ _ _ (by omega), ovr_out _ _ _ (by omega)]; rfl
  · rw [ovr_out _ _ _ (by omega), ovr_out _ _ _ (by omega)]; rfl
  · rw [ovr_out _ _ _ (by omega), ovr_out _ _ _ (by omega)]; rfl
  · rw [ovr_out _ _ _ (by omega), ovr_in _ _ _ hx]
  · rw [ovr_in _ _ _ hx]
theorem isP_of_refl {p : ByteArray} (h : reflB p = true) : permB p = true := by
  unfold reflB at h; simp only [Bool.and_eq_true] at h; exact ((plugB_iff p).1 h.1).1
theorem reflR_ok {p : ByteArray} (h : reflB p = true) : ∃ v, reflR p = .tuple #[v, .bool true] ∧ v = pV (pn p) := by
  have hp : plugB p = true := by unfold reflB at h; simp only [Bool.and_eq_true] at h; exact h.1
  refine ⟨_, ?_, rfl⟩
  unfold reflR pV
  rw [h, hp]
  simp
set_option maxHeartbeats 300000 in
set_option maxRecDepth 100000 in
theorem c_newAssembly (A : Option Addr) (cA : Nat) (M : Mch) (w : World) (hR : IsRots w (.slice A M.l.length cA) M.l) (h : mB M = true) : Calls Try.prog 69 #[mV A cA M] w fun e w' => ∃ b, e = .returned (.pointer (some ⟨b, 0, none⟩)) ∧ w.heap.size ≤ b ∧ Asm w' b A cA M ∧ Below w.heap.size w w' := by
  obtain ⟨h1, h2⟩ := (mB_iff M).1 h
  have hrf := mB_refl h
  obtain ⟨g1, g2, g3, g4⟩ := win_facts h1
  have HW := Lib.hid ((winB_iff _ _ _).1 h1).1
  have L0 := Lib.hid (MW.start M (Below.refl w.heap.size w) hR)
  have HP := Lib.hid h2
  have HF := Lib.hid hrf
  have hll : M.l.length ≤ 3 := by omega
  obtain ⟨bR, oR, hA, hbR⟩ := hR.blk (by omega)
  have hA' : ∀ b o, A = some ⟨b, o, none⟩ → b < w.heap.size := fun b o e => by rw [hA] at e; injection e with e; injection e with e; omega
  have HA := Lib.hid hA'
  have HR0 := Lib.hid hR
  clear hR h h1 h2 hrf g3 g4 hA hA'
  go_enter Try.func69, Try.ntmps69
  go_wp2_with fail
  rw [asm_zero]
  have Z := Lib.hid (asmA_fn (w.alloc (.cells #[.slice A M.l.length cA, .string M.rf, .string M.rg, .string M.pl] 33)) 142 (.slice A M.l.length cA) (.string M.rf) (.string M.rg) (.string M.pl))
  have L1 := Lib.hid (L0.out.ext (ext_alloc _ (.cells (asmA (.slice A M.l.length cA) (.string M.rf) (.string M.rg) (.string M.pl)) 142)))
  rw [World.size_alloc] at Z
  refine (c_plugsOf M.pl _ (by rw [permB_size ((plugB_iff _).1 HP.out).1]; omega)).mono ?_
  rintro e w1 ⟨rfl, hb1⟩
  rw [plugR_ok HP.out]
  have Z1 := Lib.hid (Z.out.ext hb1)
  have L2 := Lib.hid (L1.out.ext hb1)
  clear hb1 Z L0 L1
  have hth := Z1.out.there (o := 4) (k := 10) (by omega)
  go_upto_region 3 with (refine wpList_store_mid rfl 85 _ _ rfl (w.heap.size + 1) 4 _ rfl rfl (by rw [permA_size]; exact hth) (by rw [permA_size]; exact size_perm) (permA_one _) ?_)
  have hbl : Below (w.heap.size + 1) w1 (w1.setCells (w.heap.size + 1) 4 (permA fun i => (pn M.pl i : Int)).toList) := setCells_below (a := w1) (w := w1) (Nat.le_refl _) _ _ (Below.refl _ _)
  have Z2 := Lib.hid (Fn.setCells (permA fun i => (pn M.pl i : Int)).toList 4 Z1.out)
  have L3 := Lib.hid (L2.out.belowB hbl (by omega) (fun b o e => by have := HA.out b o e; omega) (L2.out.bel.trans (hbl.mono (by omega))))
  clear hbl Z1 L2 hth
  generalize w1.setCells (w.heap.size + 1) 4 (permA fun i => (pn M.pl i : Int)).toList = W2 at *
  have y1 := L3.out.c1
  go_wp2_with fail
  refine (c_reflectorOf M.rf _ (by rw [permB_size (isP_of_refl HF.out)]; omega)).mono ?_
  rintro e w3 ⟨rfl, hb3⟩
  obtain ⟨v, hv, hv2⟩ := reflR_ok HF.out
  rw [hv, hv2]
  have Z3 := Lib.hid (Z2.out.ext hb3)
  have L4 := Lib.hid (L3.out.ext hb3)
  clear hb3 Z2 L3 y1 hv hv2
  have hth := Z3.out.there (o := 14) (k := 10) (by omega)
  go_upto_region 4 with (refine wpList_store_mid rfl 85 _ _ rfl (w.heap.size + 1) 14 _ rfl rfl (by rw [permA_size]; exact hth) (by rw [permA_size]; exact size_perm) (permA_one _) ?_)
  have hbl : Below (w.heap.size + 1) w3 (w3.setCells (w.heap.size + 1) 14 (permA fun i => (pn M.rf i : Int)).toList) := setCells_below (a := w3) (w := w3) (Nat.le_refl _) _ _ (Below.refl _ _)
  have Z4 := Lib.hid (Fn.setCells (permA fun i => (pn M.rf i : Int)).toList 14 Z3.out)
  have L5 := Lib.hid (L4.out.belowB hbl (by omega) (fun b o e => by have := HA.out b o e; omega) (L4.out.bel.trans (hbl.mono (by omega))))
  clear hbl Z3 L4 hth
  generalize w3.setCells (w.heap.size + 1) 14 (permA fun i => (pn M.rf i : Int)).toList = W4 at *
  have y0 := L5.out.c0
  go_wp2_with fail
  clear y0
  go_loopw [33] (fun i wr => ∃ (k : Nat) (f : Nat → Value), k ≤ M.l.length ∧ i = .int .i64 k ∧ Fn wr (w.heap.size + 1) 324 142 f ∧ AsmF A cA M k 0 f ∧ IsRots wr (.slice A M.l.length cA) M.l ∧ Below w.heap.size w wr) (fun i _ => 3 - (intOf i).toNat)
  case atStart => exact ⟨0, _, Nat.zero_le _, rfl, Z4.out, AsmF.start, L5.out.rot, L5.out.bel⟩
  case round =>
    clear Z4 L5
    obtain ⟨k, f, hk, rfl, hz, hf, hrt, hbel⟩ := hrel
    have Z := Lib.hid hz
    have F := Lib.hid hf
    have R := Lib.hid hrt
    have BL := Lib.hid hbel
    clear hz hf hrt hbel
    by_cases hlt : k < M.l.length
    · have hrot := wheelsB_rot HW.out hlt
      obtain ⟨b, o, hA, hb, hc0, hc1⟩ := R.out.at_ hlt
      subst hA
      have hbw := HA.out b o rfl
      obtain ⟨wi, hwi⟩ : ∃ wi, (gR M.l k).1 = wi := ⟨_, rfl⟩
      obtain ⟨no, hno⟩ : ∃ no, (gR M.l k).2 = no := ⟨_, rfl⟩
      rw [hwi] at hc0
      rw [hno] at hc1
      have HWI := Lib.hid hwi
      have HPW : Hid (permB wi = true) := by
        show permB wi = true
        rw [← hwi]
        unfold rotB at hrot
        simp only [Bool.and_eq_true] at hrot
        exact hrot.1
      have hlz := Z.out.lt
      clear hrot hwi hno
      go_wp2_with fail
      obtain ⟨rb, hrb⟩ : ∃ rb, wr.heap.size = rb := ⟨_, rfl⟩
      obtain ⟨wo, hwo⟩ : ∃ x, x = wr := ⟨_, rfl⟩
      subst hwo
      rw [hrb]
      have hlz2 : w.heap.size + 1 < rb := by omega
      have HRB := Lib.hid hrb
      clear hrb
      go_loopw [38] (fun j wr => ∃ (q : Nat) (f : Nat → Value), q ≤ 10 ∧ j = .int .i64 q ∧ Fn wr (w.heap.size + 1) 324 142 f ∧ AsmF (some ⟨b, o, none⟩) cA M k q f ∧ Blk wr rb 144 #[.string wi, .string no] ∧ IsRots wr (.slice (some ⟨b, o, none⟩) M.l.length cA) M.l ∧ Below w.heap.size w wr) (fun j _ => 10 - (intOf j).toNat)
      case atStart => exact ⟨0, f, Nat.zero_le _, rfl, Z.out.ext (ext_alloc _ _), F.out, HRB.out ▸ Blk.new wo _ _, R.out.ext (ext_alloc _ _), ext_trans BL.out (ext_alloc _ _)⟩
      case round =>
        clear Z F R BL hc0 hc1
        obtain ⟨q, f, hq, rfl, hz, hf, hk1, hrt, hbel⟩ := hrel
        have Z := Lib.hid hz
        have F := Lib.hid hf
        have K := Lib.hid hk1
        have R := Lib.hid hrt
        have BL := Lib.hid hbel
        clear hz hf hk1 hrt hbel
        by_cases hlq : q < 10
        · have c0 : wr.cell? ⟨rb, 0, none⟩ = some (.string wi) := K.out.cell 0
          have c1 : wr.cell? ⟨rb, 1, none⟩ = some (.string no) := K.out.cell 1
          have hlk := K.out.lt
          have i1 : (0 : Int) ≤ (k : Int) := by omega
          have i2 : (k : Int) < 3 := by omega
          have i3 : (0 : Int) ≤ (q : Int) := by omega
          have i4 : (q : Int) < 10 := by omega
          go_wp2_with fail
          refine wp_region_ext_tail 10 (by kernel_rfl) (by kernel_rfl) ?_
          dsimp only [List.take, List.drop]
          repeat (go_big_quiet_step ((first
            | (go_at_call 115; exact Ext.call _ (c_turned wi no q _ HPW.out hlq)))))
          refine wpQuiet_nil ?_
          rintro _ ⟨⟨w6, hb6⟩, rfl⟩
          rename World => w6
          have hth := (Z.out.ext hb6).there (o := 24 + k * 100 + q * 10) (k := 10) (by omega)
          have Z1 := Lib.hid (Z.out.ext hb6)
          have K1 := Lib.hid (K.out.ext hb6)
          have R1 := Lib.hid (R.out.ext hb6)
          have BL1 := Lib.hid (ext_trans BL.out hb6)
          have hsz := BL.out.size
          clear hb6 Z K R BL c0 c1
          refine wpList_store_mid rfl 85 _ _ rfl (w.heap.size + 1) (24 + k * 100 + q * 10) _ rfl rfl (by rw [permA_size]; exact hth) (by rw [permA_size]; exact size_perm) (permA_one _) ?_
          have hbl : Below (w.heap.size + 1) w6 (w6.setCells (w.heap.size + 1) (24 + k * 100 + q * 10) (permA fun i => (rotF wi q i : Int)).toList) := setCells_below (a := w6) (w := w6) (Nat.le_refl _) _ _ (Below.refl _ _)
          have Z2 := Lib.hid (Fn.setCells (permA fun i => (rotF wi q i : Int)).toList (24 + k * 100 + q * 10) Z1.out)
          have K2 := Lib.hid (Blk.farCells (b' := w.heap.size + 1) (by omega) (permA fun i => (rotF wi q i : Int)).toList (24 + k * 100 + q * 10) K1.out)
          have R2 := Lib.hid (R1.out.belowB hbl (fun b o e => by have := HA.out b o e; omega))
          have BL2 := Lib.hid (BL1.out.trans (hbl.mono (by omega)))
          have F2 := Lib.hid (AsmF.step F.out (by omega) hlq)
          rw [HWI.out] at F2
          clear hbl Z1 K1 R1 BL1 F hth
          generalize w6.setCells (w.heap.size + 1) (24 + k * 100 + q * 10) (permA fun i => (rotF wi q i : Int)).toList = W6 at *
          go_wp2_with fail
          refine ⟨⟨q + 1, _, by omega, by go_num, Z2.out, F2.out, K2.out, R2.out, BL2.out⟩, ?_⟩
          simp only [intOf]; omega
        · obtain rfl : q = 10 := by omega
          go_wp2_with fail
          refine ⟨⟨k + 1, f, by omega, by congr 1, Z.out, F.out.next, R.out, BL.out⟩, ?_⟩
          simp only [intOf]; omega
    · obtain rfl : k = M.l.length := by omega
      go_wp2_with fail
      refine bodyPost_ret (v := .pointer (some ⟨w.heap.size + 1, 0, none⟩)) (by simp [results, Try.results69, go_sem]) rfl ?_
      exact ⟨_, rfl, by omega, Asm.of Z.out F.out hll R.out, BL.out⟩
end
/-! Asm3 -/
section
open Go.RowKit
attribute [local go_sem] Ext.cell
open BigFrame

theorem load_perm {ops : Array Oper} {rest : List Oper} {op : Oper} {a : Act} {w : World} {Q : Exit → Act → World → Prop} (hgd : op.guard = none) (x : Operand) (ho : op.op = .load 85 x)
    (b o : Nat) (hx : a.eval x = .pointer (some ⟨b, o, none⟩)) (f : Nat → Int) (hp : PermAt w b o f) (h : wpList Try.prog ops Q rest (a.put op.dst (.agg (permA f))) w) : wpList Try.prog ops Q (op :: rest) a w :=
  wpList_load_mid hgd 85 x ho b o hx ((List.range 10).map (fun i => Value.int .u8 (f i))) _ hp.2 Try.underlying85 rfl (by rw [List.length_map, List.length_range]; exact size_perm) h
theorem IsInts.belowB {w w' : World} {A : Option Addr} {n c B : Nat} {l : List Int} (h : IsInts w (.slice A n c) l) (hb : Below B w w') (hA : ∀ b o, A = some ⟨b, o, none⟩ → b < B) : IsInts w' (.slice A n c) l := by
  obtain ⟨A', c', e, h1, h3⟩ := h
  injection e with e1 e2 e3
  subst e1
  refine ⟨A, c, by rw [e2], h1, fun k hk => ?_⟩
  obtain ⟨b, o, e, hlt, hc⟩ := h3 k hk
  exact ⟨b, o, e, Nat.lt_of_lt_of_le hlt hb.size, (hb.cell (p := ⟨b, o + k, none⟩) (hA b o e)).trans hc⟩
theorem PermAt.belowB {w w' : World} {b o B : Nat} {f : Nat → Int} (h : PermAt w b o f) (hb : Below B w w') (hB : b < B) : PermAt w' b o f :=
  ⟨Nat.lt_of_lt_of_le h.1 hb.size, fun j v hv => (hb.cell (p := ⟨b, o + j, none⟩) hB).trans (h.2 j v hv)⟩
theorem Asm.belowB {w w' : World} {b B : Nat} {A : Option Addr} {cA : Nat} {M : Mch} (h : Asm w b A cA M) (hb : Below B w w') (hB : b < B) (hA : ∀ b o, A = some ⟨b, o, none⟩ → b < B) : Asm w' b A cA M :=
  ⟨(hb.cell (p := ⟨b, 0, none⟩) hB).trans h.c0, (hb.cell (p := ⟨b, 1, none⟩) hB).trans h.c1, (hb.cell (p := ⟨b, 2, none⟩) hB).trans h.c2, (hb.cell (p := ⟨b, 3, none⟩) hB).trans h.c3, Nat.lt_of_lt_of_le h.lt hb.size, h.rot.belowB hb hA, h.pl.belowB hb hB, h.rf.belowB hb hB, fun i o hi ho => (h.tu i o hi ho).belowB hb hB⟩
theorem ints_ne_perm {w : World} {b n c : Nat} {t : TypeId} {f : Nat → Int} {A : Option Addr} {l : List Int} (hK : Blk w b t (permA f)) (h : IsInts w (.slice A n c) l) (hl : 0 < l.length) : (Value.slice A n c).ownBlock ≠ some b := by
  obtain ⟨b', o, rfl, _, hc⟩ := h.at_ hl
  intro e
  have e' : b' = b := by simpa [Value.ownBlock] using e
  subst e'
  rw [hK.cell] at hc
  by_cases ho : o + 0 < 10
  · rw [permA_at _ ho] at hc; injection hc with hc; injection hc with hc; cases hc
  · rw [Array.getElem?_eq_none (by rw [permA_size]; omega)] at hc; cases hc
theorem grow_row (w : World) (g : Nat) (cs : Array Value) : w.grownBy (w.setRow g cs) (some g) :=
  ⟨rfl, rfl, rfl, by rw [setRow_size]; exact Nat.le_refl _, fun i _ hne => setRow_other w g i cs (fun e => hne (by rw [e]))⟩
set_option maxHeartbeats 300000 in
set_option maxRecDepth 100000 in
theorem c_permAt (A : Option Addr) (cA : Nat) (M : Mch) (b : Nat) (s : ByteArray) (w : World) (hR : Asm w b A cA M) (h : setB M s = true) : Calls Try.prog 118 #[.pointer (some ⟨b, 0, none⟩), .string s] w fun e w' => e = .returned (pV (kF M s)) ∧ Below w.heap.size w w' := by
  have HS := Lib.hid h
  have R0 := Lib.hid hR
  have HBW := Lib.hid hR.lt
  have HM := (setB_iff M s).1 h
  have HRF := Lib.hid (refl_facts (mB_refl HM.1)).1
  have HRT : Hid (∀ i o, i < M.l.length → o < 10 → IsP (rotF (gR M.l i).1 o)) := by
    intro i o hi ho
    have := wheelsB_rot ((winB_iff _ _ _).1 ((mB_iff M).1 HM.1).1).1 hi
    unfold rotB at this
    simp only [Bool.and_eq_true] at this
    exact IsP.rot this.1 ho
  have hl1 : 0 < M.l.length := by have := win_facts (setB_win h); omega
  obtain ⟨bR, oR, hA0, hbR⟩ := hR.rot.blk hl1
  have HA : Hid (∀ b o, A = some ⟨b, o, none⟩ → b < w.heap.size) := fun b o e => by rw [hA0] at e; injection e with e; injection e with e; omega
  clear HM hA0 hl1 hbR
  have P0 := Lib.hid ((hR.ext (ext_alloc w (.cells (permA fun _ => 0) 85))).pl)
  clear hR h
  go_enter Try.func118, Try.ntmps118
  have KZ := Lib.hid (Blk.new (w.alloc (.cells (permA fun _ => 0) 85)) 85 (permA fun _ => 0))
  rw [World.size_alloc] at KZ
  have HST := Lib.hid (World.setRow_alloc_new (w.alloc (.cells (permA fun _ => 0) 85)) (permA fun _ => 0) (permA fun x => (pn M.pl x : Int)) 85)
  rw [World.size_alloc] at HST
  have K0 := Lib.hid ((Blk.new w 85 (permA fun _ => 0)).alloc (.cells (permA fun x => (pn M.pl x : Int)) 85))
  have K1 := Lib.hid (Blk.new (w.alloc (.cells (permA fun _ => 0) 85)) 85 (permA fun x => (pn M.pl x : Int)))
  rw [World.size_alloc] at K1
  have R1 := Lib.hid ((R0.out.ext (ext_alloc w (.cells (permA fun _ => 0) 85))).ext (ext_alloc _ (.cells (permA fun x => (pn M.pl x : Int)) 85)))
  have B1 := Lib.hid ((ext_alloc w (.cells (permA fun _ => 0) 85)).alloc (by simp) (.cells (permA fun x => (pn M.pl x : Int)) 85))
  have y0 := R1.out.c0
  have y1 := R1.out.c1
  have y2 := R1.out.c2
  have y3 := R1.out.c3
  go_upto_region 2 with (first | (refine load_perm rfl _ rfl b 4 rfl _ P0.out ?_) | (simp only [permA_zero]; refine wpList_store_row rfl 85 _ _ rfl (w.heap.size + 1) _ rfl rfl 85 _ KZ.out (by rw [permA_size]; exact size_perm) (by simp only [permA_size]) (permA_one _) ?_; rw [HST.out]))
  have HO := HS.out
  have KR0 := Lib.hid K0.out
  clear K0 P0 KZ HST
  generalize (w.alloc (.cells (permA fun _ => 0) 85)).alloc (.cells (permA fun x => (pn M.pl x : Int)) 85) = W1 at *
  obtain ⟨f1, f2, f3, f4⟩ := win_facts (setB_win HS.out)
  have HRS := Lib.hid R1.out.rot
  clear HO f4
  have F3 := Lib.hid f3
  clear f3
  go_wp2_with (go_at_call 151; refine (c_offsets A cA M s _ HRS.out HS.out).mono ?_; rintro e w2 ⟨v, rfl, hv, hb2⟩; obtain ⟨AO, cO, rfl⟩ := hv.form; rw [ofL_len] at *)
  have I2 := Lib.hid hv
  have K2 := Lib.hid (K1.out.ext hb2)
  have R2 := Lib.hid (R1.out.ext hb2)
  have B2 := Lib.hid (ext_trans B1.out hb2)
  have KR := Lib.hid (KR0.out.ext hb2)
  have HSL : Hid (M.l.length = s.size) := F3.out.symm
  have HIP : Hid (IsP (pn M.pl)) := isP_pn ((plugB_iff _).1 ((mB_iff M).1 ((setB_iff M s).1 HS.out).1).2).1
  clear hv hb2 K1 R1 B1 HRS y0 y1 y2 y3 KR0 F3
  go_loopw [7] (fun i wr => ∃ (z : Int) (k : Nat) (g : Nat → Nat), i = .int .i64 z ∧ z = (k : Int) - 1 ∧ k ≤ s.size ∧ IsP g ∧ wayF M.l (ofF M s) k g = wayM M s ∧ Blk wr (w.heap.size + 1) 85 (permA fun x => (g x : Int)) ∧ Blk wr w.heap.size 85 (permA fun _ => 0) ∧ Asm wr b A cA M ∧ IsInts wr (.slice AO s.size cO) (ofL M s) ∧ Below w.heap.size w wr) (fun i _ => (intOf i + 1).toNat)
  case atStart =>
    refine ⟨_, s.size, pn M.pl, rfl, rfl, Nat.le_refl _, HIP.out, ?_, K2.out, KR.out, R2.out, I2.out, B2.out⟩
    unfold wayM
    rw [HSL.out]
  case round =>
    clear K2 KR R2 I2 B2
    obtain ⟨z, k, g, rfl, hz, hk, hg, hway, hk1, hk0, hR, hI, hB⟩ := hrel
    have HG := Lib.hid hg
    have HWY := Lib.hid hway
    have K := Lib.hid hk1
    have KR := Lib.hid hk0
    have R := Lib.hid hR
    have I := Lib.hid hI
    have B := Lib.hid hB
    have hsz := hB.size
    have hbw := HBW.out
    have hlk := hk1.lt
    clear hg hway hk1 hk0 hR hI hB
    rcases k with _ | q
    · obtain rfl : z = -1 := by omega
      have P1 := Lib.hid K.out.permAt
      have P2 := Lib.hid R.out.rf
      clear hz
      go_wp2_with fail
      refine wp_region_ext_tail 9 (by kernel_rfl) (by kernel_rfl) ?_
      dsimp only [List.take, List.drop]
      repeat (first
        | (go_big_quiet_want
           refine quiet_perm _ rfl (w.heap.size + 1) 0 rfl (fun x => (g x : Int)) P1.out ?_
           simp only [Act.put, List.setIfInBounds_toArray, List.set_cons_succ, List.set_cons_zero]
           go_big_quiet_on)
        | (go_big_quiet_want
           refine quiet_perm _ rfl b 14 rfl (fun x => (pn M.rf x : Int)) P2.out ?_
           simp only [Act.put, List.setIfInBounds_toArray, List.set_cons_succ, List.set_cons_zero]
           go_big_quiet_on)
        | go_big_quiet_step ((first
          | (go_at_call 108; exact Ext.call _ (c_then _ _ _ (by intro i hi; first | exact HG.out.1 i hi | exact HRF.out.1 _ (HG.out.1 i hi))))
          | (go_at_call 152; exact Ext.call _ (c_inverse _ _ HG.out)))))
      refine wpQuiet_nil ?_
      rintro _ ⟨⟨w4, hb4⟩, rfl⟩
      have K4 := Lib.hid (KR.out.ext hb4)
      have B4 := Lib.hid (ext_trans B.out hb4)
      clear hb4 P1 P2
      go_wp2_with (refine wpList_store_row rfl 85 _ _ rfl w.heap.size _ rfl rfl 85 _ K4.out (by rw [permA_size]; exact size_perm) (by rw [permA_size, permA_size]) (permA_one _) ?_)
      refine bodyPost_ret (results_cell_row Try.results118 _ _ w.heap.size 85 _ (0, 0) _ rfl (K4.out.setRow _) Try.underlying85 rfl (by rw [permA_size]; exact size_perm)) rfl ⟨?_, below_row B4.out (Nat.le_refl _) _⟩
      have e : g = wayM M s := HWY.out
      unfold kF turnF
      rw [← e]
    · obtain rfl : z = (q : Int) := by omega
      obtain ⟨o, ho⟩ : ∃ o, ofF M s q = o := ⟨_, rfl⟩
      have ho10 : o < 10 := by rw [← ho]; unfold ofF; omega
      have hq3 : q < M.l.length := by have := HSL.out; omega
      have P1 := Lib.hid K.out.permAt
      have P2 := Lib.hid (R.out.tu q o hq3 ho10)
      obtain ⟨b3, o3, hA3, hlt3, hc3⟩ := I.out.at_ (k := q) (by rw [ofL_len]; omega)
      rw [ofL_at M s (by omega), ho] at hc3
      have i1 : (0 : Int) ≤ (q : Int) := by omega
      have i2 : (q : Int) < 3 := by omega
      have i3 : (0 : Int) ≤ (o : Int) := by omega
      have i4 : (o : Int) < 10 := by omega
      have i5 : (q : Int) < (s.size : Int) := by omega
      have HO := Lib.hid ho
      have HAO := Lib.hid hA3
      subst hA3
      clear ho hz hk
      go_wp2_with fail
      refine wp_region_ext_tail 13 (by kernel_rfl) (by kernel_rfl) ?_
      dsimp only [List.take, List.drop]
      repeat (first
        | (go_big_quiet_want
           refine quiet_perm _ rfl (w.heap.size + 1) 0 rfl (fun x => (g x : Int)) P1.out ?_
           simp only [Act.put, List.setIfInBounds_toArray, List.set_cons_succ, List.set_cons_zero]
           go_big_quiet_on)
        | (go_big_quiet_want
           refine quiet_perm _ rfl b (24 + q * 100 + o * 10) rfl (fun x => (rotF (gR M.l q).1 o x : Int)) P2.out ?_
           simp only [Act.put, List.setIfInBounds_toArray, List.set_cons_succ, List.set_cons_zero]
           go_big_quiet_on)
        | go_big_quiet_step ((first
          | (go_at_call 108; exact Ext.call _ (c_then _ _ _ HG.out.1)))))
      refine wpQuiet_nil ?_
      rintro _ ⟨⟨w4, hb4⟩, rfl⟩
      have K4 := Lib.hid (K.out.ext hb4)
      have KR4 := Lib.hid (KR.out.ext hb4)
      have R4 := Lib.hid (R.out.ext hb4)
      have I4 := Lib.hid (I.out.ext hb4)
      have B4 := Lib.hid (ext_trans B.out hb4)
      rename World => w4
      clear hb4 P1 P2 K KR R I B hc3
      refine wpList_store_row rfl 85 _ _ rfl (w.heap.size + 1) _ rfl rfl 85 _ K4.out (by rw [permA_size]; exact size_perm) (by rw [permA_size, permA_size]) (permA_one _) ?_
      have hbl : Below (w.heap.size + 1) w4 (w4.setRow (w.heap.size + 1) (permA fun i => (rotF (gR M.l q).1 o (g i) : Int))) := below_row (Below.refl _ _) (Nat.le_refl _) _
      have K5 := Lib.hid (K4.out.setRow (permA fun i => (rotF (gR M.l q).1 o (g i) : Int)))
      have KR5 := Lib.hid (KR4.out.farRow (g := w.heap.size + 1) (by omega) (permA fun i => (rotF (gR M.l q).1 o (g i) : Int)))
      have R5 := Lib.hid (R4.out.belowB hbl (by omega) (fun b o e => by have := HA.out b o e; omega))
      have I5 := Lib.hid (I4.out.grownNe (grow_row _ _ (permA fun i => (rotF (gR M.l q).1 o (g i) : Int))) (ints_ne_perm K4.out I4.out (by rw [ofL_len]; omega)))
      have B5 := Lib.hid (B4.out.trans (hbl.mono (by omega)))
      clear hbl K4 KR4 R4 I4 B4
      generalize w4.setRow (w.heap.size + 1) (permA fun i => (rotF (gR M.l q).1 o (g i) : Int)) = W5 at *
      go_wp2_with fail
      refine ⟨⟨_, q, _, rfl, rfl, by omega, HG.out.comp (HRT.out q o hq3 ho10), ?_, K5.out, KR5.out, R5.out, I5.out, B5.out⟩, ?_⟩
      · rw [← HWY.out]
        show _ = wayF M.l (ofF M s) q (fun x => rotF (gR M.l q).1 (ofF M s q) (g x))
        rw [HO.out]
      · simp only [intOf]; omega
end
end Go.Proofs.Ytnfeddnkokocfaa
