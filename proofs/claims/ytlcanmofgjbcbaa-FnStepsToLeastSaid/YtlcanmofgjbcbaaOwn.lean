/- Slices that a call makes itself: append, make, conversion; elements of one cell. -/
import Derived.Test.YtlcanmofgjbcbaaMem
namespace Go.Proofs.Ytlcanmofgjbcbaa
set_option linter.unusedVariables false
set_option linter.unusedSimpArgs false
open Go.RowKit

theorem info_u8 : (Try.prog.info? 5).map (fun i => (i.zero, i.size, i.bytes)) = some (some (.int .u8 0), 1, 1) := by kernel_rfl
theorem info_int : (Try.prog.info? 3).map (fun i => (i.zero, i.size, i.bytes)) = some (some (.int .i64 0), 1, 8) := by kernel_rfl
theorem info_str : (Try.prog.info? 9).map (fun i => (i.zero, i.size, i.bytes)) = some (some (.string ByteArray.empty), 1, 16) := by kernel_rfl

/-- v is a slice of the call's own, from block B on, of elements of type e, one cell each: l -/
def Own (w : World) (B : Nat) (e : TypeId) (v : Value) (l : List Value) : Prop := w.ownsRow B e 1 v l.length l
theorem Own.nil (w : World) (B : Nat) (e : TypeId) : Own w B e (.slice none 0 0) [] := World.ownsRow_nil w B e 1
theorem Own.kept {w w' : World} {B : Nat} {e : TypeId} {v : Value} {l : List Value} (h : Own w B e v l) {row : Option Nat} (hg : w.grownBy w' row) (hne : ∀ g, row = some g → g < B) : Own w' B e v l := by
  refine World.ownsRow.kept h hg ?_
  rcases hv : v.ownBlock with _ | g
  · exact .inl rfl
  · refine .inr fun he => ?_
    have h1 := hne g he.symm
    have h2 := (World.ownsRow.lt h g hv).1
    omega
theorem Own.ext {w w' : World} {B : Nat} {e : TypeId} {v : Value} {l : List Value} (h : Own w B e v l) (hb : Below w.heap.size w w') : Own w' B e v l :=
  h.kept (row := none) ⟨hb.os, hb.tape, hb.output, hb.size, fun k hk _ => hb.block k hk⟩ (fun g hg => by cases hg)
theorem Own.drew {w : World} {B : Nat} {e : TypeId} {v : Value} {l : List Value} (h : Own w B e v l) : Own w.drew B e v l := h
theorem Own.drewN {w : World} {B : Nat} {e : TypeId} {v : Value} {l : List Value} (h : Own w B e v l) (n : Nat) : Own (w.drewN n) B e v l := h
theorem Own.alloc {w : World} {B : Nat} {e : TypeId} {v : Value} {l : List Value} (h : Own w B e v l) (o : Obj) : Own (w.alloc o) B e v l := World.ownsRow.alloc h o
theorem Own.below {w w' w0 : World} {B B' : Nat} {e : TypeId} {v : Value} {l : List Value} (h : Own w B e v l) (hB : B' ≤ B) (hBw : B' ≤ w.heap.size) (hb : Below B' w0 w) (hg : w.grownBy w' v.ownBlock) : Below B' w0 w' :=
  hb.grown hg hBw (fun k hk => Nat.le_trans hB (World.ownsRow.lt h k hk).1)
theorem Own.far {w w' : World} {B : Nat} {e : TypeId} {v : Value} {l : List Value} (h : Own w B e v l) (hg : w.grownBy w' v.ownBlock) : ∀ k, k < w.heap.size → k < B → w'.heap[k]? = w.heap[k]? :=
  fun k hk hB => hg.block k hk fun he => by have := (World.ownsRow.lt h k he.symm).1; omega
theorem Own.at_ {w : World} {B : Nat} {e : TypeId} {v : Value} {l : List Value} (h : Own w B e v l) {k : Nat} {u : Value} (hk : l[k]? = some u) :
    ∃ g c, v = .slice (some ⟨g, 0, none⟩) l.length c ∧ B ≤ g ∧ g < w.heap.size ∧ w.cell? ⟨g, k, none⟩ = some u := by
  have hl : k < l.length := (List.getElem?_eq_some_iff.1 hk).1
  obtain ⟨g, cap, hv, hb, hlt⟩ := World.ownsRow.form h (by omega)
  refine ⟨g, cap, hv, hb, hlt, ?_⟩
  have := World.ownsRow.cells h (g := g) (by rw [hv]; rfl) k u hk
  have e1 : (⟨g, 0, none⟩ : Addr).add k = ⟨g, k, none⟩ := by unfold Addr.add; split <;> simp_all
  rw [e1] at this
  exact this
theorem Own.slice {w : World} {B : Nat} {e : TypeId} {v : Value} {l : List Value} (h : Own w B e v l) : ∃ A c, v = .slice A l.length c := by
  rcases h.2 with ⟨rfl, e⟩ | ⟨g, cap, cur, rfl, _⟩
  · exact ⟨none, 0, by rw [e]⟩
  · exact ⟨_, cap, rfl⟩
theorem Own.ints {w : World} {B : Nat} {e : TypeId} {v : Value} {l : List Int} (h : Own w B e v (l.map (.int .i64))) (hl : l.length ≤ 9223372036854775807) : IsInts w v l := by
  obtain ⟨A, c, hv⟩ := h.slice
  refine ⟨A, c, by rw [hv, List.length_map], hl, fun k hk => ?_⟩
  obtain ⟨g, c', hv', _, hlt, hc⟩ := h.at_ (k := k) (u := .int .i64 (gI l k)) (by
    rw [List.getElem?_map, List.getElem?_eq_getElem hk]; simp [gI, List.getD_eq_getElem?_getD, List.getElem?_eq_getElem hk])
  have : A = some ⟨g, 0, none⟩ := by rw [hv] at hv'; injection hv'
  exact ⟨g, 0, this, hlt, by rw [Nat.zero_add]; exact hc⟩
theorem Own.strs {w : World} {B : Nat} {e : TypeId} {v : Value} {l : List ByteArray} (h : Own w B e v (l.map .string)) (hl : l.length ≤ 9223372036854775807) (hs : ∀ k, k < l.length → (gS l k).size ≤ 9223372036854775807) : IsStrs w v l := by
  obtain ⟨A, c, hv⟩ := h.slice
  refine ⟨A, c, by rw [hv, List.length_map], hl, hs, fun k hk => ?_⟩
  obtain ⟨g, c', hv', _, hlt, hc⟩ := h.at_ (k := k) (u := .string (gS l k)) (by
    rw [List.getElem?_map, List.getElem?_eq_getElem hk]; simp [gS, List.getD_eq_getElem?_getD, List.getElem?_eq_getElem hk])
  have : A = some ⟨g, 0, none⟩ := by rw [hv] at hv'; injection hv'
  exact ⟨g, 0, this, hlt, by rw [Nat.zero_add]; exact hc⟩
/-- string(out) of bytes of the call's own -/
theorem conv_own {P : Program} {w : World} {B : Nat} {v : Value} {l : List Int} (src dst e : TypeId) (h : Own w B e v (l.map (.int .u8)))
    (hs : P.underlying src = some (.slice e)) (he : P.underlying e = some (.int .u8)) (hd : P.underlying dst = some .string) :
    (convert src dst v).run P w = .ok (.string (strOfNums l)) w := by
  obtain ⟨A, c, hv⟩ := h.slice
  rcases h.2 with ⟨e1, e2⟩ | ⟨g, cap, cur, hv', _⟩
  · rw [e1, run_convert_bytes_nil w src e hs he 0 0 dst hd]
    have : l = [] := by simpa using e2
    rw [this]; rfl
  · rw [hv', List.length_map]
    refine run_convert_bytes_arg w src e hs he g 0 l.length cap l rfl (fun i hi => ?_) dst hd
    obtain ⟨g', c', hv2, _, _, hc⟩ := h.at_ (k := i) (u := .int .u8 (l.getD i 0)) (by
      rw [List.getElem?_map, List.getElem?_eq_getElem hi]; simp [List.getD_eq_getElem?_getD, List.getElem?_eq_getElem hi])
    have : g = g' := by rw [hv'] at hv2; injection hv2 with h1; injection h1 with h1; injection h1
    rw [Nat.zero_add, this]; exact hc

/-- append(s, y) of one element of one cell: at the built-in, behind the one-cell block of y -/
theorem app1 {P : Program} (w : World) {ops : Array Oper} {rest : List Oper} {o : Oper} {a : Act} {Q : Exit → Act → World → Prop} (hgd : o.guard = none) (s x : Operand) (t : TypeId)
    (ho : o.op = .call { callee := .builtin .append, args := #[s, x], argTypes := #[t, t] })
    (B : Nat) (e : TypeId) {z : Value} {bytes : Nat} (ht : P.underlying t = some (.slice e)) (hinfo : (P.info? e).map (fun i => (i.zero, i.size, i.bytes)) = some (some z, 1, bytes)) (hzs : z.cells.size = 1)
    (v : Value) (l : List Value) (hs : a.eval s = v) (hown : Own w B e v l) (y : Value) (hx : a.eval x = .slice (some ⟨w.heap.size, 0, none⟩) 1 1) (h1 : y.oneCell' = true)
    (hlen : l.length ≤ 1000000000) (hby : bytes ≤ 1000) (hbase : B ≤ w.heap.size)
    (h : ∀ v' w', Own w' B e v' (l ++ [y]) → w.grownBy w' v.ownBlock → wpList P ops Q rest (a.put o.dst v') w') :
    wpList P ops Q (o :: rest) a (w.alloc (.cells #[y] e)) := by
  obtain ⟨i, hi, hz0, hz1, hz2⟩ := info_parts hinfo
  refine wpList_append_own_at (P := P) (w.alloc (.cells #[y] e)) hgd s x t ho B e i z 1 bytes ht hi hz0 hz1 hz2 hzs (by omega) v l.length l hs (hown.alloc _) ⟨w.heap.size, 0, none⟩ 1 1 [y] hx rfl (cell_one_new w y e)
    (by simpa using h1) (by unfold maxLen; omega) ?_ (by simp; omega) ?_
  · have : (l.length + 1) * bytes ≤ 1000000001 * 1000 := Nat.mul_le_mul (by omega) hby
    omega
  · intro v' w' ho' hg' _ _
    refine h v' w' ?_ ?_
    · unfold Own; simpa using ho'
    · exact ⟨hg'.os, hg'.tape, hg'.output, Nat.le_trans (by simp) hg'.size, fun k hk hne => (hg'.block k (by simp; omega) hne).trans (Below.heap_alloc w _ k hk)⟩
/-- make([]T, 0, n) -/
theorem make0 {P : Program} (w : World) {ops : Array Oper} {rest : List Oper} {o : Oper} {a : Act} {Q : Exit → Act → World → Prop}
    (hg : o.guard = none) (l c : Operand) (t : TypeId) (hop : o.op = Op.makeSlice t l c)
    (B : Nat) (e : TypeId) {z : Value} {bytes : Nat} (h1 : P.underlying t = some (.slice e)) (hinfo : (P.info? e).map (fun i => (i.zero, i.size, i.bytes)) = some (some z, 1, bytes))
    (kl kc : IntKind) (C : Int) (hl : a.eval l = .int kl 0) (hc : a.eval c = .int kc C) (hC0 : 0 ≤ C) (hC1 : C ≤ 1000000000) (hby : bytes ≤ 1000) (b4 : B ≤ w.heap.size)
    (hK : ∀ v w', Own w' B e v [] → Below w.heap.size w w' → wpList P ops Q rest (a.put o.dst v) w') :
    wpList P ops Q (o :: rest) a w := by
  obtain ⟨i, hi, hz0, hz1, hz2⟩ := info_parts hinfo
  refine wpList_make_own (P := P) w hg l c t hop B e i z 1 h1 hi hz0 hz1 kl kc C C.toNat hl hc (by omega) ?_ (by unfold maxLen; omega) b4 (fun w' ho hgr => hK _ w' ho ?_)
  · rw [hz2]
    have : bytes * C.toNat ≤ 1000 * 1000000000 := Nat.mul_le_mul hby (by omega)
    omega
  · exact (Below.refl _ _).grown hgr (Nat.le_refl _) (fun k hk => by cases hk)
theorem grow_set {a w : World} {g : Nat} (h : a.grownBy w (some g)) {p : Addr} (hp : p.block = g ∨ a.heap.size ≤ p.block) (u : Value) : a.grownBy (w.setCell p u) (some g) :=
  ⟨h.os, h.tape, h.output, by simpa [World.setCell] using h.size, fun i hi hne => (Below.heap_setCell w p u i (by
    rintro rfl
    rcases hp with hp | hp
    · exact hne (by rw [hp])
    · omega)).trans (h.block i hi hne)⟩
theorem grow_drew {a w : World} {row : Option Nat} (h : a.grownBy w row) : a.grownBy w.drew row := ⟨h.os, h.tape, h.output, h.size, h.block⟩
theorem grow_drewN {a w : World} {row : Option Nat} (h : a.grownBy w row) (n : Nat) : a.grownBy (w.drewN n) row := ⟨h.os, h.tape, h.output, h.size, h.block⟩
theorem grow_ext {a w : World} (h : Below a.heap.size a w) (row : Option Nat) : a.grownBy w row := ⟨h.os, h.tape, h.output, h.size, fun i hi _ => h.block i hi⟩
theorem grow_set1 {a : World} {g : Nat} {p : Addr} (hp : p.block = g ∨ a.heap.size ≤ p.block) {u : Value} : a.grownBy (a.setCell p u).drew (some g) := grow_drew (grow_set (World.grownBy.refl _ _) hp u)
theorem grow_set2 {a : World} {g : Nat} {p q : Addr} (hp : p.block = g ∨ a.heap.size ≤ p.block) (hq : q.block = g ∨ a.heap.size ≤ q.block) {u v : Value} : a.grownBy ((a.setCell p u).setCell q v).drew (some g) := grow_drew (grow_set (grow_set (World.grownBy.refl _ _) hp u) hq v)

/-- block b is just the cells cs, of type t, all of which may be written -/
def Blk (w : World) (b : Nat) (t : TypeId) (cs : Array Value) : Prop := w.heap[b]? = some (.cells cs t (0, 0))
theorem Blk.lt {w : World} {b : Nat} {t : TypeId} {cs : Array Value} (h : Blk w b t cs) : b < w.heap.size := (Array.getElem?_eq_some_iff.1 h).1
theorem Blk.cell {w : World} {b : Nat} {t : TypeId} {cs : Array Value} (h : Blk w b t cs) (i : Nat) : w.cell? ⟨b, i, none⟩ = cs[i]? := cell_of_row w b i cs t (0, 0) h
theorem Blk.free {w : World} {b : Nat} {t : TypeId} {cs : Array Value} (h : Blk w b t cs) (i : Nat) : w.frozen? ⟨b, i, none⟩ = false := by
  unfold Blk at h; simp [World.frozen?, h]
theorem Blk.new (w : World) (t : TypeId) (cs : Array Value) : Blk (w.alloc (.cells cs t)) w.heap.size t cs := heap_alloc_new w _
theorem Blk.alloc {w : World} {b : Nat} {t : TypeId} {cs : Array Value} (h : Blk w b t cs) (o : Obj) : Blk (w.alloc o) b t cs := (Below.heap_alloc w o b h.lt).trans h
theorem Blk.drewN {w : World} {b : Nat} {t : TypeId} {cs : Array Value} (h : Blk w b t cs) (n : Nat) : Blk (w.drewN n) b t cs := h
theorem Blk.drew {w : World} {b : Nat} {t : TypeId} {cs : Array Value} (h : Blk w b t cs) : Blk w.drew b t cs := h
theorem Blk.set {w : World} {b : Nat} {t : TypeId} {cs : Array Value} (h : Blk w b t cs) (i : Nat) (u : Value) : Blk (w.setCell ⟨b, i, none⟩ u) b t (cs.setIfInBounds i u) := by
  unfold Blk at h ⊢
  simp [World.setCell, Array.getElem?_modify, h]
theorem Blk.far {w : World} {b : Nat} {t : TypeId} {cs : Array Value} (h : Blk w b t cs) {p : Addr} (hp : b ≠ p.block) (u : Value) : Blk (w.setCell p u) b t cs := (Below.heap_setCell w p u b hp).trans h
theorem Blk.below {w w' : World} {B b : Nat} {t : TypeId} {cs : Array Value} (h : Blk w b t cs) (hb : Below B w w') (hB : b < B) : Blk w' b t cs := (hb.block b hB).trans h
theorem Blk.ext {w w' : World} {b : Nat} {t : TypeId} {cs : Array Value} (h : Blk w b t cs) (hb : Below w.heap.size w w') : Blk w' b t cs := h.below hb h.lt
theorem Blk.grown {w w' : World} {b : Nat} {t : TypeId} {cs : Array Value} {row : Option Nat} (h : Blk w b t cs) (hb : w.grownBy w' row) (hg : some b ≠ row) : Blk w' b t cs := (hb.block b h.lt hg).trans h
/-- an append to an own row keeps an older block -/
theorem Blk.own {w w' : World} {b B : Nat} {t e : TypeId} {cs : Array Value} {v : Value} {l : List Value} (h : Blk w b t cs) (ho : Own w B e v l) (hB : b < B) (hg : w.grownBy w' v.ownBlock) : Blk w' b t cs :=
  (ho.far hg b h.lt hB).trans h
theorem Own.keptNe {w w' : World} {B : Nat} {e : TypeId} {v : Value} {l : List Value} (h : Own w B e v l) {row : Option Nat} (hg : w.grownBy w' row) (hne : ∀ g, row = some g → v.ownBlock ≠ some g) : Own w' B e v l := by
  refine World.ownsRow.kept h hg ?_
  rcases hv : v.ownBlock with _ | g
  · exact .inl rfl
  · exact .inr fun he => hne g he.symm hv
theorem Own.blk_lt {w : World} {B : Nat} {e : TypeId} {v : Value} {l : List Value} (h : Own w B e v l) {g : Nat} (hg : v.ownBlock = some g) : B ≤ g ∧ g < w.heap.size := World.ownsRow.lt h g hg
theorem Own.lower {w : World} {B B' : Nat} {e : TypeId} {v : Value} {l : List Value} (h : Own w B e v l) (hB : B' ≤ B) : Own w B' e v l := by
  refine ⟨h.1, ?_⟩
  rcases h.2 with h2 | ⟨g, cap, cur, h3, h4, h5⟩
  · exact .inl h2
  · exact .inr ⟨g, cap, cur, h3, by omega, h5⟩
theorem Own.ne_type {w : World} {B B' : Nat} {e e' : TypeId} {v v' : Value} {l l' : List Value} (h : Own w B e v l) (h' : Own w B' e' v' l') (hne : e ≠ e') : ∀ g, v.ownBlock = some g → v'.ownBlock ≠ some g := by
  intro g hg hg'
  rcases h.2 with ⟨rfl, _⟩ | ⟨g1, cap, cur, rfl, _, hh, _⟩
  · cases hg
  · rcases h'.2 with ⟨rfl, _⟩ | ⟨g2, cap2, cur2, rfl, _, hh2, _⟩
    · cases hg'
    · have e1 : g1 = g := by simpa [Value.ownBlock] using hg
      have e2 : g2 = g := by simpa [Value.ownBlock] using hg'
      subst e1 e2
      rw [hh] at hh2
      injection hh2 with hh2
      injection hh2 with _ ht
      exact hne ht
theorem grow_own {a w w' : World} {B : Nat} {e : TypeId} {v : Value} {l : List Value} {row : Option Nat} (h : a.grownBy w row) (ho : Own w B e v l) (hB : a.heap.size ≤ B) (hg : w.grownBy w' v.ownBlock) : a.grownBy w' row :=
  ⟨hg.os.trans h.os, hg.tape.trans h.tape, hg.output.trans h.output, Nat.le_trans h.size hg.size, fun k hk hne => (ho.far hg k (Nat.lt_of_lt_of_le hk h.size) (by omega)).trans (h.block k hk hne)⟩
theorem grow_new {a w : World} {row : Option Nat} (h : a.grownBy w row) {p : Addr} (hp : a.heap.size ≤ p.block) (u : Value) : a.grownBy (w.setCell p u) row :=
  ⟨h.os, h.tape, h.output, by simpa [World.setCell] using h.size, fun i hi hne => (Below.heap_setCell w p u i (by omega)).trans (h.block i hi hne)⟩
theorem Own.setFar {w : World} {B : Nat} {e : TypeId} {v : Value} {l : List Value} (h : Own w B e v l) {p : Addr} (hp : p.block < B) (u : Value) : Own (w.setCell p u) B e v l :=
  h.kept (row := some p.block) (grow_set (World.grownBy.refl _ _) (.inl rfl) u) (fun x hx => by injection hx with hx; omega)
theorem box_ne {w : World} {b tc o b' : Nat} {a1 a2 : Option Addr} {n1 n2 c1 c2 : Nat} {x : Value} (hk : Blk w b tc #[.slice a1 n1 c1, .slice a2 n2 c2]) (hc : w.cell? ⟨b', o, none⟩ = some x) (hx : ∀ a n c, x ≠ .slice a n c) : b' ≠ b := by
  rintro rfl
  rw [hk.cell] at hc
  match o, hc with
  | 0, hc => simp at hc; exact hx _ _ _ hc.symm
  | 1, hc => simp at hc; exact hx _ _ _ hc.symm
  | n + 2, hc => simp at hc
theorem IsStrs.setBox {w : World} {b tc j : Nat} {a1 a2 : Option Addr} {n1 n2 c1 c2 : Nat} {v : Value} {l : List ByteArray} (h : IsStrs w v l) (hk : Blk w b tc #[.slice a1 n1 c1, .slice a2 n2 c2]) (u : Value) : IsStrs (w.setCell ⟨b, j, none⟩ u) v l := by
  obtain ⟨A, c, rfl, h1, h2, h3⟩ := h
  refine ⟨A, c, rfl, h1, h2, fun k hkl => ?_⟩
  obtain ⟨b', o, e, hlt, hc⟩ := h3 k hkl
  have hne := box_ne hk hc (fun _ _ _ h => by cases h)
  exact ⟨b', o, e, by simpa [World.setCell] using hlt, by rw [World.cell?_setCell_other _ _ _ _ (by intro h; injection h with h1 h2; omega)]; exact hc⟩
theorem IsInts.setBox {w : World} {b tc j : Nat} {a1 a2 : Option Addr} {n1 n2 c1 c2 : Nat} {v : Value} {l : List Int} (h : IsInts w v l) (hk : Blk w b tc #[.slice a1 n1 c1, .slice a2 n2 c2]) (u : Value) : IsInts (w.setCell ⟨b, j, none⟩ u) v l := by
  obtain ⟨A, c, rfl, h1, h3⟩ := h
  refine ⟨A, c, rfl, h1, fun k hkl => ?_⟩
  obtain ⟨b', o, e, hlt, hc⟩ := h3 k hkl
  have hne := box_ne hk hc (fun _ _ _ h => by cases h)
  exact ⟨b', o, e, by simpa [World.setCell] using hlt, by rw [World.cell?_setCell_other _ _ _ _ (by intro h; injection h with h1 h2; omega)]; exact hc⟩
theorem IsStrs.grownNe {w w' : World} {v : Value} {l : List ByteArray} {g : Nat} (h : IsStrs w v l) (hg : w.grownBy w' (some g)) (hne : v.ownBlock ≠ some g) : IsStrs w' v l := by
  obtain ⟨A, c, rfl, h1, h2, h3⟩ := h
  refine ⟨A, c, rfl, h1, h2, fun k hk => ?_⟩
  obtain ⟨b, o, rfl, hlt, hc⟩ := h3 k hk
  exact ⟨b, o, rfl, Nat.lt_of_lt_of_le hlt hg.size, (hg.cell_far ⟨b, o + k, none⟩ hlt hne).trans hc⟩
theorem IsInts.grownNe {w w' : World} {v : Value} {l : List Int} {g : Nat} (h : IsInts w v l) (hg : w.grownBy w' (some g)) (hne : v.ownBlock ≠ some g) : IsInts w' v l := by
  obtain ⟨A, c, rfl, h1, h3⟩ := h
  refine ⟨A, c, rfl, h1, fun k hk => ?_⟩
  obtain ⟨b, o, rfl, hlt, hc⟩ := h3 k hk
  exact ⟨b, o, rfl, Nat.lt_of_lt_of_le hlt hg.size, (hg.cell_far ⟨b, o + k, none⟩ hlt hne).trans hc⟩
theorem Own.ne_blk {w : World} {B g : Nat} {e : TypeId} {v : Value} {l : List Value} (h : Own w B e v l) (hg : g < B) : v.ownBlock ≠ some g := fun he => by
  have := (h.blk_lt he).1; omega
theorem Own.stored {w : World} {B : Nat} {e : TypeId} {g c n : Nat} {l : List Value} (h : Own w B e (.slice (some ⟨g, 0, none⟩) n c) l) (hn : n = l.length) (j : Nat) (u : Value) :
    Own (w.setCell ⟨g, j, none⟩ u) B e (.slice (some ⟨g, 0, none⟩) n c) (l.set j u) := by
  subst hn
  have := (World.ownsRow.stored h j u).1
  unfold Own
  simpa using this
theorem Own.free {w : World} {B : Nat} {e : TypeId} {g c n : Nat} {l : List Value} (h : Own w B e (.slice (some ⟨g, 0, none⟩) n c) l) (hn : n = l.length) (j : Nat) : w.frozen? ⟨g, j, none⟩ = false := by
  subst hn
  exact World.ownsRow.frozenAt h j
end Go.Proofs.Ytlcanmofgjbcbaa
