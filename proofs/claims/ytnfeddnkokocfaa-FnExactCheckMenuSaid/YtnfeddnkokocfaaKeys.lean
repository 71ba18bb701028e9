/- KeyList, OwnPerm, in one text. -/
import Derived.Test.YtnfeddnkokocfaaEnc
import Derived.Maps.AppendAt
namespace Go.Proofs.Ytnfeddnkokocfaa
set_option linter.unusedVariables false
set_option linter.unusedSimpArgs false
/-! KeyList -/
section
open Go.RowKit

theorem Own.slice' {w : World} {B : Nat} {e : TypeId} {size n : Nat} {v : Value} {xs : List Value} (h : w.ownsRow B e size v n xs) : ∃ A c, v = .slice A n c := by
  rcases h.2 with ⟨rfl, e⟩ | ⟨g, cap, cur, rfl, _⟩
  · exact ⟨none, 0, by rw [e]⟩
  · exact ⟨_, cap, rfl⟩
theorem grown_weak {a b : World} (h : a.grownBy b none) (r : Nat) : a.grownBy b (some r) := ⟨h.os, h.tape, h.output, h.size, fun i hi _ => h.block i hi (by simp)⟩
/-- the list v, of n elements of type e, in the box BL -/
structure KJ (A : Option Addr) (cA : Nat) (M : Mch) (w : World) (b Bx BL lo : Nat) (tL e : TypeId) (size n : Nat) (xs : List Value) (v : Value) (W : World) : Prop where
  box : Blk W BL tL #[v]
  row : W.ownsRow w.heap.size e size v n xs
  ob : ∀ g, v.ownBlock = some g → lo ≤ g ∧ g < BL ∨ Bx + 4 ≤ g
  st : kSt A cA M b Bx (Bx + 1) W
  bel : Below w.heap.size w W
/-- where its blocks lie -/
structure KL (A : Option Addr) (w : World) (b Bx BL lo : Nat) : Prop where
  h1 : w.heap.size ≤ lo
  h2 : lo ≤ BL
  h3 : BL < b
  h4 : b < Bx
  hA : ∀ b o, A = some ⟨b, o, none⟩ → b < w.heap.size
section
variable {A : Option Addr} {cA : Nat} {M : Mch} {w : World} {b Bx BL lo : Nat} {tL e : TypeId} {size n : Nat} {xs : List Value} {v : Value} {W : World}
theorem KJ.grownR {r : Nat} {W' : World} (h : KJ A cA M w b Bx BL lo tL e size n xs v W) (hg : W.grownBy W' (some r)) (hr : Bx < r) (hr2 : r < Bx + 4) (hL : KL A w b Bx BL lo) : KJ A cA M w b Bx BL lo tL e size n xs v W' := by
  obtain ⟨h1, h2, h3, h4, hA⟩ := hL
  refine ⟨h.box.grownR hg (by omega), World.ownsRow.kept h.row hg ?_, h.ob, h.st.grownR hg (by omega) (by omega) (fun b' o e => by have := hA b' o e; omega), below_grown h.bel hg (Nat.le_refl _) (by omega)⟩
  rcases hv : v.ownBlock with _ | g
  · exact .inl rfl
  · refine .inr fun e => ?_
    injection e with e
    have := h.ob g hv
    omega
theorem KJ.ext {W' : World} (h : KJ A cA M w b Bx BL lo tL e size n xs v W) (hb : Below W.heap.size W W') : KJ A cA M w b Bx BL lo tL e size n xs v W' := by
  refine ⟨h.box.ext hb, World.ownsRow.kept (row := none) h.row ⟨hb.os, hb.tape, hb.output, hb.size, fun k hk _ => hb.block k hk⟩ ?_, h.ob, h.st.ext hb, ext_trans h.bel hb⟩
  rcases hv : v.ownBlock with _ | g
  · exact .inl rfl
  · exact .inr (by simp)
theorem KJ.congr {xs' : List Value} (h : KJ A cA M w b Bx BL lo tL e size n xs v W) (hx : xs = xs') : KJ A cA M w b Bx BL lo tL e size n xs' v W := hx ▸ h
theorem KJ.app {m : Nat} {news : List Value} {v' : Value} {W' : World} (h : KJ A cA M w b Bx BL lo tL e size n xs v W) (hL : KL A w b Bx BL lo) (hrow : W'.ownsRow w.heap.size e size v' (n + m) (xs ++ news)) (hg : W.grownBy W' v.ownBlock)
    (hob : v'.ownBlock = v.ownBlock ∨ v'.ownBlock = some W.heap.size) (hz : Bx + 4 ≤ W.heap.size) : KJ A cA M w b Bx BL lo tL e size (n + m) (xs ++ news) v' (W'.setCell ⟨BL, 0, none⟩ v') := by
  obtain ⟨h1, h2, h3, h4, hA⟩ := hL
  obtain ⟨r, hr, hr2⟩ : ∃ r, W.grownBy W' (some r) ∧ (lo ≤ r ∧ r < BL ∨ Bx + 4 ≤ r) := by
    rcases hv : v.ownBlock with _ | g
    · rw [hv] at hg; exact ⟨W.heap.size, grown_weak hg _, .inr hz⟩
    · rw [hv] at hg; exact ⟨g, hg, h.ob g hv⟩
  have hob' : ∀ g, v'.ownBlock = some g → lo ≤ g ∧ g < BL ∨ Bx + 4 ≤ g := fun g hg' => by
    rcases hob with e | e
    · exact h.ob g (by rw [← e]; exact hg')
    · rw [e] at hg'; injection hg' with hg'; omega
  have hst := h.st.grownR hr (by omega) (by omega) (fun b' o e => by have := hA b' o e; omega)
  have hg2 := grow_cell W' ⟨BL, 0, none⟩ v'
  refine ⟨(h.box.grownR hr (by omega)).set 0 v', World.ownsRow.kept hrow hg2 ?_, hob', hst.grownR hg2 (by simp; omega) (by simp; omega) (fun b' o e => by have := hA b' o e; simp; omega), ?_⟩
  · rcases hv : v'.ownBlock with _ | g
    · exact .inl rfl
    · refine .inr fun e => ?_
      injection e with e
      have := hob' g hv
      simp at e
      omega
  · exact below_grown (below_grown h.bel hr (Nat.le_refl _) (by omega)) hg2 (Nat.le_refl _) (by simp; omega)
theorem KJ.boxAt {W' : World} (h : KJ A cA M w b Bx BL lo tL e size n xs v W) (hL : KL A w b Bx BL lo) (hg : W.grownBy W' v.ownBlock) : Blk W' BL tL #[v] := by
  obtain ⟨h1, h2, h3, h4, hA⟩ := hL
  refine h.box.grown hg ?_
  rcases hv : v.ownBlock with _ | g
  · simp
  · intro e
    injection e with e
    have := h.ob g hv
    omega
/-- an older block stays as it is -/
theorem KJ.old {W' : World} {c : Nat} {t : TypeId} {cs : Array Value} (h : KJ A cA M w b Bx BL lo tL e size n xs v W) (hL : KL A w b Bx BL lo) (hg : W.grownBy W' v.ownBlock) (hk : Blk W c t cs) (hc : c < lo) (u : Value) : Blk (W'.setCell ⟨BL, 0, none⟩ u) c t cs := by
  obtain ⟨h1, h2, h3, h4, hA⟩ := hL
  refine (hk.grown hg ?_).far (p := ⟨BL, 0, none⟩) (by simp; omega) u
  rcases hv : v.ownBlock with _ | g
  · simp
  · intro e
    injection e with e
    have := h.ob g hv
    omega
theorem KJ.stays {W' : World} (h : KJ A cA M w b Bx BL lo tL e size n xs v W) (hL : KL A w b Bx BL lo) (hg : W.grownBy W' v.ownBlock) (u : Value) : Stays (Bx + 1) W (W'.setCell ⟨BL, 0, none⟩ u) := by
  obtain ⟨h1, h2, h3, h4, hA⟩ := hL
  have hne : ∀ g, v.ownBlock = some g → g ≠ Bx + 1 := fun g hv => by have := h.ob g hv; omega
  have hlt : Bx + 1 < W.heap.size := h.st.2.2.1
  have S1 : Stays (Bx + 1) W W' := by
    refine ⟨KeepsOthers.of_grownBy hg (fun j o hj ho => ?_), ?_, ?_⟩
    · rcases h.row.2 with ⟨rfl, _⟩ | ⟨g, cap, cur, rfl, _, hh, _⟩
      · cases hj
      · have e1 : g = j := by simpa [Value.ownBlock] using hj
        subst e1
        rw [hh] at ho
        injection ho with ho
        subst ho
        rfl
    · refine hg.cell_far ⟨Bx + 1, 0, none⟩ hlt ?_
      rcases hv : v.ownBlock with _ | g
      · simp
      · have := hne g hv; simp; omega
    · refine hg.frozen_far ⟨Bx + 1, 0, none⟩ hlt ?_
      rcases hv : v.ownBlock with _ | g
      · simp
      · have := hne g hv; simp; omega
  exact S1.set (p := ⟨BL, 0, none⟩) (by simp; omega) u
end
theorem Stays.trans {Bw : Nat} {a b c : World} (h : Stays Bw a b) (k : Stays Bw b c) : Stays Bw a c := ⟨h.1.trans k.1, k.2.1.trans h.2.1, k.2.2.trans h.2.2⟩
/-- append of one element in a round: at the built-in, its cells lying in block gb -/
theorem inAppend {F : Fence} (hF : WideF F) {m : Nat} {P : Program} {w : World} {ops : Array Oper} {rest : List Oper} {o : Oper} {a : Act} {Q : Exit → Act → World → Prop} (hgd : o.guard = none) (s x : Operand) (t : TypeId)
    (ho : o.op = .call { callee := .builtin .append, args := #[s, x], argTypes := #[t, t] })
    (B : Nat) (e : TypeId) {z : Value} {size bytes : Nat} (ht : P.underlying t = some (.slice e)) (hinfo : (P.info? e).map (fun i => (i.zero, i.size, i.bytes)) = some (some z, size, bytes)) (hzs : z.cells.size = size) (hsz : 0 < size)
    (v : Value) (n : Nat) (xs : List Value) (hs : a.eval s = v) (hown : w.ownsRow B e size v n xs) (news : List Value) (gb : Nat) (hx : a.eval x = .slice (some ⟨gb, 0, none⟩) 1 1) (hl : news.length = size)
    (hnews : ∀ j u, news[j]? = some u → w.cell? ⟨gb, j, none⟩ = some u) (h1 : ∀ u ∈ news, u.oneCell' = true) (hlen : n ≤ 1000000) (hby : bytes ≤ 1000) (hbase : B ≤ w.heap.size)
    (h : ∀ v' w', w'.ownsRow B e size v' (n + 1) (xs ++ news) → w.grownBy w' v.ownBlock → (v'.ownBlock = v.ownBlock ∨ v'.ownBlock = some w.heap.size) → wpListIn F m P ops Q rest (a.put o.dst v') w') :
    wpListIn F m P ops Q (o :: rest) a w := by
  refine wpListIn_lift hF hgd (fun c e => by rw [ho] at e; cases e) fun K hK => ?_
  obtain ⟨i, hi, hz0, hz1, hz2⟩ := info_parts hinfo
  have hb : (n + 1) * bytes ≤ 140737488355328 := by
    have : (n + 1) * bytes ≤ 1000001 * 1000 := Nat.mul_le_mul (by omega) hby
    omega
  obtain ⟨v', w', hr, h2, h3, h4, h5⟩ := run_append_own_at (P := P) (w := w) B t o.type e i z size bytes ht hi hz0 hz1 hz2 hzs hsz v n xs hown ⟨gb, 0, none⟩ 1 1 news (by omega) (fun j u hj => by
    have e1 : (⟨gb, 0, none⟩ : Addr).add j = ⟨gb, j, none⟩ := by unfold Addr.add; split <;> simp_all
    rw [e1]; exact hnews j u hj) h1 (by unfold maxLen; omega) hb hbase
  unfold Oper.wp execOp
  simp only [ho, resolve, invoke, builtin, Sem.run_bind, Sem.run_pure, Result.andThen_ok, List.map_toArray, List.map_cons, List.map_nil, hs, hx, hr]
  exact hK _ _ (h v' w' h2 h3 h5)
end
/-! OwnPerm -/
section
open Go.RowKit

/-- cell j of a row of permutations -/
def cellP (f : Nat → Nat → Nat) (j : Nat) : Value := .int .u8 (f (j / 10) (j % 10) : Int)
/-- n permutations, as cells -/
def rowP (f : Nat → Nat → Nat) (n : Nat) : List Value := rngV (cellP f) (n * 10)
theorem rowP_congr {f g : Nat → Nat → Nat} {n : Nat} (h : ∀ i, i < n → ∀ x, x < 10 → f i x = g i x) : rowP f n = rowP g n :=
  rngV_congr fun j hj => by unfold cellP; rw [h _ (by omega) _ (by omega)]
theorem rowP_succ (f : Nat → Nat → Nat) (n : Nat) : rowP f (n + 1) = rowP f n ++ (permA fun x => (f n x : Int)).toList := by
  unfold rowP rngV permA
  rw [Nat.add_mul, Nat.one_mul, List.range_add, List.map_append]
  congr 1
  rw [List.map_map]
  show List.map (cellP f ∘ fun x => n * 10 + x) (List.range 10) = List.map (fun i => Value.int IntKind.u8 ((f n i : Nat) : Int)) (List.range 10)
  refine List.map_congr_left fun x hx => ?_
  have hx10 := List.mem_range.1 hx
  show cellP f (n * 10 + x) = _
  unfold cellP
  rw [show (n * 10 + x) / 10 = n by omega, show (n * 10 + x) % 10 = x by omega]
theorem rowP_zero (f : Nat → Nat → Nat) : rowP f 0 = [] := rfl
theorem permA_list (f : Nat → Int) : (permA f).toList.length = 10 := by simp [permA]
theorem permA_cell {f : Nat → Int} {j : Nat} {u : Value} (h : (permA f).toList[j]? = some u) : j < 10 ∧ u = .int .u8 (f j) := by
  have hj : j < 10 := by have := (List.getElem?_eq_some_iff.1 h).1; rwa [permA_list] at this
  refine ⟨hj, ?_⟩
  have := permA_at f hj
  rw [← Array.getElem?_toList, h] at this
  injection this
theorem permA_ones (f : Nat → Int) : ∀ u ∈ (permA f).toList, u.oneCell' = true := by
  intro u hu
  unfold permA at hu
  obtain ⟨i, _, rfl⟩ := List.mem_map.1 hu
  rfl
/-- v is a slice of n permutations -/
def IsPs (w : World) (v : Value) (n : Nat) (f : Nat → Nat → Nat) : Prop := ∃ A c, v = .slice A n c ∧ n ≤ 1000000 ∧ ∀ k, k < n → ∃ g, A = some ⟨g, 0, none⟩ ∧ PermAt w g (k * 10) (fun x => (f k x : Int))
theorem IsPs.ext {w w' : World} {v : Value} {n : Nat} {f : Nat → Nat → Nat} (h : IsPs w v n f) (hb : Below w.heap.size w w') : IsPs w' v n f := by
  obtain ⟨A, c, rfl, h1, h2⟩ := h
  exact ⟨A, c, rfl, h1, fun k hk => by obtain ⟨g, e, hp⟩ := h2 k hk; exact ⟨g, e, hp.ext hb⟩⟩
theorem IsPs.form {w : World} {v : Value} {n : Nat} {f : Nat → Nat → Nat} (h : IsPs w v n f) : ∃ A c, v = .slice A n c := by
  obtain ⟨A, c, rfl, h1, h2⟩ := h; exact ⟨A, c, rfl⟩
theorem IsPs.at_ {w : World} {A : Option Addr} {n n' c : Nat} {f : Nat → Nat → Nat} (h : IsPs w (.slice A n' c) n f) {k : Nat} (hk : k < n) : ∃ g, A = some ⟨g, 0, none⟩ ∧ g < w.heap.size ∧ PermAt w g (k * 10) (fun x => (f k x : Int)) := by
  obtain ⟨A', c', e, h1, h2⟩ := h
  injection e with e1 e2 e3
  subst e1
  obtain ⟨g, e, hp⟩ := h2 k hk
  exact ⟨g, e, hp.1, hp⟩
theorem ownP_is {w : World} {B n : Nat} {v : Value} {f : Nat → Nat → Nat} (h : w.ownsRow B 85 10 v n (rowP f n)) (hn : n ≤ 1000000) : IsPs w v n f := by
  rcases h.2 with ⟨rfl, rfl⟩ | ⟨g, cap, cur, rfl, hb, hg, _⟩
  · exact ⟨none, 0, rfl, hn, fun k hk => by omega⟩
  · refine ⟨_, cap, rfl, hn, fun k hk => ⟨g, rfl, (Array.getElem?_eq_some_iff.1 hg).1, fun j v hv => ?_⟩⟩
    have hj : j < 10 := by have := (List.getElem?_eq_some_iff.1 hv).1; simpa using this
    rw [World.ownsRow.cellAt h (k * 10 + j) (by omega)]
    unfold rowP
    rw [rngV_at _ (by omega)]
    rw [List.getElem?_map, List.getElem?_range hj] at hv
    rw [← hv]
    unfold cellP
    rw [show (k * 10 + j) / 10 = k by omega, show (k * 10 + j) % 10 = j by omega]
    rfl
end
end Go.Proofs.Ytnfeddnkokocfaa
