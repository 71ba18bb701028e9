/- FixedLetters, ApplyPerm, ComposePerms (impl), rcThen; the number of fixed letters of a product of two keys is even. -/
import Derived.Test.YtnfeddnkokocfaaPermMore
import Derived.Test.YtnfeddnkokocfaaProd
import Derived.Test.YtnfeddnkokocfaaRounds
namespace Go.Proofs.Ytnfeddnkokocfaa
set_option linter.unusedVariables false
set_option linter.unusedSimpArgs false
open Go.RowKit
attribute [local go_sem] Ext.cell
open BigFrame

/-- the fixed letters below k -/
def fixL (f : Nat → Nat) : Nat → List Int
  | 0 => []
  | k + 1 => if f k = k then fixL f k ++ [97 + (k : Int)] else fixL f k
theorem fixL_succ (f : Nat → Nat) (k : Nat) : fixL f (k + 1) = if f k = k then fixL f k ++ [97 + (k : Int)] else fixL f k := rfl
theorem fixL_len (f : Nat → Nat) (k : Nat) : (fixL f k).length = ((List.range k).filter (fun i => decide (f i = i))).length := by
  induction k with
  | zero => rfl
  | succ k ih =>
    rw [List.range_succ, List.filter_append, List.length_append, ← ih]
    rw [fixL_succ]
    by_cases h : f k = k <;> simp [h]
theorem fixL_le (f : Nat → Nat) (k : Nat) : (fixL f k).length ≤ k := by
  rw [fixL_len]; exact Nat.le_trans (List.length_filter_le _ _) (by simp)
def fixS (f : Nat → Nat) : ByteArray := strOfNums (fixL f 10)
theorem fixS_size (f : Nat → Nat) : (fixS f).size = (fixL f 10).length := by unfold fixS; rw [strOfNums_size]
theorem fixS_congr {f g : Nat → Nat} (h : ∀ i, i < 10 → f i = g i) : fixS f = fixS g := by
  have : ∀ k, k ≤ 10 → fixL f k = fixL g k := fun k => by
    induction k with
    | zero => intro _; rfl
    | succ k ih => intro hk; rw [fixL_succ, fixL_succ, ih (by omega), h k (by omega)]
  unfold fixS; rw [this 10 (Nat.le_refl _)]
theorem fixB_size (f : Nat → Nat) : fixB f = true ↔ (fixS f).size ≠ 0 := by
  rw [fixB_iff, fixS_size, fixL_len]
  constructor
  · rintro ⟨i, hi, e⟩ h
    have := List.eq_nil_of_length_eq_zero h
    have hm : i ∈ (List.range 10).filter (fun i => decide (f i = i)) := List.mem_filter.2 ⟨List.mem_range.2 hi, decide_eq_true e⟩
    rw [this] at hm; cases hm
  · intro h
    obtain ⟨i, hi⟩ := List.exists_mem_of_length_pos (Nat.pos_of_ne_zero h)
    obtain ⟨h1, h2⟩ := List.mem_filter.1 hi
    exact ⟨i, List.mem_range.1 h1, of_decide_eq_true h2⟩
/-- a list that goes into itself by pairs is even -/
theorem even_of {σ : Nat → Nat} : ∀ (n : Nat) (L : List Nat), L.length = n → L.Nodup → (∀ x ∈ L, σ x ∈ L ∧ σ x ≠ x ∧ σ (σ x) = x) → n % 2 = 0 := by
  intro n
  induction n using Nat.strongRecOn with
  | ind n ih =>
    intro L hl hn hs
    cases L with
    | nil => simp at hl; omega
    | cons x L =>
      obtain ⟨h1, h2, h3⟩ := hs x (by simp)
      have hm : σ x ∈ L := by
        rcases List.mem_cons.1 h1 with h | h
        · exact absurd h h2
        · exact h
      have hx : x ∉ L := (List.nodup_cons.1 hn).1
      have hL : L.Nodup := (List.nodup_cons.1 hn).2
      have hp := List.length_pos_of_mem hm
      have hlen : (L.erase (σ x)).length = n - 2 := by
        rw [List.length_erase_of_mem hm]; simp at hl; omega
      have := ih (n - 2) (by simp at hl; omega) (L.erase (σ x)) hlen (hL.erase _) (fun y hy => by
        obtain ⟨hy1, hy2⟩ := hL.mem_erase_iff.1 hy
        obtain ⟨a, b, c⟩ := hs y (List.mem_cons_of_mem _ hy2)
        refine ⟨hL.mem_erase_iff.2 ⟨fun e => ?_, ?_⟩, b, c⟩
        · have : y = x := by rw [← c, e, h3]
          exact hx (this ▸ hy2)
        · rcases List.mem_cons.1 a with h | h
          · exact absurd (by rw [← c, h]) hy1
          · exact h)
      simp at hl
      omega
theorem fix_even {M : Mch} (s : ByteArray) (h : mB M = true) (i : Nat) : (fixS (prF M s i)).size % 2 = 0 := by
  rw [fixS_size, fixL_len]
  refine even_of (σ := kF M (it (stepS M.l) (i + 1) s)) _ _ rfl ((List.nodup_range).filter _) (fun x hx => ?_)
  obtain ⟨h1, h2⟩ := List.mem_filter.1 hx
  have hx10 := List.mem_range.1 h1
  have h3 : prF M s i x = x := of_decide_eq_true h2
  have ha := (kF_P (it (stepS M.l) (i + 1) s) h).1 x hx10
  have hi := kF_invol (it (stepS M.l) (i + 1) s) h hx10
  refine ⟨List.mem_filter.2 ⟨List.mem_range.2 ha, decide_eq_true ?_⟩, kF_ne _ h hx10, hi⟩
  unfold prF at h3 ⊢
  rw [hi]
  have := congrArg (kF M (it (stepS M.l) (i + s.size + 1) s)) h3
  rw [kF_invol _ h ha] at this
  exact this.symm
/-- a word by a permutation, letter by letter -/
def appS (p t : ByteArray) : ByteArray := mkS t.size (fun j => 97 + (pn p (dn t j) : Int))
theorem appS_size (p t : ByteArray) : (appS p t).size = t.size := mkS_size _ _
theorem appS_bt {p t : ByteArray} (hp : permB p = true) (ht : wv t = true) {j : Nat} (hj : j < t.size) : bt (appS p t) j = 97 + (pn p (dn t j) : Int) := by
  have := pn_lt hp (dn_spec ht hj).1
  exact bt_mkS _ _ _ hj (by omega) (by omega)
set_option maxHeartbeats 1000000 in
theorem c_ApplyPerm (p t : ByteArray) (w : World) (hp : permB p = true) (ht : wv t = true) : Calls Try.prog 46 #[.string p, .string t] w fun e w' => e = .returned (.string (appS p t)) ∧ Below w.heap.size w w' := by
  have HP := Lib.hid hp
  have HT := Lib.hid ht
  have HV := Lib.hid ((wv_iff t).1 ht)
  have hle : t.size ≤ 200 := HV.out.1
  have hzp : p.size ≤ 10 := by rw [permB_size hp]; omega
  clear hp ht
  go_enter Try.func46, Try.ntmps46
  go_wp2_with fail
  refine (c_permOf p _ (by omega)).mono ?_
  rintro e w1 ⟨rfl, hb1⟩
  rw [permR_ok HP.out]
  have N2 := Lib.hid (Blk.new w1 85 (permA fun i => (pn p i : Int)))
  have B2 := Lib.hid (ext_trans hb1 (ext_alloc w1 (.cells (permA fun i => (pn p i : Int)) 85)))
  have hlo : w.heap.size ≤ w1.heap.size := hb1.size
  have hzw : (w1.alloc (.cells (permA fun i => (pn p i : Int)) 85)).heap.size = w1.heap.size + 1 := by simp
  have HZW := Lib.hid hzw
  clear hb1 hzw
  go_wp2_with (first
    | (refine wpList_store_row rfl 85 _ _ rfl w1.heap.size _ rfl rfl 85 _ (heap_alloc_new w1 _) (by rw [permA_size]; exact size_perm) (by simp only [permA_size]; rfl) (permA_one _) ?_; rw [World.setRow_alloc_new])
    | (go_at_call 43; refine (c_WordValid _ _ (by omega)).mono ?_; rintro e w' ⟨rfl, rfl⟩; rw [HT.out])
    | (refine wpList_bytes _ rfl 9 61 5 _ rfl Try.underlying9 Try.underlying61 Try.underlying5 _ rfl ?_; intro cap w3 hrow hbw))
  rw [HZW.out] at hrow hbw
  have HR := Lib.hid hrow
  have K3 := Lib.hid (N2.out.ext (hbw.mono (by rw [HZW.out]; exact Nat.le_refl _)))
  have HB := Lib.hid (B2.out.trans (hbw.mono (by omega)))
  clear hrow hbw
  have hz3 : w1.heap.size + 1 < w3.heap.size := HR.out.1
  go_loopw [25] (fun i wr => ∃ k : Nat, k ≤ t.size ∧ i = .int .i64 k ∧ Row wr (w1.heap.size + 1) t.size (fun j => if j < k then 97 + (pn p (dn t j) : Int) else bt t j) ∧ Below w.heap.size w wr ∧ Blk wr w1.heap.size 85 (permA fun i => (pn p i : Int))) (fun i _ => t.size - (intOf i).toNat)
  case atStart => exact ⟨0, Nat.zero_le _, rfl, HR.out.congr (fun i _ => by simp), HB.out, K3.out⟩
  case round =>
    obtain ⟨k, hk, rfl, hrow, hb, hkp⟩ := hrel
    have HRW := Lib.hid hrow
    have HKP := Lib.hid hkp
    have HBB := Lib.hid hb
    by_cases hlt : k < t.size
    · have r1 := HV.out.2 k hlt
      obtain ⟨d1, d2⟩ := dn_spec HT.out hlt
      have hcell := hrow.cell hlt
      simp only [Nat.lt_irrefl, if_false] at hcell
      have hfree := hrow.free hlt
      have hpl := pn_lt HP.out d1
      have hpc := (hkp.cell (dn t k)).trans (permA_at (fun i => (pn p i : Int)) d1)
      obtain ⟨d, hd⟩ : ∃ d, dn t k = d := ⟨_, rfl⟩
      rw [hd] at d1 d2 hpl hpc
      obtain ⟨q, hq⟩ : ∃ q, pn p d = q := ⟨_, rfl⟩
      rw [hq] at hpl hpc
      rw [d2] at hcell
      have HD := Lib.hid hd
      have HQ := Lib.hid hq
      clear hrow hkp hb hd hq
      go_wp2_with fail
      refine (c_number _ _ (by omega) (by omega)).mono ?_
      rintro e w' ⟨rfl, rfl⟩
      go_wp2_with fail
      refine (c_letter _ _ (by omega) (by omega)).mono ?_
      rintro e w' ⟨rfl, rfl⟩
      go_wp2_with fail
      refine ⟨⟨k + 1, by omega, by go_num, (HRW.out.set hlt _).congr (fun j _ => ?_), HBB.out.setCell (p := ⟨w1.heap.size + 1, k, none⟩) (by simp; omega) _, HKP.out.grownR (grow_cell wr ⟨w1.heap.size + 1, k, none⟩ _) (by simp)⟩, by simp [intOf]; omega⟩
      by_cases e : j = k
      · subst e
        rw [if_pos rfl, if_pos (by omega), HD.out, HQ.out]
      · by_cases e2 : j < k
        · rw [if_neg e, if_pos e2, if_pos (by omega)]
        · rw [if_neg e, if_neg e2, if_neg (by omega)]
    · clear hrow hkp hb
      have hcv := conv_row (P := Try.prog) HRW.out 61 9 5 cap Try.underlying61 Try.underlying5 Try.underlying9
      have e : k = t.size := by omega
      subst e
      go_wp2_with fail
      go_ret
      exact ⟨by unfold appS; rw [mkS_congr (fun j hj => if_pos hj)]; rfl, HBB.out⟩
end Go.Proofs.Ytnfeddnkokocfaa
