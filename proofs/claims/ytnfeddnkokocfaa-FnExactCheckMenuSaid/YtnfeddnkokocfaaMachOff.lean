/- Contract of offsets (impl). -/
import Derived.Test.YtnfeddnkokocfaaMachine
import Derived.Test.YtnfeddnkokocfaaSpecPerm
import Derived.Test.YtnfeddnkokocfaaExact
namespace Go.Proofs.Ytnfeddnkokocfaa
set_option linter.unusedVariables false
set_option linter.unusedSimpArgs false
open Go.RowKit
attribute [local go_sem] Ext.cell
open BigFrame

theorem MW.far {w W : World} {b : Nat} {A : Option Addr} {cA : Nat} {M : Mch} (h : MW w b A cA M W) {p : Addr} (hb : b < p.block) (hr : ∀ b o, A = some ⟨b, o, none⟩ → b < p.block) (hw : w.heap.size ≤ p.block) (u : Value) : MW w b A cA M (W.setCell p u) := by
  have hbl : Below p.block W (W.setCell p u) := (Below.refl _ _).setCell (Nat.le_refl _) u
  refine ⟨(hbl.cell (p := ⟨b, 0, none⟩) hb).trans h.c0, (hbl.cell (p := ⟨b, 1, none⟩) hb).trans h.c1, (hbl.cell (p := ⟨b, 2, none⟩) hb).trans h.c2, (hbl.cell (p := ⟨b, 3, none⟩) hb).trans h.c3, by simpa [World.setCell] using h.lt, ?_, h.bel.setCell hw u⟩
  obtain ⟨A', c, e, h1, h2, h3⟩ := h.rot
  refine ⟨A', c, e, h1, h2, fun k hk => ?_⟩
  obtain ⟨b', o, e', hlt, hc, hd⟩ := h3 k hk
  have e1 : A = A' := by injection e
  have hb' : b' < p.block := hr b' o (e1.trans e')
  exact ⟨b', o, e', by simpa [World.setCell] using hlt, (hbl.cell (p := ⟨b', o + k * 2, none⟩) hb').trans hc, (hbl.cell (p := ⟨b', o + k * 2 + 1, none⟩) hb').trans hd⟩
theorem IsRots.blk {w : World} {A : Option Addr} {n cA : Nat} {l : List Rot} (h : IsRots w (.slice A n cA) l) (hl : 0 < l.length) : ∃ b o, A = some ⟨b, o, none⟩ ∧ b < w.heap.size := by
  obtain ⟨b, o, e, hlt, _⟩ := h.at_ hl
  exact ⟨b, o, e, hlt⟩
/-- the offsets, as a list -/
def ofL (M : Mch) (s : ByteArray) : List Int := (List.range s.size).map (fun i => (ofF M s i : Int))
theorem ofL_len (M : Mch) (s : ByteArray) : (ofL M s).length = s.size := by simp [ofL]
theorem ofL_at (M : Mch) (s : ByteArray) {i : Nat} (hi : i < s.size) : gI (ofL M s) i = (ofF M s i : Int) := by
  unfold gI ofL; rw [List.getD_eq_getElem?_getD, List.getElem?_map, List.getElem?_range hi]; rfl
set_option maxHeartbeats 1000000 in
set_option maxRecDepth 100000 in
theorem c_offsets (A : Option Addr) (cA : Nat) (M : Mch) (s : ByteArray) (w : World) (hR : IsRots w (.slice A M.l.length cA) M.l) (h : setB M s = true) : Calls Try.prog 151 #[mV A cA M, .string s] w fun e w' => ∃ v, e = .returned v ∧ IsInts w' v (ofL M s) ∧ Below w.heap.size w w' := by
  obtain ⟨h1, h2, h3⟩ := (setB_iff M s).1 h
  obtain ⟨f1, f2, f3, f4⟩ := win_facts (setB_win h)
  have hrg := ((winB_iff _ _ _).1 ((mB_iff M).1 h1).1).2.1
  obtain ⟨b0, o0, hA, hb0⟩ := hR.blk (by omega)
  have L0 := Lib.hid (MW.start M (Below.refl w.heap.size w) hR)
  have HS := Lib.hid h2
  have HG := Lib.hid hrg
  have H3 := Lib.hid h3
  have hA' : ∀ b o, A = some ⟨b, o, none⟩ → b < w.heap.size := fun b o e => by rw [hA] at e; injection e with e; injection e with e; omega
  have HA := Lib.hid hA'
  have hgs : M.rg.size ≤ 3 := by omega
  clear hR h h1 h2 h3 hrg f3 f4 hA hA'
  go_enter Try.func151, Try.ntmps151
  go_wp2_with (
    refine makeN _ rfl _ _ _ rfl (w.heap.size + 1) 3 Try.underlying69 info_int rfl _ _ _ _ s.size rfl rfl rfl rfl (by omega) (by omega) (by simp) ?_
    intro w1 hown hb1
    have O1 := Lib.hid hown
    have L1 := Lib.hid (L0.out.ext hb1)
    clear hown hb1)
  simp only [World.size_alloc] at O1 ⊢
  go_loopw [12] (fun i wr => ∃ k : Nat, k ≤ s.size ∧ i = .int .i64 k ∧ MW w w.heap.size A cA M wr ∧ Own wr (w.heap.size + 1) 3 (.slice (some ⟨w.heap.size + 1, 0, none⟩) s.size s.size) (rngV (fun j => .int .i64 (if j < k then (ofF M s j : Int) else 0)) s.size)) (fun i _ => s.size - (intOf i).toNat)
  case atStart =>
    refine ⟨0, Nat.zero_le _, rfl, L1.out, ?_⟩
    have := O1.out
    rw [rngV_repl] at this
    exact this
  case round =>
    obtain ⟨k, hk, rfl, hL, ho⟩ := hrel
    have L2 := Lib.hid hL
    have O2 := Lib.hid ho
    clear hL ho L1 O1 L0
    by_cases hlt : k < s.size
    · have r1 := ((wv_iff s).1 HS.out).2 k hlt
      have hkg : k < M.rg.size := by have := H3.out; omega
      have r2 := ((wv_iff M.rg).1 HG.out).2 k hkg
      have hb1 := bt_get s k hlt
      have hb2 := bt_get M.rg k hkg
      have c2 := L2.out.c2
      have hbl := L2.out.lt
      obtain ⟨q, hq⟩ : ∃ q, ofF M s k = q := ⟨_, rfl⟩
      have HQ := Lib.hid hq
      have hq2 : q = ((bt s k - 97).toNat + 10 - (bt M.rg k - 97).toNat) % 10 := by rw [← hq]; rfl
      have e1 : IntKind.i64.wrap (bt s k - 97 - (bt M.rg k - 97)) = bt s k - 97 - (bt M.rg k - 97) := IntWalk.i64_in _ (by omega)
      have e2 : IntKind.i64.wrap (bt s k - 97 - (bt M.rg k - 97) + 10) = bt s k - 97 - (bt M.rg k - 97) + 10 := IntWalk.i64_in _ (by omega)
      have e3 : (bt s k - 97 - (bt M.rg k - 97) + 10).tmod 10 = (q : Int) := by rw [Int.tmod_eq_emod_of_nonneg (by omega)]; omega
      have i1 : (0 : Int) ≤ (k : Int) := by omega
      have i2 : (k : Int) < (s.size : Int) := by omega
      have i3 : (k : Int) < (M.rg.size : Int) := by omega
      clear hq hq2
      go_wp2_with fail
      refine wp_region_ext_tail 15 (by kernel_rfl) (by kernel_rfl) ?_
      dsimp only [List.take, List.drop]
      repeat (go_big_quiet_step ((first
        | (go_at_call 83; exact Ext.same _ (c_number _ _ (by omega) (by omega))))))
      refine wpQuiet_nil ?_
      rintro _ ⟨⟨w4, hb4⟩, rfl⟩
      have L4 := Lib.hid (L2.out.ext hb4)
      have O4 := Lib.hid (O2.out.ext hb4)
      obtain ⟨g', c', he, _, _, hc4⟩ := O4.out.at_ (k := k) (u := .int .i64 0) (by rw [rngV_at _ hlt, if_neg (Nat.lt_irrefl k)])
      injection he with he; injection he with he; injection he with he
      subst he
      have hf4 := O4.out.free (by rw [rngV_len]) k
      clear hb4 e1 e2 e3 c2
      go_wp2_with fail
      refine ⟨⟨k + 1, by omega, by go_num, L4.out.far (p := ⟨w.heap.size + 1, k, none⟩) (by simp) (fun b o e => by have := HA.out b o e; simp; omega) (by simp) _, ?_⟩, by simp [intOf]; omega⟩
      have := O4.out.stored (by rw [rngV_len]) k (.int .i64 (q : Int))
      rw [rngV_set (g := fun j => .int .i64 (if j < k + 1 then (ofF M s j : Int) else 0))] at this
      · exact this
      · intro i hi
        by_cases e : i = k
        · subst e; rw [if_pos rfl, if_pos (by omega), HQ.out]
        · rw [if_neg e]
          by_cases e2 : i < k
          · rw [if_pos e2, if_pos (by omega)]
          · rw [if_neg e2, if_neg (by omega)]
    · have e : k = s.size := by omega
      subst e
      go_wp2_with fail
      go_ret
      refine ⟨_, rfl, ?_, L2.out.bel⟩
      have := O2.out
      rw [rngV_congr (g := fun j => .int .i64 (ofF M s j : Int)) (fun i hi => by rw [if_pos hi]), rngV_ints] at this
      exact this.ints (by simp; omega)
end Go.Proofs.Ytnfeddnkokocfaa
