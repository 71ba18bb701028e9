/- isOffset, offsetsValid, Wheels.through, Wheels.scramble, ScrambleAt, rcScramble. -/
import Derived.Test.YtnfeddnkokocfaaLawSteps
import Derived.Test.YtnfeddnkokocfaaAsmA
import Derived.Test.YtnfeddnkokocfaaQT
import Derived.Test.YtnfeddnkokocfaaRounds
import Derived.Test.YtnfeddnkokocfaaDrawR
namespace Go.Proofs.Ytnfeddnkokocfaa
set_option linter.unusedVariables false
set_option linter.unusedSimpArgs false
open Go.RowKit
attribute [local go_sem] Ext.cell
open BigFrame

/-- offsets as a list -/
def ofX (of : Nat → Nat) (n : Nat) : List Int := (List.range n).map (fun i => (of i : Int))
theorem ofX_len (of : Nat → Nat) (n : Nat) : (ofX of n).length = n := by simp [ofX]
theorem ofX_at (of : Nat → Nat) {n i : Nat} (hi : i < n) : gI (ofX of n) i = (of i : Int) := by
  unfold gI ofX; rw [List.getD_eq_getElem?_getD, List.getElem?_map, List.getElem?_range hi]; rfl
theorem cell_of_blockS {w w' : World} {b o : Nat} (h : w'.heap[b]? = w.heap[b]?) : w'.cell? ⟨b, o, none⟩ = w.cell? ⟨b, o, none⟩ := by
  unfold World.cell?; simp only [h]
theorem rots_keepS {w0 w w' : World} {v : Value} {l : List Rot} {r : Option Nat} (h : IsRots w v l) (hold : IsRots w0 v l) (hg : w.grownBy w' r) (hr : ∀ g, r = some g → w0.heap.size ≤ g) : IsRots w' v l := by
  obtain ⟨A, c, rfl, h1, h2, h3⟩ := h
  refine ⟨A, c, rfl, h1, h2, fun k hk => ?_⟩
  obtain ⟨b, o, e, hb, hc, hd⟩ := h3 k hk
  obtain ⟨b', o', e', hb', _⟩ := hold.at_ hk
  have e2 : b' = b := by rw [e] at e'; injection e' with e'; injection e' with e'; exact e'.symm
  subst e2
  have hbl := hg.block b' hb (fun e => by have := hr b' e.symm; omega)
  exact ⟨b', o, e, Nat.lt_of_lt_of_le hb hg.size, (cell_of_blockS hbl).trans hc, (cell_of_blockS hbl).trans hd⟩
theorem ints_keepS {w0 w w' : World} {v : Value} {l : List Int} {r : Option Nat} (h : IsInts w v l) (hold : IsInts w0 v l) (hg : w.grownBy w' r) (hr : ∀ g, r = some g → w0.heap.size ≤ g) : IsInts w' v l := by
  obtain ⟨A, c, rfl, h1, h3⟩ := h
  refine ⟨A, c, rfl, h1, fun k hk => ?_⟩
  obtain ⟨b, o, e, hb, hc⟩ := h3 k hk
  obtain ⟨b', o', e', hb', _⟩ := hold.at_ hk
  have e2 : b' = b := by rw [e] at e'; injection e' with e'; injection e' with e'; exact e'.symm
  subst e2
  have hbl := hg.block b' hb (fun e => by have := hr b' e.symm; omega)
  exact ⟨b', o, e, Nat.lt_of_lt_of_le hb hg.size, (cell_of_blockS hbl).trans hc⟩
theorem LW.rowS {w W W' : World} {b r : Nat} {A : Option Addr} {cA : Nat} {l : List Rot} {rf : ByteArray} (h : LW w b A cA l rf W) (hold : IsRots w (.slice A l.length cA) l) (hg : W.grownBy W' (some r)) (hr : r ≠ b) (hw : w.heap.size ≤ r) : LW w b A cA l rf W' :=
  have hbl := hg.block b h.lt (fun e => hr (by injection e with e; exact e.symm))
  ⟨(cell_of_blockS hbl).trans h.c0, (cell_of_blockS hbl).trans h.c1, Nat.lt_of_lt_of_le h.lt hg.size, rots_keepS h.rot hold hg (fun g e => by injection e with e; omega), below_of_grown h.bel hg hw⟩
theorem c_isOffset (d : Nat) (w : World) (hd : d < 10) : Calls Try.prog 160 #[.int .i64 (d : Int)] w fun e w' => e = .returned (.bool true) ∧ w = w' := by
  have i0 : (0 : Int) ≤ d := by omega
  have i1 : (d : Int) < 10 := by omega
  go_enter Try.func160, Try.ntmps160
  go_wp2_with fail
  go_ret
  exact ⟨by simp [hd], rfl⟩
set_option maxHeartbeats 1000000 in
set_option maxRecDepth 100000 in
theorem c_offsetsValid (A AO : Option Addr) (cA cO : Nat) (l : List Rot) (rf : ByteArray) (of : Nat → Nat) (w : World) (hR : IsRots w (.slice A l.length cA) l) (hI : IsInts w (.slice AO l.length cO) (ofX of l.length)) (hv : wheelsB l rf = true) (hof : ∀ i, i < l.length → of i < 10) (h3 : l.length ≤ 3) (hf : rf.size ≤ 9223372036854775807) :
    Calls Try.prog 133 #[.agg #[.slice A l.length cA, .string rf], .slice AO l.length cO] w fun e w' => e = .returned (.bool true) ∧ Below w.heap.size w w' := by
  have L0 := Lib.hid (LW.start rf (Below.refl w.heap.size w) hR)
  have I0 := Lib.hid (hI.ext (ext_alloc w (.cells #[.slice A l.length cA, .string rf] 31)))
  have HV := Lib.hid hv
  have HOF : Hid (∀ i, i < l.length → of i < 10) := hof
  clear hR hI hv hof
  go_enter Try.func133, Try.ntmps133
  have x0 := L0.out.c0
  have x1 := L0.out.c1
  go_wp2_with fail
  refine (c_WheelsValid _ l rf _ L0.out.rot hf).mono ?_
  rintro e w1 ⟨rfl, hb1⟩
  rw [HV.out]
  have L1 := Lib.hid (L0.out.ext hb1)
  have I1 := Lib.hid (I0.out.ext hb1)
  clear hb1 x0 x1 L0 I0
  have x0 := L1.out.c0
  have x1 := L1.out.c1
  go_wp2_with fail
  go_loopw [20] (fun i wr => ∃ k : Nat, k ≤ l.length ∧ i = .int .i64 k ∧ Below w.heap.size w wr ∧ IsInts wr (.slice AO l.length cO) (ofX of l.length)) (fun i _ => l.length - (intOf i).toNat)
  case atStart => exact ⟨0, Nat.zero_le _, rfl, L1.out.bel, I1.out⟩
  case round =>
    obtain ⟨k, hk, rfl, hb, hI⟩ := hrel
    have B := Lib.hid hb
    have I := Lib.hid hI
    by_cases hlt : k < l.length
    · obtain ⟨b, o, rfl, hb', hc⟩ := hI.at_ (k := k) (by rw [ofX_len]; exact hlt)
      rw [ofX_at of hlt] at hc
      have hd := HOF.out k hlt
      obtain ⟨d, hdd⟩ : ∃ d, of k = d := ⟨_, rfl⟩
      rw [hdd] at hc hd
      have i0 : (0 : Int) ≤ k := by omega
      have i1 : (k : Int) < l.length := by omega
      clear hb hI hdd x0 x1 L1 I1
      go_wp2_with fail
      refine (c_isOffset d _ hd).mono ?_
      rintro e w' ⟨rfl, rfl⟩
      go_wp2_with fail
      exact ⟨⟨k + 1, by omega, by go_num, B.out, I.out⟩, by simp [intOf]; omega⟩
    · have e : k = l.length := by omega
      subst e
      go_wp2_with fail
      go_ret
      exact ⟨rfl, B.out⟩
set_option maxHeartbeats 1000000 in
set_option maxRecDepth 100000 in
theorem c_through (A AO : Option Addr) (cA cO : Nat) (l : List Rot) (rf : ByteArray) (of : Nat → Nat) (w : World) (hR : IsRots w (.slice A l.length cA) l) (hI : IsInts w (.slice AO l.length cO) (ofX of l.length)) (hp : ∀ i, i < l.length → permB (gR l i).1 = true) (hof : ∀ i, i < l.length → of i < 10) (h3 : l.length ≤ 3) :
    Calls Try.prog 161 #[.agg #[.slice A l.length cA, .string rf], .slice AO l.length cO] w fun e w' => e = .returned (pV (wayF l of l.length (fun y => y))) ∧ Below w.heap.size w w' := by
  have L0 := Lib.hid ((LW.start rf (Below.refl w.heap.size w) hR).ext (ext_alloc _ (.cells (permA fun _ => 0) 85)))
  have KR0 := Lib.hid (Blk.new (w.alloc (.cells #[.slice A l.length cA, .string rf] 31)) 85 (permA fun _ => 0))
  rw [World.size_alloc] at KR0
  have I0 := Lib.hid (hI.ext ((ext_alloc w (.cells #[.slice A l.length cA, .string rf] 31)).alloc (by simp) (.cells (permA fun _ => 0) 85)))
  have HR0 := Lib.hid hR
  have HI0 := Lib.hid hI
  have HP : Hid (∀ i, i < l.length → permB (gR l i).1 = true) := hp
  have HOF : Hid (∀ i, i < l.length → of i < 10) := hof
  clear hR hI hp hof
  go_enter Try.func161, Try.ntmps161
  go_wp2_with fail
  simp only [permA_zero]
  refine (c_identity _).mono ?_
  rintro e w1 ⟨rfl, hb1⟩
  have L1 := Lib.hid ((L0.out.ext hb1).ext (ext_alloc w1 (.cells (permA fun i => (i : Int)) 85)))
  have KR1 := Lib.hid ((KR0.out.ext hb1).alloc (.cells (permA fun i => (i : Int)) 85))
  have I1 := Lib.hid ((I0.out.ext hb1).ext (ext_alloc w1 (.cells (permA fun i => (i : Int)) 85)))
  have P1 := Lib.hid (Blk.new w1 85 (permA fun i => (i : Int)))
  have hkl := (KR0.out.ext hb1).lt
  have x0 := L1.out.c0
  clear hb1 L0 KR0 I0
  go_wp2_with (refine wpList_store_row rfl 85 _ _ rfl w1.heap.size _ rfl rfl 85 _ (heap_alloc_new w1 _) (by rw [permA_size]; exact size_perm) (by simp only [permA_size]; rfl) (permA_one _) ?_; rw [World.setRow_alloc_new])
  go_loopw [6] (fun i wr => ∃ (z : Int) (k : Nat) (g : Nat → Nat), i = .int .i64 z ∧ z = (k : Int) - 1 ∧ k ≤ l.length ∧ IsP g ∧ wayF l of k g = wayF l of l.length (fun y => y) ∧ Blk wr w1.heap.size 85 (permA fun x => (g x : Int)) ∧ Blk wr (w.heap.size + 1) 85 (permA fun _ => 0) ∧ LW w w.heap.size A cA l rf wr ∧ IsInts wr (.slice AO l.length cO) (ofX of l.length)) (fun i _ => (intOf i + 1).toNat)
  case atStart => exact ⟨_, l.length, fun i => i, rfl, rfl, Nat.le_refl _, IsP.id, rfl, P1.out, KR1.out, L1.out, I1.out⟩
  case round =>
    clear L1 KR1 I1 P1 x0
    obtain ⟨z, k, g, rfl, hz, hk, hg, hway, hP, hKR, hL, hI⟩ := hrel
    have HG := Lib.hid hg
    have HWY := Lib.hid hway
    have P := Lib.hid hP
    have KR := Lib.hid hKR
    have L := Lib.hid hL
    have I := Lib.hid hI
    rcases k with _ | q
    · obtain rfl : z = -1 := by omega
      clear hz hg hway hP hKR hL hI
      go_wp2_with (first
        | (refine wpList_load_row rfl 85 _ rfl w1.heap.size rfl 85 (permA fun x => (g x : Int)) (0, 0) _ P.out Try.underlying85 rfl (by rw [permA_size]; exact size_perm) ?_)
        | (refine wpList_store_row rfl 85 _ _ rfl (w.heap.size + 1) _ rfl rfl 85 _ KR.out (by rw [permA_size]; exact size_perm) (by rw [permA_size, permA_size]) (permA_one _) ?_))
      refine bodyPost_ret (results_cell_row Try.results161 _ _ (w.heap.size + 1) 85 _ (0, 0) _ rfl (KR.out.setRow _) Try.underlying85 rfl (by rw [permA_size]; exact size_perm)) rfl ⟨?_, below_row L.out.bel (by omega) _⟩
      have e : g = wayF l of l.length (fun y => y) := HWY.out
      rw [← e]
    · obtain rfl : z = (q : Int) := by omega
      have hq : q < l.length := by omega
      obtain ⟨b, o, rfl, hb, hc, hd⟩ := hL.rot.at_ (k := q) hq
      obtain ⟨b', o', rfl, hb', hc'⟩ := hI.at_ (k := q) (by rw [ofX_len]; exact hq)
      rw [ofX_at of hq] at hc'
      have hpp := HP.out q hq
      have hoo := HOF.out q hq
      have hway2 : wayF l of q (fun x => rotF (gR l q).1 (of q) (g x)) = wayF l of l.length (fun y => y) := hway
      have hrp := IsP.rot hpp hoo
      have hcomp := hg.comp hrp
      obtain ⟨wi, hwi⟩ : ∃ wi, (gR l q).1 = wi := ⟨_, rfl⟩
      obtain ⟨no, hno⟩ : ∃ no, (gR l q).2 = no := ⟨_, rfl⟩
      obtain ⟨d, hdd⟩ : ∃ d, of q = d := ⟨_, rfl⟩
      rw [hwi] at hc hpp hway2 hcomp
      rw [hno] at hd
      rw [hdd] at hc' hoo hway2 hcomp
      have PA := Lib.hid P.out.permAt
      have HWY2 := Lib.hid hway2
      have HPP := Lib.hid hpp
      have HCP := Lib.hid hcomp
      have x0 := L.out.c0
      have hlw := L.out.lt
      have hpl := P.out.lt
      have i0 : (0 : Int) ≤ q := by omega
      have i1 : (q : Int) < l.length := by omega
      clear hz hg hway hP hKR hL hI hpp hway2 hrp hcomp hwi hno hdd HWY
      go_wp2_with fail
      refine wp_region_ext_tail 12 (by kernel_rfl) (by kernel_rfl) ?_
      dsimp only [List.take, List.drop]
      repeat (first
        | (go_big_quiet_want
           refine quiet_perm _ rfl w1.heap.size 0 rfl (fun x => (g x : Int)) PA.out ?_
           simp only [Act.put, List.setIfInBounds_toArray, List.set_cons_succ, List.set_cons_zero]
           go_big_quiet_on)
        | go_big_quiet_step ((first
          | (go_at_call 115; exact Ext.call _ (c_turned wi no d _ HPP.out hoo))
          | (go_at_call 108; exact Ext.call _ (c_then g (rotF wi d) _ HG.out.1)))))
      refine wpQuiet_nil ?_
      rintro _ ⟨⟨w4, hb4⟩, rfl⟩
      have P4 := Lib.hid (P.out.ext hb4)
      have KR4 := Lib.hid (KR.out.ext hb4)
      have L4 := Lib.hid (L.out.ext hb4)
      have I4 := Lib.hid (I.out.ext hb4)
      clear hb4 PA x0 P KR L I
      go_wp2_with (refine wpList_store_row rfl 85 _ _ rfl w1.heap.size _ rfl rfl 85 _ P4.out (by rw [permA_size]; exact size_perm) (by rw [permA_size, permA_size]) (permA_one _) ?_)
      refine ⟨⟨_, q, fun x => rotF wi d (g x), rfl, rfl, by omega, HCP.out, HWY2.out, P4.out.setRow _, KR4.out.grownR (grow_row _ _ _) (by first | omega | (simp; omega)), L4.out.rowS HR0.out (grow_row _ _ _) (by omega) (by omega), ints_keepS I4.out HI0.out (grow_row _ w1.heap.size _) (fun g e => by injection e with e; omega)⟩, by first | (simp [intOf]; done) | (simp [intOf]; omega)⟩
set_option maxHeartbeats 1000000 in
set_option maxRecDepth 100000 in
theorem c_scramble (A AO : Option Addr) (cA cO : Nat) (l : List Rot) (rf : ByteArray) (of : Nat → Nat) (w : World) (hR : IsRots w (.slice A l.length cA) l) (hI : IsInts w (.slice AO l.length cO) (ofX of l.length)) (hp : ∀ i, i < l.length → permB (gR l i).1 = true) (hof : ∀ i, i < l.length → of i < 10) (h3 : l.length ≤ 3) (hrf : reflB rf = true) (hz : rf.size ≤ 9223372036854775807) :
    Calls Try.prog 134 #[.agg #[.slice A l.length cA, .string rf], .slice AO l.length cO] w fun e w' => e = .returned (pV (turnF (wayF l of l.length (fun y => y)) (pn rf))) ∧ Below w.heap.size w w' := by
  have L0 := Lib.hid ((LW.start rf (Below.refl w.heap.size w) hR).ext (ext_alloc _ (.cells (permA fun _ => 0) 85)))
  have KR0 := Lib.hid (Blk.new (w.alloc (.cells #[.slice A l.length cA, .string rf] 31)) 85 (permA fun _ => 0))
  rw [World.size_alloc] at KR0
  have I0 := Lib.hid (hI.ext ((ext_alloc w (.cells #[.slice A l.length cA, .string rf] 31)).alloc (by simp) (.cells (permA fun _ => 0) 85)))
  have HP : Hid (∀ i, i < l.length → permB (gR l i).1 = true) := hp
  have HOF : Hid (∀ i, i < l.length → of i < 10) := hof
  have hway : IsP (wayF l of l.length (fun y => y)) := IsP.way hp hof IsP.id
  obtain ⟨f, hf⟩ : ∃ f, wayF l of l.length (fun y => y) = f := ⟨_, rfl⟩
  rw [hf] at hway ⊢
  have HF := Lib.hid hf
  have HWP := Lib.hid hway
  have HRF := Lib.hid (refl_facts hrf)
  have hpl : plugB rf = true := by
    unfold reflB at hrf
    simp only [Bool.and_eq_true] at hrf
    exact hrf.1
  have HPL := Lib.hid hpl
  have HRB := Lib.hid hrf
  clear hR hI hp hof hf hway hrf hpl
  go_enter Try.func134, Try.ntmps134
  have x0 := L0.out.c0
  have x1 := L0.out.c1
  go_wp2_with fail
  simp only [permA_zero]
  refine (c_through A AO cA cO l rf of _ L0.out.rot I0.out HP.out HOF.out h3).mono ?_
  rintro e w1 ⟨rfl, hb1⟩
  rw [HF.out]
  have L1 := Lib.hid ((L0.out.ext hb1).ext (ext_alloc w1 (.cells (permA fun i => (f i : Int)) 85)))
  have KR1 := Lib.hid ((KR0.out.ext hb1).alloc (.cells (permA fun i => (f i : Int)) 85))
  have P1 := Lib.hid (Blk.new w1 85 (permA fun i => (f i : Int)))
  clear hb1 L0 KR0 I0 x0 x1
  have x1 := L1.out.c1
  go_wp2_with (refine wpList_store_row rfl 85 _ _ rfl w1.heap.size _ rfl rfl 85 _ (heap_alloc_new w1 _) (by rw [permA_size]; exact size_perm) (by simp only [permA_size]; rfl) (permA_one _) ?_; rw [World.setRow_alloc_new])
  refine (c_reflectorOf rf _ hz).mono ?_
  rintro e w2 ⟨rfl, hb2⟩
  have hre : reflR rf = .tuple #[.agg (permA (fun i => (pn rf i : Int))), .bool true] := by
    unfold reflR
    rw [HRB.out]
    simp only [HPL.out, if_true]
  rw [hre]
  have L2 := Lib.hid ((L1.out.ext hb2).ext (ext_alloc w2 (.cells (permA fun i => (pn rf i : Int)) 85)))
  have KR2 := Lib.hid ((KR1.out.ext hb2).alloc (.cells (permA fun i => (pn rf i : Int)) 85))
  have P2 := Lib.hid ((P1.out.ext hb2).alloc (.cells (permA fun i => (pn rf i : Int)) 85))
  have Q2 := Lib.hid (Blk.new w2 85 (permA fun i => (pn rf i : Int)))
  clear hb2 L1 KR1 P1 x1 hre
  go_wp2_with (refine wpList_store_row rfl 85 _ _ rfl w2.heap.size _ rfl rfl 85 _ (heap_alloc_new w2 _) (by rw [permA_size]; exact size_perm) (by simp only [permA_size]; rfl) (permA_one _) ?_; rw [World.setRow_alloc_new])
  have PA := Lib.hid P2.out.permAt
  have QA := Lib.hid Q2.out.permAt
  have HC1 := Lib.hid (HWP.out.comp HRF.out.1)
  refine wp_region_ext_tail 6 (by kernel_rfl) (by kernel_rfl) ?_
  dsimp only [List.take, List.drop]
  repeat (first
    | (go_big_quiet_want
       first
       | (refine quiet_perm _ rfl w1.heap.size 0 rfl (fun i => (f i : Int)) PA.out ?_)
       | (refine quiet_perm _ rfl w2.heap.size 0 rfl (fun i => (pn rf i : Int)) QA.out ?_)
       simp only [Act.put, List.setIfInBounds_toArray, List.set_cons_succ, List.set_cons_zero]
       go_big_quiet_on)
    | go_big_quiet_step ((first
      | (go_at_call 152; exact Ext.call _ (c_inverse f _ HWP.out))
      | (go_at_call 108; exact Ext.call _ (c_then _ _ _ (by first | exact HWP.out.1 | exact HC1.out.1))))))
  refine wpQuiet_nil ?_
  rintro _ ⟨⟨w4, hb4⟩, rfl⟩
  have KR4 := Lib.hid (KR2.out.ext hb4)
  have L4 := Lib.hid (L2.out.ext hb4)
  clear hb4 PA QA P2 Q2 KR2 L2
  go_wp2_with (refine wpList_store_row rfl 85 _ _ rfl (w.heap.size + 1) _ rfl rfl 85 _ KR4.out (by rw [permA_size]; exact size_perm) (by rw [permA_size, permA_size]) (permA_one _) ?_)
  exact bodyPost_ret (results_cell_row Try.results134 _ _ (w.heap.size + 1) 85 _ (0, 0) _ rfl (KR4.out.setRow _) Try.underlying85 rfl (by rw [permA_size]; exact size_perm)) rfl ⟨rfl, below_row L4.out.bel (by omega) _⟩
/-- the scrambler's permutation at these offsets -/
noncomputable def scrF (l : List Rot) (rf : ByteArray) (of : Nat → Nat) : Nat → Nat := turnF (wayF l of l.length (fun y => y)) (pn rf)
theorem wheelsB_facts {l : List Rot} {rf : ByteArray} (h : wheelsB l rf = true) : 1 ≤ l.length ∧ l.length ≤ 3 ∧ reflB rf = true ∧ ∀ i, i < l.length → permB (gR l i).1 = true := by
  have hr := fun i hi => wheelsB_rot h (i := i) hi
  unfold wheelsB at h
  simp only [Bool.and_eq_true, decide_eq_true_eq] at h
  refine ⟨h.1.1, h.1.2, h.2.1, fun i hi => ?_⟩
  have := hr i hi
  unfold rotB at this
  simp only [Bool.and_eq_true] at this
  exact this.1
theorem scrF_P {l : List Rot} {rf : ByteArray} {of : Nat → Nat} (h : wheelsB l rf = true) (hof : ∀ i, i < l.length → of i < 10) : IsP (scrF l rf of) := by
  obtain ⟨_, _, h1, h2⟩ := wheelsB_facts h
  exact (IsP.way h2 hof IsP.id).turn (refl_facts h1).1
set_option maxHeartbeats 1000000 in
set_option maxRecDepth 100000 in
theorem c_ScrambleAt (A AO : Option Addr) (cA cO : Nat) (l : List Rot) (rf : ByteArray) (of : Nat → Nat) (w : World) (hR : IsRots w (.slice A l.length cA) l) (hI : IsInts w (.slice AO l.length cO) (ofX of l.length)) (hv : wheelsB l rf = true) (hof : ∀ i, i < l.length → of i < 10) (hz : rf.size ≤ 9223372036854775807) :
    Calls Try.prog 95 #[.agg #[.slice A l.length cA, .string rf], .slice AO l.length cO] w fun e w' => e = .returned (.tuple #[.string (pS (scrF l rf of)), .bool true]) ∧ Below w.heap.size w w' := by
  obtain ⟨h1, h3, hrf, hp⟩ := wheelsB_facts hv
  have L0 := Lib.hid (LW.start rf (Below.refl w.heap.size w) hR)
  have I0 := Lib.hid (hI.ext (ext_alloc w (.cells #[.slice A l.length cA, .string rf] 31)))
  have HV := Lib.hid hv
  have HRF := Lib.hid hrf
  have HP : Hid (∀ i, i < l.length → permB (gR l i).1 = true) := hp
  have HOF : Hid (∀ i, i < l.length → of i < 10) := hof
  have HS := Lib.hid (scrF_P hv hof)
  clear hR hI hv hof hrf hp
  go_enter Try.func95, Try.ntmps95
  have x0 := L0.out.c0
  have x1 := L0.out.c1
  go_wp2_with fail
  refine (c_offsetsValid A AO cA cO l rf of _ L0.out.rot I0.out HV.out HOF.out h3 hz).mono ?_
  rintro e w1 ⟨rfl, hb1⟩
  have L1 := Lib.hid (L0.out.ext hb1)
  have I1 := Lib.hid (I0.out.ext hb1)
  clear hb1 x0 x1 L0 I0
  have x0 := L1.out.c0
  have x1 := L1.out.c1
  go_wp2_with fail
  refine (c_scramble A AO cA cO l rf of _ L1.out.rot I1.out HP.out HOF.out h3 HRF.out hz).mono ?_
  rintro e w2 ⟨rfl, hb2⟩
  have L2 := Lib.hid (L1.out.ext hb2)
  clear hb2 x0 x1 L1 I1
  go_wp2_with fail
  refine (c_String (scrF l rf of) _ HS.out.1).mono ?_
  rintro e w3 ⟨rfl, hb3⟩
  have L3 := Lib.hid (L2.out.ext hb3)
  clear hb3 L2
  go_wp2_with fail
  go_ret2
  exact ⟨rfl, L3.out.bel⟩
theorem c_rcScramble (A AO : Option Addr) (cA cO : Nat) (l : List Rot) (rf : ByteArray) (of : Nat → Nat) (w : World) (hR : IsRots w (.slice A l.length cA) l) (hI : IsInts w (.slice AO l.length cO) (ofX of l.length)) (hv : wheelsB l rf = true) (hof : ∀ i, i < l.length → of i < 10) (hz : rf.size ≤ 9223372036854775807) :
    Calls Try.prog 45 #[.agg #[.slice A l.length cA, .string rf], .slice AO l.length cO] w fun e w' => e = .returned (.string (pS (scrF l rf of))) ∧ Below w.heap.size w w' := by
  have L0 := Lib.hid (LW.start rf (Below.refl w.heap.size w) hR)
  have I0 := Lib.hid (hI.ext (ext_alloc w (.cells #[.slice A l.length cA, .string rf] 31)))
  have HV := Lib.hid hv
  have HOF : Hid (∀ i, i < l.length → of i < 10) := hof
  clear hR hI hv hof
  go_enter Try.func45, Try.ntmps45
  have x0 := L0.out.c0
  have x1 := L0.out.c1
  go_wp2_with fail
  refine (c_ScrambleAt A AO cA cO l rf of _ L0.out.rot I0.out HV.out HOF.out hz).mono ?_
  rintro e w1 ⟨rfl, hb1⟩
  have L1 := Lib.hid (L0.out.ext hb1)
  clear hb1 x0 x1 L0 I0
  go_wp2_with fail
  go_ret
  exact ⟨rfl, L1.out.bel⟩
set_option maxHeartbeats 1000000 in
set_option maxRecDepth 100000 in
theorem c_WordValue1 (t : ByteArray) (d : Nat) (w : World) (hz : t.size = 1) (hv : wv t = true) (hd : bt t 0 = 97 + (d : Int)) (hd10 : d < 10) : Calls Try.prog 44 #[.string t] w fun e w' => e = .returned (.tuple #[.int .i64 (d : Int), .bool true]) ∧ w = w' := by
  have HV := Lib.hid hv
  have hpos : 0 < t.size := by omega
  have hb : ((t[0]'hpos).toNat : Int) = 97 + (d : Int) := (bt_get t 0 hpos).trans hd
  have HB := Lib.hid hb
  have HZ := Lib.hid hz
  have hz9 : t.size ≤ 9 := by omega
  clear hv hd hb hz
  go_enter Try.func44, Try.ntmps44
  go_wp2_with (go_at_call 43; refine (c_WordValid _ _ (by omega)).mono ?_; rintro e w' ⟨rfl, rfl⟩; rw [HV.out])
  go_loopw [4, 16] (fun v i wr => ∃ (k : Nat) (x : Int), k ≤ 1 ∧ i = .int .i64 k ∧ v = .int .i64 x ∧ (k = 0 → x = 0) ∧ (k = 1 → x = (d : Int)) ∧ w = wr) (fun _ i _ => 1 - (intOf i).toNat)
  case atStart => exact ⟨0, 0, by omega, rfl, rfl, fun _ => rfl, fun h => by omega, rfl⟩
  case round =>
    obtain ⟨k, x, hk, rfl, rfl, h0, h1, rfl⟩ := hrel
    rcases (show k = 0 ∨ k = 1 by omega) with rfl | rfl
    · obtain rfl := h0 rfl
      have i0 : (0 : Int) < (t.size : Int) := by omega
      have hb := HB.out
      clear h0 h1
      go_wp2_with fail
      refine (c_number _ _ (by omega) (by omega)).mono ?_
      rintro e w' ⟨rfl, rfl⟩
      go_wp2_with fail
      refine ⟨⟨1, d, by omega, by go_num, by go_num, by simp, by simp, ?_⟩, by simp [intOf]⟩
      first | trivial | rfl
    · obtain rfl := h1 rfl
      have i0 : ¬ (1 : Int) < (t.size : Int) := by have := HZ.out; omega
      have i1 : ¬ 1 < t.size := by have := HZ.out; omega
      clear h0 h1
      go_wp2_with fail
      go_ret2
      exact ⟨rfl, rfl⟩
set_option maxHeartbeats 1000000 in
theorem c_DrawApplyPerm (A0 : Option Addr) (n c : Nat) (w : World) (hc : Code_ w A0 n c) :
    Calls Try.prog 42 #[.slice A0 n c] w fun e w' => ∃ s t : ByteArray, e = .returned (.tuple #[.string s, .string t]) ∧ s.size ≤ 1001 ∧ t.size ≤ 1000000 ∧ Below w.heap.size w w' := by
  have HC := Lib.hid hc
  clear hc
  go_enter Try.func42, Try.ntmps42
  go_wp2_with fail
  refine (c_l21Open A0 n c _ HC.out.1 HC.out.2.1 HC.out.2.2).mono ?_
  rintro e w1 ⟨g, rfl, hg, hr1, hb1⟩
  have R1 := Lib.hid hr1
  have B1 := Lib.hid hb1
  clear hr1 hb1 HC
  go_wp2_with fail
  refine (c_l2Any g 0 _ R1.out (by omega)).mono ?_
  rintro e w2 ⟨s, rfl, hs, _, hr2, hg2⟩
  have R2 := Lib.hid hr2
  have G2 := Lib.hid hg2
  clear hr2 hg2
  go_wp2_with fail
  refine (c_l2Bad g (0 + 11) s _ R2.out (by omega) (by omega) (by omega)).mono ?_
  rintro e w3 ⟨p, rfl, hp, hr3, hg3⟩
  have R3 := Lib.hid hr3
  have G3 := Lib.hid (G2.out.trans hg3)
  clear hr3 hg3
  go_wp2_with fail
  refine (c_l1Word g (0 + 11 + 3) 16 _ R3.out (by omega) (by omega)).mono ?_
  rintro e w4 ⟨u, rfl, hu, _, hr4, hg4⟩
  have R4 := Lib.hid hr4
  have G4 := Lib.hid (G3.out.trans hg4)
  clear hr4 hg4
  go_wp2_with fail
  refine (c_l1Bad g (0 + 11 + 3 + 16 + 1) u _ R4.out (by omega) (by omega)).mono ?_
  rintro e w5 ⟨t, rfl, ht, hr5, hg5⟩
  have B5 := Lib.hid (below_of_grown B1.out (G4.out.trans hg5) hg)
  clear hr5 hg5
  go_wp2_with fail
  go_ret2
  exact ⟨p, t, rfl, by omega, ht, B5.out⟩
end Go.Proofs.Ytnfeddnkokocfaa
