/- Contract of newAssembly (impl). -/
import Derived.Test.YtnfeddnkokocfaaAsm
namespace Go.Proofs.Ytnfeddnkokocfaa
set_option linter.unusedVariables false
set_option linter.unusedSimpArgs false
open Go.RowKit
attribute [local go_sem] Ext.cell
open BigFrame

/-- the cells of a new assembly, as a block -/
def asmA (v0 v1 v2 v3 : Value) : Array Value := ((List.range 324).map (asm0 v0 v1 v2 v3)).toArray
theorem asmA_fn (w : World) (t : TypeId) (v0 v1 v2 v3 : Value) : Fn (w.alloc (.cells (asmA v0 v1 v2 v3) t)) w.heap.size 324 t (asm0 v0 v1 v2 v3) :=
  ⟨_, Blk.new w t _, by simp [asmA], fun j hj => by simp [asmA, hj]⟩
theorem asm_zero (v0 v1 v2 v3 : Value) : (((Try.zeroCells142.setIfInBounds 0 v0).setIfInBounds 1 v1).setIfInBounds 2 v2).setIfInBounds 3 v3 = asmA v0 v1 v2 v3 := by kernel_rfl
theorem plugR_ok {p : ByteArray} (h : plugB p = true) : plugR p = .tuple #[pV (pn p), .bool true] := by unfold plugR pV; rw [h]; simp
theorem IsRots.belowB {w w' : World} {A : Option Addr} {n c B : Nat} {l : List Rot} (h : IsRots w (.slice A n c) l) (hb : Below B w w') (hA : ∀ b o, A = some ⟨b, o, none⟩ → b < B) : IsRots w' (.slice A n c) l := by
  obtain ⟨A', c', e, h1, h2, h3⟩ := h
  refine ⟨A', c', e, h1, h2, fun k hk => ?_⟩
  obtain ⟨b', o, e', hlt, hc, hd⟩ := h3 k hk
  have e1 : A = A' := by injection e
  have hb' : b' < B := hA b' o (e1.trans e')
  exact ⟨b', o, e', Nat.lt_of_lt_of_le hlt hb.size, (hb.cell (p := ⟨b', o + k * 2, none⟩) hb').trans hc, (hb.cell (p := ⟨b', o + k * 2 + 1, none⟩) hb').trans hd⟩
theorem MW.belowB {w W W' : World} {b B : Nat} {A : Option Addr} {cA : Nat} {M : Mch} (h : MW w b A cA M W) (hb : Below B W W') (hB : b < B) (hA : ∀ b o, A = some ⟨b, o, none⟩ → b < B) (hw : Below w.heap.size w W') : MW w b A cA M W' :=
  ⟨(hb.cell (p := ⟨b, 0, none⟩) hB).trans h.c0, (hb.cell (p := ⟨b, 1, none⟩) hB).trans h.c1, (hb.cell (p := ⟨b, 2, none⟩) hB).trans h.c2, (hb.cell (p := ⟨b, 3, none⟩) hB).trans h.c3, Nat.lt_of_lt_of_le h.lt hb.size, h.rot.belowB hb hA, hw⟩
theorem Blk.farCells {b' : Nat} {b : Nat} {t : TypeId} {cs : Array Value} (hne : b ≠ b') : ∀ (vs : List Value) (o : Nat) {w : World}, Blk w b t cs → Blk (w.setCells b' o vs) b t cs := by
  intro vs
  induction vs with
  | nil => intro o w h; exact h
  | cons v vs ih => intro o w h; exact ih (o + 1) (h.far (p := ⟨b', o, none⟩) hne v)
theorem size_setCells (b : Nat) : ∀ (vs : List Value) (o : Nat) (w : World), (w.setCells b o vs).heap.size = w.heap.size := by
  intro vs
  induction vs with
  | nil => intro o w; rfl
  | cons v vs ih => intro o w; show ((w.setCell ⟨b, o, none⟩ v).setCells b (o + 1) vs).heap.size = _; rw [ih]; simp [World.setCell]
theorem AsmF.start {A : Option Addr} {cA : Nat} {M : Mch} : AsmF A cA M 0 0 (ovr (ovr (asm0 (.slice A M.l.length cA) (.string M.rf) (.string M.rg) (.string M.pl)) 4 (permA fun i => (pn M.pl i : Int)).toList) 14 (permA fun i => (pn M.rf i : Int)).toList) := by
  refine ⟨?_, ?_, ?_, ?_, fun x hx => ?_, fun x hx => ?_, fun i' o' x h _ _ _ => by omega⟩
  · rw [ovr_out _ _ _ (by omega), ovr_out _ _ _ (by omega)]; rfl
  · rw [ovr_out _ _ _ (by omega), ovr_out _ _ _ (by omega)]; rfl
  · rw [ovr_out _ _ _ (by omega), ovr_out _ _ _ (by omega)]; rfl
  · rw [ovr_out _ _ _ (by omega), ovr_out _ _ _ (by omega)]; rfl
  · rw [ovr_out _ _ _ (by omega), ovr_in _ _ _ hx]
  · rw [ovr_in _ _ _ hx]
theorem isP_of_refl {p : ByteArray} (h : reflB p = true) : permB p = true := by
  unfold reflB at h; simp only [Bool.and_eq_true] at h; exact ((plugB_iff p).1 h.1).1
theorem reflR_ok {p : ByteArray} (h : reflB p = true) : ∃ v, reflR p = .tuple #[v, .bool true] ∧ v = pV (pn p) := by
  have hp : plugB p = true := by unfold reflB at h; simp only [Bool.and_eq_true] at h; exact h.1
  refine ⟨_, ?_, rfl⟩
  unfold reflR pV
  rw [h, hp]
  simp
set_option maxHeartbeats 300000 in
set_option maxRecDepth 100000 in
theorem c_newAssembly (A : Option Addr) (cA : Nat) (M : Mch) (w : World) (hR : IsRots w (.slice A M.l.length cA) M.l) (h : mB M = true) : Calls Try.prog 69 #[mV A cA M] w fun e w' => ∃ b, e = .returned (.pointer (some ⟨b, 0, none⟩)) ∧ w.heap.size ≤ b ∧ Asm w' b A cA M ∧ Below w.heap.size w w' := by
  obtain ⟨h1, h2⟩ := (mB_iff M).1 h
  have hrf := mB_refl h
  obtain ⟨g1, g2, g3, g4⟩ := win_facts h1
  have HW := Lib.hid ((winB_iff _ _ _).1 h1).1
  have L0 := Lib.hid (MW.start M (Below.refl w.heap.size w) hR)
  have HP := Lib.hid h2
  have HF := Lib.hid hrf
  have hll : M.l.length ≤ 3 := by omega
  obtain ⟨bR, oR, hA, hbR⟩ := hR.blk (by omega)
  have hA' : ∀ b o, A = some ⟨b, o, none⟩ → b < w.heap.size := fun b o e => by rw [hA] at e; injection e with e; injection e with e; omega
  have HA := Lib.hid hA'
  have HR0 := Lib.hid hR
  clear hR h h1 h2 hrf g3 g4 hA hA'
  go_enter Try.func69, Try.ntmps69
  go_wp2_with fail
  rw [asm_zero]
  have Z := Lib.hid (asmA_fn (w.alloc (.cells #[.slice A M.l.length cA, .string M.rf, .string M.rg, .string M.pl] 33)) 142 (.slice A M.l.length cA) (.string M.rf) (.string M.rg) (.string M.pl))
  have L1 := Lib.hid (L0.out.ext (ext_alloc _ (.cells (asmA (.slice A M.l.length cA) (.string M.rf) (.string M.rg) (.string M.pl)) 142)))
  rw [World.size_alloc] at Z
  refine (c_plugsOf M.pl _ (by rw [permB_size ((plugB_iff _).1 HP.out).1]; omega)).mono ?_
  rintro e w1 ⟨rfl, hb1⟩
  rw [plugR_ok HP.out]
  have Z1 := Lib.hid (Z.out.ext hb1)
  have L2 := Lib.hid (L1.out.ext hb1)
  clear hb1 Z L0 L1
  have hth := Z1.out.there (o := 4) (k := 10) (by omega)
  go_upto_region 3 with (refine wpList_store_mid rfl 85 _ _ rfl (w.heap.size + 1) 4 _ rfl rfl (by rw [permA_size]; exact hth) (by rw [permA_size]; exact size_perm) (permA_one _) ?_)
  have hbl : Below (w.heap.size + 1) w1 (w1.setCells (w.heap.size + 1) 4 (permA fun i => (pn M.pl i : Int)).toList) := setCells_below (a := w1) (w := w1) (Nat.le_refl _) _ _ (Below.refl _ _)
  have Z2 := Lib.hid (Fn.setCells (permA fun i => (pn M.pl i : Int)).toList 4 Z1.out)
  have L3 := Lib.hid (L2.out.belowB hbl (by omega) (fun b o e => by have := HA.out b o e; omega) (L2.out.bel.trans (hbl.mono (by omega))))
  clear hbl Z1 L2 hth
  generalize w1.setCells (w.heap.size + 1) 4 (permA fun i => (pn M.pl i : Int)).toList = W2 at *
  have y1 := L3.out.c1
  go_wp2_with fail
  refine (c_reflectorOf M.rf _ (by rw [permB_size (isP_of_refl HF.out)]; omega)).mono ?_
  rintro e w3 ⟨rfl, hb3⟩
  obtain ⟨v, hv, hv2⟩ := reflR_ok HF.out
  rw [hv, hv2]
  have Z3 := Lib.hid (Z2.out.ext hb3)
  have L4 := Lib.hid (L3.out.ext hb3)
  clear hb3 Z2 L3 y1 hv hv2
  have hth := Z3.out.there (o := 14) (k := 10) (by omega)
  go_upto_region 4 with (refine wpList_store_mid rfl 85 _ _ rfl (w.heap.size + 1) 14 _ rfl rfl (by rw [permA_size]; exact hth) (by rw [permA_size]; exact size_perm) (permA_one _) ?_)
  have hbl : Below (w.heap.size + 1) w3 (w3.setCells (w.heap.size + 1) 14 (permA fun i => (pn M.rf i : Int)).toList) := setCells_below (a := w3) (w := w3) (Nat.le_refl _) _ _ (Below.refl _ _)
  have Z4 := Lib.hid (Fn.setCells (permA fun i => (pn M.rf i : Int)).toList 14 Z3.out)
  have L5 := Lib.hid (L4.out.belowB hbl (by omega) (fun b o e => by have := HA.out b o e; omega) (L4.out.bel.trans (hbl.mono (by omega))))
  clear hbl Z3 L4 hth
  generalize w3.setCells (w.heap.size + 1) 14 (permA fun i => (pn M.rf i : Int)).toList = W4 at *
  have y0 := L5.out.c0
  go_wp2_with fail
  clear y0
  go_loopw [33] (fun i wr => ∃ (k : Nat) (f : Nat → Value), k ≤ M.l.length ∧ i = .int .i64 k ∧ Fn wr (w.heap.size + 1) 324 142 f ∧ AsmF A cA M k 0 f ∧ IsRots wr (.slice A M.l.length cA) M.l ∧ Below w.heap.size w wr) (fun i _ => 3 - (intOf i).toNat)
  case atStart => exact ⟨0, _, Nat.zero_le _, rfl, Z4.out, AsmF.start, L5.out.rot, L5.out.bel⟩
  case round =>
    clear Z4 L5
    obtain ⟨k, f, hk, rfl, hz, hf, hrt, hbel⟩ := hrel
    have Z := Lib.hid hz
    have F := Lib.hid hf
    have R := Lib.hid hrt
    have BL := Lib.hid hbel
    clear hz hf hrt hbel
    by_cases hlt : k < M.l.length
    · have hrot := wheelsB_rot HW.out hlt
      obtain ⟨b, o, hA, hb, hc0, hc1⟩ := R.out.at_ hlt
      subst hA
      have hbw := HA.out b o rfl
      obtain ⟨wi, hwi⟩ : ∃ wi, (gR M.l k).1 = wi := ⟨_, rfl⟩
      obtain ⟨no, hno⟩ : ∃ no, (gR M.l k).2 = no := ⟨_, rfl⟩
      rw [hwi] at hc0
      rw [hno] at hc1
      have HWI := Lib.hid hwi
      have HPW : Hid (permB wi = true) := by
        show permB wi = true
        rw [← hwi]
        unfold rotB at hrot
        simp only [Bool.and_eq_true] at hrot
        exact hrot.1
      have hlz := Z.out.lt
      clear hrot hwi hno
      go_wp2_with fail
      obtain ⟨rb, hrb⟩ : ∃ rb, wr.heap.size = rb := ⟨_, rfl⟩
      obtain ⟨wo, hwo⟩ : ∃ x, x = wr := ⟨_, rfl⟩
      subst hwo
      rw [hrb]
      have hlz2 : w.heap.size + 1 < rb := by omega
      have HRB := Lib.hid hrb
      clear hrb
      go_loopw [38] (fun j wr => ∃ (q : Nat) (f : Nat → Value), q ≤ 10 ∧ j = .int .i64 q ∧ Fn wr (w.heap.size + 1) 324 142 f ∧ AsmF (some ⟨b, o, none⟩) cA M k q f ∧ Blk wr rb 144 #[.string wi, .string no] ∧ IsRots wr (.slice (some ⟨b, o, none⟩) M.l.length cA) M.l ∧ Below w.heap.size w wr) (fun j _ => 10 - (intOf j).toNat)
      case atStart => exact ⟨0, f, Nat.zero_le _, rfl, Z.out.ext (ext_alloc _ _), F.out, HRB.out ▸ Blk.new wo _ _, R.out.ext (ext_alloc _ _), ext_trans BL.out (ext_alloc _ _)⟩
      case round =>
        clear Z F R BL hc0 hc1
        obtain ⟨q, f, hq, rfl, hz, hf, hk1, hrt, hbel⟩ := hrel
        have Z := Lib.hid hz
        have F := Lib.hid hf
        have K := Lib.hid hk1
        have R := Lib.hid hrt
        have BL := Lib.hid hbel
        clear hz hf hk1 hrt hbel
        by_cases hlq : q < 10
        · have c0 : wr.cell? ⟨rb, 0, none⟩ = some (.string wi) := K.out.cell 0
          have c1 : wr.cell? ⟨rb, 1, none⟩ = some (.string no) := K.out.cell 1
          have hlk := K.out.lt
          have i1 : (0 : Int) ≤ (k : Int) := by omega
          have i2 : (k : Int) < 3 := by omega
          have i3 : (0 : Int) ≤ (q : Int) := by omega
          have i4 : (q : Int) < 10 := by omega
          go_wp2_with fail
          refine wp_region_ext_tail 10 (by kernel_rfl) (by kernel_rfl) ?_
          dsimp only [List.take, List.drop]
          repeat (go_big_quiet_step ((first
            | (go_at_call 115; exact Ext.call _ (c_turned wi no q _ HPW.out hlq)))))
          refine wpQuiet_nil ?_
          rintro _ ⟨⟨w6, hb6⟩, rfl⟩
          rename World => w6
          have hth := (Z.out.ext hb6).there (o := 24 + k * 100 + q * 10) (k := 10) (by omega)
          have Z1 := Lib.hid (Z.out.ext hb6)
          have K1 := Lib.hid (K.out.ext hb6)
          have R1 := Lib.hid (R.out.ext hb6)
          have BL1 := Lib.hid (ext_trans BL.out hb6)
          have hsz := BL.out.size
          clear hb6 Z K R BL c0 c1
          refine wpList_store_mid rfl 85 _ _ rfl (w.heap.size + 1) (24 + k * 100 + q * 10) _ rfl rfl (by rw [permA_size]; exact hth) (by rw [permA_size]; exact size_perm) (permA_one _) ?_
          have hbl : Below (w.heap.size + 1) w6 (w6.setCells (w.heap.size + 1) (24 + k * 100 + q * 10) (permA fun i => (rotF wi q i : Int)).toList) := setCells_below (a := w6) (w := w6) (Nat.le_refl _) _ _ (Below.refl _ _)
          have Z2 := Lib.hid (Fn.setCells (permA fun i => (rotF wi q i : Int)).toList (24 + k * 100 + q * 10) Z1.out)
          have K2 := Lib.hid (Blk.farCells (b' := w.heap.size + 1) (by omega) (permA fun i => (rotF wi q i : Int)).toList (24 + k * 100 + q * 10) K1.out)
          have R2 := Lib.hid (R1.out.belowB hbl (fun b o e => by have := HA.out b o e; omega))
          have BL2 := Lib.hid (BL1.out.trans (hbl.mono (by omega)))
          have F2 := Lib.hid (AsmF.step F.out (by omega) hlq)
          rw [HWI.out] at F2
          clear hbl Z1 K1 R1 BL1 F hth
          generalize w6.setCells (w.heap.size + 1) (24 + k * 100 + q * 10) (permA fun i => (rotF wi q i : Int)).toList = W6 at *
          go_wp2_with fail
          refine ⟨⟨q + 1, _, by omega, by go_num, Z2.out, F2.out, K2.out, R2.out, BL2.out⟩, ?_⟩
          simp only [intOf]; omega
        · obtain rfl : q = 10 := by omega
          go_wp2_with fail
          refine ⟨⟨k + 1, f, by omega, by congr 1, Z.out, F.out.next, R.out, BL.out⟩, ?_⟩
          simp only [intOf]; omega
    · obtain rfl : k = M.l.length := by omega
      go_wp2_with fail
      refine bodyPost_ret (v := .pointer (some ⟨w.heap.size + 1, 0, none⟩)) (by simp [results, Try.results69, go_sem]) rfl ?_
      exact ⟨_, rfl, by omega, Asm.of Z.out F.out hll R.out, BL.out⟩
end Go.Proofs.Ytnfeddnkokocfaa
