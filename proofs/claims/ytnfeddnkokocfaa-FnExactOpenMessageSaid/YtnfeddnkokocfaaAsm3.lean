/- Contract of permAt (impl). -/
import Derived.Test.YtnfeddnkokocfaaAsm2
namespace Go.Proofs.Ytnfeddnkokocfaa
set_option linter.unusedVariables false
set_option linter.unusedSimpArgs false
open Go.RowKit
attribute [local go_sem] Ext.cell
open BigFrame

theorem load_perm {ops : Array Oper} {rest : List Oper} {op : Oper} {a : Act} {w : World} {Q : Exit → Act → World → Prop} (hgd : op.guard = none) (x : Operand) (ho : op.op = .load 85 x)
    (b o : Nat) (hx : a.eval x = .pointer (some ⟨b, o, none⟩)) (f : Nat → Int) (hp : PermAt w b o f) (h : wpList Try.prog ops Q rest (a.put op.dst (.agg (permA f))) w) : wpList Try.prog ops Q (op :: rest) a w :=
  wpList_load_mid hgd 85 x ho b o hx ((List.range 10).map (fun i => Value.int .u8 (f i))) _ hp.2 Try.underlying85 rfl (by rw [List.length_map, List.length_range]; exact size_perm) h
theorem IsInts.belowB {w w' : World} {A : Option Addr} {n c B : Nat} {l : List Int} (h : IsInts w (.slice A n c) l) (hb : Below B w w') (hA : ∀ b o, A = some ⟨b, o, none⟩ → b < B) : IsInts w' (.slice A n c) l := by
  obtain ⟨A', c', e, h1, h3⟩ := h
  injection e with e1 e2 e3
  subst e1
  refine ⟨A, c, by rw [e2], h1, fun k hk => ?_⟩
  obtain ⟨b, o, e, hlt, hc⟩ := h3 k hk
  exact ⟨b, o, e, Nat.lt_of_lt_of_le hlt hb.size, (hb.cell (p := ⟨b, o + k, none⟩) (hA b o e)).trans hc⟩
theorem PermAt.belowB {w w' : World} {b o B : Nat} {f : Nat → Int} (h : PermAt w b o f) (hb : Below B w w') (hB : b < B) : PermAt w' b o f :=
  ⟨Nat.lt_of_lt_of_le h.1 hb.size, fun j v hv => (hb.cell (p := ⟨b, o + j, none⟩) hB).trans (h.2 j v hv)⟩
theorem Asm.belowB {w w' : World} {b B : Nat} {A : Option Addr} {cA : Nat} {M : Mch} (h : Asm w b A cA M) (hb : Below B w w') (hB : b < B) (hA : ∀ b o, A = some ⟨b, o, none⟩ → b < B) : Asm w' b A cA M :=
  ⟨(hb.cell (p := ⟨b, 0, none⟩) hB).trans h.c0, (hb.cell (p := ⟨b, 1, none⟩) hB).trans h.c1, (hb.cell (p := ⟨b, 2, none⟩) hB).trans h.c2, (hb.cell (p := ⟨b, 3, none⟩) hB).trans h.c3, Nat.lt_of_lt_of_le h.lt hb.size, h.rot.belowB hb hA, h.pl.belowB hb hB, h.rf.belowB hb hB, fun i o hi ho => (h.tu i o hi ho).belowB hb hB⟩
theorem ints_ne_perm {w : World} {b n c : Nat} {t : TypeId} {f : Nat → Int} {A : Option Addr} {l : List Int} (hK : Blk w b t (permA f)) (h : IsInts w (.slice A n c) l) (hl : 0 < l.length) : (Value.slice A n c).ownBlock ≠ some b := by
  obtain ⟨b', o, rfl, _, hc⟩ := h.at_ hl
  intro e
  have e' : b' = b := by simpa [Value.ownBlock] using e
  subst e'
  rw [hK.cell] at hc
  by_cases ho : o + 0 < 10
  · rw [permA_at _ ho] at hc; injection hc with hc; injection hc with hc; cases hc
  · rw [Array.getElem?_eq_none (by rw [permA_size]; omega)] at hc; cases hc
theorem grow_row (w : World) (g : Nat) (cs : Array Value) : w.grownBy (w.setRow g cs) (some g) :=
  ⟨rfl, rfl, rfl, by rw [setRow_size]; exact Nat.le_refl _, fun i _ hne => setRow_other w g i cs (fun e => hne (by rw [e]))⟩
set_option maxHeartbeats 300000 in
set_option maxRecDepth 100000 in
theorem c_permAt (A : Option Addr) (cA : Nat) (M : Mch) (b : Nat) (s : ByteArray) (w : World) (hR : Asm w b A cA M) (h : setB M s = true) : Calls Try.prog 118 #[.pointer (some ⟨b, 0, none⟩), .string s] w fun e w' => e = .returned (pV (kF M s)) ∧ Below w.heap.size w w' := by
  have HS := Lib.hid h
  have R0 := Lib.hid hR
  have HBW := Lib.hid hR.lt
  have HM := (setB_iff M s).1 h
  have HRF := Lib.hid (refl_facts (mB_refl HM.1)).1
  have HRT : Hid (∀ i o, i < M.l.length → o < 10 → IsP (rotF (gR M.l i).1 o)) := by
    intro i o hi ho
    have := wheelsB_rot ((winB_iff _ _ _).1 ((mB_iff M).1 HM.1).1).1 hi
    unfold rotB at this
    simp only [Bool.and_eq_true] at this
    exact IsP.rot this.1 ho
  have hl1 : 0 < M.l.length := by have := win_facts (setB_win h); omega
  obtain ⟨bR, oR, hA0, hbR⟩ := hR.rot.blk hl1
  have HA : Hid (∀ b o, A = some ⟨b, o, none⟩ → b < w.heap.size) := fun b o e => by rw [hA0] at e; injection e with e; injection e with e; omega
  clear HM hA0 hl1 hbR
  have P0 := Lib.hid ((hR.ext (ext_alloc w (.cells (permA fun _ => 0) 85))).pl)
  clear hR h
  go_enter Try.func118, Try.ntmps118
  have KZ := Lib.hid (Blk.new (w.alloc (.cells (permA fun _ => 0) 85)) 85 (permA fun _ => 0))
  rw [World.size_alloc] at KZ
  have HST := Lib.hid (World.setRow_alloc_new (w.alloc (.cells (permA fun _ => 0) 85)) (permA fun _ => 0) (permA fun x => (pn M.pl x : Int)) 85)
  rw [World.size_alloc] at HST
  have K0 := Lib.hid ((Blk.new w 85 (permA fun _ => 0)).alloc (.cells (permA fun x => (pn M.pl x : Int)) 85))
  have K1 := Lib.hid (Blk.new (w.alloc (.cells (permA fun _ => 0) 85)) 85 (permA fun x => (pn M.pl x : Int)))
  rw [World.size_alloc] at K1
  have R1 := Lib.hid ((R0.out.ext (ext_alloc w (.cells (permA fun _ => 0) 85))).ext (ext_alloc _ (.cells (permA fun x => (pn M.pl x : Int)) 85)))
  have B1 := Lib.hid ((ext_alloc w (.cells (permA fun _ => 0) 85)).alloc (by simp) (.cells (permA fun x => (pn M.pl x : Int)) 85))
  have y0 := R1.out.c0
  have y1 := R1.out.c1
  have y2 := R1.out.c2
  have y3 := R1.out.c3
  go_upto_region 2 with (first | (refine load_perm rfl _ rfl b 4 rfl _ P0.out ?_) | (simp only [permA_zero]; refine wpList_store_row rfl 85 _ _ rfl (w.heap.size + 1) _ rfl rfl 85 _ KZ.out (by rw [permA_size]; exact size_perm) (by simp only [permA_size]) (permA_one _) ?_; rw [HST.out]))
  have HO := HS.out
  have KR0 := Lib.hid K0.out
  clear K0 P0 KZ HST
  generalize (w.alloc (.cells (permA fun _ => 0) 85)).alloc (.cells (permA fun x => (pn M.pl x : Int)) 85) = W1 at *
  obtain ⟨f1, f2, f3, f4⟩ := win_facts (setB_win HS.out)
  have HRS := Lib.hid R1.out.rot
  clear HO f4
  have F3 := Lib.hid f3
  clear f3
  go_wp2_with (go_at_call 151; refine (c_offsets A cA M s _ HRS.out HS.out).mono ?_; rintro e w2 ⟨v, rfl, hv, hb2⟩; obtain ⟨AO, cO, rfl⟩ := hv.form; rw [ofL_len] at *)
  have I2 := Lib.hid hv
  have K2 := Lib.hid (K1.out.ext hb2)
  have R2 := Lib.hid (R1.out.ext hb2)
  have B2 := Lib.hid (ext_trans B1.out hb2)
  have KR := Lib.hid (KR0.out.ext hb2)
  have HSL : Hid (M.l.length = s.size) := F3.out.symm
  have HIP : Hid (IsP (pn M.pl)) := isP_pn ((plugB_iff _).1 ((mB_iff M).1 ((setB_iff M s).1 HS.out).1).2).1
  clear hv hb2 K1 R1 B1 HRS y0 y1 y2 y3 KR0 F3
  go_loopw [7] (fun i wr => ∃ (z : Int) (k : Nat) (g : Nat → Nat), i = .int .i64 z ∧ z = (k : Int) - 1 ∧ k ≤ s.size ∧ IsP g ∧ wayF M.l (ofF M s) k g = wayM M s ∧ Blk wr (w.heap.size + 1) 85 (permA fun x => (g x : Int)) ∧ Blk wr w.heap.size 85 (permA fun _ => 0) ∧ Asm wr b A cA M ∧ IsInts wr (.slice AO s.size cO) (ofL M s) ∧ Below w.heap.size w wr) (fun i _ => (intOf i + 1).toNat)
  case atStart =>
    refine ⟨_, s.size, pn M.pl, rfl, rfl, Nat.le_refl _, HIP.out, ?_, K2.out, KR.out, R2.out, I2.out, B2.out⟩
    unfold wayM
    rw [HSL.out]
  case round =>
    clear K2 KR R2 I2 B2
    obtain ⟨z, k, g, rfl, hz, hk, hg, hway, hk1, hk0, hR, hI, hB⟩ := hrel
    have HG := Lib.hid hg
    have HWY := Lib.hid hway
    have K := Lib.hid hk1
    have KR := Lib.hid hk0
    have R := Lib.hid hR
    have I := Lib.hid hI
    have B := Lib.hid hB
    have hsz := hB.size
    have hbw := HBW.out
    have hlk := hk1.lt
    clear hg hway hk1 hk0 hR hI hB
    rcases k with _ | q
    · obtain rfl : z = -1 := by omega
      have P1 := Lib.hid K.out.permAt
      have P2 := Lib.hid R.out.rf
      clear hz
      go_wp2_with fail
      refine wp_region_ext_tail 9 (by kernel_rfl) (by kernel_rfl) ?_
      dsimp only [List.take, List.drop]
      repeat (first
        | (go_big_quiet_want
           refine quiet_perm _ rfl (w.heap.size + 1) 0 rfl (fun x => (g x : Int)) P1.out ?_
           simp only [Act.put, List.setIfInBounds_toArray, List.set_cons_succ, List.set_cons_zero]
           go_big_quiet_on)
        | (go_big_quiet_want
           refine quiet_perm _ rfl b 14 rfl (fun x => (pn M.rf x : Int)) P2.out ?_
           simp only [Act.put, List.setIfInBounds_toArray, List.set_cons_succ, List.set_cons_zero]
           go_big_quiet_on)
        | go_big_quiet_step ((first
          | (go_at_call 108; exact Ext.call _ (c_then _ _ _ (by intro i hi; first | exact HG.out.1 i hi | exact HRF.out.1 _ (HG.out.1 i hi))))
          | (go_at_call 152; exact Ext.call _ (c_inverse _ _ HG.out)))))
      refine wpQuiet_nil ?_
      rintro _ ⟨⟨w4, hb4⟩, rfl⟩
      have K4 := Lib.hid (KR.out.ext hb4)
      have B4 := Lib.hid (ext_trans B.out hb4)
      clear hb4 P1 P2
      go_wp2_with (refine wpList_store_row rfl 85 _ _ rfl w.heap.size _ rfl rfl 85 _ K4.out (by rw [permA_size]; exact size_perm) (by rw [permA_size, permA_size]) (permA_one _) ?_)
      refine bodyPost_ret (results_cell_row Try.results118 _ _ w.heap.size 85 _ (0, 0) _ rfl (K4.out.setRow _) Try.underlying85 rfl (by rw [permA_size]; exact size_perm)) rfl ⟨?_, below_row B4.out (Nat.le_refl _) _⟩
      have e : g = wayM M s := HWY.out
      unfold kF turnF
      rw [← e]
    · obtain rfl : z = (q : Int) := by omega
      obtain ⟨o, ho⟩ : ∃ o, ofF M s q = o := ⟨_, rfl⟩
      have ho10 : o < 10 := by rw [← ho]; unfold ofF; omega
      have hq3 : q < M.l.length := by have := HSL.out; omega
      have P1 := Lib.hid K.out.permAt
      have P2 := Lib.hid (R.out.tu q o hq3 ho10)
      obtain ⟨b3, o3, hA3, hlt3, hc3⟩ := I.out.at_ (k := q) (by rw [ofL_len]; omega)
      rw [ofL_at M s (by omega), ho] at hc3
      have i1 : (0 : Int) ≤ (q : Int) := by omega
      have i2 : (q : Int) < 3 := by omega
      have i3 : (0 : Int) ≤ (o : Int) := by omega
      have i4 : (o : Int) < 10 := by omega
      have i5 : (q : Int) < (s.size : Int) := by omega
      have HO := Lib.hid ho
      have HAO := Lib.hid hA3
      subst hA3
      clear ho hz hk
      go_wp2_with fail
      refine wp_region_ext_tail 13 (by kernel_rfl) (by kernel_rfl) ?_
      dsimp only [List.take, List.drop]
      repeat (first
        | (go_big_quiet_want
           refine quiet_perm _ rfl (w.heap.size + 1) 0 rfl (fun x => (g x : Int)) P1.out ?_
           simp only [Act.put, List.setIfInBounds_toArray, List.set_cons_succ, List.set_cons_zero]
           go_big_quiet_on)
        | (go_big_quiet_want
           refine quiet_perm _ rfl b (24 + q * 100 + o * 10) rfl (fun x => (rotF (gR M.l q).1 o x : Int)) P2.out ?_
           simp only [Act.put, List.setIfInBounds_toArray, List.set_cons_succ, List.set_cons_zero]
           go_big_quiet_on)
        | go_big_quiet_step ((first
          | (go_at_call 108; exact Ext.call _ (c_then _ _ _ HG.out.1)))))
      refine wpQuiet_nil ?_
      rintro _ ⟨⟨w4, hb4⟩, rfl⟩
      have K4 := Lib.hid (K.out.ext hb4)
      have KR4 := Lib.hid (KR.out.ext hb4)
      have R4 := Lib.hid (R.out.ext hb4)
      have I4 := Lib.hid (I.out.ext hb4)
      have B4 := Lib.hid (ext_trans B.out hb4)
      rename World => w4
      clear hb4 P1 P2 K KR R I B hc3
      refine wpList_store_row rfl 85 _ _ rfl (w.heap.size + 1) _ rfl rfl 85 _ K4.out (by rw [permA_size]; exact size_perm) (by rw [permA_size, permA_size]) (permA_one _) ?_
      have hbl : Below (w.heap.size + 1) w4 (w4.setRow (w.heap.size + 1) (permA fun i => (rotF (gR M.l q).1 o (g i) : Int))) := below_row (Below.refl _ _) (Nat.le_refl _) _
      have K5 := Lib.hid (K4.out.setRow (permA fun i => (rotF (gR M.l q).1 o (g i) : Int)))
      have KR5 := Lib.hid (KR4.out.farRow (g := w.heap.size + 1) (by omega) (permA fun i => (rotF (gR M.l q).1 o (g i) : Int)))
      have R5 := Lib.hid (R4.out.belowB hbl (by omega) (fun b o e => by have := HA.out b o e; omega))
      have I5 := Lib.hid (I4.out.grownNe (grow_row _ _ (permA fun i => (rotF (gR M.l q).1 o (g i) : Int))) (ints_ne_perm K4.out I4.out (by rw [ofL_len]; omega)))
      have B5 := Lib.hid (B4.out.trans (hbl.mono (by omega)))
      clear hbl K4 KR4 R4 I4 B4
      generalize w4.setRow (w.heap.size + 1) (permA fun i => (rotF (gR M.l q).1 o (g i) : Int)) = W5 at *
      go_wp2_with fail
      refine ⟨⟨_, q, _, rfl, rfl, by omega, HG.out.comp (HRT.out q o hq3 ho10), ?_, K5.out, KR5.out, R5.out, I5.out, B5.out⟩, ?_⟩
      · rw [← HWY.out]
        show _ = wayF M.l (ofF M s) q (fun x => rotF (gR M.l q).1 (ofF M s q) (g x))
        rw [HO.out]
      · simp only [intOf]; omega
end Go.Proofs.Ytnfeddnkokocfaa
