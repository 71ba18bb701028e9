/- SpecMach, SpecMach2, in one text. -/
import Derived.Test.YtnfeddnkokocfaaPermMore
import Derived.Test.YtnfeddnkokocfaaSpecPerm
import Derived.Test.YtnfeddnkokocfaaAsmA
import Derived.Test.YtnfeddnkokocfaaSpecP
import Derived.Test.YtnfeddnkokocfaaSpecS
namespace Go.Proofs.Ytnfeddnkokocfaa
set_option linter.unusedVariables false
set_option linter.unusedSimpArgs false
/-! SpecMach -/
section
open Go.RowKit
attribute [local go_sem] Ext.cell
open BigFrame

theorem backS_pS {f : Nat → Nat} (hf : IsP f) : backS (pS f) = pS (invF f) := by
  unfold backS
  show mkS 10 _ = mkS 10 _
  refine mkS_congr fun m hm => ?_
  obtain ⟨h1, h2⟩ := of_invF hf hm
  have : bk (pS f) m = invF f m := by
    have e := bk_of (pS_perm hf) h2
    rw [pn_pS hf h2, h1] at e
    exact e
  rw [this]
theorem pS_small (f : Nat → Nat) : (pS f).size ≤ 9223372036854775807 := by rw [pS_size]; omega
/-- the first k letters of a permutation's word -/
def pK (f : Nat → Nat) (k : Nat) : ByteArray := mkS k (fun i => 97 + (f i : Int))
theorem pK_succ (f : Nat → Nat) (k : Nat) : pK f k ++ strOfNums [97 + (f k : Int)] = pK f (k + 1) := (mkS_succ k _).symm
theorem pK_size (f : Nat → Nat) (k : Nat) : (pK f k).size = k := mkS_size _ _
theorem one_size (x : Int) : (strOfNums [x]).size = 1 := by rw [strOfNums_size]; rfl
theorem c_l1LetterD (d : Nat) (w : World) (hd : d < 10) : Calls Try.prog 60 #[.int .i64 (d : Int)] w fun e w' => e = .returned (.string (strOfNums [97 + (d : Int)])) ∧ Below w.heap.size w w' :=
  (c_l1Letter (d : Int) w (by omega) (by omega)).mono fun _ _ ⟨h1, h2⟩ => ⟨by rw [h1, show (d : Int) % 10 = d by omega], h2⟩
theorem c_imgS (f : Nat → Nat) (n : Nat) (w : World) (h : IsP f) (hn : n < 10) : Calls Try.prog 78 #[.string (pS f), .int .i64 (n : Int)] w fun e w' => e = .returned (.int .i64 (f n : Int)) ∧ w = w' :=
  (c_l2ImageP (pS f) n w (pS_perm h) hn).mono fun _ _ ⟨h1, h2⟩ => ⟨by rw [h1, pn_pS h hn], h2⟩
theorem c_l2BackP (f : Nat → Nat) (w : World) (hf : IsP f) : Calls Try.prog 165 #[.string (pS f)] w fun e w' => e = .returned (.string (pS (invF f))) ∧ Below w.heap.size w w' :=
  (c_l2Back (pS f) w (pS_perm hf)).mono fun _ _ ⟨h1, h2⟩ => ⟨by rw [h1, backS_pS hf], h2⟩
set_option maxHeartbeats 400000 in
theorem c_l2Then (f g : Nat → Nat) (w : World) (hf : IsP f) (hg : IsP g) : Calls Try.prog 120 #[.string (pS f), .string (pS g)] w fun e w' => e = .returned (.string (pS (fun i => g (f i)))) ∧ Below w.heap.size w w' := by
  have HF := Lib.hid hf
  have HG := Lib.hid hg
  clear hf hg
  go_enter Try.func120, Try.ntmps120
  go_wp2_with fail
  go_loopw [5, 6] (fun o i wr => ∃ k : Nat, k ≤ 10 ∧ i = .int .i64 k ∧ o = .string (pK (fun i => g (f i)) k) ∧ Below w.heap.size w wr) (fun _ i _ => 10 - (intOf i).toNat)
  case atStart => exact ⟨0, Nat.zero_le _, rfl, rfl, Below.refl _ _⟩
  case round =>
    obtain ⟨k, hk, rfl, rfl, hb⟩ := hrel
    have HB := Lib.hid hb
    have hz : (pK (fun i => g (f i)) k).size ≤ 10 := by rw [pK_size]; exact hk
    clear hb
    by_cases hlt : k < 10
    · have hfk := HF.out.1 k hlt
      have hgk := HG.out.1 _ hfk
      have hz1 : (strOfNums [97 + (g (f k) : Int)]).size ≤ 1 := by rw [one_size]; exact Nat.le_refl _
      have HC1 := Lib.hid (fun w => c_imgS f k w HF.out hlt)
      have HC2 := Lib.hid (fun w => c_imgS g (f k) w HG.out hfk)
      go_wp2_with (first | (go_at_call 78; ((with_reducible refine (HC1.out _).mono ?_); rintro e w' ⟨rfl, rfl⟩)) | (go_at_call 78; ((with_reducible refine (HC2.out _).mono ?_); rintro e w' ⟨rfl, rfl⟩)) | (go_at_call 60; refine (c_l1LetterD _ _ hgk).mono ?_; rintro e w2 ⟨rfl, hb2⟩; have HB2 := Lib.hid (ext_trans HB.out hb2); clear hb2))
      exact ⟨⟨k + 1, by omega, by go_num, by rw [← pK_succ], HB2.out⟩, by simp [intOf]; omega⟩
    · go_wp2_with fail
      go_ret
      have e : k = 10 := by omega
      subst e
      exact ⟨rfl, HB.out⟩
theorem c_l2Renamed (f g : Nat → Nat) (w : World) (hf : IsP f) (hg : IsP g) : Calls Try.prog 143 #[.string (pS f), .string (pS g)] w fun e w' => e = .returned (.string (pS (fun i => g (f (invF g i))))) ∧ Below w.heap.size w w' := by
  have HF := Lib.hid hf
  have HG := Lib.hid hg
  clear hf hg
  go_enter Try.func143, Try.ntmps143
  go_wp2_with fail
  refine (c_l2BackP g _ HG.out).mono ?_
  rintro e w1 ⟨rfl, hb1⟩
  have B1 := Lib.hid hb1
  clear hb1
  go_wp2_with fail
  refine (c_l2Then (invF g) f _ HG.out.inv HF.out).mono ?_
  rintro e w2 ⟨rfl, hb2⟩
  have B2 := Lib.hid (ext_trans B1.out hb2)
  clear hb2
  go_wp2_with fail
  refine (c_l2Then (fun i => f (invF g i)) g _ (HG.out.inv.comp HF.out) HG.out).mono ?_
  rintro e w3 ⟨rfl, hb3⟩
  have B3 := Lib.hid (ext_trans B2.out hb3)
  clear hb3
  go_wp2_with fail
  go_ret
  exact ⟨rfl, B3.out⟩
set_option maxHeartbeats 400000 in
theorem c_l5At (wi : ByteArray) (o : Nat) (w : World) (h : permB wi = true) (ho : o < 10) : Calls Try.prog 178 #[.string wi, .int .i64 (o : Int)] w fun e w' => e = .returned (.string (pS (rotF wi o))) ∧ Below w.heap.size w w' := by
  have HP := Lib.hid h
  clear h
  go_enter Try.func178, Try.ntmps178
  go_wp2_with fail
  go_loopw [5, 6] (fun u i wr => ∃ k : Nat, k ≤ 10 ∧ i = .int .i64 k ∧ u = .string (pK (rotF wi o) k) ∧ Below w.heap.size w wr) (fun _ i _ => 10 - (intOf i).toNat)
  case atStart => exact ⟨0, Nat.zero_le _, rfl, rfl, Below.refl _ _⟩
  case round =>
    obtain ⟨k, hk, rfl, rfl, hb⟩ := hrel
    have HB := Lib.hid hb
    have hz : (pK (rotF wi o) k).size ≤ 10 := by rw [pK_size]; exact hk
    clear hb
    by_cases hlt : k < 10
    · obtain ⟨m, hm⟩ : ∃ m, (k + o) % 10 = m := ⟨_, rfl⟩
      have hm10 : m < 10 := by omega
      have e1 : ((k : Int) + (o : Int)) % 10 = (m : Int) := by omega
      have hpm := pn_lt HP.out hm10
      obtain ⟨q, hq⟩ : ∃ q, pn wi m = q := ⟨_, rfl⟩
      rw [hq] at hpm
      have HC := Lib.hid (fun w => (c_l2ImageP wi m w HP.out hm10))
      rw [hq] at HC
      have HV : Hid (strOfNums [97 + ((q : Int) - (o : Int)) % 10] = strOfNums [97 + (rotF wi o k : Int)]) := by
        show strOfNums _ = strOfNums _
        have : ((q : Int) - (o : Int)) % 10 = (rotF wi o k : Int) := by
          unfold rotF
          rw [hm, hq]
          omega
        rw [this]
      have hz1 : (strOfNums [97 + (rotF wi o k : Int)]).size ≤ 1 := by rw [one_size]; exact Nat.le_refl _
      clear hm hq
      go_wp2_with (first | (go_at_call 78; refine (HC.out _).mono ?_; rintro e w' ⟨rfl, rfl⟩) | (go_at_call 60; refine (c_l1Letter _ _ (by omega) (by omega)).mono ?_; rintro e w2 ⟨rfl, hb2⟩; have HB2 := Lib.hid (ext_trans HB.out hb2); clear hb2; rw [HV.out]))
      exact ⟨⟨k + 1, by omega, by go_num, by rw [← pK_succ], HB2.out⟩, by simp [intOf]; omega⟩
    · go_wp2_with fail
      go_ret
      have e : k = 10 := by omega
      subst e
      exact ⟨rfl, HB.out⟩
theorem c_identP (w : World) : Calls Try.prog 122 #[] w fun e w' => e = .returned (.string (pS (fun i => i))) ∧ Below w.heap.size w w' := by
  go_enter Try.func122, Try.ntmps122
  go_wp2_with fail
  go_loopw [1, 2] (fun o i wr => ∃ k : Nat, k ≤ 10 ∧ i = .int .i64 k ∧ o = .string (pK (fun i => i) k) ∧ Below w.heap.size w wr) (fun _ i _ => 10 - (intOf i).toNat)
  case atStart => exact ⟨0, Nat.zero_le _, rfl, rfl, Below.refl _ _⟩
  case round =>
    obtain ⟨k, hk, rfl, rfl, hb⟩ := hrel
    have HB := Lib.hid hb
    have hz : (pK (fun i => i) k).size ≤ 10 := by rw [pK_size]; exact hk
    have hz1 : (strOfNums [97 + (k : Int)]).size ≤ 1 := by rw [one_size]; exact Nat.le_refl _
    clear hb
    by_cases hlt : k < 10
    · go_wp2_with fail
      refine (c_l1LetterD _ _ hlt).mono ?_
      rintro e w2 ⟨rfl, hb2⟩
      have HB2 := Lib.hid (ext_trans HB.out hb2)
      clear hb2
      go_wp2_with fail
      exact ⟨⟨k + 1, by omega, by go_num, by rw [← pK_succ], HB2.out⟩, by simp [intOf]; omega⟩
    · go_wp2_with fail
      go_ret
      have e : k = 10 := by omega
      subst e
      exact ⟨rfl, HB.out⟩
end
/-! SpecMach2 -/
section
open Go.RowKit
attribute [local go_sem] Ext.cell
open BigFrame

/-- the same append, at a step of a region that draws its order -/
theorem stepApp1 {P : Program} (w : World) {ops : Array Oper} {o : Oper} {a : Act} {K : Act → World → Prop} {Q : Exit → Act → World → Prop} {E : Prop} (hgd : o.guard = none) (s x : Operand) (t : TypeId)
    (ho : o.op = .call { callee := .builtin .append, args := #[s, x], argTypes := #[t, t] })
    (B : Nat) (e : TypeId) {z : Value} {bytes : Nat} (ht : P.underlying t = some (.slice e)) (hinfo : (P.info? e).map (fun i => (i.zero, i.size, i.bytes)) = some (some z, 1, bytes)) (hzs : z.cells.size = 1)
    (v : Value) (l : List Value) (hs : a.eval s = v) (y : Value) (g : Nat) (hown : Own w B e v l) (hx : a.eval x = .slice (some ⟨g, 0, none⟩) 1 1) (hg : w.cell? ⟨g, 0, none⟩ = some y) (h1 : y.oneCell' = true)
    (hlen : l.length ≤ 1000000000) (hby : bytes ≤ 1000) (hbase : B ≤ w.heap.size)
    (h : ∀ v' w', Own w' B e v' (l ++ [y]) → w.grownBy w' v.ownBlock → K (a.put o.dst v') w') :
    if Region.wanted o (yielded ops a.tmps) = true then Oper.wp P o a w K Q else E := by
  have hw : Region.wanted o (yielded ops a.tmps) = true := by simp [Region.wanted, hgd]
  rw [if_pos hw]
  obtain ⟨i, hi, hz0, hz1, hz2⟩ := info_parts hinfo
  have hb : (l.length + 1) * bytes ≤ 140737488355328 := by
    have : (l.length + 1) * bytes ≤ 1000000001 * 1000 := Nat.mul_le_mul (by omega) hby
    omega
  obtain ⟨v', w', hr, h2, h3, h4, h5⟩ := run_append_own_at (P := P) w B t o.type e i z 1 bytes ht hi hz0 hz1 hz2 hzs (by omega) v l.length l hown ⟨g, 0, none⟩ 1 1 [y] rfl (by
    intro j u hj
    match j, hj with
    | 0, hj => simp at hj; subst hj; exact hg) (by simpa using h1) (by unfold maxLen; omega) hb hbase
  unfold Oper.wp execOp
  simp only [ho, resolve, invoke, builtin, Sem.run_bind, Sem.run_pure, Result.andThen_ok, List.map_toArray, List.map_cons, List.map_nil, hs, hx, hr]
  exact h v' w' (by unfold Own; simpa using h2) h3

theorem own_empty (w : World) (e : TypeId) : Own (w.alloc (.cells #[] e)) w.heap.size e (.slice (some ⟨w.heap.size, 0, none⟩) 0 0) [] := by
  have := World.ownsRow_made (base := w.heap.size) (e := e) (size := 1) w #[] 0 (Nat.le_refl _) (by unfold maxLen; omega) rfl
  simpa [Own] using this
theorem rot_perm {M : Mch} (h : mB M = true) {i : Nat} (hi : i < M.l.length) : permB (gR M.l i).1 = true := by
  have := wheelsB_rot ((winB_iff _ _ _).1 ((mB_iff M).1 h).1).1 hi
  unfold rotB at this
  simp only [Bool.and_eq_true] at this
  exact this.1
/-- the way through the rotors alone -/
def thrF (M : Mch) (s : ByteArray) : Nat → Nat := wayF M.l (ofF M s) M.l.length (fun y => y)
theorem thrF_P {M : Mch} (s : ByteArray) (h : mB M = true) : IsP (thrF M s) := IsP.way (fun _ hi => rot_perm h hi) (fun _ _ => by unfold ofF; omega) IsP.id
set_option maxHeartbeats 400000 in
theorem c_l6Through (A AO : Option Addr) (cA cO : Nat) (M : Mch) (s : ByteArray) (w : World) (hR : IsRots w (.slice A M.l.length cA) M.l) (hO : IsInts w (.slice AO s.size cO) (ofL M s)) (h : setB M s = true) : Calls Try.prog 170 #[.agg #[.slice A M.l.length cA, .string M.rf], .slice AO s.size cO] w fun e w' => e = .returned (.string (pS (thrF M s))) ∧ Below w.heap.size w w' := by
  have HM := Lib.hid ((setB_iff M s).1 h).1
  obtain ⟨f1, f2, f3, f4⟩ := win_facts (setB_win h)
  have HL := Lib.hid f3
  have I0 := Lib.hid (WInv.start M.rf hR)
  have O0 := Lib.hid (hO.ext (ext_alloc w (.cells #[.slice A M.l.length cA, .string M.rf] 31)))
  clear hR hO h f3 f4
  go_enter Try.func170, Try.ntmps170
  go_wp2_with fail
  refine (c_identP _).mono ?_
  rintro e w1 ⟨rfl, hb1⟩
  have I1 := Lib.hid (I0.out.ext hb1)
  have O1 := Lib.hid (O0.out.ext hb1)
  clear hb1 I0 O0
  go_wp2_with fail
  go_loopw [5, 6] (fun o i wr => ∃ (z : Int) (k : Nat) (g : Nat → Nat), i = .int .i64 z ∧ z = (k : Int) - 1 ∧ k ≤ s.size ∧ IsP g ∧ wayF M.l (ofF M s) k g = thrF M s ∧ o = .string (pS g) ∧ IsInts wr (.slice AO s.size cO) (ofL M s) ∧ WInv w wr A cA M.l M.rf) (fun _ i _ => (intOf i + 1).toNat)
  case atStart => exact ⟨_, s.size, _, rfl, rfl, Nat.le_refl _, IsP.id, by unfold thrF; rw [HL.out], rfl, O1.out, I1.out⟩
  case round =>
    clear O1 I1
    obtain ⟨z, k, g, rfl, hz, hk, hg, hway, rfl, hI, hW⟩ := hrel
    have HG := Lib.hid hg
    have HWY := Lib.hid hway
    have I := Lib.hid hI
    have W := Lib.hid hW
    clear hg hway hI
    rcases k with _ | q
    · obtain rfl : z = -1 := by omega
      clear hz hW
      go_wp2_with fail
      go_ret
      have e : g = thrF M s := HWY.out
      rw [e]
      exact ⟨rfl, W.out.bel⟩
    · obtain rfl : z = (q : Int) := by omega
      obtain ⟨o, ho⟩ : ∃ o, ofF M s q = o := ⟨_, rfl⟩
      have ho10 : o < 10 := by rw [← ho]; unfold ofF; omega
      have hq3 : q < M.l.length := by have := HL.out; omega
      have HPQ := Lib.hid (rot_perm HM.out hq3)
      obtain ⟨b, ob, rfl, hb, hc0, hc1⟩ := hW.rot.at_ hq3
      obtain ⟨b3, o3, hA3, hlt3, hc3⟩ := I.out.at_ (k := q) (by rw [ofL_len]; omega)
      rw [ofL_at M s (by omega), ho] at hc3
      have y0 := hW.c0
      have hlw : w.heap.size < wr.heap.size := hW.box.lt
      have i1 : (0 : Int) ≤ (q : Int) := by omega
      have i2 : (q : Int) < (M.l.length : Int) := by omega
      have i5 : (q : Int) < (s.size : Int) := by omega
      have HO := Lib.hid ho
      obtain ⟨wi, hwi⟩ : ∃ x, (gR M.l q).1 = x := ⟨_, rfl⟩
      rw [hwi] at hc0 HPQ
      have HWI := Lib.hid hwi
      subst hA3
      clear ho hz hk hwi hc1 hW
      go_wp2_with fail
      refine wp_region_ext (by kernel_rfl) (by kernel_rfl) ?_
      repeat (go_big_quiet_step ((first
        | (go_at_call 178; exact Ext.call _ (c_l5At wi o _ HPQ.out ho10))
        | (go_at_call 120; exact Ext.call _ (c_l2Then g (rotF wi o) _ HG.out (IsP.rot HPQ.out ho10))))))
      refine wpQuiet_nil ?_
      rintro _ ⟨⟨w4, hb4⟩, rfl⟩
      have I4 := Lib.hid (I.out.ext hb4)
      have W4 := Lib.hid (W.out.ext hb4)
      clear hb4 hc0 hc3 y0 I W
      go_wp2_with fail
      refine ⟨⟨_, q, _, rfl, rfl, by omega, HG.out.comp (IsP.rot HPQ.out ho10), ?_, rfl, I4.out, W4.out⟩, ?_⟩
      · rw [← HWY.out]
        show _ = wayF M.l (ofF M s) q (fun x => rotF (gR M.l q).1 (ofF M s q) (g x))
        rw [HO.out, HWI.out]
      · simp only [intOf]; omega
theorem c_renW {P : Program} {f : FuncId} {p : ByteArray} {g : Nat → Nat} {w : World} {R : Ending → World → Prop} (h : permB p = true) (hc : Calls P f #[.string (pS (pn p)), .string (pS g)] w R) : Calls P f #[.string p, .string (pS g)] w R := by rwa [pS_pn h] at hc
theorem c_renQ {P : Program} {f : FuncId} {p : ByteArray} {g : Nat → Nat} {w : World} {R : Ending → World → Prop} (h : permB p = true) (hc : Calls P f #[.string (pS g), .string (pS (pn p))] w R) : Calls P f #[.string (pS g), .string p] w R := by rwa [pS_pn h] at hc
set_option maxHeartbeats 400000 in
theorem c_l6Scramble (A AO : Option Addr) (cA cO : Nat) (M : Mch) (s : ByteArray) (w : World) (hR : IsRots w (.slice A M.l.length cA) M.l) (hO : IsInts w (.slice AO s.size cO) (ofL M s)) (h : setB M s = true) : Calls Try.prog 144 #[.agg #[.slice A M.l.length cA, .string M.rf], .slice AO s.size cO] w fun e w' => e = .returned (.string (pS (turnF (thrF M s) (pn M.rf)))) ∧ Below w.heap.size w w' := by
  have HM := Lib.hid ((setB_iff M s).1 h).1
  have H := Lib.hid h
  have HT := Lib.hid (thrF_P s HM.out)
  have HF := Lib.hid (refl_facts (mB_refl HM.out)).1
  have HFP := Lib.hid (isP_of_refl (mB_refl HM.out))
  have I0 := Lib.hid (WInv.start M.rf hR)
  have O0 := Lib.hid (hO.ext (ext_alloc w (.cells #[.slice A M.l.length cA, .string M.rf] 31)))
  clear hR hO h
  have y0 := I0.out.c0
  have y1 := I0.out.c1
  have hlw : w.heap.size < (w.alloc (.cells #[.slice A M.l.length cA, .string M.rf] 31)).heap.size := by simp
  go_enter Try.func144, Try.ntmps144
  go_upto_region 1 with (fail)
  generalize (w.alloc (.cells #[.slice A M.l.length cA, .string M.rf] 31)) = W1 at *
  refine wp_region_ext (by kernel_rfl) (by kernel_rfl) ?_
  repeat (go_big_quiet_step ((first
    | (go_at_call 170; exact Ext.call _ (c_l6Through A AO cA cO M s _ (I0.out.rot.ext (Subtype.property _)) (O0.out.ext (Subtype.property _)) H.out))
    | (go_at_call 165; exact Ext.call _ (c_l2BackP (thrF M s) _ HT.out))
    | (go_at_call 143; exact Ext.call _ (c_renW HFP.out (c_l2Renamed (pn M.rf) (invF (thrF M s)) _ HF.out HT.out.inv))))))
  refine wpQuiet_nil ?_
  rintro _ ⟨⟨w4, hb4⟩, rfl⟩
  have B4 := Lib.hid (ext_trans I0.out.bel hb4)
  clear hb4 y0 y1
  go_wp2_with fail
  go_ret
  refine ⟨congrArg Ending.returned (congrArg Value.string (pS_congr fun i hi => ?_)), B4.out⟩
  unfold turnF
  rw [invF_inv HT.out hi]
set_option maxHeartbeats 1000000 in
set_option maxRecDepth 100000 in
theorem c_l8Offsets (A : Option Addr) (cA : Nat) (M : Mch) (s : ByteArray) (w : World) (hR : IsRots w (.slice A M.l.length cA) M.l) (h : setB M s = true) : Calls Try.prog 145 #[mV A cA M, .string s] w fun e w' => ∃ AO cO, e = .returned (.slice AO s.size cO) ∧ IsInts w' (.slice AO s.size cO) (ofL M s) ∧ Below w.heap.size w w' := by
  obtain ⟨h1, h2, h3⟩ := (setB_iff M s).1 h
  obtain ⟨f1, f2, f3, f4⟩ := win_facts (setB_win h)
  have hrg := ((winB_iff _ _ _).1 ((mB_iff M).1 h1).1).2.1
  obtain ⟨b0, o0, hA, hb0⟩ := hR.blk (by omega)
  have L0 := Lib.hid ((MW.start M (Below.refl w.heap.size w) hR).ext (ext_alloc _ (.cells #[] 3)))
  have O0 := Lib.hid (own_empty (w.alloc (.cells #[.slice A M.l.length cA, .string M.rf, .string M.rg, .string M.pl] 33)) 3)
  rw [World.size_alloc] at O0
  have HS := Lib.hid h2
  have HGG := Lib.hid hrg
  have H3 := Lib.hid h3
  have HA : Hid (∀ b o, A = some ⟨b, o, none⟩ → b < w.heap.size) := fun b o e => by rw [hA] at e; injection e with e; injection e with e; omega
  have hgs : M.rg.size ≤ 3 := by omega
  clear hR h h1 h2 h3 hrg f3 f4 hA
  go_enter Try.func145, Try.ntmps145
  go_wp2_with fail
  go_loopw [5, 6] (fun o i wr => ∃ k : Nat, k ≤ s.size ∧ i = .int .i64 k ∧ Own wr (w.heap.size + 1) 3 o (((List.range k).map (fun i => (ofF M s i : Int))).map (.int .i64)) ∧ MW w w.heap.size A cA M wr) (fun _ i _ => s.size - (intOf i).toNat)
  case atStart => exact ⟨0, Nat.zero_le _, rfl, O0.out, L0.out⟩
  case round =>
    clear O0 L0
    obtain ⟨k, hk, rfl, ho, hL⟩ := hrel
    have O2 := Lib.hid ho
    have L2 := Lib.hid hL
    have hsz : w.heap.size + 1 ≤ wr.heap.size := hL.lt
    clear ho hL
    by_cases hlt : k < s.size
    · have r1 := ((wv_iff s).1 HS.out).2 k hlt
      have hkg : k < M.rg.size := by have := H3.out; omega
      have r2 := ((wv_iff M.rg).1 HGG.out).2 k hkg
      have c2 := L2.out.c2
      have hbl := L2.out.lt
      obtain ⟨q, hq⟩ : ∃ q, ofF M s k = q := ⟨_, rfl⟩
      have HQ := Lib.hid hq
      have hq2 : q = ((bt s k - 97).toNat + 10 - (bt M.rg k - 97).toNat) % 10 := by rw [← hq]; rfl
      have e1 : IntKind.i64.wrap (bt s k - 97 - (bt M.rg k - 97)) = bt s k - 97 - (bt M.rg k - 97) := IntWalk.i64_in _ (by omega)
      have e2 : IntKind.i64.wrap (bt s k - 97 - (bt M.rg k - 97) + 10) = bt s k - 97 - (bt M.rg k - 97) + 10 := IntWalk.i64_in _ (by omega)
      have e3 : (bt s k - 97 - (bt M.rg k - 97) + 10).tmod 10 = (q : Int) := by rw [Int.tmod_eq_emod_of_nonneg (by omega)]; omega
      have HC1 := Lib.hid (fun w => c_l1Digit s k w hlt (by omega))
      have HC2 := Lib.hid (fun w => c_l1Digit M.rg k w hkg (by omega))
      clear hq hq2
      go_wp2_with fail
      go_region_law (first
        | (refine stepApp1 _ rfl _ _ _ rfl (w.heap.size + 1) 3 Try.underlying69 info_int rfl _ _ rfl (.int .i64 (q : Int)) wr.heap.size ((O2.out.alloc (.cells #[.int .i64 (q : Int)] 3)).drew) rfl ?_ rfl ?_ (by omega) ?_ ?_
           · show (wr.alloc (.cells #[.int .i64 (q : Int)] 3)).cell? ⟨wr.heap.size, 0, none⟩ = _; rw [World.cell?_alloc_at _ _ _ _ rfl]; rfl
           · simp; omega
           · simp; omega
           intro v' w5 hown5 hgr5)
        | (go_simp; go_at_call 79; ((with_reducible refine (HC1.out _).mono ?_); rintro e w' ⟨rfl, rfl⟩))
        | (go_simp; go_at_call 79; ((with_reducible refine (HC2.out _).mono ?_); rintro e w' ⟨rfl, rfl⟩)))
      all_goals
        have HO5 := Lib.hid hown5
        have hb5 := ((O2.out.alloc (.cells #[.int .i64 (q : Int)] 3)).drew).below (Nat.le_refl _) (by simp; omega) (((Below.refl (w.heap.size + 1) wr).alloc (by omega) (.cells #[.int .i64 (q : Int)] 3)).drew) hgr5
        have L5 := Lib.hid (L2.out.belowB hb5 (by omega) (fun b o e => by have := HA.out b o e; omega) (L2.out.bel.trans (hb5.mono (by omega))))
        clear hgr5 hb5 hown5 e1 e2 e3
        go_wp2_with fail
        refine ⟨⟨k + 1, by omega, by go_num, ?_, L5.out⟩, by simp [intOf]; omega⟩
        rw [List.range_succ, List.map_append, List.map_append, List.map_cons, List.map_nil, List.map_cons, List.map_nil, HQ.out]
        exact HO5.out
    · have e : k = s.size := by omega
      subst e
      go_wp2_with fail
      go_ret
      have hI := O2.out.ints (by simp; omega)
      obtain ⟨AO, cO, hf⟩ := hI.form
      have hl : ((List.range s.size).map (fun i => (ofF M s i : Int))).length = s.size := by simp
      rw [hl] at hf
      exact ⟨AO, cO, by rw [hf]; rfl, by rw [← hf]; exact hI, L2.out.bel⟩
end
end Go.Proofs.Ytnfeddnkokocfaa
