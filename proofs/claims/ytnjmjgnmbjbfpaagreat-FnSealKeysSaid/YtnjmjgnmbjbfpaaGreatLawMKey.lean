/- The walks of FnSealKey, FnSealKeys. -/
import Derived.Test.YtnjmjgnmbjbfpaaGreatLawMach2
import Derived.Test.YtnjmjgnmbjbfpaaGreatSpecKeys2
import Derived.Test.YtnjmjgnmbjbfpaaGreatDrawMach3
namespace Go.Proofs.YtnjmjgnmbjbfpaaGreat
set_option linter.unusedVariables false
set_option linter.unusedSimpArgs false
open Go.RowKit
attribute [local go_sem] Ext.cell
open BigFrame

noncomputable def oneS (t : ByteArray) (i : Nat) (n : Int) : ByteArray := t.extract 0 i ++ shS (t.extract i (i + 1)) n ++ t.extract (i + 1) t.size
theorem oneS_size (t : ByteArray) {i : Nat} (n : Int) (hi : i < t.size) : (oneS t i n).size = t.size := by
  unfold oneS
  rw [ByteArray.size_append, ByteArray.size_append, shS_size, x1size t (a := 0) (b := i) (by omega), x1size t (a := i) (b := i + 1) (by omega), x1size t (a := i + 1) (b := t.size) (by omega)]
  omega
theorem oneS_bt (t : ByteArray) {i : Nat} (n : Int) (hi : i < t.size) {j : Nat} (hj : j < t.size) : bt (oneS t i n) j = if j = i then 97 + (bt t i - 97 + n) % 10 else bt t j := by
  have z1 := x1size t (a := 0) (b := i) (by omega)
  have z2 := x1size t (a := i) (b := i + 1) (by omega)
  unfold oneS
  rw [bt_append, ByteArray.size_append, shS_size, z1, z2]
  by_cases h1 : j < i
  · rw [if_pos (by omega), bt_append, if_pos (by rw [z1]; omega), x1bt t (by omega) (by omega), if_neg (by omega), Nat.zero_add]
  · by_cases h2 : j = i
    · subst h2
      rw [if_pos (by omega), bt_append, if_neg (by rw [z1]; omega), z1, shS_bt _ _ (by rw [z2]; omega), x1bt t (by omega) (by omega), if_pos rfl, show j + (j - (j - 0)) = j by omega]
    · rw [if_neg (by omega), if_neg h2, x1bt t (by omega) (by omega), show i + 1 + (j - (i - 0 + (i + 1 - i))) = j by omega]
theorem sealR_cases (M : Mch) (s k t : ByteArray) : sealR M s k t = .tuple #[msgV ByteArray.empty ByteArray.empty ByteArray.empty, .bool false] ∨ (setB M s = true ∧ setB M k = true ∧ wv t = true ∧ sealR M s k t = .tuple #[msgV s (encW M s k) (encW M k t), .bool true]) := by
  cases h : ((setB M s && setB M k) && wv t)
  · exact .inl (sealR_no h)
  · rw [Bool.and_eq_true, Bool.and_eq_true] at h
    exact .inr ⟨h.1.1, h.1.2, h.2, sealR_ok h.1.1 h.1.2 h.2⟩
set_option maxHeartbeats 1000000 in
set_option maxRecDepth 100000 in
theorem walk_FnSealKey (a0 : Option Addr) (len0 cap0 : Nat) (z0 : List Int) (w : World) (w0 : IsRowB w a0 len0 cap0 z0) :
    Calls Tryz.prog 4 #[.slice a0 len0 cap0] w fun e w' => e = .returned (.bool true) ∧ Below w.heap.size w w' := by
  by_cases hl0 : 1048576 < len0
  · clear w0
    go_enter Tryz.func4, Tryz.ntmps4
    go_wp2_with fail
    go_ret
    exact ⟨rfl, Below.refl _ _⟩
  · have HC := Lib.hid (code_of w0 (by omega))
    clear w0
    go_enter Tryz.func4, Tryz.ntmps4
    go_wp2_with fail
    refine (c_DrawSealMessage a0 len0 cap0 _ HC.out).mono ?_
    rintro e w1 ⟨A, cA, M, s, kk, t, rfl, hR, hM, hs, hkk, ht, hb1⟩
    have L1 := Lib.hid (MW.start M hb1 hR)
    have HM := Lib.hid hM.sz
    clear hR hb1 HC hM
    have x0 := L1.out.c0
    have x1 := L1.out.c1
    have x2 := L1.out.c2
    have x3 := L1.out.c3
    go_wp2_with fail
    refine (c_SealMessage A cA M s kk t _ L1.out.rot HM.out (by omega) (by omega) (by omega)).mono ?_
    rintro e w2 ⟨rfl, hb2⟩
    rcases sealR_cases M s kk t with hr | ⟨h1, h2, h3, hr⟩
    · rw [hr]
      have HR := Lib.hid hr
      have KX := Lib.hid (Blk.new w2 39 #[.string ByteArray.empty, .string ByteArray.empty, .string ByteArray.empty])
      have L2 := Lib.hid (L1.out.ext (ext_trans hb2 (ext_alloc w2 (.cells #[.string ByteArray.empty, .string ByteArray.empty, .string ByteArray.empty] 39))))
      clear hb2 hr x0 x1 x2 x3 L1
      have x0 := L2.out.c0
      have x1 := L2.out.c1
      have x2 := L2.out.c2
      have x3 := L2.out.c3
      go_wp2_with fail
      refine (c_sSealMessage A cA M s kk t _ L2.out.rot HM.out (by omega) (by omega) (by omega)).mono ?_
      rintro e w3 ⟨rfl, hb3⟩
      rw [HR.out]
      have KX3 := Lib.hid ((KX.out.ext hb3).alloc (.cells #[.string ByteArray.empty, .string ByteArray.empty, .string ByteArray.empty] 39))
      have KY3 := Lib.hid (Blk.new w3 39 #[.string ByteArray.empty, .string ByteArray.empty, .string ByteArray.empty])
      have L3 := Lib.hid (L2.out.ext (ext_trans hb3 (ext_alloc w3 (.cells #[.string ByteArray.empty, .string ByteArray.empty, .string ByteArray.empty] 39))))
      clear hb3 x0 x1 x2 x3 L2 KX
      have m0 := KX3.out.cell 0
      have m1 := KX3.out.cell 1
      have m2 := KX3.out.cell 2
      have n0 := KY3.out.cell 0
      have n1 := KY3.out.cell 1
      have n2 := KY3.out.cell 2
      go_wp2_with fail
      go_ret
      exact ⟨rfl, L3.out.bel⟩
    · have hB := ((setB_iff _ _).1 h1).1
      have hE1 := encT_ok h1 ((setB_iff _ _).1 h2).2.1
      have hE2 := encT_ok h2 h3
      obtain ⟨p1, hp1⟩ : ∃ p, encW M s kk = p := ⟨_, rfl⟩
      obtain ⟨p2, hp2⟩ : ∃ p, encW M kk t = p := ⟨_, rfl⟩
      rw [hp1] at hE1
      rw [hp2] at hE2
      rw [hp1, hp2] at hr
      have HE1 := Lib.hid hE1
      have HE2 := Lib.hid hE2
      rw [hr]
      have HR := Lib.hid hr
      clear h1 h2 h3 hB hE1 hE2 hp1 hp2 hr
      have KX := Lib.hid (Blk.new w2 39 #[.string s, .string p1, .string p2])
      have L2 := Lib.hid (L1.out.ext (ext_trans hb2 (ext_alloc w2 (.cells #[.string s, .string p1, .string p2] 39))))
      have hw2 : w1.heap.size < w2.heap.size := (L1.out.ext hb2).lt
      clear hb2 x0 x1 x2 x3 L1
      have x0 := L2.out.c0
      have x1 := L2.out.c1
      have x2 := L2.out.c2
      have x3 := L2.out.c3
      go_wp2_with fail
      refine (c_sSealMessage A cA M s kk t _ L2.out.rot HM.out (by omega) (by omega) (by omega)).mono ?_
      rintro e w3 ⟨rfl, hb3⟩
      rw [HR.out]
      have hw3 : w2.heap.size < w3.heap.size := (KX.out.ext hb3).lt
      have KX3 := Lib.hid ((KX.out.ext hb3).alloc (.cells #[.string s, .string p1, .string p2] 39))
      have KY3 := Lib.hid (Blk.new w3 39 #[.string s, .string p1, .string p2])
      have L3 := Lib.hid (L2.out.ext (ext_trans hb3 (ext_alloc w3 (.cells #[.string s, .string p1, .string p2] 39))))
      clear hb3 x0 x1 x2 x3 L2 KX
      have x0 := L3.out.c0
      have x1 := L3.out.c1
      have x2 := L3.out.c2
      have x3 := L3.out.c3
      have m0 := KX3.out.cell 0
      have m1 := KX3.out.cell 1
      have m2 := KX3.out.cell 2
      have n0 := KY3.out.cell 0
      have n1 := KY3.out.cell 1
      have n2 := KY3.out.cell 2
      have T0 := bs_yes (a := s) (b := s) rfl
      have T1 := bs_yes (a := p1) (b := p1) rfl
      have T2 := bs_yes (a := p2) (b := p2) rfl
      have hlt3 := L3.out.lt
      have hltm : w2.heap.size < (w3.alloc (.cells #[.string s, .string p1, .string p2] 39)).heap.size := KX3.out.lt
      go_upto_region 8 with fail
      generalize w3.alloc (.cells #[.string s, .string p1, .string p2] 39) = W3 at *
      refine wp_region_ext (by kernel_rfl) (by kernel_rfl) ?_
      repeat (go_big_quiet_step ((go_at_call 14; exact Ext.callv _ (c_rcText A cA M _ _ _ (L3.out.rot.ext (Subtype.property _)) HM.out (by omega) (by omega)) (congrArg Value.string (by first | exact HE1.out | exact HE2.out)))))
      refine wpQuiet_nil ?_
      rintro w4 ⟨⟨_, hb4⟩, rfl⟩
      have L4 := Lib.hid (L3.out.ext hb4)
      clear hb4
      go_wp2_with fail
      go_ret
      exact ⟨rfl, L4.out.bel⟩
set_option maxHeartbeats 1000000 in
set_option maxRecDepth 100000 in
theorem walk_FnSealKeys (a0 : Option Addr) (len0 cap0 : Nat) (z0 : List Int) (w : World) (w0 : IsRowB w a0 len0 cap0 z0) :
    Calls Tryz.prog 5 #[.slice a0 len0 cap0] w fun e w' => e = .returned (.bool true) ∧ Below w.heap.size w w' := by
  by_cases hl0 : 1048576 < len0
  · clear w0
    go_enter Tryz.func5, Tryz.ntmps5
    go_wp2_with fail
    go_ret
    exact ⟨rfl, Below.refl _ _⟩
  · have HC := Lib.hid (code_of w0 (by omega))
    clear w0
    go_enter Tryz.func5, Tryz.ntmps5
    go_wp2_with fail
    refine (c_DrawSealMessage a0 len0 cap0 _ HC.out).mono ?_
    rintro e w1 ⟨A, cA, M, s, kk, t, rfl, hR, hM, hs, hkk, ht, hb1⟩
    have L1 := Lib.hid (MW.start M hb1 hR)
    have HM := Lib.hid hM.sz
    clear hR hb1 HC hM
    have x0 := L1.out.c0
    have x1 := L1.out.c1
    have x2 := L1.out.c2
    have x3 := L1.out.c3
    go_wp2_with fail
    refine (c_SealMessage A cA M s kk t _ L1.out.rot HM.out (by omega) (by omega) (by omega)).mono ?_
    rintro e w2 ⟨rfl, hb2⟩
    rcases sealR_cases M s kk t with hr | ⟨h1, h2, h3, hr⟩
    · rw [hr]
      have HR := Lib.hid hr
      have KX := Lib.hid (Blk.new w2 39 #[.string ByteArray.empty, .string ByteArray.empty, .string ByteArray.empty])
      have L2 := Lib.hid (L1.out.ext (ext_trans hb2 (ext_alloc w2 (.cells #[.string ByteArray.empty, .string ByteArray.empty, .string ByteArray.empty] 39))))
      clear hb2 hr x0 x1 x2 x3 L1
      have x0 := L2.out.c0
      have x1 := L2.out.c1
      have x2 := L2.out.c2
      have x3 := L2.out.c3
      go_wp2_with fail
      refine (c_sSealMessage A cA M s kk t _ L2.out.rot HM.out (by omega) (by omega) (by omega)).mono ?_
      rintro e w3 ⟨rfl, hb3⟩
      rw [HR.out]
      have KX3 := Lib.hid ((KX.out.ext hb3).alloc (.cells #[.string ByteArray.empty, .string ByteArray.empty, .string ByteArray.empty] 39))
      have KY3 := Lib.hid (Blk.new w3 39 #[.string ByteArray.empty, .string ByteArray.empty, .string ByteArray.empty])
      have L3 := Lib.hid (L2.out.ext (ext_trans hb3 (ext_alloc w3 (.cells #[.string ByteArray.empty, .string ByteArray.empty, .string ByteArray.empty] 39))))
      clear hb3 x0 x1 x2 x3 L2 KX
      have m0 := KX3.out.cell 0
      have m1 := KX3.out.cell 1
      have m2 := KX3.out.cell 2
      have n0 := KY3.out.cell 0
      have n1 := KY3.out.cell 1
      have n2 := KY3.out.cell 2
      go_wp2_with fail
      go_ret
      exact ⟨rfl, L3.out.bel⟩
    · have hB := ((setB_iff _ _).1 h1).1
      obtain ⟨q, hq⟩ : ∃ q, t.size % 9 = q := ⟨_, rfl⟩
      have hq9 : q < 9 := by omega
      have hmod : (t.size : Int) % 9 = (q : Int) := by omega
      have HMO := Lib.hid hmod
      obtain ⟨z1, z2, z3, z4⟩ := setB_size h2
      have ONE : Hid (∀ i, i < kk.size → ∃ p3 p4, sealR M s (kk.extract 0 i ++ shS (kk.extract i (i + 1)) (1 + (q : Int)) ++ kk.extract (i + 1) kk.size) t = .tuple #[msgV s p3 p4, .bool true] ∧ p3 ≠ encW M s kk) := fun i hi => by
        have hs1 := oneS_size kk (1 + (q : Int)) hi
        have hv1 : wv (oneS kk i (1 + (q : Int))) = true := by
          rw [wv_iff] at z4 ⊢
          rw [hs1]
          refine ⟨z4.1, fun j hj => ?_⟩
          rw [oneS_bt kk _ hi hj]
          split
          · omega
          · exact z4.2 j hj
        have hset : setB M (oneS kk i (1 + (q : Int))) = true := (setB_iff _ _).2 ⟨hB, hv1, hs1.trans z3⟩
        refine ⟨_, _, sealR_ok h1 hset h3, fun e => ?_⟩
        have e1 : bt (encW M s (oneS kk i (1 + (q : Int)))) i = bt (encW M s kk) i := congrArg (fun b => bt b i) e
        have e2 : bt (oneS kk i (1 + (q : Int))) i = bt kk i := (encW_inj hB hv1 z4 (by omega) hi).1 e1
        rw [oneS_bt kk _ hi hi, if_pos rfl] at e2
        have := ((wv_iff kk).1 z4).2 i hi
        omega
      have SH : Hid (∀ i, i < kk.size → shR (kk.extract i (i + 1)) (1 + (q : Int)) = shS (kk.extract i (i + 1)) (1 + (q : Int))) := fun i hi => shR_ok (x1wv z4 _ _ (by omega)) (by omega) (by omega)
      obtain ⟨p1, hp1⟩ : ∃ p, encW M s kk = p := ⟨_, rfl⟩
      obtain ⟨p2, hp2⟩ : ∃ p, encW M kk t = p := ⟨_, rfl⟩
      rw [hp1, hp2] at hr
      rw [hp1] at ONE
      rw [hr]
      have HR := Lib.hid hr
      clear h1 h2 h3 hB hp1 hp2 hr hq hmod z1 z3 z4
      have KX := Lib.hid (Blk.new w2 39 #[.string s, .string p1, .string p2])
      have L2 := Lib.hid (L1.out.ext (ext_trans hb2 (ext_alloc w2 (.cells #[.string s, .string p1, .string p2] 39))))
      have hw2 : w1.heap.size < w2.heap.size := (L1.out.ext hb2).lt
      clear hb2 x0 x1 x2 x3 L1
      have x0 := L2.out.c0
      have x1 := L2.out.c1
      have x2 := L2.out.c2
      have x3 := L2.out.c3
      go_wp2_with fail
      refine (c_sSealMessage A cA M s kk t _ L2.out.rot HM.out (by omega) (by omega) (by omega)).mono ?_
      rintro e w3 ⟨rfl, hb3⟩
      rw [HR.out]
      have hw3 : w2.heap.size < w3.heap.size := (KX.out.ext hb3).lt
      have KX3 := Lib.hid ((KX.out.ext hb3).alloc (.cells #[.string s, .string p1, .string p2] 39))
      have KY3 := Lib.hid (Blk.new w3 39 #[.string s, .string p1, .string p2])
      have L3 := Lib.hid (L2.out.ext (ext_trans hb3 (ext_alloc w3 (.cells #[.string s, .string p1, .string p2] 39))))
      clear hb3 x0 x1 x2 x3 L2 KX
      have x0 := L3.out.c0
      have x1 := L3.out.c1
      have x2 := L3.out.c2
      have x3 := L3.out.c3
      have m0 := KX3.out.cell 0
      have m1 := KX3.out.cell 1
      have m2 := KX3.out.cell 2
      have n0 := KY3.out.cell 0
      have n1 := KY3.out.cell 1
      have n2 := KY3.out.cell 2
      have T0 := bs_yes (a := s) (b := s) rfl
      have T1 := bs_yes (a := p1) (b := p1) rfl
      have T2 := bs_yes (a := p2) (b := p2) rfl
      have hlt3 := L3.out.lt
      have hltm : w2.heap.size < (w3.alloc (.cells #[.string s, .string p1, .string p2] 39)).heap.size := KX3.out.lt
      go_upto_region 8 with fail
      generalize w3.alloc (.cells #[.string s, .string p1, .string p2] 39) = W3 at *
      clear n0 n1 n2 KY3 T0 T1 T2
      go_wp2_with fail
      go_loopw [11] (fun i wr => ∃ k : Nat, k ≤ kk.size ∧ i = .int .i64 k ∧ MW w w1.heap.size A cA M wr ∧ Blk wr w2.heap.size 39 #[.string s, .string p1, .string p2]) (fun i _ => kk.size - (intOf i).toNat)
      case atStart => exact ⟨0, Nat.zero_le _, rfl, L3.out, KX3.out⟩
      case round =>
        clear L3 KX3 x0 x1 x2 x3 m0 m1 m2 hlt3
        obtain ⟨i, hi, rfl, hL, hK⟩ := hrel
        have L4 := Lib.hid hL
        have K4 := Lib.hid hK
        clear hL hK
        by_cases hlt : i < kk.size
        · obtain ⟨p3, p4, hr3, hne⟩ := ONE.out i hlt
          have HR3 := Lib.hid hr3
          have HNE := Lib.hid hne
          have sh1 := Lib.hid (SH.out i hlt)
          have z1 : (kk.extract 0 i).size = i := by rw [x1size kk (by omega)]; omega
          have zz2 : (kk.extract i (i + 1)).size = 1 := by rw [x1size kk (by omega)]; omega
          have z3 : (kk.extract (i + 1) kk.size).size = kk.size - (i + 1) := x1size kk (Nat.le_refl _)
          have z4 : (shS (kk.extract i (i + 1)) (1 + (q : Int))).size = 1 := by rw [shS_size]; exact zz2
          have hsum : ¬ (9223372036854775807 < i + 1) := by omega
          have hsum2 : ¬ (9223372036854775807 < i + 1 + (kk.size - (i + 1))) := by omega
          have i0 : (0 : Int) ≤ i := by omega
          have i1 : (i : Int) ≤ kk.size := by omega
          have i2 : (i : Int) ≤ (i : Int) + 1 := by omega
          have i3 : (i : Int) + 1 ≤ kk.size := by omega
          have hm1 := HMO.out
          clear hr3 hne
          go_wp2_with fail
          refine wp_region_ext (by kernel_rfl) (by kernel_rfl) ?_
          repeat (go_big_quiet_step (first
            | (go_at_call 15; exact Ext.callv _ (c_ShiftWord (kk.extract i (i + 1)) (1 + (q : Int)) _ (by omega)) (congrArg Value.string sh1.out))))
          refine wpQuiet_nil ?_
          rintro w5 ⟨⟨_, hb5⟩, rfl⟩
          have L5 := Lib.hid (L4.out.ext hb5)
          have K5 := Lib.hid (K4.out.ext hb5)
          clear hb5 L4 K4
          have x0 := L5.out.c0
          have x1 := L5.out.c1
          have x2 := L5.out.c2
          have x3 := L5.out.c3
          go_wp2_with fail
          refine (c_SealMessage A cA M s (kk.extract 0 i ++ shS (kk.extract i (i + 1)) (1 + (q : Int)) ++ kk.extract (i + 1) kk.size) t _ L5.out.rot HM.out (by omega) (by rw [ByteArray.size_append, ByteArray.size_append, z1, z3, z4]; omega) (by omega)).mono ?_
          rintro e w6 ⟨rfl, hb6⟩
          rw [HR3.out]
          have hw6 : w2.heap.size < w6.heap.size := (K5.out.ext hb6).lt
          have K6 := Lib.hid ((K5.out.ext hb6).alloc (.cells #[.string s, .string p3, .string p4] 39))
          have KY6 := Lib.hid (Blk.new w6 39 #[.string s, .string p3, .string p4])
          have L6 := Lib.hid (L5.out.ext (ext_trans hb6 (ext_alloc w6 (.cells #[.string s, .string p3, .string p4] 39))))
          clear hb6 x0 x1 x2 x3 L5 K5
          have m0 := K6.out.cell 0
          have m1 := K6.out.cell 1
          have n0 := KY6.out.cell 0
          have n1 := KY6.out.cell 1
          have TN := bs_no HNE.out
          have TS := bs_yes (a := s) (b := s) rfl
          go_wp2_with fail
          exact ⟨⟨i + 1, by omega, by go_num, L6.out, K6.out⟩, by simp [intOf]; omega⟩
        · go_wp2_with fail
          go_ret
          exact ⟨rfl, L4.out.bel⟩
end Go.Proofs.YtnjmjgnmbjbfpaaGreat
