/- The walk of FnReadDoubleOne. -/
import Derived.Test.YtnjmjgnmbjbfpaaLawMRead
namespace Go.Proofs.Ytnjmjgnmbjbfpaa
set_option linter.unusedVariables false
set_option linter.unusedSimpArgs false
open Go.RowKit
attribute [local go_sem] Ext.cell
open BigFrame

noncomputable def oneS (t : ByteArray) (i : Nat) (n : Int) : ByteArray := t.extract 0 i ++ shS (t.extract i (i + 1)) n ++ t.extract (i + 1) t.size
theorem oneS_size (t : ByteArray) {i : Nat} (n : Int) (hi : i < t.size) : (oneS t i n).size = t.size := by
  unfold oneS
  rw [ByteArray.size_append, ByteArray.size_append, shS_size, x1size t (a := 0) (b := i) (by omega), x1size t (a := i) (b := i + 1) (by omega), x1size t (a := i + 1) (b := t.size) (by omega)]
  omega
theorem oneS_bt (t : ByteArray) {i : Nat} (n : Int) (hi : i < t.size) {j : Nat} (hj : j < t.size) : bt (oneS t i n) j = if j = i then 97 + (bt t i - 97 + n) % 10 else bt t j := by
  have z1 := x1size t (a := 0) (b := i) (by omega)
  have z2 := x1size t (a := i) (b := i + 1) (by omega)
  unfold oneS
  rw [bt_append, ByteArray.size_append, shS_size, z1, z2]
  by_cases h1 : j < i
  · rw [if_pos (by omega), bt_append, if_pos (by rw [z1]; omega), x1bt t (by omega) (by omega), if_neg (by omega), Nat.zero_add]
  · by_cases h2 : j = i
    · subst h2
      rw [if_pos (by omega), bt_append, if_neg (by rw [z1]; omega), z1, shS_bt _ _ (by rw [z2]; omega), x1bt t (by omega) (by omega), if_pos rfl, show j + (j - (j - 0)) = j by omega]
    · rw [if_neg (by omega), if_neg h2, x1bt t (by omega) (by omega), show i + 1 + (j - (i - 0 + (i + 1 - i))) = j by omega]
theorem one_bad {M : Mch} {s t k : ByteArray} (h1 : setB M s = true) (h2 : wv t = true) (h3 : t.size = 2 * s.size) (h4 : k.size = s.size) (h5 : encW M s t = k ++ k) {i : Nat} (hi : i < t.size) {n : Int} (hn : 1 ≤ n) (hn9 : n < 10) :
    rdR M s (oneS t i n) = .tuple #[.string ByteArray.empty, .bool false] := by
  have hB := ((setB_iff _ _).1 h1).1
  refine rdR_no ?_
  rintro ⟨_, hv, hz, he⟩
  have zs := oneS_size t n hi
  have e1 : ∀ j, j < s.size → bt (encW M s t) j = bt (encW M s t) (s.size + j) := fun j hj => by
    rw [h5, bt_append, bt_append, if_pos (by omega), if_neg (by omega)]; congr 1; omega
  have e2 : ∀ j, j < s.size → bt (encW M s (oneS t i n)) j = bt (encW M s (oneS t i n)) (s.size + j) := fun j hj => by
    have := congrArg (fun b => bt b j) he
    simp only [fstS, sndS] at this
    rw [x1bt _ (by rw [encW_size]; omega) (by omega), x1bt _ (Nat.le_refl _) (by rw [encW_size]; omega), Nat.zero_add] at this
    exact this
  have e3 : ∀ j, j < t.size → j ≠ i → bt (encW M s (oneS t i n)) j = bt (encW M s t) j := fun j hj hne => by
    rw [encW_inj hB hv h2 (by omega) hj, oneS_bt t n hi hj, if_neg hne]
  have e4 : bt (encW M s (oneS t i n)) i ≠ bt (encW M s t) i := by
    rw [Ne, encW_inj hB hv h2 (by omega) hi, oneS_bt t n hi hi, if_pos rfl]
    have := ((wv_iff t).1 h2).2 i hi
    omega
  by_cases hm : i < s.size
  · exact e4 (by rw [e2 i hm, e3 _ (by omega) (by omega), ← e1 i hm])
  · obtain ⟨j, rfl⟩ : ∃ j, i = s.size + j := ⟨i - s.size, by omega⟩
    exact e4 (by rw [← e2 j (by omega), e3 _ (by omega) (by omega), e1 j (by omega)])
set_option maxHeartbeats 1000000 in
set_option maxRecDepth 100000 in
theorem walk_FnReadDoubleOne (a0 : Option Addr) (len0 cap0 : Nat) (z0 : List Int) (w : World) (w0 : IsRowB w a0 len0 cap0 z0) :
    Calls Try.prog 10 #[.slice a0 len0 cap0] w fun e w' => e = .returned (.bool true) ∧ Below w.heap.size w w' := by
  by_cases hl0 : 1048576 < len0
  · clear w0
    go_enter Try.func10, Try.ntmps10
    go_wp2_with fail
    go_ret
    exact ⟨rfl, Below.refl _ _⟩
  · have HC := Lib.hid (code_of w0 (by omega))
    clear w0
    go_enter Try.func10, Try.ntmps10
    go_wp2_with fail
    refine (c_DrawReadDouble a0 len0 cap0 _ HC.out).mono ?_
    rintro e w1 ⟨A, cA, M, s, t, rfl, hR, hM, hs, ht, hb1⟩
    have L1 := Lib.hid (MW.start M hb1 hR)
    have HM := Lib.hid hM.sz
    clear hR hb1 HC hM
    have x0 := L1.out.c0
    have x1 := L1.out.c1
    have x2 := L1.out.c2
    have x3 := L1.out.c3
    go_wp2_with fail
    refine (c_ReadDouble A cA M s t _ L1.out.rot HM.out (by omega) (by omega)).mono ?_
    rintro e w2 ⟨rfl, hb2⟩
    have L2 := Lib.hid (L1.out.ext hb2)
    clear hb2 x0 x1 x2 x3 L1
    have x0 := L2.out.c0
    have x1 := L2.out.c1
    have x2 := L2.out.c2
    have x3 := L2.out.c3
    rcases rdR_cases M s t with hr | ⟨h1, h2, h3, k, h4, h5, hr⟩
    · rw [hr]
      have HR := Lib.hid hr
      clear hr
      go_wp2_with fail
      refine (c_sReadDouble A cA M s t _ L2.out.rot HM.out (by omega) (by omega)).mono ?_
      rintro e w3 ⟨rfl, hb3⟩
      rw [HR.out]
      have L3 := Lib.hid (L2.out.ext hb3)
      clear hb3 x0 x1 x2 x3 L2
      go_wp2_with fail
      go_ret
      exact ⟨rfl, L3.out.bel⟩
    · rw [hr]
      have HR := Lib.hid hr
      have hk3 := (setB_size h4).2.1
      have hks : k.size = s.size := (setB_size h4).2.2.1.trans (setB_size h1).2.2.1.symm
      have ONE : Hid (∀ (i q : Nat), i < t.size → 1 ≤ q → q < 10 → rdR M s (t.extract 0 i ++ shS (t.extract i (i + 1)) (q : Int) ++ t.extract (i + 1) t.size) = .tuple #[.string ByteArray.empty, .bool false]) := fun i q hi h0 h9 => one_bad h1 h2 h3 hks h5 hi (by omega) (by omega)
      have SH : Hid (∀ (i q : Nat), i < t.size → q < 10 → shR (t.extract i (i + 1)) (q : Int) = shS (t.extract i (i + 1)) (q : Int)) := fun i q hi h9 => shR_ok (x1wv h2 _ _ (by omega)) (by omega) (by omega)
      have hts : t.size ≤ 6 := by have := (setB_size h1).2.1; omega
      clear h1 h2 h3 h4 h5 hr hks
      go_wp2_with fail
      refine (c_sReadDouble A cA M s t _ L2.out.rot HM.out (by omega) (by omega)).mono ?_
      rintro e w3 ⟨rfl, hb3⟩
      rw [HR.out]
      have L3 := Lib.hid (L2.out.ext hb3)
      clear hb3 x0 x1 x2 x3 L2
      go_wp2_with fail
      go_loopw [10] (fun i wr => ∃ k : Nat, k ≤ t.size ∧ i = .int .i64 k ∧ MW w w1.heap.size A cA M wr) (fun i _ => t.size - (intOf i).toNat)
      case atStart => exact ⟨0, Nat.zero_le _, rfl, L3.out⟩
      case round =>
        clear L3
        obtain ⟨i, hi, rfl, hL⟩ := hrel
        have L4 := Lib.hid hL
        clear hL
        by_cases hlt : i < t.size
        · go_wp2_with fail
          go_loopw [11] (fun n wr => ∃ q : Nat, 1 ≤ q ∧ q ≤ 10 ∧ n = .int .i64 q ∧ MW w w1.heap.size A cA M wr) (fun n _ => 10 - (intOf n).toNat)
          case atStart => exact ⟨1, Nat.le_refl _, by omega, rfl, L4.out⟩
          case round =>
            clear L4
            obtain ⟨q, hq1, hq, rfl, hL⟩ := hrel
            have L5 := Lib.hid hL
            clear hL
            by_cases hq9 : q < 10
            · have on1 := Lib.hid (ONE.out i q hlt hq1 hq9)
              have sh1 := Lib.hid (SH.out i q hlt hq9)
              have z1 : (t.extract 0 i).size = i := by rw [x1size t (by omega)]; omega
              have z2 : (t.extract i (i + 1)).size = 1 := by rw [x1size t (by omega)]; omega
              have z3 : (t.extract (i + 1) t.size).size = t.size - (i + 1) := x1size t (Nat.le_refl _)
              have z4 : (shS (t.extract i (i + 1)) (q : Int)).size = 1 := by rw [shS_size]; exact z2
              have hsum : ¬ (9223372036854775807 < i + 1) := by omega
              have hsum2 : ¬ (9223372036854775807 < i + 1 + (t.size - (i + 1))) := by omega
              have i0 : (0 : Int) ≤ i := by omega
              have i1 : (i : Int) ≤ t.size := by omega
              have i2 : (i : Int) ≤ (i : Int) + 1 := by omega
              have i3 : (i : Int) + 1 ≤ t.size := by omega
              have x0 := L5.out.c0
              have x1 := L5.out.c1
              have x2 := L5.out.c2
              have x3 := L5.out.c3
              have hlt5 := L5.out.lt
              go_wp2_with fail
              refine wp_region_ext (by kernel_rfl) (by kernel_rfl) ?_
              repeat (go_big_quiet_step (first
                | (go_at_call 33; exact Ext.callv _ (c_ShiftWord (t.extract i (i + 1)) (q : Int) _ (by omega)) (congrArg Value.string sh1.out))
                | (go_at_call 16; exact Ext.callv _ (c_ReadDouble A cA M s (t.extract 0 i ++ shS (t.extract i (i + 1)) (q : Int) ++ t.extract (i + 1) t.size) _ (L5.out.rot.ext (Subtype.property _)) HM.out (by omega) (by rw [ByteArray.size_append, ByteArray.size_append, z1, z3, z4]; omega)) on1.out)))
              refine wpQuiet_nil ?_
              rintro _ ⟨⟨w6, hb6⟩, rfl⟩
              have L6 := Lib.hid (L5.out.ext hb6)
              clear hb6 x0 x1 x2 x3 L5 hlt5
              go_wp2_with fail
              exact ⟨⟨q + 1, by omega, by omega, by go_num, L6.out⟩, by simp [intOf]; omega⟩
            · go_wp2_with fail
              exact ⟨⟨i + 1, by omega, by go_num, L5.out⟩, by simp [intOf]; omega⟩
        · go_wp2_with fail
          go_ret
          exact ⟨rfl, L4.out.bel⟩
end Go.Proofs.Ytnjmjgnmbjbfpaa
