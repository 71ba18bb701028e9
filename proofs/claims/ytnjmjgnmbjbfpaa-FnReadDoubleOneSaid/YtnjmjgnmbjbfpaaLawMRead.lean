/- The walk of FnReadDouble. -/
import Derived.Test.YtnjmjgnmbjbfpaaLawMach2
import Derived.Test.YtnjmjgnmbjbfpaaDrawMach3
namespace Go.Proofs.Ytnjmjgnmbjbfpaa
set_option linter.unusedVariables false
set_option linter.unusedSimpArgs false
open Go.RowKit
attribute [local go_sem] Ext.cell
open BigFrame

theorem rdR_cases (M : Mch) (s t : ByteArray) : rdR M s t = .tuple #[.string ByteArray.empty, .bool false] ∨ (setB M s = true ∧ wv t = true ∧ t.size = 2 * s.size ∧ ∃ k, setB M k = true ∧ encW M s t = k ++ k ∧ rdR M s t = .tuple #[.string k, .bool true]) := by
  by_cases h : setB M s = true ∧ wv t = true ∧ t.size = 2 * s.size ∧ fstS (encW M s t) s.size = sndS (encW M s t) s.size
  · obtain ⟨h1, h2, h3, h4⟩ := h
    refine .inr ⟨h1, h2, h3, fstS (encW M s t) s.size, ?_, (half_iff _ (by rw [encW_size]; exact h3)).2 h4, rdR_ok h1 h2 h3 h4⟩
    obtain ⟨a, b, c⟩ := (setB_iff _ _).1 h1
    refine (setB_iff _ _).2 ⟨a, x1wv (encW_wv a h2) _ _ (by rw [encW_size]; omega), (fstS_size _ (by rw [encW_size]; omega)).trans c⟩
  · exact .inl (rdR_no h)
set_option maxHeartbeats 1000000 in
set_option maxRecDepth 100000 in
theorem walk_FnReadDouble (a0 : Option Addr) (len0 cap0 : Nat) (z0 : List Int) (w : World) (w0 : IsRowB w a0 len0 cap0 z0) :
    Calls Try.prog 11 #[.slice a0 len0 cap0] w fun e w' => e = .returned (.bool true) ∧ Below w.heap.size w w' := by
  by_cases hl0 : 1048576 < len0
  · clear w0
    go_enter Try.func11, Try.ntmps11
    go_wp2_with fail
    go_ret
    exact ⟨rfl, Below.refl _ _⟩
  · have HC := Lib.hid (code_of w0 (by omega))
    clear w0
    go_enter Try.func11, Try.ntmps11
    go_wp2_with fail
    refine (c_DrawReadDouble a0 len0 cap0 _ HC.out).mono ?_
    rintro e w1 ⟨A, cA, M, s, t, rfl, hR, hM, hs, ht, hb1⟩
    have L1 := Lib.hid (MW.start M hb1 hR)
    have HM := Lib.hid hM.sz
    clear hR hb1 HC hM
    have x0 := L1.out.c0
    have x1 := L1.out.c1
    have x2 := L1.out.c2
    have x3 := L1.out.c3
    go_wp2_with fail
    refine (c_ReadDouble A cA M s t _ L1.out.rot HM.out (by omega) (by omega)).mono ?_
    rintro e w2 ⟨rfl, hb2⟩
    have L2 := Lib.hid (L1.out.ext hb2)
    clear hb2 x0 x1 x2 x3 L1
    have x0 := L2.out.c0
    have x1 := L2.out.c1
    have x2 := L2.out.c2
    have x3 := L2.out.c3
    rcases rdR_cases M s t with hr | ⟨h1, h2, h3, k, h4, h5, hr⟩
    · rw [hr]
      have HR := Lib.hid hr
      clear hr
      go_wp2_with fail
      refine (c_sReadDouble A cA M s t _ L2.out.rot HM.out (by omega) (by omega)).mono ?_
      rintro e w3 ⟨rfl, hb3⟩
      rw [HR.out]
      have L3 := Lib.hid (L2.out.ext hb3)
      clear hb3 x0 x1 x2 x3 L2
      go_wp2_with fail
      go_ret
      exact ⟨rfl, L3.out.bel⟩
    · rw [hr]
      have HR := Lib.hid hr
      have hD := dblR_ok h1 h4
      rw [← h5, encW_twice ((setB_iff _ _).1 h1).1 h2] at hD
      have HD := Lib.hid hD
      have hT := encT_ok h1 h2
      rw [h5] at hT
      have HT := Lib.hid hT
      have hk3 := (setB_size h4).2.1
      clear h1 h2 h3 h4 h5 hr hD hT
      go_wp2_with fail
      refine (c_sReadDouble A cA M s t _ L2.out.rot HM.out (by omega) (by omega)).mono ?_
      rintro e w3 ⟨rfl, hb3⟩
      rw [HR.out]
      have L3 := Lib.hid (L2.out.ext hb3)
      clear hb3 x0 x1 x2 x3 L2
      have x0 := L3.out.c0
      have x1 := L3.out.c1
      have x2 := L3.out.c2
      have x3 := L3.out.c3
      go_wp2_with fail
      refine (c_DoubleIndicator A cA M s k _ L3.out.rot HM.out (by omega) (by omega)).mono ?_
      rintro e w4 ⟨rfl, hb4⟩
      rw [HD.out]
      have L4 := Lib.hid (L3.out.ext hb4)
      clear hb4 x0 x1 x2 x3 L3
      have x0 := L4.out.c0
      have x1 := L4.out.c1
      have x2 := L4.out.c2
      have x3 := L4.out.c3
      go_wp2_with fail
      refine (c_rcText A cA M s t _ L4.out.rot HM.out (by omega) (by omega)).mono ?_
      rintro e w5 ⟨rfl, hb5⟩
      rw [HT.out]
      have L5 := Lib.hid (L4.out.ext hb5)
      clear hb5 x0 x1 x2 x3 L4
      go_wp2_with fail
      go_ret
      exact ⟨rfl, L5.out.bel⟩
end Go.Proofs.Ytnjmjgnmbjbfpaa
