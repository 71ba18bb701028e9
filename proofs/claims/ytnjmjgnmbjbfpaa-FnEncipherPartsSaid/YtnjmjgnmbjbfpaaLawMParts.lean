/- The walk of FnEncipherParts. -/
import Derived.Test.YtnjmjgnmbjbfpaaLawMach2
namespace Go.Proofs.Ytnjmjgnmbjbfpaa
set_option linter.unusedVariables false
set_option linter.unusedSimpArgs false
open Go.RowKit
attribute [local go_sem] Ext.cell
open BigFrame

set_option maxHeartbeats 1000000 in
set_option maxRecDepth 100000 in
theorem walk_FnEncipherParts (a0 : Option Addr) (len0 cap0 : Nat) (z0 : List Int) (a1 : Option Addr) (len1 cap1 : Nat) (z1 : List Int) (w : World) (w0 : IsRowB w a0 len0 cap0 z0) (w1 : IsRowB w a1 len1 cap1 z1) :
    Calls Try.prog 5 #[.slice a0 len0 cap0, .slice a1 len1 cap1] w fun e w' => e = .returned (.bool true) ∧ Below w.heap.size w w' := by
  by_cases hl0 : 1048576 < len0
  · clear w0 w1
    go_enter Try.func5, Try.ntmps5
    go_wp2_with fail
    go_ret
    exact ⟨rfl, Below.refl _ _⟩
  · by_cases hl1 : 1048576 < len1
    · clear w0 w1
      go_enter Try.func5, Try.ntmps5
      go_wp2_with fail
      go_ret
      exact ⟨rfl, Below.refl _ _⟩
    have HC := Lib.hid (code_of w0 (by omega))
    clear w0 w1
    go_enter Try.func5, Try.ntmps5
    go_wp2_with fail
    refine (c_DrawEncipher a0 len0 cap0 _ HC.out).mono ?_
    rintro e w1 ⟨A, cA, M, s, t, rfl, hR, hM, hs, ht, hb1⟩
    have L1 := Lib.hid (MW.start M hb1 hR)
    have HM := Lib.hid hM.sz
    clear hR hb1 HC hM
    have x0 := L1.out.c0
    have x1 := L1.out.c1
    have x2 := L1.out.c2
    have x3 := L1.out.c3
    go_wp2_with fail
    refine (c_Encipher A cA M s t _ L1.out.rot HM.out (by omega) (by omega)).mono ?_
    rintro e w2 ⟨rfl, hb2⟩
    have L2 := Lib.hid (L1.out.ext hb2)
    clear hb2 x0 x1 x2 x3 L1
    have x0 := L2.out.c0
    have x1 := L2.out.c1
    have x2 := L2.out.c2
    have x3 := L2.out.c3
    rcases encR_cases M s t with ⟨h1, hr⟩ | ⟨h1, h2, hr⟩
    · rw [hr]
      have HR := Lib.hid hr
      clear h1 hr
      go_wp2_with fail
      refine (c_sEncipher A cA M s t _ L2.out.rot HM.out (by omega) (by omega)).mono ?_
      rintro e w3 ⟨rfl, hb3⟩
      rw [HR.out]
      have L3 := Lib.hid (L2.out.ext hb3)
      clear hb3 x0 x1 x2 x3 L2
      go_wp2_with fail
      go_ret
      exact ⟨rfl, L3.out.bel⟩
    · rw [hr]
      have H1 := Lib.hid h1
      have H2 := Lib.hid h2
      have hB := ((setB_iff _ _).1 h1).1
      obtain ⟨k, hkk⟩ : ∃ k, len1 % (t.size + 1) = k := ⟨_, rfl⟩
      have hk : k ≤ t.size := by have := Nat.mod_lt len1 (show 0 < t.size + 1 by omega); omega
      have hmod : (len1 : Int) % ((t.size : Int) + 1) = k := by rw [← hkk]; simp
      have HMO := Lib.hid hmod
      have HP := Lib.hid (encW_parts M s t hB h2 hk)
      have E1 : Hid (encR M s (t.extract 0 k) = .tuple #[.string (encW M s (t.extract 0 k)), .string (it (stepS M.l) k s), .bool true]) := by
        show encR M s (t.extract 0 k) = _
        rw [encR_ok h1 (x1wv h2 0 k hk), x1size t hk, Nat.sub_zero]
      have E2 : Hid (encR M (it (stepS M.l) k s) (t.extract k t.size) = .tuple #[.string (encW M (it (stepS M.l) k s) (t.extract k t.size)), .string (it (stepS M.l) t.size s), .bool true]) := by
        show encR M (it (stepS M.l) k s) (t.extract k t.size) = _
        rw [encR_ok (setB_it h1 k) (x1wv h2 k t.size (Nat.le_refl _)), x1size t (Nat.le_refl _), ← it_add, show t.size - k + k = t.size by omega]
      obtain ⟨p1, hp1⟩ : ∃ p, encW M s (t.extract 0 k) = p := ⟨_, rfl⟩
      obtain ⟨p2, hp2⟩ : ∃ p, encW M (it (stepS M.l) k s) (t.extract k t.size) = p := ⟨_, rfl⟩
      obtain ⟨p3, hp3⟩ : ∃ p, encW M s t = p := ⟨_, rfl⟩
      obtain ⟨s1, hs1⟩ : ∃ p, it (stepS M.l) k s = p := ⟨_, rfl⟩
      obtain ⟨s2, hs2⟩ : ∃ p, it (stepS M.l) t.size s = p := ⟨_, rfl⟩
      have hzi : (it (stepS M.l) k s).size ≤ 9223372036854775807 := by rw [it_size]; omega
      rw [hp3, hs2] at hr
      rw [hp1, hp2, hp3] at HP
      rw [hp1, hs1] at E1
      rw [hp2, hs1, hs2] at E2
      rw [hs1] at hzi
      have HR := Lib.hid hr
      rw [hp3, hs2]
      have q1 : p1.size ≤ 1000000 := by rw [← hp1, encW_size]; have := xle t 0 k; omega
      have q2 : p2.size ≤ 1000000 := by rw [← hp2, encW_size]; have := xle t k t.size; omega
      clear hp1 hp2 hp3 hs1 hs2
      have Z1 := Lib.hid (xle t 0 k)
      have Z2 := Lib.hid (xle t k t.size)
      have i1 : (0 : Int) ≤ k := by omega
      have i2 : (k : Int) ≤ t.size := by omega
      clear h1 hr h2 hkk hmod
      go_wp2_with fail
      refine (c_sEncipher A cA M s t _ L2.out.rot HM.out (by omega) (by omega)).mono ?_
      rintro e w3 ⟨rfl, hb3⟩
      rw [HR.out]
      have L3 := Lib.hid (L2.out.ext hb3)
      clear hb3 x0 x1 x2 x3 L2
      have x0 := L3.out.c0
      have x1 := L3.out.c1
      have x2 := L3.out.c2
      have x3 := L3.out.c3
      have hlt3 := L3.out.lt
      go_wp2_with fail
      rw [HMO.out]
      refine wp_region_ext (by kernel_rfl) (by kernel_rfl) ?_
      repeat (go_big_quiet_step ((go_at_call 23; exact Ext.callv _ (c_Encipher A cA M s (t.extract 0 k) _ (L3.out.rot.ext (Subtype.property _)) HM.out (by omega) (Nat.le_trans Z1.out (by omega))) E1.out)))
      refine wpQuiet_nil ?_
      rintro _ ⟨⟨w4, hb4⟩, rfl⟩
      have L4 := Lib.hid (L3.out.ext hb4)
      clear hb4 x0 x1 x2 x3 L3 hlt3
      have x0 := L4.out.c0
      have x1 := L4.out.c1
      have x2 := L4.out.c2
      have x3 := L4.out.c3
      have hlt4 := L4.out.lt
      go_wp2_with fail
      refine wp_region_ext (by kernel_rfl) (by kernel_rfl) ?_
      repeat (go_big_quiet_step ((go_at_call 23; exact Ext.callv _ (c_Encipher A cA M _ (t.extract k t.size) _ (L4.out.rot.ext (Subtype.property _)) HM.out hzi (Nat.le_trans Z2.out (by omega))) E2.out)))
      refine wpQuiet_nil ?_
      rintro _ ⟨⟨w5, hb5⟩, rfl⟩
      have L5 := Lib.hid (L4.out.ext hb5)
      clear hb5 x0 x1 x2 x3 L4 hlt4
      have t0 : ((p1 ++ p2).toList == p3.toList) = true := bs_yes HP.out
      go_wp2_with fail
      go_ret
      exact ⟨rfl, L5.out.bel⟩
end Go.Proofs.Ytnjmjgnmbjbfpaa
