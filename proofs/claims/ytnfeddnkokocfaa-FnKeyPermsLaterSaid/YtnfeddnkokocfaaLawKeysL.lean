/- The walk of FnKeyPermsLater. -/
import Derived.Test.YtnfeddnkokocfaaLawKeys
import Derived.Test.YtnfeddnkokocfaaLawMa
import Derived.Test.YtnfeddnkokocfaaDrawM
namespace Go.Proofs.Ytnfeddnkokocfaa
set_option linter.unusedVariables false
set_option linter.unusedSimpArgs false
open Go.RowKit
attribute [local go_sem] Ext.cell
open BigFrame

set_option maxHeartbeats 1000000 in
set_option maxRecDepth 100000 in
theorem walk_FnKeyPermsLater (a0 : Option Addr) (len0 cap0 : Nat) (z0 : List Int) (w : World) (w0 : IsRowB w a0 len0 cap0 z0) :
    Calls Try.prog 11 #[.slice a0 len0 cap0] w fun e w' => e = .returned (.bool true) ∧ Below w.heap.size w w' := by
  by_cases hl0 : 1048576 < len0
  · clear w0
    go_enter Try.func11, Try.ntmps11
    go_wp2_with fail
    go_ret
    exact ⟨rfl, Below.refl _ _⟩
  · have HC := Lib.hid (code_of w0 (by omega))
    clear w0
    go_enter Try.func11, Try.ntmps11
    go_wp2_with fail
    refine (c_DrawKeyPerms a0 len0 cap0 _ HC.out).mono ?_
    rintro e w1 ⟨A, cA, M, s, x, rfl, hR, _, hM, hs1, hs, hx1, hx2, hb1⟩
    have L1 := Lib.hid (MW.start M hb1 hR)
    have HM := Lib.hid hM.sz
    clear hR hb1 HC hM
    have x0 := L1.out.c0
    have x1 := L1.out.c1
    have x2 := L1.out.c2
    have x3 := L1.out.c3
    go_wp2_with fail
    refine (c_KeyPerms A cA M s x _ L1.out.rot HM.out (by omega)).mono ?_
    rintro e w2 ⟨v, rfl, hO, hb2⟩
    have L2 := Lib.hid (L1.out.ext hb2)
    have hle := kpR_len M s x
    obtain ⟨AL, cL, rfl⟩ := hO.slice
    rw [List.length_map] at hO ⊢
    have O2 := Lib.hid hO
    have V2 := Lib.hid (hO.strs (by omega) (kpR_small M s x))
    clear hb2 x0 x1 x2 x3 L1 hO
    have x0 := L2.out.c0
    have x1 := L2.out.c1
    have x2 := L2.out.c2
    have x3 := L2.out.c3
    go_wp2_with fail
    refine (c_sKeyPerms A cA M s x _ L2.out.rot HM.out (by omega)).mono ?_
    rintro e w3 ⟨v3, rfl, hv3, hb3⟩
    have L3 := Lib.hid (L2.out.ext hb3)
    have V3 := Lib.hid (V2.out.ext hb3)
    have O3 := Lib.hid (O2.out.ext hb3)
    obtain ⟨A3, c3, rfl⟩ := hv3.form
    have U3 := Lib.hid hv3
    clear hb3 x0 x1 x2 x3 L2 V2 hv3 O2
    go_wp2_with fail
    refine (c_rcTexts _ _ (kpR M s x) _ V3.out U3.out).mono ?_
    rintro e w4 ⟨rfl, hb4⟩
    have L4 := Lib.hid (L3.out.ext hb4)
    have V4 := Lib.hid (V3.out.ext hb4)
    have O4 := Lib.hid (O3.out.ext hb4)
    clear hb4 L3 V3 U3 O3
    have x0 := L4.out.c0
    have x1 := L4.out.c1
    have x2 := L4.out.c2
    have x3 := L4.out.c3
    by_cases h0 : (kpR M s x).length = 0
    · have t1 : (((kpR M s x).length : Int) == 0) = true := by rw [beq_iff_eq]; omega
      clear h0
      go_wp2_with fail
      refine (c_sKeyPerms A cA M s x _ L4.out.rot HM.out (by omega)).mono ?_
      rintro e w5 ⟨v5, rfl, hv5, hb5⟩
      have L5 := Lib.hid (L4.out.ext hb5)
      have V5 := Lib.hid (V4.out.ext hb5)
      obtain ⟨A5, c5, rfl⟩ := hv5.form
      have U5 := Lib.hid hv5
      clear hb5 x0 x1 x2 x3 L4 V4 hv5
      go_wp2_with fail
      refine (c_rcTexts _ _ (kpR M s x) _ V5.out U5.out).mono ?_
      rintro e w6 ⟨rfl, hb6⟩
      have B6 := Lib.hid (L5.out.ext hb6).bel
      clear hb6
      go_wp2_with fail
      go_ret
      exact ⟨rfl, B6.out⟩
    · have t1 : (((kpR M s x).length : Int) == 0) = false := by rw [beq_eq_false_iff_ne]; omega
      obtain ⟨hset, N, rfl, hN0, hN, hkp⟩ := kpR_some h0
      have H1 := Lib.hid hset
      have hlen : (kpR M s (N : Int)).length = N := by rw [hkp, kpL_len]
      have ho := O4.out
      rw [hlen] at ho t1 ⊢
      rw [hkp] at ho
      have hv : IsStrs w4 (.slice AL N cL) (kpL M s N) := ho.strs (by rw [kpL_len]; omega) (kpL_small M s N)
      obtain ⟨g, rfl⟩ : ∃ g, AL = some ⟨g, 0, none⟩ := by
        rcases ho.2 with ⟨e, _⟩ | ⟨g, cap, cur, e, _⟩
        · injection e with e1 e2; omega
        · injection e with e1 e2; exact ⟨g, e1⟩
      have hNc : N ≤ cL := by
        rcases ho.2 with ⟨e, _⟩ | ⟨g, cap, cur, e, _, _, h, _⟩
        · cases e
        · injection e with e1 e2 e3; rw [List.length_map, kpL_len] at h; omega
      have V6 := Lib.hid hv
      obtain ⟨k, hk⟩ : ∃ k, N / 2 = k := ⟨_, rfl⟩
      have hkN : k < N := by omega
      have e2 : Int.tdiv (N : Int) 2 = (k : Int) := by rw [← hk]; rfl
      have ek : (N : Int) - (k : Int) = ((N - k : Nat) : Int) := by omega
      have hst := stR_ok (setB_win H1.out) (n := k) (by omega)
      have hz := it_size M.l k s
      have hset2 := setB_it H1.out k
      have hd := kpL_drop M s N k
      have ht := kpL_take M s N k (by omega)
      have hkp1 : kpR M s (k : Int) = kpL M s k := kpR_ok H1.out (by omega)
      obtain ⟨q, hq⟩ : ∃ q, it (stepS M.l) k s = q := ⟨_, rfl⟩
      rw [hq] at hst hz hset2 hd
      have hkp2 : kpR M q ((N - k : Nat) : Int) = kpL M q (N - k) := kpR_ok hset2 (by omega)
      have hzq : q.size ≤ 9223372036854775807 := by omega
      have HST := Lib.hid hst
      have HD := Lib.hid hd
      have HT := Lib.hid ht
      have K1 := Lib.hid hkp1
      have K2 := Lib.hid hkp2
      have n1 : ¬ cL = 0 := by omega
      have n2 : ¬ cL = k := by omega
      have n3 : k ≤ cL := by omega
      have n4 : (k : Int) ≤ (N : Int) := by omega
      have n5 : (k : Int) ≤ (cL : Int) := by omega
      have hlw := L4.out.lt
      clear h0 hset hkp V4 hle hlen hst hd ht hkp1 hkp2 hq hset2 ho hv O4
      go_wp2_with fail
      refine wp_region_ext_tail 9 (by kernel_rfl) (by kernel_rfl) ?_
      dsimp only [List.take, List.drop]
      repeat (go_big_quiet_step ((go_at_call 47; exact Ext.callv _ (c_rcSteps A cA M.l M.rf s _ _ (L4.out.rot.ext (Subtype.property _)) HM.out.1 (by omega)) (congrArg Value.string HST.out))))
      refine wpQuiet_nil ?_
      rintro _ ⟨⟨w5, hb5⟩, rfl⟩
      have L5 := Lib.hid (L4.out.ext hb5)
      have V5 := Lib.hid (V6.out.ext hb5)
      clear hb5 L4 V6 x0 x1 x2 x3
      have x0 := L5.out.c0
      have x1 := L5.out.c1
      have x2 := L5.out.c2
      have x3 := L5.out.c3
      go_wp2_with fail
      refine (c_KeyPerms A cA M q _ _ L5.out.rot HM.out hzq).mono ?_
      rintro e w6 ⟨v6, rfl, hO6, hb6⟩
      have L6 := Lib.hid (L5.out.ext hb6)
      have V6 := Lib.hid (V5.out.ext hb6)
      have hle := kpR_len M q ((N - k : Nat) : Int)
      have U6 := Lib.hid (hO6.strs (by omega) (kpR_small M q _))
      rw [K2.out] at U6
      obtain ⟨A6, c6, rfl⟩ := U6.out.form
      clear hb6 L5 V5 x0 x1 x2 x3 hO6 hle hlw
      have F6 := Lib.hid (V6.out.from k hkN)
      have T6 := Lib.hid (V6.out.to k (by omega))
      rw [HD.out] at F6
      rw [HT.out] at T6
      have x0 := L6.out.c0
      have x1 := L6.out.c1
      have x2 := L6.out.c2
      have x3 := L6.out.c3
      have hlw := L6.out.lt
      have MK1 : Hid True := trivial
      go_wp2_with fail
      go_region_with (first
        | (go_at_call 49; clear MK1; refine (c_rcTexts _ _ (kpL M q (N - k)) _ (by exact U6.out.ext (Below.refl _ _).drew) (by exact F6.out.ext (Below.refl _ _).drew)).mono ?_; rintro e w7 ⟨rfl, hb7⟩; have L7 := Lib.hid ((L6.out.ext (Below.refl _ _).drew).ext hb7); have T7 := Lib.hid ((T6.out.ext (Below.refl _ _).drew).ext hb7); have y0 := L7.out.c0; have y1 := L7.out.c1; have y2 := L7.out.c2; have y3 := L7.out.c3; have MK2 : Hid True := trivial)
        | (go_at_call 27; refine (c_KeyPerms A cA M s _ _ L7.out.rot HM.out (by omega)).mono ?_; rintro e w8 ⟨v8, rfl, hO8, hb8⟩; have U8 := Lib.hid (hO8.strs (by have := kpR_len M s (k : Int); omega) (kpR_small M s _)); rw [K1.out] at U8; obtain ⟨A8, c8, rfl⟩ := U8.out.form; have L8 := Lib.hid (L7.out.ext hb8); have T8 := Lib.hid (T7.out.ext hb8))
        | (go_at_call 49; clear MK2; refine (c_rcTexts _ _ (kpL M s k) _ (by exact U8.out) (by exact T8.out)).mono ?_; rintro e w9 ⟨rfl, hb9⟩; have L9 := Lib.hid (L8.out.ext hb9)))
      all_goals
        go_wp2_with fail
        go_ret
        exact ⟨rfl, L9.out.bel⟩
end Go.Proofs.Ytnfeddnkokocfaa
