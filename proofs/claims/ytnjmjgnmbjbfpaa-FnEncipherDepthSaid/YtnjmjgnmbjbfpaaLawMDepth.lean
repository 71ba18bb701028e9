/- The walk of FnEncipherDepth. -/
import Derived.Test.YtnjmjgnmbjbfpaaLawMach2
namespace Go.Proofs.Ytnjmjgnmbjbfpaa
set_option linter.unusedVariables false
set_option linter.unusedSimpArgs false
open Go.RowKit
attribute [local go_sem] Ext.cell
open BigFrame

set_option maxHeartbeats 1000000 in
set_option maxRecDepth 100000 in
theorem walk_FnEncipherDepth (a0 : Option Addr) (len0 cap0 : Nat) (z0 : List Int) (a1 : Option Addr) (len1 cap1 : Nat) (z1 : List Int) (w : World) (w0 : IsRowB w a0 len0 cap0 z0) (w1 : IsRowB w a1 len1 cap1 z1) :
    Calls Try.prog 8 #[.slice a0 len0 cap0, .slice a1 len1 cap1] w fun e w' => e = .returned (.bool true) ∧ Below w.heap.size w w' := by
  by_cases hl0 : 1048576 < len0
  · clear w0 w1
    go_enter Try.func8, Try.ntmps8
    go_wp2_with fail
    go_ret
    exact ⟨rfl, Below.refl _ _⟩
  · by_cases hl1 : 1048576 < len1
    · clear w0 w1
      go_enter Try.func8, Try.ntmps8
      go_wp2_with fail
      go_ret
      exact ⟨rfl, Below.refl _ _⟩
    have HC := Lib.hid (code_of w0 (by omega))
    have HC1 := Lib.hid (code_of w1 (by omega))
    clear w0 w1
    go_enter Try.func8, Try.ntmps8
    go_wp2_with fail
    refine (c_DrawEncipher a0 len0 cap0 _ HC.out).mono ?_
    rintro e w1 ⟨A, cA, M, s, t, rfl, hR, hM, hs, ht, hb1⟩
    have L1 := Lib.hid (MW.start M hb1 hR)
    have HM := Lib.hid hM.sz
    clear hR hb1 HC hM
    have x0 := L1.out.c0
    have x1 := L1.out.c1
    have x2 := L1.out.c2
    have x3 := L1.out.c3
    go_wp2_with fail
    refine (c_DrawEncipher a1 len1 cap1 _ (HC1.out.ext L1.out.bel)).mono ?_
    rintro e w2 ⟨A2, cA2, M2, s2, v, rfl, hR2, hM2, hs2, hv, hb2⟩
    have L2 := Lib.hid (L1.out.ext (ext_trans hb2 (ext_alloc w2 (.cells #[.slice A2 M2.l.length cA2, .string M2.rf, .string M2.rg, .string M2.pl] 27))))
    have hlw : w1.heap.size < w2.heap.size := (L1.out.ext hb2).lt
    clear hR2 hM2 HC1 x0 x1 x2 x3
    have x0 := (L1.out.ext hb2).c0
    have x1 := (L1.out.ext hb2).c1
    have x2 := (L1.out.ext hb2).c2
    have x3 := (L1.out.ext hb2).c3
    clear hb2 L1
    go_wp2_with fail
    refine (c_Encipher A cA M s t _ L2.out.rot HM.out (by omega) (by omega)).mono ?_
    rintro e w3 ⟨rfl, hb3⟩
    have L3 := Lib.hid (L2.out.ext hb3)
    clear hb3 x0 x1 x2 x3 L2 hlw
    have x0 := L3.out.c0
    have x1 := L3.out.c1
    have x2 := L3.out.c2
    have x3 := L3.out.c3
    rcases encR_cases M s t with ⟨h1, hr⟩ | ⟨h1, h2, hr⟩
    · rw [hr]
      have HR := Lib.hid hr
      clear h1 hr
      go_wp2_with fail
      refine (c_sEncipher A cA M s t _ L3.out.rot HM.out (by omega) (by omega)).mono ?_
      rintro e w4 ⟨rfl, hb4⟩
      rw [HR.out]
      have L4 := Lib.hid (L3.out.ext hb4)
      clear hb4 x0 x1 x2 x3 L3
      go_wp2_with fail
      go_ret
      exact ⟨rfl, L4.out.bel⟩
    · rw [hr]
      have hB := ((setB_iff _ _).1 h1).1
      have HZ := Lib.hid (encW_size M s t)
      have HI : Hid (wv v = true → ∀ k, k < t.size → k < v.size → (bt (encW M s t) k = bt (encW M s v) k ↔ bt t k = bt v k)) := fun hv k hk hk2 => encW_inj hB h2 hv hk hk2
      have HT : Hid (wv v = true → encT M s v = encW M s v) := fun hv => encT_ok h1 hv
      have HZ2 := Lib.hid (encW_size M s v)
      have HR := Lib.hid hr
      clear h1 hr h2 hB
      go_wp2_with fail
      refine (c_sEncipher A cA M s t _ L3.out.rot HM.out (by omega) (by omega)).mono ?_
      rintro e w4 ⟨rfl, hb4⟩
      rw [HR.out]
      clear HR
      obtain ⟨p, hp⟩ : ∃ p, encW M s t = p := ⟨_, rfl⟩
      obtain ⟨r, hr⟩ : ∃ p, it (stepS M.l) t.size s = p := ⟨_, rfl⟩
      obtain ⟨q, hq⟩ : ∃ p, encW M s v = p := ⟨_, rfl⟩
      rw [hp] at HI HZ
      rw [hq] at HI HT HZ2
      rw [hp, hr]
      clear hp hr hq
      have L4 := Lib.hid (L3.out.ext hb4)
      clear hb4 x0 x1 x2 x3 L3
      have x0 := L4.out.c0
      have x1 := L4.out.c1
      have x2 := L4.out.c2
      have x3 := L4.out.c3
      cases hvv : wv v with
      | false =>
        go_wp2_with (go_at_call 26; refine (c_WordValid _ _ (by omega)).mono ?_; rintro e w' ⟨rfl, rfl⟩; rw [hvv])
        go_ret
        exact ⟨rfl, L4.out.bel⟩
      | true =>
        have HVV := Lib.hid hvv
        clear hvv
        go_wp2_with (go_at_call 26; refine (c_WordValid _ _ (by omega)).mono ?_; rintro e w' ⟨rfl, rfl⟩; rw [HVV.out])
        refine (c_rcText A cA M s v _ L4.out.rot HM.out (by omega) (by omega)).mono ?_
        rintro e w5 ⟨rfl, hb5⟩
        rw [HT.out HVV.out]
        have L5 := Lib.hid (L4.out.ext hb5)
        clear hb5 x0 x1 x2 x3 L4 HT
        go_wp2_with fail
        go_loopw [18] (fun i wr => ∃ k : Nat, k ≤ t.size ∧ k ≤ v.size ∧ i = .int .i64 k ∧ Below w.heap.size w wr) (fun i _ => t.size - (intOf i).toNat)
        case atStart => exact ⟨0, Nat.zero_le _, Nat.zero_le _, rfl, L5.out.bel⟩
        case round =>
          obtain ⟨k, hk, hk2, rfl, hbw⟩ := hrel
          have HBW := Lib.hid hbw
          clear hbw
          by_cases hlt : k < t.size
          · by_cases hlv : k < v.size
            · have i1 : (0 : Int) ≤ k := by omega
              have i2 : (k : Int) < t.size := by omega
              have i3 : (k : Int) < v.size := by omega
              have i4 : (k : Int) < p.size := by rw [HZ.out]; omega
              have i5 : (k : Int) < q.size := by rw [HZ2.out]; omega
              have hI := HI.out HVV.out k hlt hlv
              have h4 : k < p.size := by rw [HZ.out]; exact hlt
              have h5 : k < q.size := by rw [HZ2.out]; exact hlv
              by_cases he : bt t k = bt v k
              · have t1 : (((t[k]'hlt).toNat : Int) == ((v[k]'hlv).toNat : Int)) = true := by rw [bt_get _ k hlt, bt_get _ k hlv]; simp [he]
                have t2 : (((p[k]'h4).toNat : Int) == ((q[k]'h5).toNat : Int)) = true := by rw [bt_get _ k h4, bt_get _ k h5]; simp [hI.2 he]
                clear he hI
                go_wp2_with fail
                go_quiet (fail)
                go_wp2_with fail
                exact ⟨⟨k + 1, by omega, by omega, by go_num, (below_drewN HBW.out _)⟩, by simp [intOf]; omega⟩
              · have t1 : (((t[k]'hlt).toNat : Int) == ((v[k]'hlv).toNat : Int)) = false := by rw [bt_get _ k hlt, bt_get _ k hlv]; simp [he]
                have t2 : (((p[k]'h4).toNat : Int) == ((q[k]'h5).toNat : Int)) = false := by rw [bt_get _ k h4, bt_get _ k h5, beq_eq_false_iff_ne]; exact fun e => he (hI.1 e)
                clear he hI
                go_wp2_with fail
                go_quiet (fail)
                go_wp2_with fail
                exact ⟨⟨k + 1, by omega, by omega, by go_num, (below_drewN HBW.out _)⟩, by simp [intOf]; omega⟩
            · have t0 : ((q.size : Int) == (v.size : Int)) = true := by rw [HZ2.out]; simp
              go_wp2_with fail
              go_ret
              exact ⟨rfl, HBW.out⟩
          · have t0 : ((q.size : Int) == (v.size : Int)) = true := by rw [HZ2.out]; simp
            go_wp2_with fail
            go_ret
            exact ⟨rfl, HBW.out⟩
end Go.Proofs.Ytnjmjgnmbjbfpaa
