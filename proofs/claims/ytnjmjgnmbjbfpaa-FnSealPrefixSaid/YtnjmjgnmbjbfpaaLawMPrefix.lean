/- The walk of FnSealPrefix. -/
import Derived.Test.YtnjmjgnmbjbfpaaLawMach2
import Derived.Test.YtnjmjgnmbjbfpaaSpecKeys2
import Derived.Test.YtnjmjgnmbjbfpaaDrawMach3
namespace Go.Proofs.Ytnjmjgnmbjbfpaa
set_option linter.unusedVariables false
set_option linter.unusedSimpArgs false
open Go.RowKit
attribute [local go_sem] Ext.cell
open BigFrame

theorem encW_pre {M : Mch} {s t : ByteArray} (h : mB M = true) (ht : wv t = true) {k : Nat} (hk : k ≤ t.size) : (encW M s t).extract 0 k = encW M s (t.extract 0 k) := by
  have h1 := fst_app (encW M s (t.extract 0 k)) (encW M (it (stepS M.l) k s) (t.extract k t.size))
  rw [encW_parts M s t h ht hk, encW_size, x1size t hk, Nat.sub_zero] at h1
  exact h1
theorem sealR_cases (M : Mch) (s k t : ByteArray) : sealR M s k t = .tuple #[msgV ByteArray.empty ByteArray.empty ByteArray.empty, .bool false] ∨ (setB M s = true ∧ setB M k = true ∧ wv t = true ∧ sealR M s k t = .tuple #[msgV s (encW M s k) (encW M k t), .bool true]) := by
  cases h : ((setB M s && setB M k) && wv t)
  · exact .inl (sealR_no h)
  · rw [Bool.and_eq_true, Bool.and_eq_true] at h
    exact .inr ⟨h.1.1, h.1.2, h.2, sealR_ok h.1.1 h.1.2 h.2⟩
set_option maxHeartbeats 1000000 in
set_option maxRecDepth 100000 in
theorem walk_FnSealPrefix (a0 : Option Addr) (len0 cap0 : Nat) (z0 : List Int) (a1 : Option Addr) (len1 cap1 : Nat) (z1 : List Int) (w : World) (w0 : IsRowB w a0 len0 cap0 z0) (w1 : IsRowB w a1 len1 cap1 z1) :
    Calls Try.prog 9 #[.slice a0 len0 cap0, .slice a1 len1 cap1] w fun e w' => e = .returned (.bool true) ∧ Below w.heap.size w w' := by
  by_cases hl0 : 1048576 < len0
  · clear w0 w1
    go_enter Try.func9, Try.ntmps9
    go_wp2_with fail
    go_ret
    exact ⟨rfl, Below.refl _ _⟩
  · by_cases hl1 : 1048576 < len1
    · clear w0 w1
      go_enter Try.func9, Try.ntmps9
      go_wp2_with fail
      go_ret
      exact ⟨rfl, Below.refl _ _⟩
    have HC := Lib.hid (code_of w0 (by omega))
    clear w0 w1
    go_enter Try.func9, Try.ntmps9
    go_wp2_with fail
    refine (c_DrawSealMessage a0 len0 cap0 _ HC.out).mono ?_
    rintro e w1 ⟨A, cA, M, s, kk, t, rfl, hR, hM, hs, hkk, ht, hb1⟩
    have L1 := Lib.hid (MW.start M hb1 hR)
    have HM := Lib.hid hM.sz
    clear hR hb1 HC hM
    have x0 := L1.out.c0
    have x1 := L1.out.c1
    have x2 := L1.out.c2
    have x3 := L1.out.c3
    go_wp2_with fail
    refine (c_SealMessage A cA M s kk t _ L1.out.rot HM.out (by omega) (by omega) (by omega)).mono ?_
    rintro e w2 ⟨rfl, hb2⟩
    rcases sealR_cases M s kk t with hr | ⟨h1, h2, h3, hr⟩
    · rw [hr]
      have HR := Lib.hid hr
      have KX := Lib.hid (Blk.new w2 49 #[.string ByteArray.empty, .string ByteArray.empty, .string ByteArray.empty])
      have L2 := Lib.hid (L1.out.ext (ext_trans hb2 (ext_alloc w2 (.cells #[.string ByteArray.empty, .string ByteArray.empty, .string ByteArray.empty] 49))))
      clear hb2 hr x0 x1 x2 x3 L1
      have x0 := L2.out.c0
      have x1 := L2.out.c1
      have x2 := L2.out.c2
      have x3 := L2.out.c3
      go_wp2_with fail
      refine (c_sSealMessage A cA M s kk t _ L2.out.rot HM.out (by omega) (by omega) (by omega)).mono ?_
      rintro e w3 ⟨rfl, hb3⟩
      rw [HR.out]
      have KX3 := Lib.hid ((KX.out.ext hb3).alloc (.cells #[.string ByteArray.empty, .string ByteArray.empty, .string ByteArray.empty] 49))
      have KY3 := Lib.hid (Blk.new w3 49 #[.string ByteArray.empty, .string ByteArray.empty, .string ByteArray.empty])
      have L3 := Lib.hid (L2.out.ext (ext_trans hb3 (ext_alloc w3 (.cells #[.string ByteArray.empty, .string ByteArray.empty, .string ByteArray.empty] 49))))
      clear hb3 x0 x1 x2 x3 L2 KX
      have m0 := KX3.out.cell 0
      have m1 := KX3.out.cell 1
      have m2 := KX3.out.cell 2
      have n0 := KY3.out.cell 0
      have n1 := KY3.out.cell 1
      have n2 := KY3.out.cell 2
      go_wp2_with fail
      go_ret
      exact ⟨rfl, L3.out.bel⟩
    · have hB := ((setB_iff _ _).1 h1).1
      obtain ⟨k, hkm⟩ : ∃ k, len1 % (t.size + 1) = k := ⟨_, rfl⟩
      have hk : k ≤ t.size := by have := Nat.mod_lt len1 (show 0 < t.size + 1 by omega); omega
      have hmod : (len1 : Int) % ((t.size : Int) + 1) = k := by rw [← hkm]; simp
      have HMO := Lib.hid hmod
      have hpre := encW_pre (s := kk) hB h3 hk
      have hr2 := sealR_ok h1 h2 (x1wv h3 0 k hk)
      have hz2 := encW_size M kk t
      obtain ⟨p1, hp1⟩ : ∃ p, encW M s kk = p := ⟨_, rfl⟩
      obtain ⟨p2, hp2⟩ : ∃ p, encW M kk t = p := ⟨_, rfl⟩
      rw [← hpre, hp1, hp2] at hr2
      rw [hp1, hp2] at hr
      rw [hp2] at hz2
      have HR2 := Lib.hid hr2
      rw [hr]
      have HR := Lib.hid hr
      have Z1 := Lib.hid (xle t 0 k)
      have i1 : (0 : Int) ≤ k := by omega
      have i2 : (k : Int) ≤ t.size := by omega
      have i3 : (k : Int) ≤ p2.size := by omega
      have HZ2 := Lib.hid hz2
      clear h1 h2 h3 hB hpre hr2 hp1 hp2 hkm hmod hr hz2
      have KX := Lib.hid (Blk.new w2 49 #[.string s, .string p1, .string p2])
      have L2 := Lib.hid (L1.out.ext (ext_trans hb2 (ext_alloc w2 (.cells #[.string s, .string p1, .string p2] 49))))
      have hw2 : w1.heap.size < w2.heap.size := (L1.out.ext hb2).lt
      clear hb2 x0 x1 x2 x3 L1
      have x0 := L2.out.c0
      have x1 := L2.out.c1
      have x2 := L2.out.c2
      have x3 := L2.out.c3
      go_wp2_with fail
      refine (c_sSealMessage A cA M s kk t _ L2.out.rot HM.out (by omega) (by omega) (by omega)).mono ?_
      rintro e w3 ⟨rfl, hb3⟩
      rw [HR.out]
      have hw3 : w2.heap.size < w3.heap.size := (KX.out.ext hb3).lt
      have KX3 := Lib.hid ((KX.out.ext hb3).alloc (.cells #[.string s, .string p1, .string p2] 49))
      have KY3 := Lib.hid (Blk.new w3 49 #[.string s, .string p1, .string p2])
      have L3 := Lib.hid (L2.out.ext (ext_trans hb3 (ext_alloc w3 (.cells #[.string s, .string p1, .string p2] 49))))
      clear hb3 x0 x1 x2 x3 L2 KX
      have x0 := L3.out.c0
      have x1 := L3.out.c1
      have x2 := L3.out.c2
      have x3 := L3.out.c3
      have m0 := KX3.out.cell 0
      have m1 := KX3.out.cell 1
      have m2 := KX3.out.cell 2
      have n0 := KY3.out.cell 0
      have n1 := KY3.out.cell 1
      have n2 := KY3.out.cell 2
      have T0 := bs_yes (a := s) (b := s) rfl
      have T1 := bs_yes (a := p1) (b := p1) rfl
      have T2 := bs_yes (a := p2) (b := p2) rfl
      have T3 := bs_yes (a := (p2.extract 0 k)) (b := (p2.extract 0 k)) rfl
      have hlt3 := L3.out.lt
      go_upto_region 8 with fail
      generalize w3.alloc (.cells #[.string s, .string p1, .string p2] 49) = W3 at *
      go_wp2_with fail
      rw [HMO.out]
      have e0 := World.new_ne W3 ⟨w1.heap.size, 0, none⟩ x0
      have e1 := World.new_ne W3 ⟨w1.heap.size, 1, none⟩ x1
      have e2 := World.new_ne W3 ⟨w1.heap.size, 2, none⟩ x2
      have e3 := World.new_ne W3 ⟨w1.heap.size, 3, none⟩ x3
      go_region_held3 (fun w' => w'.cell? ⟨w1.heap.size, 0, none⟩ = some (.slice A M.l.length cA) ∧ w'.cell? ⟨w1.heap.size, 1, none⟩ = some (.string M.rf) ∧ w'.cell? ⟨w1.heap.size, 2, none⟩ = some (.string M.rg) ∧ w'.cell? ⟨w1.heap.size, 3, none⟩ = some (.string M.pl))
        (first | exact hkeep | exact ⟨x0, x1, x2, x3⟩ | go_keep)
        (first
          | (go_at_call 29
             refine (c_SealMessage A cA M s kk (t.extract 0 k) _ (L3.out.rot.ext (by first | exact (Below.refl _ _).drew | exact (ext_alloc _ _).drew)) HM.out (by omega) (by omega) (Nat.le_trans Z1.out (by omega))).mono ?_
             rintro e w4 ⟨rfl, hb4⟩
             rw [HR2.out]
             have hbx : Below W3.heap.size W3 w4 := by first | exact (Below.refl _ _).drew.trans hb4 | exact ext_trans ((ext_alloc W3 _).drew) hb4
             have hkeep := (show w4.cell? ⟨w1.heap.size, 0, none⟩ = some (.slice A M.l.length cA) ∧ w4.cell? ⟨w1.heap.size, 1, none⟩ = some (.string M.rf) ∧ w4.cell? ⟨w1.heap.size, 2, none⟩ = some (.string M.rg) ∧ w4.cell? ⟨w1.heap.size, 3, none⟩ = some (.string M.pl) from ⟨(L3.out.ext hbx).c0, (L3.out.ext hbx).c1, (L3.out.ext hbx).c2, (L3.out.ext hbx).c3⟩)
             try have hn : Blk w4 W3.heap.size 49 #[.string ByteArray.empty, .string ByteArray.empty, .string ByteArray.empty] := (Blk.new W3 _ _).drew.ext hb4
             try have hn0 := hn.cell 0
             try have hn1 := hn.cell 1
             try have hn2 := hn.cell 2
             try have hf0 := hn.free 0
             try have hf1 := hn.free 1
             try have hf2 := hn.free 2))
      · have KX4 := Lib.hid ((KX3.out.ext hbx).alloc (.cells #[.string s, .string p1, .string (p2.extract 0 k)] 49))
        have KY4 := Lib.hid (Blk.new w4 49 #[.string s, .string p1, .string (p2.extract 0 k)])
        have L4 := Lib.hid (L3.out.ext (ext_trans hbx (ext_alloc w4 (.cells #[.string s, .string p1, .string (p2.extract 0 k)] 49))))
        have hw4 : w2.heap.size < w4.heap.size := (KX3.out.ext hbx).lt
        clear hb4 hbx hkeep x0 x1 x2 x3 L3 hlt3 m0 m1 m2 n0 n1 n2 KX3 KY3 e0 e1 e2 e3
        have m0 := KX4.out.cell 0
        have m1 := KX4.out.cell 1
        have m2 := KX4.out.cell 2
        have n0 := KY4.out.cell 0
        have n1 := KY4.out.cell 1
        have n2 := KY4.out.cell 2
        go_wp2_with fail
        go_quiet (fail)
        go_wp2_with fail
        go_ret
        exact ⟨rfl, below_drewN L4.out.bel _⟩
      · have KX4 := Lib.hid (KX3.out.ext hbx)
        have hle : w.heap.size ≤ W3.heap.size := L3.out.bel.size
        have L4 := Lib.hid (((((L3.out.ext hbx).bel).setCell (p := ⟨W3.heap.size, 0, none⟩) hle (.string s)).setCell (p := ⟨W3.heap.size, 1, none⟩) hle (.string p1)).setCell (p := ⟨W3.heap.size, 2, none⟩) hle (.string (p2.extract 0 k)))
        have hnx : W3.heap.size ≠ w2.heap.size := by have := KX3.out.lt; omega
        have hnx2 : w2.heap.size ≠ W3.heap.size := Ne.symm hnx
        clear hb4 hbx hkeep x0 x1 x2 x3 L3 hlt3 m0 m1 m2 n0 n1 n2 KX3 KY3 e0 e1 e2 e3
        have m0 := KX4.out.cell 0
        have m1 := KX4.out.cell 1
        have m2 := KX4.out.cell 2
        go_wp2_with fail
        go_quiet (fail)
        go_wp2_with fail
        go_ret
        exact ⟨rfl, below_drewN L4.out _⟩
end Go.Proofs.Ytnjmjgnmbjbfpaa
