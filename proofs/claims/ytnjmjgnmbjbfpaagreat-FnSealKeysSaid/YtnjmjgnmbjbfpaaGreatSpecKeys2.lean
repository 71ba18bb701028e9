/- Contracts of SealMessage, MessageValid, OpenMessage (spec). -/
import Derived.Test.YtnjmjgnmbjbfpaaGreatKeyFns2
import Derived.Test.YtnjmjgnmbjbfpaaGreatSpecKeys
namespace Go.Proofs.YtnjmjgnmbjbfpaaGreat
set_option linter.unusedVariables false
set_option linter.unusedSimpArgs false
open Go.RowKit
attribute [local go_sem] Ext.cell
open BigFrame

theorem info_msg2 : (Tryz.prog.info? 39).map (·.size) = some 3 := by kernel_rfl
set_option maxHeartbeats 1000000 in
theorem c_sSealMessage (A : Option Addr) (cA : Nat) (M : Mch) (s k t : ByteArray) (w : World) (hR : IsRots w (.slice A M.l.length cA) M.l) (hz : MSz M) (hs : s.size ≤ 9223372036854775807) (hk : k.size ≤ 9223372036854775807) (ht : t.size ≤ 9223372036854775807) : Calls Tryz.prog 13 #[mV A cA M, .string s, .string k, .string t] w fun e w' => e = .returned (sealR M s k t) ∧ Below w.heap.size w w' := by
  have L0 := Lib.hid ((MW.start M (Below.refl w.heap.size w) hR).ext (ext_alloc _ (.cells #[.string ByteArray.empty, .string ByteArray.empty, .string ByteArray.empty] 39)))
  have K0 := Lib.hid (Blk.new (w.alloc (.cells #[.slice A M.l.length cA, .string M.rf, .string M.rg, .string M.pl] 27)) 39 #[.string ByteArray.empty, .string ByteArray.empty, .string ByteArray.empty])
  rw [World.size_alloc] at K0
  have HZ := Lib.hid hz
  clear hR hz
  go_enter Tryz.func13, Tryz.ntmps13
  have y0 := L0.out.c0
  have y1 := L0.out.c1
  have y2 := L0.out.c2
  have y3 := L0.out.c3
  go_wp2_with fail
  refine (c_l8Fits A cA M s _ L0.out.rot HZ.out hs).mono ?_
  rintro e w1 ⟨rfl, hb1⟩
  have L1 := Lib.hid (L0.out.ext hb1)
  have K1 := Lib.hid (K0.out.ext hb1)
  clear hb1 L0 K0 y0 y1 y2 y3
  cases h1 : setB M s with
  | false =>
    have HE := Lib.hid (sealR_no (M := M) (s := s) (k := k) (t := t) (by rw [h1]; rfl))
    clear h1
    go_wp2_with (refine wpList_store_row rfl 39 _ _ rfl (w.heap.size + 1) _ rfl rfl 39 _ K1.out info_msg2 rfl (by simp [Value.oneCell']) ?_)
    refine bodyPost_ret (results_two Tryz.results13 _ _ (w.heap.size + 1) 39 _ (0, 0) _ rfl (K1.out.setRow #[.string ⟨#[]⟩, .string ⟨#[]⟩, .string ⟨#[]⟩]) Tryz.underlying39 rfl info_msg2) rfl ⟨by rw [HE.out]; rfl, below_row L1.out.bel (by omega) _⟩
  | true =>
    have H1 := Lib.hid h1
    clear h1
    have y0 := L1.out.c0
    have y1 := L1.out.c1
    have y2 := L1.out.c2
    have y3 := L1.out.c3
    go_wp2_with fail
    refine (c_l8Fits A cA M k _ L1.out.rot HZ.out hk).mono ?_
    rintro e w2 ⟨rfl, hb2⟩
    have L2 := Lib.hid (L1.out.ext hb2)
    have K2 := Lib.hid (K1.out.ext hb2)
    clear hb2 L1 K1 y0 y1 y2 y3
    cases h2 : setB M k with
    | false =>
      have HE := Lib.hid (sealR_no (M := M) (s := s) (k := k) (t := t) (by rw [h2]; simp))
      clear h2
      go_wp2_with (refine wpList_store_row rfl 39 _ _ rfl (w.heap.size + 1) _ rfl rfl 39 _ K2.out info_msg2 rfl (by simp [Value.oneCell']) ?_)
      refine bodyPost_ret (results_two Tryz.results13 _ _ (w.heap.size + 1) 39 _ (0, 0) _ rfl (K2.out.setRow #[.string ⟨#[]⟩, .string ⟨#[]⟩, .string ⟨#[]⟩]) Tryz.underlying39 rfl info_msg2) rfl ⟨by rw [HE.out]; rfl, below_row L2.out.bel (by omega) _⟩
    | true =>
      have H2 := Lib.hid h2
      have HKW := Lib.hid (setB_size h2).2.2.2
      clear h2
      cases h3 : wv t with
      | false =>
        have HE := Lib.hid (sealR_no (M := M) (s := s) (k := k) (t := t) (by rw [h3]; simp))
        go_wp2_with (first | (go_at_call 30; refine (c_specWordValid _ _ (by omega)).mono ?_; rintro e w' ⟨rfl, rfl⟩; rw [h3]) | (refine wpList_store_row rfl 39 _ _ rfl (w.heap.size + 1) _ rfl rfl 39 _ K2.out info_msg2 rfl (by simp [Value.oneCell']) ?_))
        refine bodyPost_ret (results_two Tryz.results13 _ _ (w.heap.size + 1) 39 _ (0, 0) _ rfl (K2.out.setRow #[.string ⟨#[]⟩, .string ⟨#[]⟩, .string ⟨#[]⟩]) Tryz.underlying39 rfl info_msg2) rfl ⟨by rw [HE.out]; rfl, below_row L2.out.bel (by omega) _⟩
      | true =>
        have HE := Lib.hid (sealR_ok H1.out H2.out h3)
        have H3 := Lib.hid h3
        go_wp2_with (go_at_call 30; refine (c_specWordValid _ _ (by omega)).mono ?_; rintro e w' ⟨rfl, rfl⟩; rw [h3])
        clear h3
        have y0 := L2.out.c0
        have y1 := L2.out.c1
        have y2 := L2.out.c2
        have y3 := L2.out.c3
        have hlw := L2.out.lt
        have HC1 := Lib.hid (fun (y : Ext w2) => c_l8Encipher A cA M s k y.1 (L2.out.rot.ext y.2) H1.out HKW.out)
        have HC2 := Lib.hid (fun (y : Ext w2) => c_l8Encipher A cA M k t y.1 (L2.out.rot.ext y.2) H2.out H3.out)
        refine wp_region_ext_tail 10 (by kernel_rfl) (by kernel_rfl) ?_
        dsimp only [List.take, List.drop]
        repeat (go_big_quiet_step ((first
          | (go_at_call 31; (with_reducible exact Ext.call _ (HC1.out _)))
          | (go_at_call 31; (with_reducible exact Ext.call _ (HC2.out _))))))
        refine wpQuiet_nil ?_
        rintro _ ⟨⟨w4, hb4⟩, rfl⟩
        have L4 := Lib.hid (L2.out.ext hb4)
        have K4 := Lib.hid (K2.out.ext hb4)
        clear hb4 y0 y1 y2 y3
        go_wp2_with (refine wpList_store_row rfl 39 _ _ rfl (w.heap.size + 1) _ rfl rfl 39 _ K4.out info_msg2 rfl (by simp [Value.oneCell']) ?_)
        refine bodyPost_ret (results_two Tryz.results13 _ _ (w.heap.size + 1) 39 _ (0, 0) _ rfl (K4.out.setRow #[.string s, .string (encW M s k), .string (encW M k t)]) Tryz.underlying39 rfl info_msg2) rfl ⟨by rw [HE.out]; rfl, below_row L4.out.bel (by omega) _⟩
end Go.Proofs.YtnjmjgnmbjbfpaaGreat
