/- Contracts of SealMessage, MessageValid, OpenMessage (impl). -/
import Derived.Test.YtnjmjgnmbjbfpaaGreatKeyFns
namespace Go.Proofs.YtnjmjgnmbjbfpaaGreat
set_option linter.unusedVariables false
set_option linter.unusedSimpArgs false
open Go.RowKit
attribute [local go_sem] Ext.cell
open BigFrame

/-- a message as a value -/
abbrev msgV (a b c : ByteArray) : Value := .agg #[.string a, .string b, .string c]
/-- what SealMessage returns -/
noncomputable def sealR (M : Mch) (s k t : ByteArray) : Value := if ((setB M s && setB M k) && wv t) = true then .tuple #[msgV s (encW M s k) (encW M k t), .bool true] else .tuple #[msgV ByteArray.empty ByteArray.empty ByteArray.empty, .bool false]
theorem sealR_ok {M : Mch} {s k t : ByteArray} (h1 : setB M s = true) (h2 : setB M k = true) (h3 : wv t = true) : sealR M s k t = .tuple #[msgV s (encW M s k) (encW M k t), .bool true] := by unfold sealR; rw [h1, h2, h3]; rfl
theorem sealR_no {M : Mch} {s k t : ByteArray} (h : ((setB M s && setB M k) && wv t) = false) : sealR M s k t = .tuple #[msgV ByteArray.empty ByteArray.empty ByteArray.empty, .bool false] := by unfold sealR; rw [h]; rfl
theorem info_msg : (Tryz.prog.info? 39).map (·.size) = some 3 := by kernel_rfl
set_option maxHeartbeats 1000000 in
theorem c_SealMessage (A : Option Addr) (cA : Nat) (M : Mch) (s k t : ByteArray) (w : World) (hR : IsRots w (.slice A M.l.length cA) M.l) (hz : MSz M) (hs : s.size ≤ 9223372036854775807) (hk : k.size ≤ 9223372036854775807) (ht : t.size ≤ 9223372036854775807) : Calls Tryz.prog 12 #[mV A cA M, .string s, .string k, .string t] w fun e w' => e = .returned (sealR M s k t) ∧ Below w.heap.size w w' := by
  have L0 := Lib.hid ((MW.start M (Below.refl w.heap.size w) hR).ext (ext_alloc _ (.cells #[.string ByteArray.empty, .string ByteArray.empty, .string ByteArray.empty] 39)))
  have K0 := Lib.hid (Blk.new (w.alloc (.cells #[.slice A M.l.length cA, .string M.rf, .string M.rg, .string M.pl] 27)) 39 #[.string ByteArray.empty, .string ByteArray.empty, .string ByteArray.empty])
  rw [World.size_alloc] at K0
  have HZ := Lib.hid hz
  clear hR hz
  go_enter Tryz.func12, Tryz.ntmps12
  have y0 := L0.out.c0
  have y1 := L0.out.c1
  have y2 := L0.out.c2
  have y3 := L0.out.c3
  go_wp2_with fail
  refine (c_settingValid A cA M s _ L0.out.rot HZ.out hs).mono ?_
  rintro e w1 ⟨rfl, hb1⟩
  have L1 := Lib.hid (L0.out.ext hb1)
  have K1 := Lib.hid (K0.out.ext hb1)
  clear hb1 L0 K0 y0 y1 y2 y3
  cases h1 : setB M s with
  | false =>
    have HE := Lib.hid (sealR_no (M := M) (s := s) (k := k) (t := t) (by rw [h1]; rfl))
    clear h1
    go_wp2_with (refine wpList_store_row rfl 39 _ _ rfl (w.heap.size + 1) _ rfl rfl 39 _ K1.out info_msg rfl (by simp [Value.oneCell']) ?_)
    refine bodyPost_ret (results_two Tryz.results12 _ _ (w.heap.size + 1) 39 _ (0, 0) _ rfl (K1.out.setRow #[.string ⟨#[]⟩, .string ⟨#[]⟩, .string ⟨#[]⟩]) Tryz.underlying39 rfl info_msg) rfl ⟨by rw [HE.out]; rfl, below_row L1.out.bel (by omega) _⟩
  | true =>
    have H1 := Lib.hid h1
    clear h1
    have y0 := L1.out.c0
    have y1 := L1.out.c1
    have y2 := L1.out.c2
    have y3 := L1.out.c3
    go_wp2_with fail
    refine (c_settingValid A cA M k _ L1.out.rot HZ.out hk).mono ?_
    rintro e w2 ⟨rfl, hb2⟩
    have L2 := Lib.hid (L1.out.ext hb2)
    have K2 := Lib.hid (K1.out.ext hb2)
    clear hb2 L1 K1 y0 y1 y2 y3
    cases h2 : setB M k with
    | false =>
      have HE := Lib.hid (sealR_no (M := M) (s := s) (k := k) (t := t) (by rw [h2]; simp))
      clear h2
      go_wp2_with (refine wpList_store_row rfl 39 _ _ rfl (w.heap.size + 1) _ rfl rfl 39 _ K2.out info_msg rfl (by simp [Value.oneCell']) ?_)
      refine bodyPost_ret (results_two Tryz.results12 _ _ (w.heap.size + 1) 39 _ (0, 0) _ rfl (K2.out.setRow #[.string ⟨#[]⟩, .string ⟨#[]⟩, .string ⟨#[]⟩]) Tryz.underlying39 rfl info_msg) rfl ⟨by rw [HE.out]; rfl, below_row L2.out.bel (by omega) _⟩
    | true =>
      have H2 := Lib.hid h2
      have HKW := Lib.hid (setB_size h2).2.2.2
      clear h2
      cases h3 : wv t with
      | false =>
        have HE := Lib.hid (sealR_no (M := M) (s := s) (k := k) (t := t) (by rw [h3]; simp))
        go_wp2_with (first | (go_at_call 24; refine (c_WordValid _ _ (by omega)).mono ?_; rintro e w' ⟨rfl, rfl⟩; rw [h3]) | (refine wpList_store_row rfl 39 _ _ rfl (w.heap.size + 1) _ rfl rfl 39 _ K2.out info_msg rfl (by simp [Value.oneCell']) ?_))
        refine bodyPost_ret (results_two Tryz.results12 _ _ (w.heap.size + 1) 39 _ (0, 0) _ rfl (K2.out.setRow #[.string ⟨#[]⟩, .string ⟨#[]⟩, .string ⟨#[]⟩]) Tryz.underlying39 rfl info_msg) rfl ⟨by rw [HE.out]; rfl, below_row L2.out.bel (by omega) _⟩
      | true =>
        have HE := Lib.hid (sealR_ok H1.out H2.out h3)
        have H3 := Lib.hid h3
        have y0 := L2.out.c0
        have y1 := L2.out.c1
        have y2 := L2.out.c2
        have y3 := L2.out.c3
        go_wp2_with (go_at_call 24; refine (c_WordValid _ _ (by omega)).mono ?_; rintro e w' ⟨rfl, rfl⟩; rw [h3])
        clear h3
        refine (c_Encipher A cA M s k _ L2.out.rot HZ.out hs hk).mono ?_
        rintro e w3 ⟨rfl, hb3⟩
        rw [encR_ok H1.out HKW.out]
        have L3 := Lib.hid (L2.out.ext hb3)
        have K3 := Lib.hid (K2.out.ext hb3)
        clear hb3 L2 K2 y0 y1 y2 y3
        have y0 := L3.out.c0
        have y1 := L3.out.c1
        have y2 := L3.out.c2
        have y3 := L3.out.c3
        go_wp2_with fail
        refine (c_Encipher A cA M k t _ L3.out.rot HZ.out hk ht).mono ?_
        rintro e w4 ⟨rfl, hb4⟩
        rw [encR_ok H2.out H3.out]
        have L4 := Lib.hid (L3.out.ext hb4)
        have K4 := Lib.hid (K3.out.ext hb4)
        clear hb4 L3 K3 y0 y1 y2 y3
        go_wp2_with (refine wpList_store_row rfl 39 _ _ rfl (w.heap.size + 1) _ rfl rfl 39 _ K4.out info_msg rfl (by simp [Value.oneCell']) ?_)
        refine bodyPost_ret (results_two Tryz.results12 _ _ (w.heap.size + 1) 39 _ (0, 0) _ rfl (K4.out.setRow #[.string s, .string (encW M s k), .string (encW M k t)]) Tryz.underlying39 rfl info_msg) rfl ⟨by rw [HE.out]; rfl, below_row L4.out.bel (by omega) _⟩
/-- a message is valid -/
def msgB (a b c : ByteArray) : Bool := (decide (1 ≤ a.size) && decide (a.size ≤ 3)) && (wv a && (decide (b.size = a.size) && (wv b && wv c)))
theorem msgB_iff (a b c : ByteArray) : msgB a b c = true ↔ 1 ≤ a.size ∧ a.size ≤ 3 ∧ wv a = true ∧ b.size = a.size ∧ wv b = true ∧ wv c = true := by
  unfold msgB; simp only [Bool.and_eq_true, decide_eq_true_eq]; exact ⟨fun ⟨⟨a, b⟩, c, d, e, f⟩ => ⟨a, b, c, d, e, f⟩, fun ⟨a, b, c, d, e, f⟩ => ⟨⟨a, b⟩, c, d, e, f⟩⟩
theorem msgB_no {a b c : ByteArray} (h : ¬ (1 ≤ a.size ∧ a.size ≤ 3 ∧ wv a = true ∧ b.size = a.size ∧ wv b = true ∧ wv c = true)) : msgB a b c = false := by
  rw [Bool.eq_false_iff]; exact fun q => h ((msgB_iff a b c).1 q)
/-- what OpenMessage returns -/
noncomputable def openR (M : Mch) (a b c : ByteArray) : Value := if (setB M a && msgB a b c) = true then .tuple #[.string (encW M a b), .string (encW M (encW M a b) c), .bool true] else .tuple #[.string ByteArray.empty, .string ByteArray.empty, .bool false]
theorem openR_ok {M : Mch} {a b c : ByteArray} (h1 : setB M a = true) (h2 : msgB a b c = true) : openR M a b c = .tuple #[.string (encW M a b), .string (encW M (encW M a b) c), .bool true] := by unfold openR; rw [h1, h2]; rfl
theorem openR_no {M : Mch} {a b c : ByteArray} (h : (setB M a && msgB a b c) = false) : openR M a b c = .tuple #[.string ByteArray.empty, .string ByteArray.empty, .bool false] := by unfold openR; rw [h]; rfl
theorem setB_enc {M : Mch} {a b : ByteArray} (h : setB M a = true) (hb : wv b = true) (hz : b.size = a.size) : setB M (encW M a b) = true := by
  obtain ⟨h1, h2, h3⟩ := (setB_iff M a).1 h
  exact (setB_iff _ _).2 ⟨h1, encW_wv h1 hb, by rw [encW_size, hz, h3]⟩
theorem res3 {fn : Func} {a b c : Tmp} (h : fn.results = #[.tmp a, .tmp b, .tmp c]) (tmps : Array Value) (P : Program) (w : World) : (results fn tmps).run P w = .ok (.tuple #[tmps.getD a undef, tmps.getD b undef, tmps.getD c undef]) w := by
  simp [results, h]
end Go.Proofs.YtnjmjgnmbjbfpaaGreat
