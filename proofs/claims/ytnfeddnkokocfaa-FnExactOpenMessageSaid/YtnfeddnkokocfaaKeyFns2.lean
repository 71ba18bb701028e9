/- Contracts of SealMessage, MessageValid, OpenMessage (impl). -/
import Derived.Test.YtnfeddnkokocfaaKeyFns
namespace Go.Proofs.Ytnfeddnkokocfaa
set_option linter.unusedVariables false
set_option linter.unusedSimpArgs false
open Go.RowKit
attribute [local go_sem] Ext.cell
open BigFrame

/-- a message as a value -/
abbrev msgV (a b c : ByteArray) : Value := .agg #[.string a, .string b, .string c]
/-- what SealMessage returns -/
noncomputable def sealR (M : Mch) (s k t : ByteArray) : Value := if ((setB M s && setB M k) && wv t) = true then .tuple #[msgV s (encW M s k) (encW M k t), .bool true] else .tuple #[msgV ByteArray.empty ByteArray.empty ByteArray.empty, .bool false]
theorem sealR_ok {M : Mch} {s k t : ByteArray} (h1 : setB M s = true) (h2 : setB M k = true) (h3 : wv t = true) : sealR M s k t = .tuple #[msgV s (encW M s k) (encW M k t), .bool true] := by unfold sealR; rw [h1, h2, h3]; rfl
theorem sealR_no {M : Mch} {s k t : ByteArray} (h : ((setB M s && setB M k) && wv t) = false) : sealR M s k t = .tuple #[msgV ByteArray.empty ByteArray.empty ByteArray.empty, .bool false] := by unfold sealR; rw [h]; rfl
/-- a message is valid -/
def msgB (a b c : ByteArray) : Bool := (decide (1 ≤ a.size) && decide (a.size ≤ 3)) && (wv a && (decide (b.size = a.size) && (wv b && wv c)))
theorem msgB_iff (a b c : ByteArray) : msgB a b c = true ↔ 1 ≤ a.size ∧ a.size ≤ 3 ∧ wv a = true ∧ b.size = a.size ∧ wv b = true ∧ wv c = true := by
  unfold msgB; simp only [Bool.and_eq_true, decide_eq_true_eq]; exact ⟨fun ⟨⟨a, b⟩, c, d, e, f⟩ => ⟨a, b, c, d, e, f⟩, fun ⟨a, b, c, d, e, f⟩ => ⟨⟨a, b⟩, c, d, e, f⟩⟩
theorem msgB_no {a b c : ByteArray} (h : ¬ (1 ≤ a.size ∧ a.size ≤ 3 ∧ wv a = true ∧ b.size = a.size ∧ wv b = true ∧ wv c = true)) : msgB a b c = false := by
  rw [Bool.eq_false_iff]; exact fun q => h ((msgB_iff a b c).1 q)
set_option maxHeartbeats 1000000 in
theorem c_MessageValid (a b c : ByteArray) (w : World) (ha : a.size ≤ 9223372036854775807) (hb : b.size ≤ 9223372036854775807) (hc : c.size ≤ 9223372036854775807) : Calls Try.prog 66 #[msgV a b c] w fun e w' => e = .returned (.bool (msgB a b c)) ∧ Below w.heap.size w w' := by
  have B0 := Lib.hid (ext_alloc w (.cells #[.string a, .string b, .string c] 45))
  by_cases h1 : 1 ≤ a.size
  · have t1 : (1 : Int) ≤ (a.size : Int) := by omega
    by_cases h2 : a.size ≤ 3
    · have t2 : (a.size : Int) ≤ 3 := by omega
      cases h3 : wv a with
      | true =>
        by_cases h4 : b.size = a.size
        · have t4 : ((b.size : Int) == (a.size : Int)) = true := by rw [beq_iff_eq]; omega
          cases h5 : wv b with
          | true =>
            have HE : Hid (msgB a b c = wv c) := by show msgB a b c = wv c; unfold msgB; rw [decide_eq_true h1, decide_eq_true h2, decide_eq_true h4, h3, h5]; rfl
            have HC1 := Lib.hid (fun w => c_WordValid a w ha)
            have HC2 := Lib.hid (fun w => c_WordValid b w hb)
            have HC3 := Lib.hid (fun w => c_WordValid c w hc)
            rw [h3] at HC1
            rw [h5] at HC2
            clear h3 h4 h5
            go_enter Try.func66, Try.ntmps66
            go_wp2_with (first | (go_at_call 43; ((with_reducible refine (HC1.out _).mono ?_); rintro e w' ⟨rfl, rfl⟩)) | (go_at_call 43; ((with_reducible refine (HC2.out _).mono ?_); rintro e w' ⟨rfl, rfl⟩)) | (go_at_call 43; ((with_reducible refine (HC3.out _).mono ?_); rintro e w' ⟨rfl, rfl⟩)))
            go_ret
            exact ⟨by rw [HE.out]; rfl, B0.out⟩
          | false =>
            have HE := Lib.hid (msgB_no (a := a) (b := b) (c := c) (fun q => by rw [h5] at q; exact absurd q.2.2.2.2.1 (by simp)))
            have HC1 := Lib.hid (fun w => c_WordValid a w ha)
            have HC2 := Lib.hid (fun w => c_WordValid b w hb)
            rw [h3] at HC1
            rw [h5] at HC2
            clear h3 h4 h5
            go_enter Try.func66, Try.ntmps66
            go_wp2_with (first | (go_at_call 43; ((with_reducible refine (HC1.out _).mono ?_); rintro e w' ⟨rfl, rfl⟩)) | (go_at_call 43; ((with_reducible refine (HC2.out _).mono ?_); rintro e w' ⟨rfl, rfl⟩)))
            go_ret
            exact ⟨by rw [HE.out]; rfl, B0.out⟩
        · have t4 : ((b.size : Int) == (a.size : Int)) = false := by rw [beq_eq_false_iff_ne]; omega
          have HE := Lib.hid (msgB_no (a := a) (b := b) (c := c) (fun q => h4 q.2.2.2.1))
          have HC1 := Lib.hid (fun w => c_WordValid a w ha)
          rw [h3] at HC1
          clear h3 h4
          go_enter Try.func66, Try.ntmps66
          go_wp2_with (go_at_call 43; ((with_reducible refine (HC1.out _).mono ?_); rintro e w' ⟨rfl, rfl⟩))
          go_ret
          exact ⟨by rw [HE.out]; rfl, B0.out⟩
      | false =>
        have HE := Lib.hid (msgB_no (a := a) (b := b) (c := c) (fun q => by rw [h3] at q; exact absurd q.2.2.1 (by simp)))
        have HC1 := Lib.hid (fun w => c_WordValid a w ha)
        rw [h3] at HC1
        clear h3
        go_enter Try.func66, Try.ntmps66
        go_wp2_with (go_at_call 43; ((with_reducible refine (HC1.out _).mono ?_); rintro e w' ⟨rfl, rfl⟩))
        go_ret
        exact ⟨by rw [HE.out]; rfl, B0.out⟩
    · have HE := Lib.hid (msgB_no (a := a) (b := b) (c := c) (fun q => h2 q.2.1))
      go_enter Try.func66, Try.ntmps66
      go_wp2_with fail
      go_ret
      exact ⟨by rw [HE.out]; rfl, B0.out⟩
  · have HE := Lib.hid (msgB_no (a := a) (b := b) (c := c) (fun q => h1 q.1))
    go_enter Try.func66, Try.ntmps66
    go_wp2_with fail
    go_ret
    exact ⟨by rw [HE.out]; rfl, B0.out⟩
/-- what OpenMessage returns -/
noncomputable def openR (M : Mch) (a b c : ByteArray) : Value := if (setB M a && msgB a b c) = true then .tuple #[.string (encW M a b), .string (encW M (encW M a b) c), .bool true] else .tuple #[.string ByteArray.empty, .string ByteArray.empty, .bool false]
theorem openR_ok {M : Mch} {a b c : ByteArray} (h1 : setB M a = true) (h2 : msgB a b c = true) : openR M a b c = .tuple #[.string (encW M a b), .string (encW M (encW M a b) c), .bool true] := by unfold openR; rw [h1, h2]; rfl
theorem openR_no {M : Mch} {a b c : ByteArray} (h : (setB M a && msgB a b c) = false) : openR M a b c = .tuple #[.string ByteArray.empty, .string ByteArray.empty, .bool false] := by unfold openR; rw [h]; rfl
theorem setB_enc {M : Mch} {a b : ByteArray} (h : setB M a = true) (hb : wv b = true) (hz : b.size = a.size) : setB M (encW M a b) = true := by
  obtain ⟨h1, h2, h3⟩ := (setB_iff M a).1 h
  exact (setB_iff _ _).2 ⟨h1, encW_wv h1 hb, by rw [encW_size, hz, h3]⟩
theorem res3 {fn : Func} {a b c : Tmp} (h : fn.results = #[.tmp a, .tmp b, .tmp c]) (tmps : Array Value) (P : Program) (w : World) : (results fn tmps).run P w = .ok (.tuple #[tmps.getD a undef, tmps.getD b undef, tmps.getD c undef]) w := by
  simp [results, h]
set_option maxHeartbeats 1000000 in
theorem c_OpenMessage (A : Option Addr) (cA : Nat) (M : Mch) (a b c : ByteArray) (w : World) (hR : IsRots w (.slice A M.l.length cA) M.l) (hz : MSz M) (ha : a.size ≤ 9223372036854775807) (hb : b.size ≤ 9223372036854775807) (hc : c.size ≤ 9223372036854775807) : Calls Try.prog 25 #[mV A cA M, msgV a b c] w fun e w' => e = .returned (openR M a b c) ∧ Below w.heap.size w w' := by
  have L0 := Lib.hid ((MW.start M (Below.refl w.heap.size w) hR).ext (ext_alloc _ (.cells #[.string a, .string b, .string c] 45)))
  have K0 := Lib.hid (Blk.new (w.alloc (.cells #[.slice A M.l.length cA, .string M.rf, .string M.rg, .string M.pl] 33)) 45 #[.string a, .string b, .string c])
  rw [World.size_alloc] at K0
  have HZ := Lib.hid hz
  clear hR hz
  go_enter Try.func25, Try.ntmps25
  have y0 := L0.out.c0
  have y1 := L0.out.c1
  have y2 := L0.out.c2
  have y3 := L0.out.c3
  have z0 := K0.out.cell 0
  go_wp2_with fail
  refine (c_settingValid A cA M a _ L0.out.rot HZ.out ha).mono ?_
  rintro e w1 ⟨rfl, hb1⟩
  have L1 := Lib.hid (L0.out.ext hb1)
  have K1 := Lib.hid (K0.out.ext hb1)
  clear hb1 L0 K0 y0 y1 y2 y3 z0
  cases h1 : setB M a with
  | false =>
    have HE := Lib.hid (openR_no (M := M) (a := a) (b := b) (c := c) (by rw [h1]; rfl))
    clear h1
    go_wp2_with fail
    refine bodyPost_ret (res3 rfl _ _ _) rfl ?_
    exact ⟨by rw [HE.out]; rfl, L1.out.bel⟩
  | true =>
    have H1 := Lib.hid h1
    clear h1
    have z0 := K1.out.cell 0
    have z1 := K1.out.cell 1
    have z2 := K1.out.cell 2
    go_wp2_with fail
    refine (c_MessageValid a b c _ ha hb hc).mono ?_
    rintro e w2 ⟨rfl, hb2⟩
    have L2 := Lib.hid (L1.out.ext hb2)
    have K2 := Lib.hid (K1.out.ext hb2)
    clear hb2 L1 K1 z0 z1 z2
    cases h2 : msgB a b c with
    | false =>
      have HE := Lib.hid (openR_no (M := M) (a := a) (b := b) (c := c) (by rw [h2]; simp))
      clear h2
      go_wp2_with fail
      refine bodyPost_ret (res3 rfl _ _ _) rfl ?_
      exact ⟨by rw [HE.out]; rfl, L2.out.bel⟩
    | true =>
      have HE := Lib.hid (openR_ok H1.out h2)
      obtain ⟨_, _, m3, m4, m5, m6⟩ := (msgB_iff a b c).1 h2
      have H5 := Lib.hid m5
      have H6 := Lib.hid m6
      have HK := Lib.hid (setB_enc H1.out m5 m4)
      clear h2 m3 m4 m5 m6
      have y0 := L2.out.c0
      have y1 := L2.out.c1
      have y2 := L2.out.c2
      have y3 := L2.out.c3
      have z0 := K2.out.cell 0
      have z1 := K2.out.cell 1
      go_wp2_with fail
      refine (c_Encipher A cA M a b _ L2.out.rot HZ.out ha hb).mono ?_
      rintro e w3 ⟨rfl, hb3⟩
      rw [encR_ok H1.out H5.out]
      have L3 := Lib.hid (L2.out.ext hb3)
      have K3 := Lib.hid (K2.out.ext hb3)
      clear hb3 L2 K2 y0 y1 y2 y3 z0 z1
      have y0 := L3.out.c0
      have y1 := L3.out.c1
      have y2 := L3.out.c2
      have y3 := L3.out.c3
      have z2 := K3.out.cell 2
      go_wp2_with fail
      refine (c_Encipher A cA M (encW M a b) c _ L3.out.rot HZ.out (by rw [encW_size]; exact hb) hc).mono ?_
      rintro e w4 ⟨rfl, hb4⟩
      rw [encR_ok HK.out H6.out]
      have L4 := Lib.hid (L3.out.ext hb4)
      clear hb4 L3 K3 y0 y1 y2 y3 z2
      go_wp2_with fail
      refine bodyPost_ret (res3 rfl _ _ _) rfl ?_
      exact ⟨by rw [HE.out]; rfl, L4.out.bel⟩
end Go.Proofs.Ytnfeddnkokocfaa
