/- Contracts of PeriodOf, LeadIn, StepsTo (impl). -/
import Derived.Test.YtlcanmofgjbcbaaCycle
namespace Go.Proofs.Ytlcanmofgjbcbaa
set_option linter.unusedVariables false
set_option linter.unusedSimpArgs false
open Go.RowKit

theorem win_rho' {l : List Rot} {rf s : ByteArray} (h : winB l rf s = true) : Rho (stepS l) s (leadN (stepS l) s) (perN' (stepS l) s) ∧ leadN (stepS l) s + perN' (stepS l) s ≤ 10 ^ s.size ∧ leadN (stepS l) s + perN' (stepS l) s ≤ 1000 := by
  obtain ⟨h1, h2, h3, h4⟩ := win_facts h
  obtain ⟨m, p, hr, hle⟩ := win_rho l h4 h1 h2
  obtain ⟨e1, e2⟩ := rho_spec hr
  have := (pow10 h1 h2).1
  rw [e1, e2]
  exact ⟨hr, hle, by omega⟩
noncomputable def perR (l : List Rot) (rf s : ByteArray) : Int := if winB l rf s = true then (perN' (stepS l) s : Int) else 0
noncomputable def leadR (l : List Rot) (rf s : ByteArray) : Int := if winB l rf s = true then (leadN (stepS l) s : Int) else -1
def toR (l : List Rot) (rf a b : ByteArray) : Int := if winB l rf a = true ∧ winB l rf b = true then findTo (stepS l) a b (10 ^ a.size) else -1
theorem c_cycleFrom (A : Option Addr) (cA : Nat) (l : List Rot) (rf s : ByteArray) (w : World) (hR : IsRots w (.slice A l.length cA) l) (h : winB l rf s = true) :
    Calls Try.prog 40 #[.agg #[.slice A l.length cA, .string rf], .string s] w fun e w' => e = .returned (.tuple #[.int .i64 (leadN (stepS l) s), .int .i64 (perN' (stepS l) s)]) ∧ Below w.heap.size w w' := by
  obtain ⟨h1, _, h2⟩ := win_rho' h
  exact cycleFrom_it A cA l rf s w hR h _ _ h1 h2
theorem c_PeriodOf (vR : Value) (l : List Rot) (rf s : ByteArray) (w : World) (hR : IsRots w vR l) (hf : rf.size ≤ 9223372036854775807) (hs : s.size ≤ 9223372036854775807) : Calls Try.prog 13 #[.agg #[vR, .string rf], .string s] w fun e w' => e = .returned (.int .i64 (perR l rf s)) ∧ Below w.heap.size w w' := by
  obtain ⟨A, cA, rfl⟩ := hR.form
  have I0 := Lib.hid (WInv.start rf hR)
  clear hR
  cases h1 : winB l rf s
  all_goals
    have H1 := Lib.hid h1
    go_enter Try.func13, Try.ntmps13
    go_wp2_with fail
    refine (c_windowsValid _ l rf s _ I0.out.rot (by omega) (by omega)).mono ?_
    rintro e w1 ⟨rfl, hb1⟩
    rw [h1]
    have I1 := Lib.hid (I0.out.ext hb1)
    have y0 := I1.out.c0
    have y1 := I1.out.c1
    clear hb1 h1
  · go_wp2_with fail
    go_ret
    exact ⟨by unfold perR; rw [if_neg (by rw [H1.out]; simp)]; rfl, I1.out.bel⟩
  · go_wp2_with fail
    refine (c_cycleFrom A cA l rf s _ I1.out.rot H1.out).mono ?_
    rintro e w2 ⟨rfl, hb2⟩
    have I2 := Lib.hid (I1.out.ext hb2)
    clear hb2 y0 y1
    go_wp2_with fail
    go_ret
    exact ⟨by unfold perR; rw [if_pos H1.out]; rfl, I2.out.bel⟩
theorem c_LeadIn (vR : Value) (l : List Rot) (rf s : ByteArray) (w : World) (hR : IsRots w vR l) (hf : rf.size ≤ 9223372036854775807) (hs : s.size ≤ 9223372036854775807) : Calls Try.prog 17 #[.agg #[vR, .string rf], .string s] w fun e w' => e = .returned (.int .i64 (leadR l rf s)) ∧ Below w.heap.size w w' := by
  obtain ⟨A, cA, rfl⟩ := hR.form
  have I0 := Lib.hid (WInv.start rf hR)
  clear hR
  cases h1 : winB l rf s
  all_goals
    have H1 := Lib.hid h1
    go_enter Try.func17, Try.ntmps17
    go_wp2_with fail
    refine (c_windowsValid _ l rf s _ I0.out.rot (by omega) (by omega)).mono ?_
    rintro e w1 ⟨rfl, hb1⟩
    rw [h1]
    have I1 := Lib.hid (I0.out.ext hb1)
    have y0 := I1.out.c0
    have y1 := I1.out.c1
    clear hb1 h1
  · go_wp2_with fail
    go_ret
    exact ⟨by unfold leadR; rw [if_neg (by rw [H1.out]; simp)]; rfl, I1.out.bel⟩
  · go_wp2_with fail
    refine (c_cycleFrom A cA l rf s _ I1.out.rot H1.out).mono ?_
    rintro e w2 ⟨rfl, hb2⟩
    have I2 := Lib.hid (I1.out.ext hb2)
    clear hb2 y0 y1
    go_wp2_with fail
    go_ret
    exact ⟨by unfold leadR; rw [if_pos H1.out]; rfl, I2.out.bel⟩
set_option maxHeartbeats 400000 in
theorem c_StepsTo (vR : Value) (l : List Rot) (rf s t : ByteArray) (w : World) (hR : IsRots w vR l) (hf : rf.size ≤ 9223372036854775807) (hs : s.size ≤ 9223372036854775807) (ht : t.size ≤ 9223372036854775807) : Calls Try.prog 22 #[.agg #[vR, .string rf], .string s, .string t] w fun e w' => e = .returned (.int .i64 (toR l rf s t)) ∧ Below w.heap.size w w' := by
  obtain ⟨A, cA, rfl⟩ := hR.form
  have I0 := Lib.hid (WInv.start rf hR)
  clear hR
  cases h1 : winB l rf s
  all_goals
    have H1 := Lib.hid h1
    go_enter Try.func22, Try.ntmps22
    go_wp2_with fail
    refine (c_windowsValid _ l rf s _ I0.out.rot (by omega) (by omega)).mono ?_
    rintro e w1 ⟨rfl, hb1⟩
    rw [h1]
    have I1 := Lib.hid (I0.out.ext hb1)
    have y0 := I1.out.c0
    have y1 := I1.out.c1
    clear hb1 h1
  · go_wp2_with fail
    go_ret
    exact ⟨by unfold toR; rw [if_neg (by rw [H1.out]; simp)]; rfl, I1.out.bel⟩
  · cases h2 : winB l rf t
    all_goals
      have H2 := Lib.hid h2
      go_wp2_with fail
      refine (c_windowsValid _ l rf t _ I1.out.rot (by omega) (by omega)).mono ?_
      rintro e w2 ⟨rfl, hb2⟩
      rw [h2]
      have I2 := Lib.hid (I1.out.ext hb2)
      have z0 := I2.out.c0
      have z1 := I2.out.c1
      clear hb2 h2 y0 y1
    · go_wp2_with fail
      go_ret
      exact ⟨by unfold toR; rw [if_neg (by rw [H2.out]; simp)]; rfl, I2.out.bel⟩
    · go_wp2_with fail
      refine (c_cycleFrom A cA l rf s _ I2.out.rot H1.out).mono ?_
      rintro e w3 ⟨rfl, hb3⟩
      have I3 := Lib.hid (I2.out.ext hb3)
      clear hb3 z0 z1
      have HRR := Lib.hid (win_rho' H1.out)
      generalize hm : leadN (stepS l) s = m at *
      generalize hp : perN' (stepS l) s = p at *
      have hmp := HRR.out.2.2
      have HF := Lib.hid (findTo_rho HRR.out.1 t HRR.out.2.1)
      have HT := Lib.hid (show toR l rf s t = findTo (stepS l) s t (m + p) by unfold toR; rw [if_pos ⟨H1.out, H2.out⟩, HF.out])
      clear hm hp
      go_wp2_with fail
      go_loopw [1, 29] (fun x i wr => ∃ k : Nat, k ≤ m + p ∧ i = .int .i64 k ∧ x = .string (it (stepS l) k s) ∧ (∀ j, j < k → it (stepS l) j s ≠ t) ∧ WInv w wr A cA l rf) (fun _ i _ => m + p - (intOf i).toNat)
      case atStart => exact ⟨0, by omega, rfl, rfl, fun j hj => by omega, I3.out⟩
      case round =>
        obtain ⟨k, hk, rfl, rfl, hne, hi⟩ := hrel
        have HI := Lib.hid hi
        have HN := Lib.hid hne
        have y0 := hi.c0
        have y1 := hi.c1
        clear hi hne
        by_cases hlt : k < m + p
        · by_cases he : it (stepS l) k s = t
          · have t1 := bs_yes he
            have HE := Lib.hid he
            clear he
            go_wp2_with fail
            go_ret
            exact ⟨by rw [HT.out, findTo_some hlt HE.out HN.out]; rfl, HI.out.bel⟩
          · have t1 := bs_no he
            have HE := Lib.hid he
            clear he
            go_wp2_with fail
            refine (c_stepIt _ l rf s k _ HI.out.rot H1.out).mono ?_
            rintro e w4 ⟨rfl, hb4⟩
            have HI4 := Lib.hid (HI.out.ext hb4)
            clear hb4 y0 y1
            go_wp2_with fail
            refine ⟨⟨k + 1, by omega, by go_num, rfl, fun j hj => ?_, HI4.out⟩, by simp [intOf]; omega⟩
            by_cases e : j = k
            · rw [e]; exact HE.out
            · exact HN.out j (by omega)
        · have e : k = m + p := by omega
          subst e
          go_wp2_with fail
          go_ret
          exact ⟨by rw [HT.out, findTo_none HN.out]; rfl, HI.out.bel⟩
end Go.Proofs.Ytlcanmofgjbcbaa
