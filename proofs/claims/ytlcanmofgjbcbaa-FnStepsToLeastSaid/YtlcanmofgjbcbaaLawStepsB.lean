/- rcSingle, and what the laws on periods and lead-ins share. -/
import Derived.Test.YtlcanmofgjbcbaaLawSteps
import Derived.Test.YtlcanmofgjbcbaaStepPlain
namespace Go.Proofs.Ytlcanmofgjbcbaa
set_option linter.unusedVariables false
set_option linter.unusedSimpArgs false
open Go.RowKit

theorem c_rcSingle (A : Option Addr) (cA : Nat) (l : List Rot) (rf : ByteArray) (w : World) (hR : IsRots w (.slice A l.length cA) l) :
    Calls Try.prog 15 #[.agg #[.slice A l.length cA, .string rf]] w fun e w' => e = .returned (.bool (singB l)) ∧ Below w.heap.size w w' := by
  have L0 := Lib.hid (LW.start rf (Below.refl _ _) hR)
  have hll := hR.len_le
  clear hR
  go_enter Try.func15, Try.ntmps15
  go_wp2_with fail
  go_loopg [3] l.length (fun gk i wr => ∃ k : Nat, k + gk = l.length ∧ i = .int .i64 k ∧ allB k (fun i => decide ((gR l i).2.size = 1)) = true ∧ LW w w.heap.size A cA l rf wr)
  case atStart => exact ⟨0, by omega, rfl, rfl, L0.out⟩
  case round =>
    obtain ⟨k, hk, rfl, ha, hL⟩ := hrel
    have HA := Lib.hid ha
    have L1 := Lib.hid hL
    have x0 := hL.c0
    have x1 := hL.c1
    clear ha hL L0
    by_cases hlt : k < l.length
    · obtain ⟨b, o, hA, hb, hc0, hc1⟩ := L1.out.rot.at_ hlt
      have hsz := (L1.out.rot.size_le hlt).2
      subst hA
      generalize hg : gR l k = rk at hc0 hc1 hsz
      obtain ⟨wi, no⟩ := rk
      have HG := Lib.hid hg
      clear hg
      by_cases h1 : no.size = 1
      · have t0 : ((no.size : Int) != 1) = false := by simp [h1]
        have t1 : ((no.size : Int) == 1) = true := by simp [h1]
        have H1 := Lib.hid h1
        clear h1
        go_wp2_with fail
        go_roundg (l.length - (k + 1))
        case measure => omega
        case rel => exact ⟨k + 1, by omega, by go_num, allB_step HA.out (by rw [HG.out]; simp [H1.out]), L1.out⟩
      · have t0 : ((no.size : Int) != 1) = true := by simp; omega
        have t1 : ((no.size : Int) == 1) = false := by rw [beq_eq_false_iff_ne]; omega
        have H1 := Lib.hid h1
        clear h1
        go_wp2_with fail
        go_ret
        refine ⟨?_, L1.out.bel⟩
        have e : singB l = false := by unfold singB; exact allB_false hlt (by rw [HG.out]; simp [H1.out])
        rw [e]; rfl
    · have e : k = l.length := by omega
      subst e
      go_wp2_with fail
      go_ret
      exact ⟨by unfold singB; rw [HA.out]; rfl, L1.out.bel⟩
end Go.Proofs.Ytlcanmofgjbcbaa
