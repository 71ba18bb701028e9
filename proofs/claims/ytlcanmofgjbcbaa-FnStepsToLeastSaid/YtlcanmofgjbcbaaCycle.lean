/- Contracts of cycleFrom, PeriodOf, LeadIn, StepsTo (impl). -/
import Derived.Test.YtlcanmofgjbcbaaStepMany
import Derived.Test.YtlcanmofgjbcbaaStrEq
namespace Go.Proofs.Ytlcanmofgjbcbaa
set_option linter.unusedVariables false
set_option linter.unusedSimpArgs false
open Go.RowKit

section
variable {α : Type}
/-- where the two walkers meet first -/
theorem rho_meet {f : α → α} {x : α} {m p : Nat} (h : Rho f x m p) : ∃ K, 1 ≤ K ∧ K ≤ m + p ∧ it f K x = it f (2 * K) x := by
  obtain ⟨h1, h2⟩ := h
  have hex : ∃ K, 1 ≤ K ∧ m ≤ K ∧ K ≤ m + p ∧ p ∣ K := by
    by_cases hm : m = 0
    · exact ⟨p, h1, by omega, by omega, Nat.dvd_refl _⟩
    · have hd := Nat.mod_add_div (m + p - 1) p
      have hl := Nat.mod_lt (m + p - 1) (show 0 < p by omega)
      refine ⟨p * ((m + p - 1) / p), by omega, by omega, by omega, Nat.dvd_mul_right _ _⟩
  obtain ⟨K, a, b, c, d⟩ := hex
  exact ⟨K, a, c, (h2 K (2 * K) (by omega)).2 ⟨b, by rw [show 2 * K - K = K by omega]; exact d⟩⟩
theorem rho_meet_at {f : α → α} {x : α} {m p k : Nat} (h : Rho f x m p) (hk : 1 ≤ k) (e : it f k x = it f (2 * k) x) : m ≤ k ∧ p ∣ k := by
  have := (h.2 k (2 * k) (by omega)).1 e
  rw [show 2 * k - k = k by omega] at this
  exact this
/-- from a meeting on, the walkers from the start and from there meet at the lead-in first -/
theorem rho_lead {f : α → α} {x : α} {m p c : Nat} (h : Rho f x m p) (hc : 1 ≤ c) (hp : p ∣ c) (i : Nat) : it f i x = it f (c + i) x ↔ m ≤ i := by
  rw [h.2 i (c + i) (by omega)]
  rw [show c + i - i = c by omega]
  exact ⟨fun h => h.1, fun h => ⟨h, hp⟩⟩
theorem rho_round {f : α → α} {x : α} {m p : Nat} (h : Rho f x m p) {j : Nat} (hj : 1 ≤ j) : it f (m + j) x = it f m x ↔ p ∣ j := by
  rw [eq_comm, h.2 m (m + j) (by omega), show m + j - m = j by omega]
  exact ⟨fun h => h.2, fun h => ⟨Nat.le_refl _, h⟩⟩
end
theorem c_stepHeld (w wr : World) (A : Option Addr) (cA : Nat) (l : List Rot) (rf s : ByteArray) (n : Nat) (h : winB l rf s = true)
    (hS : wr.cell? ⟨w.heap.size, 0, none⟩ = some (.slice A l.length cA) ∧ wr.cell? ⟨w.heap.size, 1, none⟩ = some (.string rf) ∧ WInv w wr A cA l rf) :
    Calls Try.prog 49 #[.agg #[.slice A l.length cA, .string rf], .string (it (stepS l) n s)] wr fun e w' => e = .returned (.string (it (stepS l) (n + 1) s)) ∧
      (w'.cell? ⟨w.heap.size, 0, none⟩ = some (.slice A l.length cA) ∧ w'.cell? ⟨w.heap.size, 1, none⟩ = some (.string rf) ∧ WInv w w' A cA l rf) := by
  refine (c_stepIt _ l rf s n wr hS.2.2.rot h).mono ?_
  rintro e w' ⟨rfl, hb⟩
  have := hS.2.2.ext hb
  exact ⟨rfl, this.c0, this.c1, this⟩
set_option maxRecDepth 10000 in
set_option maxHeartbeats 800000 in
theorem cycleFrom_it (A : Option Addr) (cA : Nat) (l : List Rot) (rf s : ByteArray) (w : World) (hR : IsRots w (.slice A l.length cA) l) (h : winB l rf s = true) (m p : Nat) (hr : Rho (stepS l) s m p) (hmp : m + p ≤ 1000) :
    Calls Try.prog 40 #[.agg #[.slice A l.length cA, .string rf], .string (it (stepS l) 0 s)] w fun e w' => e = .returned (.tuple #[.int .i64 m, .int .i64 p]) ∧ Below w.heap.size w w' := by
  have I0 := Lib.hid (WInv.start rf hR)
  have H := Lib.hid h
  have HR := Lib.hid hr
  have hp1 := hr.1
  obtain ⟨K, hK1, hK2, hK⟩ := rho_meet hr
  have HK := Lib.hid hK
  clear hR h hr hK
  have y0 := I0.out.c0
  have y1 := I0.out.c1
  go_enter Try.func40, Try.ntmps40
  go_wp2_with fail
  go_cut [6, 7] (fun a b wx => a = .string (it (stepS l) 1 s) ∧ b = .string (it (stepS l) (2 * 1) s) ∧ WInv w wx A cA l rf)
  case first =>
    go_region_held3 (fun w' => w'.cell? ⟨w.heap.size, 0, none⟩ = some (.slice A l.length cA) ∧ w'.cell? ⟨w.heap.size, 1, none⟩ = some (.string rf) ∧ WInv w w' A cA l rf)
      (first | assumption | exact ⟨y0, y1, I0.out.drew⟩)
      (first | (go_at_call 49; refine (c_stepHeld w _ A cA l rf s _ H.out (by assumption)).mono ?_; rintro e w8 ⟨rfl, hk8⟩))
    all_goals
      go_wp2_with fail
      go_meet
      case rel => exact ⟨rfl, rfl, by rename_i hk; exact hk.2.2⟩
  case rest =>
    obtain ⟨rfl, rfl, hi⟩ := hcut
    have HI := Lib.hid hi
    clear hi y0 y1
    go_wp2_with fail
    go_loopg [6, 7] (K - 1) (fun gk a b wr => ∃ k : Nat, 1 ≤ k ∧ k + gk = K ∧ a = .string (it (stepS l) k s) ∧ b = .string (it (stepS l) (2 * k) s) ∧ WInv w wr A cA l rf)
    case atStart => exact ⟨1, by omega, by omega, rfl, rfl, HI.out⟩
    case round =>
      obtain ⟨k, hk1, hk, rfl, rfl, hi⟩ := hrel
      have HI1 := Lib.hid hi
      have y0 := hi.c0
      have y1 := hi.c1
      clear hi
      by_cases he : it (stepS l) k s = it (stepS l) (2 * k) s
      · have HE := Lib.hid (rho_meet_at HR.out hk1 he)
        have t1 := bs_yes he
        clear he y0 y1
        have hmk := HE.out.1
        go_wp2_with fail
        go_loopg [6, 7, 8] m (fun gk a b c wr => ∃ i : Nat, i + gk = m ∧ a = .string (it (stepS l) i s) ∧ b = .string (it (stepS l) (2 * k + i) s) ∧ c = .int .i64 i ∧ WInv w wr A cA l rf)
        case atStart => exact ⟨0, by omega, rfl, rfl, rfl, HI1.out⟩
        case round =>
          obtain ⟨i, hi, rfl, rfl, rfl, hi2⟩ := hrel
          have HI2 := Lib.hid hi2
          have y0 := hi2.c0
          have y1 := hi2.c1
          clear hi2
          have HL := Lib.hid (rho_lead HR.out (c := 2 * k) (by omega) (Nat.dvd_trans HE.out.2 (Nat.dvd_mul_left _ _)) i)
          by_cases he2 : it (stepS l) i s = it (stepS l) (2 * k + i) s
          · have hm : i = m := by have := HL.out.1 he2; omega
            subst hm
            have t2 := bs_yes he2
            clear he2
            go_wp2_with fail
            refine (c_stepIt _ l rf s _ _ HI2.out.rot H.out).mono ?_
            rintro e w5 ⟨rfl, hb5⟩
            have HI5 := Lib.hid (HI2.out.ext hb5)
            clear hb5 y0 y1
            go_wp2_with fail
            go_loopg [7, 9] (p - 1) (fun gk b c wr => ∃ j : Nat, 1 ≤ j ∧ j + gk = p ∧ b = .string (it (stepS l) (i + j) s) ∧ c = .int .i64 j ∧ WInv w wr A cA l rf)
            case atStart => exact ⟨1, by omega, by omega, rfl, rfl, HI5.out⟩
            case round =>
              obtain ⟨j, hj1, hj, rfl, rfl, hi3⟩ := hrel
              have HI3 := Lib.hid hi3
              have y0 := hi3.c0
              have y1 := hi3.c1
              clear hi3
              have HP := Lib.hid (rho_round HR.out hj1)
              by_cases he3 : it (stepS l) (i + j) s = it (stepS l) i s
              · have hj2 : j = p := by have := Nat.le_of_dvd (by omega) (HP.out.1 he3); omega
                subst hj2
                have t3 := bs_yes he3
                clear he3
                go_wp2_with fail
                go_ret2
                exact ⟨rfl, HI3.out.bel⟩
              · have hj2 : j ≠ p := fun e => he3 (HP.out.2 (by rw [e]; exact Nat.dvd_refl _))
                have t3 := bs_no he3
                clear he3
                go_wp2_with fail
                refine (c_stepIt _ l rf s _ _ HI3.out.rot H.out).mono ?_
                rintro e w6 ⟨rfl, hb6⟩
                have HI6 := Lib.hid (HI3.out.ext hb6)
                clear hb6 y0 y1
                go_wp2_with fail
                go_roundg (p - (j + 1))
                case measure => omega
                case rel => exact ⟨j + 1, by omega, by omega, rfl, by go_num, HI6.out⟩
          · have hm : i ≠ m := fun e => he2 (HL.out.2 (by omega))
            have t2 := bs_no he2
            clear he2
            go_wp2_with fail
            go_region_held3 (fun w' => w'.cell? ⟨w.heap.size, 0, none⟩ = some (.slice A l.length cA) ∧ w'.cell? ⟨w.heap.size, 1, none⟩ = some (.string rf) ∧ WInv w w' A cA l rf)
              (first | assumption | exact ⟨y0, y1, HI2.out.drew⟩)
              (first | (go_at_call 49; refine (c_stepHeld w _ A cA l rf s _ H.out (by assumption)).mono ?_; rintro e w8 ⟨rfl, hk8⟩))
            clear y0 y1
            go_wp2_with fail
            go_roundg (m - (i + 1))
            case measure => omega
            case rel => exact ⟨i + 1, by omega, rfl, rfl, by go_num, hk8.2.2⟩
      · have hK' : k ≠ K := fun e => he (by rw [e]; exact HK.out)
        have t1 := bs_no he
        clear he
        go_wp2_with fail
        go_region_held3 (fun w' => w'.cell? ⟨w.heap.size, 0, none⟩ = some (.slice A l.length cA) ∧ w'.cell? ⟨w.heap.size, 1, none⟩ = some (.string rf) ∧ WInv w w' A cA l rf)
          (first | assumption | exact ⟨y0, y1, HI1.out.drew⟩)
          (first | (go_at_call 49; refine (c_stepHeld w _ A cA l rf s _ H.out (by assumption)).mono ?_; rintro e w8 ⟨rfl, hk8⟩))
        clear y0 y1
        go_wp2_with fail
        go_roundg (K - (k + 1))
        case measure => omega
        case rel => exact ⟨k + 1, by omega, by omega, rfl, rfl, hk8.2.2⟩
end Go.Proofs.Ytlcanmofgjbcbaa
