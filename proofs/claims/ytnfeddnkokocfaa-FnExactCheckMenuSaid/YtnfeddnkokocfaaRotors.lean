/- Contracts of RotorValid and WheelsValid (impl). -/
import Derived.Test.YtnfeddnkokocfaaRefl
import Derived.Test.YtnfeddnkokocfaaKitB
namespace Go.Proofs.Ytnfeddnkokocfaa
set_option linter.unusedVariables false
set_option linter.unusedSimpArgs false
open Go.RowKit

theorem rotB_cases (wi no : ByteArray) : (permB wi = false ∧ rotB (wi, no) = false) ∨ (permB wi = true ∧ 3 < no.size ∧ rotB (wi, no) = false) ∨ (permB wi = true ∧ no.size ≤ 3 ∧ wv no = false ∧ rotB (wi, no) = false) ∨
    (permB wi = true ∧ no.size ≤ 3 ∧ wv no = true ∧ rotB (wi, no) = allB no.size (fun i => decide (i = 0) || decide (bt no (i - 1) < bt no i))) := by
  unfold rotB
  cases h1 : permB wi <;> cases h3 : wv no <;> by_cases h2 : no.size ≤ 3 <;> simp [h1, h2, h3] <;> omega
set_option maxHeartbeats 400000 in
theorem c_RotorValid (wi no : ByteArray) (w : World) (hw : wi.size ≤ 9223372036854775807) (hn : no.size ≤ 9223372036854775807) : Calls Try.prog 169 #[.agg #[.string wi, .string no]] w fun e w' => e = .returned (.bool (rotB (wi, no))) ∧ Below w.heap.size w w' := by
  have K := Lib.hid (Blk.new w 144 #[.string wi, .string no])
  have B := Lib.hid (ext_alloc w (.cells #[.string wi, .string no] 144))
  rcases rotB_cases wi no with ⟨h1, hr⟩ | ⟨h1, h2, hr⟩ | ⟨h1, h2, h3, hr⟩ | ⟨h1, h2, h3, hr⟩
  · have HR := Lib.hid hr
    clear hr
    go_enter Try.func169, Try.ntmps169
    go_wp2_with fail
    refine (c_PermValid wi _ (by omega)).mono ?_
    rintro e w1 ⟨rfl, hb1⟩
    rw [h1]
    have B1 := Lib.hid (ext_trans B.out hb1)
    clear hb1
    go_wp2_with fail
    go_ret
    exact ⟨by rw [HR.out]; rfl, B1.out⟩
  · have HR := Lib.hid hr
    clear hr
    go_enter Try.func169, Try.ntmps169
    go_wp2_with fail
    refine (c_PermValid wi _ (by omega)).mono ?_
    rintro e w1 ⟨rfl, hb1⟩
    rw [h1]
    have B1 := Lib.hid (ext_trans B.out hb1)
    have x1 : w1.cell? ⟨w.heap.size, 1, none⟩ = some (.string no) := (K.out.ext hb1).cell 1
    clear hb1
    go_wp2_with fail
    go_ret
    exact ⟨by rw [HR.out]; rfl, B1.out⟩
  · have HR := Lib.hid hr
    clear hr
    go_enter Try.func169, Try.ntmps169
    go_wp2_with fail
    refine (c_PermValid wi _ (by omega)).mono ?_
    rintro e w1 ⟨rfl, hb1⟩
    rw [h1]
    have B1 := Lib.hid (ext_trans B.out hb1)
    have x1 : w1.cell? ⟨w.heap.size, 1, none⟩ = some (.string no) := (K.out.ext hb1).cell 1
    clear hb1
    go_wp2_with (go_at_call 43; refine (c_WordValid _ _ (by omega)).mono ?_; rintro e w' ⟨rfl, rfl⟩; rw [h3])
    go_ret
    exact ⟨by rw [HR.out]; rfl, B1.out⟩
  · have HR := Lib.hid hr
    clear hr
    go_enter Try.func169, Try.ntmps169
    go_wp2_with fail
    refine (c_PermValid wi _ (by omega)).mono ?_
    rintro e w1 ⟨rfl, hb1⟩
    rw [h1]
    have B1 := Lib.hid (ext_trans B.out hb1)
    have K1 := Lib.hid (K.out.ext hb1)
    have x1 : w1.cell? ⟨w.heap.size, 1, none⟩ = some (.string no) := K1.out.cell 1
    clear hb1
    go_wp2_with (go_at_call 43; refine (c_WordValid _ _ (by omega)).mono ?_; rintro e w' ⟨rfl, rfl⟩; rw [h3])
    go_loopw [3] (fun i wr => ∃ k : Nat, 1 ≤ k ∧ (k ≤ no.size ∨ k = 1) ∧ i = .int .i64 k ∧ allB k (fun i => decide (i = 0) || decide (bt no (i - 1) < bt no i)) = true ∧ Blk wr w.heap.size 144 #[.string wi, .string no] ∧ Below w.heap.size w wr) (fun i _ => 3 - (intOf i).toNat)
    case atStart => exact ⟨1, by omega, .inr rfl, rfl, rfl, K1.out, B1.out⟩
    case round =>
      obtain ⟨k, hk1, hk, rfl, ha, hkb, hbel⟩ := hrel
      have HA := Lib.hid ha
      have HK := Lib.hid hkb
      have y1 : wr.cell? ⟨w.heap.size, 1, none⟩ = some (.string no) := hkb.cell 1
      clear ha hkb
      by_cases hlt : k < no.size
      · have hkm : k - 1 < no.size := by omega
        have hb1 := bt_get no k hlt
        have hb2 := bt_get no (k - 1) hkm
        have e1 : IntKind.i64.wrap ((k : Int) - 1) = ((k - 1 : Nat) : Int) := by rw [IntWalk.i64_in _ (by omega)]; omega
        by_cases hc : bt no (k - 1) < bt no k
        · go_wp2_with fail
          go_quiet (fail)
          have t1 : decide (bt no k ≤ bt no (k - 1)) = false := by simp; omega
          clear e1
          go_wp2_with fail
          exact ⟨⟨k + 1, by omega, .inl (by omega), by go_num, allB_step HA.out (by simp [hc]), HK.out.drewN nq, below_drewN hbel nq⟩, by simp [intOf]; omega⟩
        · go_wp2_with fail
          go_quiet (fail)
          have t1 : decide (bt no k ≤ bt no (k - 1)) = true := by simp; omega
          clear e1
          go_wp2_with fail
          go_ret
          refine ⟨?_, below_drewN hbel nq⟩
          rw [HR.out]
          exact ret_bool (allB_false hlt (by simp [hc]; omega)).symm
      · go_wp2_with fail
        go_ret
        refine ⟨?_, hbel⟩
        rw [HR.out]
        refine ret_bool ?_
        symm
        rw [allB_iff]
        intro i hi
        exact (allB_iff _ _).1 HA.out i (by omega)
/-- a slice that reads as a list of rotors -/
def IsRots (w : World) (v : Value) (l : List Rot) : Prop :=
  ∃ A c, v = .slice A l.length c ∧ l.length ≤ 9223372036854775807 ∧ (∀ k, k < l.length → (gR l k).1.size ≤ 9223372036854775807 ∧ (gR l k).2.size ≤ 9223372036854775807) ∧
    ∀ k, k < l.length → ∃ b o, A = some ⟨b, o, none⟩ ∧ b < w.heap.size ∧ w.cell? ⟨b, o + k * 2, none⟩ = some (.string (gR l k).1) ∧ w.cell? ⟨b, o + k * 2 + 1, none⟩ = some (.string (gR l k).2)
theorem IsRots.ext {w w' : World} {v : Value} {l : List Rot} (h : IsRots w v l) (hb : Below w.heap.size w w') : IsRots w' v l := by
  obtain ⟨A, c, rfl, h1, h2, h3⟩ := h
  refine ⟨A, c, rfl, h1, h2, fun k hk => ?_⟩
  obtain ⟨b, o, e, hlt, hc, hd⟩ := h3 k hk
  exact ⟨b, o, e, Nat.lt_of_lt_of_le hlt hb.size, (hb.cell (p := ⟨b, o + k * 2, none⟩) hlt).trans hc, (hb.cell (p := ⟨b, o + k * 2 + 1, none⟩) hlt).trans hd⟩
theorem IsRots.at_ {w : World} {A : Option Addr} {n c : Nat} {l : List Rot} (h : IsRots w (.slice A n c) l) {k : Nat} (hk : k < l.length) :
    ∃ b o, A = some ⟨b, o, none⟩ ∧ b < w.heap.size ∧ w.cell? ⟨b, o + k * 2, none⟩ = some (.string (gR l k).1) ∧ w.cell? ⟨b, o + k * 2 + 1, none⟩ = some (.string (gR l k).2) := by
  obtain ⟨A', c', e, h1, h2, h3⟩ := h
  injection e with e1 e2 e3
  subst e1
  exact h3 k hk
theorem IsRots.len_le {w : World} {v : Value} {l : List Rot} (h : IsRots w v l) : l.length ≤ 9223372036854775807 := by
  obtain ⟨A', c', e, h1, h2, h3⟩ := h; exact h1
theorem IsRots.size_le {w : World} {v : Value} {l : List Rot} (h : IsRots w v l) {k : Nat} (hk : k < l.length) : (gR l k).1.size ≤ 9223372036854775807 ∧ (gR l k).2.size ≤ 9223372036854775807 := by
  obtain ⟨A', c', e, h1, h2, h3⟩ := h; exact h2 k hk
theorem IsRots.form {w : World} {v : Value} {l : List Rot} (h : IsRots w v l) : ∃ A c, v = .slice A l.length c := by
  obtain ⟨A', c', e, h1, h2, h3⟩ := h; exact ⟨A', c', e⟩
theorem wheelsB_cases (l : List Rot) (rf : ByteArray) : (l.length < 1 ∧ wheelsB l rf = false) ∨ (1 ≤ l.length ∧ 3 < l.length ∧ wheelsB l rf = false) ∨ (1 ≤ l.length ∧ l.length ≤ 3 ∧ reflB rf = false ∧ wheelsB l rf = false) ∨
    (1 ≤ l.length ∧ l.length ≤ 3 ∧ reflB rf = true ∧ wheelsB l rf = allB l.length (fun i => rotB (gR l i))) := by
  unfold wheelsB
  by_cases h1 : 1 ≤ l.length
  · right
    by_cases h2 : l.length ≤ 3
    · right
      cases h3 : reflB rf
      · left; exact ⟨h1, h2, rfl, by simp⟩
      · right; exact ⟨h1, h2, rfl, by rw [decide_eq_true h1, decide_eq_true h2]; rfl⟩
    · left; exact ⟨h1, by omega, by rw [decide_eq_false h2]; simp⟩
  · left; exact ⟨by omega, by rw [decide_eq_false h1]; rfl⟩
set_option maxHeartbeats 400000 in
theorem c_WheelsValid (vR : Value) (l : List Rot) (rf : ByteArray) (w : World) (hR : IsRots w vR l) (hf : rf.size ≤ 9223372036854775807) : Calls Try.prog 142 #[.agg #[vR, .string rf]] w fun e w' => e = .returned (.bool (wheelsB l rf)) ∧ Below w.heap.size w w' := by
  have K := Lib.hid (Blk.new w 31 #[vR, .string rf])
  have B := Lib.hid (ext_alloc w (.cells #[vR, .string rf] 31))
  have HR0 := Lib.hid (hR.ext B.out)
  have hll := hR.len_le
  obtain ⟨A, cA, rfl⟩ := hR.form
  clear hR
  rcases wheelsB_cases l rf with ⟨h1, hr⟩ | ⟨h1, h2, hr⟩ | ⟨h1, h2, h3, hr⟩ | ⟨h1, h2, h3, hr⟩
  · have HR := Lib.hid hr
    clear hr
    go_enter Try.func142, Try.ntmps142
    go_wp2_with fail
    go_ret
    exact ⟨by rw [HR.out]; rfl, B.out⟩
  · have HR := Lib.hid hr
    clear hr
    go_enter Try.func142, Try.ntmps142
    go_wp2_with fail
    go_ret
    exact ⟨by rw [HR.out]; rfl, B.out⟩
  · have HR := Lib.hid hr
    clear hr
    go_enter Try.func142, Try.ntmps142
    go_wp2_with fail
    refine (c_ReflectorValid rf _ (by omega)).mono ?_
    rintro e w1 ⟨rfl, hb1⟩
    rw [h3]
    have B1 := Lib.hid (ext_trans B.out hb1)
    clear hb1
    go_wp2_with fail
    go_ret
    exact ⟨by rw [HR.out]; rfl, B1.out⟩
  · have HR := Lib.hid hr
    clear hr
    go_enter Try.func142, Try.ntmps142
    go_wp2_with fail
    refine (c_ReflectorValid rf _ (by omega)).mono ?_
    rintro e w1 ⟨rfl, hb1⟩
    rw [h3]
    have B1 := Lib.hid (ext_trans B.out hb1)
    have K1 := Lib.hid (K.out.ext hb1)
    have HR1 := Lib.hid (HR0.out.ext hb1)
    have x0 : w1.cell? ⟨w.heap.size, 0, none⟩ = some (.slice A l.length cA) := K1.out.cell 0
    clear hb1
    go_wp2_with fail
    go_loopw [24] (fun i wr => ∃ k : Nat, k ≤ l.length ∧ i = .int .i64 k ∧ allB k (fun i => rotB (gR l i)) = true ∧ IsRots wr (.slice A l.length cA) l ∧ Below w.heap.size w wr) (fun i _ => 3 - (intOf i).toNat)
    case atStart => exact ⟨0, by omega, rfl, rfl, HR1.out, B1.out⟩
    case round =>
      obtain ⟨k, hk, rfl, ha, hrot, hbel⟩ := hrel
      have HA := Lib.hid ha
      have HRT := Lib.hid hrot
      have HBL := Lib.hid hbel
      clear ha hbel
      by_cases hlt : k < l.length
      · obtain ⟨b, o, rfl, hb, hc0, hc1⟩ := hrot.at_ hlt
        have hsz := hrot.size_le hlt
        clear hrot
        generalize hg : gR l k = rk at hc0 hc1 hsz
        obtain ⟨wi, no⟩ := rk
        have HG := Lib.hid hg
        clear hg
        go_wp2_with fail
        refine (c_RotorValid wi no _ (by have := hsz.1; omega) (by have := hsz.2; omega)).mono ?_
        rintro e w3 ⟨rfl, hb3⟩
        have HB3 := Lib.hid (ext_trans (ext_alloc wr (.cells #[.string wi, .string no] 144)) hb3)
        clear hb3
        cases hrb : rotB (wi, no) with
        | true =>
          have HRB := Lib.hid hrb
          clear hrb
          go_wp2_with fail
          exact ⟨⟨k + 1, by omega, by go_num, allB_step HA.out (by rw [HG.out]; exact HRB.out), HRT.out.ext HB3.out, ext_trans HBL.out HB3.out⟩, by simp [intOf]; omega⟩
        | false =>
          have HRB := Lib.hid hrb
          clear hrb
          go_wp2_with fail
          go_ret
          refine ⟨?_, ext_trans HBL.out HB3.out⟩
          rw [HR.out]
          exact ret_bool (allB_false hlt (by rw [HG.out]; exact HRB.out)).symm
      · clear hrot
        go_wp2_with fail
        go_ret
        have e : k = l.length := by omega
        subst e
        exact ⟨by rw [HR.out, HA.out]; rfl, HBL.out⟩
end Go.Proofs.Ytnfeddnkokocfaa
