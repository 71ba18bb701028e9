/- Contracts of the reference's functions on permutations and machines (spec). -/
import Derived.Test.YtnfeddnkokocfaaPermMore
import Derived.Test.YtnfeddnkokocfaaSpecPerm
namespace Go.Proofs.Ytnfeddnkokocfaa
set_option linter.unusedVariables false
set_option linter.unusedSimpArgs false
open Go.RowKit
attribute [local go_sem] Ext.cell
open BigFrame

theorem backS_pS {f : Nat → Nat} (hf : IsP f) : backS (pS f) = pS (invF f) := by
  unfold backS
  show mkS 10 _ = mkS 10 _
  refine mkS_congr fun m hm => ?_
  obtain ⟨h1, h2⟩ := of_invF hf hm
  have : bk (pS f) m = invF f m := by
    have e := bk_of (pS_perm hf) h2
    rw [pn_pS hf h2, h1] at e
    exact e
  rw [this]
theorem pS_small (f : Nat → Nat) : (pS f).size ≤ 9223372036854775807 := by rw [pS_size]; omega
/-- the first k letters of a permutation's word -/
def pK (f : Nat → Nat) (k : Nat) : ByteArray := mkS k (fun i => 97 + (f i : Int))
theorem pK_succ (f : Nat → Nat) (k : Nat) : pK f k ++ strOfNums [97 + (f k : Int)] = pK f (k + 1) := (mkS_succ k _).symm
theorem pK_size (f : Nat → Nat) (k : Nat) : (pK f k).size = k := mkS_size _ _
theorem one_size (x : Int) : (strOfNums [x]).size = 1 := by rw [strOfNums_size]; rfl
theorem c_l1LetterD (d : Nat) (w : World) (hd : d < 10) : Calls Try.prog 60 #[.int .i64 (d : Int)] w fun e w' => e = .returned (.string (strOfNums [97 + (d : Int)])) ∧ Below w.heap.size w w' :=
  (c_l1Letter (d : Int) w (by omega) (by omega)).mono fun _ _ ⟨h1, h2⟩ => ⟨by rw [h1, show (d : Int) % 10 = d by omega], h2⟩
theorem c_imgS (f : Nat → Nat) (n : Nat) (w : World) (h : IsP f) (hn : n < 10) : Calls Try.prog 78 #[.string (pS f), .int .i64 (n : Int)] w fun e w' => e = .returned (.int .i64 (f n : Int)) ∧ w = w' :=
  (c_l2ImageP (pS f) n w (pS_perm h) hn).mono fun _ _ ⟨h1, h2⟩ => ⟨by rw [h1, pn_pS h hn], h2⟩
theorem c_l2BackP (f : Nat → Nat) (w : World) (hf : IsP f) : Calls Try.prog 165 #[.string (pS f)] w fun e w' => e = .returned (.string (pS (invF f))) ∧ Below w.heap.size w w' :=
  (c_l2Back (pS f) w (pS_perm hf)).mono fun _ _ ⟨h1, h2⟩ => ⟨by rw [h1, backS_pS hf], h2⟩
set_option maxHeartbeats 400000 in
theorem c_l2Then (f g : Nat → Nat) (w : World) (hf : IsP f) (hg : IsP g) : Calls Try.prog 120 #[.string (pS f), .string (pS g)] w fun e w' => e = .returned (.string (pS (fun i => g (f i)))) ∧ Below w.heap.size w w' := by
  have HF := Lib.hid hf
  have HG := Lib.hid hg
  clear hf hg
  go_enter Try.func120, Try.ntmps120
  go_wp2_with fail
  go_loopw [5, 6] (fun o i wr => ∃ k : Nat, k ≤ 10 ∧ i = .int .i64 k ∧ o = .string (pK (fun i => g (f i)) k) ∧ Below w.heap.size w wr) (fun _ i _ => 10 - (intOf i).toNat)
  case atStart => exact ⟨0, Nat.zero_le _, rfl, rfl, Below.refl _ _⟩
  case round =>
    obtain ⟨k, hk, rfl, rfl, hb⟩ := hrel
    have HB := Lib.hid hb
    have hz : (pK (fun i => g (f i)) k).size ≤ 10 := by rw [pK_size]; exact hk
    clear hb
    by_cases hlt : k < 10
    · have hfk := HF.out.1 k hlt
      have hgk := HG.out.1 _ hfk
      have hz1 : (strOfNums [97 + (g (f k) : Int)]).size ≤ 1 := by rw [one_size]; exact Nat.le_refl _
      have HC1 := Lib.hid (fun w => c_imgS f k w HF.out hlt)
      have HC2 := Lib.hid (fun w => c_imgS g (f k) w HG.out hfk)
      go_wp2_with (first | (go_at_call 78; ((with_reducible refine (HC1.out _).mono ?_); rintro e w' ⟨rfl, rfl⟩)) | (go_at_call 78; ((with_reducible refine (HC2.out _).mono ?_); rintro e w' ⟨rfl, rfl⟩)) | (go_at_call 60; refine (c_l1LetterD _ _ hgk).mono ?_; rintro e w2 ⟨rfl, hb2⟩; have HB2 := Lib.hid (ext_trans HB.out hb2); clear hb2))
      exact ⟨⟨k + 1, by omega, by go_num, by rw [← pK_succ], HB2.out⟩, by simp [intOf]; omega⟩
    · go_wp2_with fail
      go_ret
      have e : k = 10 := by omega
      subst e
      exact ⟨rfl, HB.out⟩
theorem c_l2Renamed (f g : Nat → Nat) (w : World) (hf : IsP f) (hg : IsP g) : Calls Try.prog 143 #[.string (pS f), .string (pS g)] w fun e w' => e = .returned (.string (pS (fun i => g (f (invF g i))))) ∧ Below w.heap.size w w' := by
  have HF := Lib.hid hf
  have HG := Lib.hid hg
  clear hf hg
  go_enter Try.func143, Try.ntmps143
  go_wp2_with fail
  refine (c_l2BackP g _ HG.out).mono ?_
  rintro e w1 ⟨rfl, hb1⟩
  have B1 := Lib.hid hb1
  clear hb1
  go_wp2_with fail
  refine (c_l2Then (invF g) f _ HG.out.inv HF.out).mono ?_
  rintro e w2 ⟨rfl, hb2⟩
  have B2 := Lib.hid (ext_trans B1.out hb2)
  clear hb2
  go_wp2_with fail
  refine (c_l2Then (fun i => f (invF g i)) g _ (HG.out.inv.comp HF.out) HG.out).mono ?_
  rintro e w3 ⟨rfl, hb3⟩
  have B3 := Lib.hid (ext_trans B2.out hb3)
  clear hb3
  go_wp2_with fail
  go_ret
  exact ⟨rfl, B3.out⟩
set_option maxHeartbeats 400000 in
theorem c_l5At (wi : ByteArray) (o : Nat) (w : World) (h : permB wi = true) (ho : o < 10) : Calls Try.prog 178 #[.string wi, .int .i64 (o : Int)] w fun e w' => e = .returned (.string (pS (rotF wi o))) ∧ Below w.heap.size w w' := by
  have HP := Lib.hid h
  clear h
  go_enter Try.func178, Try.ntmps178
  go_wp2_with fail
  go_loopw [5, 6] (fun u i wr => ∃ k : Nat, k ≤ 10 ∧ i = .int .i64 k ∧ u = .string (pK (rotF wi o) k) ∧ Below w.heap.size w wr) (fun _ i _ => 10 - (intOf i).toNat)
  case atStart => exact ⟨0, Nat.zero_le _, rfl, rfl, Below.refl _ _⟩
  case round =>
    obtain ⟨k, hk, rfl, rfl, hb⟩ := hrel
    have HB := Lib.hid hb
    have hz : (pK (rotF wi o) k).size ≤ 10 := by rw [pK_size]; exact hk
    clear hb
    by_cases hlt : k < 10
    · obtain ⟨m, hm⟩ : ∃ m, (k + o) % 10 = m := ⟨_, rfl⟩
      have hm10 : m < 10 := by omega
      have e1 : ((k : Int) + (o : Int)) % 10 = (m : Int) := by omega
      have hpm := pn_lt HP.out hm10
      obtain ⟨q, hq⟩ : ∃ q, pn wi m = q := ⟨_, rfl⟩
      rw [hq] at hpm
      have HC := Lib.hid (fun w => (c_l2ImageP wi m w HP.out hm10))
      rw [hq] at HC
      have HV : Hid (strOfNums [97 + ((q : Int) - (o : Int)) % 10] = strOfNums [97 + (rotF wi o k : Int)]) := by
        show strOfNums _ = strOfNums _
        have : ((q : Int) - (o : Int)) % 10 = (rotF wi o k : Int) := by
          unfold rotF
          rw [hm, hq]
          omega
        rw [this]
      have hz1 : (strOfNums [97 + (rotF wi o k : Int)]).size ≤ 1 := by rw [one_size]; exact Nat.le_refl _
      clear hm hq
      go_wp2_with (first | (go_at_call 78; refine (HC.out _).mono ?_; rintro e w' ⟨rfl, rfl⟩) | (go_at_call 60; refine (c_l1Letter _ _ (by omega) (by omega)).mono ?_; rintro e w2 ⟨rfl, hb2⟩; have HB2 := Lib.hid (ext_trans HB.out hb2); clear hb2; rw [HV.out]))
      exact ⟨⟨k + 1, by omega, by go_num, by rw [← pK_succ], HB2.out⟩, by simp [intOf]; omega⟩
    · go_wp2_with fail
      go_ret
      have e : k = 10 := by omega
      subst e
      exact ⟨rfl, HB.out⟩
theorem c_identP (w : World) : Calls Try.prog 122 #[] w fun e w' => e = .returned (.string (pS (fun i => i))) ∧ Below w.heap.size w w' := by
  go_enter Try.func122, Try.ntmps122
  go_wp2_with fail
  go_loopw [1, 2] (fun o i wr => ∃ k : Nat, k ≤ 10 ∧ i = .int .i64 k ∧ o = .string (pK (fun i => i) k) ∧ Below w.heap.size w wr) (fun _ i _ => 10 - (intOf i).toNat)
  case atStart => exact ⟨0, Nat.zero_le _, rfl, rfl, Below.refl _ _⟩
  case round =>
    obtain ⟨k, hk, rfl, rfl, hb⟩ := hrel
    have HB := Lib.hid hb
    have hz : (pK (fun i => i) k).size ≤ 10 := by rw [pK_size]; exact hk
    have hz1 : (strOfNums [97 + (k : Int)]).size ≤ 1 := by rw [one_size]; exact Nat.le_refl _
    clear hb
    by_cases hlt : k < 10
    · go_wp2_with fail
      refine (c_l1LetterD _ _ hlt).mono ?_
      rintro e w2 ⟨rfl, hb2⟩
      have HB2 := Lib.hid (ext_trans HB.out hb2)
      clear hb2
      go_wp2_with fail
      exact ⟨⟨k + 1, by omega, by go_num, by rw [← pK_succ], HB2.out⟩, by simp [intOf]; omega⟩
    · go_wp2_with fail
      go_ret
      have e : k = 10 := by omega
      subst e
      exact ⟨rfl, HB.out⟩
end Go.Proofs.Ytnfeddnkokocfaa
