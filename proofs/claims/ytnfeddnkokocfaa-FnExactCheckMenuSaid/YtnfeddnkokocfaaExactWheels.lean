/- Contracts of toWheels, eqWheels and what they stand on. -/
import Derived.Test.YtnfeddnkokocfaaOwnRot
import Derived.Test.YtnfeddnkokocfaaKitS
import Derived.Test.YtnfeddnkokocfaaKitA
namespace Go.Proofs.Ytnfeddnkokocfaa
set_option linter.unusedVariables false
set_option linter.unusedSimpArgs false
open Go.RowKit

set_option maxHeartbeats 400000 in
theorem c_toRotor (wi no : ByteArray) (w : World) : Calls Try.prog 140 #[.agg #[.string wi, .string no]] w fun e w' => e = .returned (.agg #[.string wi, .string no]) ∧ Below w.heap.size w w' := by
  have k1 := (Blk.new (w.alloc (.cells #[.string wi, .string no] 161)) 144 #[.string wi, .string no]).alloc (.cells #[.string wi, .string no] 144)
  rw [show (w.alloc (.cells #[.string wi, .string no] 161)).heap.size = w.heap.size + 1 by simp] at k1
  have K1 := Lib.hid k1
  clear k1
  go_enter Try.func140, Try.ntmps140
  go_wp2_with fail
  have q0 := K1.out.cell 0
  have q1 := K1.out.cell 1
  refine bodyPost_ret (v := .agg #[.string wi, .string no]) (by simp [results, Try.results140, go_sem, q0, q1]) rfl ⟨rfl, ((ext_alloc w _).alloc (by simp) _).alloc (by simp; omega) _⟩
set_option maxHeartbeats 400000 in
theorem c_toRotorS (A : Option Addr) (cA : Nat) (l : List Rot) (w : World) (hR : IsRots w (.slice A l.length cA) l) (h1 : l.length ≤ 1048576) :
    Calls Try.prog 107 #[.slice A l.length cA] w fun e w' => ∃ v', e = .returned v' ∧ OwnR w' w.heap.size v' l.length (gR l) ∧ Below w.heap.size w w' := by
  have HL := Lib.hid hR
  clear hR
  go_enter Try.func107, Try.ntmps107
  go_wp2_with (at_make; refine makeR _ rfl _ _ _ rfl w.heap.size Try.underlying29 info_rot _ _ _ _ l.length rfl rfl rfl rfl (by omega) (Nat.le_refl _) ?_; intro w1 hown hb1)
  have HO := Lib.hid hown
  have HB := Lib.hid hb1
  clear hown hb1
  go_loopw [4] (fun i wr => ∃ k : Nat, k ≤ l.length ∧ i = .int .i64 k ∧ OwnR wr w.heap.size (.slice (some ⟨w.heap.size, 0, none⟩) l.length l.length) l.length (fun i => if i < k then gR l i else (ByteArray.empty, ByteArray.empty)) ∧ Below w.heap.size w wr) (fun i _ => l.length - (intOf i).toNat)
  case atStart => exact ⟨0, Nat.zero_le _, rfl, HO.out.congr (fun i _ => by simp), HB.out⟩
  case round =>
    obtain ⟨k, hk, rfl, hown, hbr⟩ := hrel
    have HOR := Lib.hid hown
    have HBR := Lib.hid hbr
    clear hown hbr
    by_cases hlt : k < l.length
    · obtain ⟨b, o, rfl, hb, hc0, hc1⟩ := (HL.out.ext HBR.out).at_ hlt
      generalize hg : gR l k = rk at hc0 hc1
      obtain ⟨wi, no⟩ := rk
      have HG := Lib.hid hg
      clear hg
      go_wp2_with fail
      refine (c_toRotor wi no _).mono ?_
      rintro e w2 ⟨rfl, hb2⟩
      have HO2 := Lib.hid (HOR.out.ext hb2)
      have HB2 := Lib.hid (ext_trans HBR.out hb2)
      clear hb2 hc0 hc1
      obtain ⟨d0, d1⟩ := HO2.out.cells hlt
      simp only [Nat.lt_irrefl, if_false] at d0 d1
      have e0 := HO2.out.free (k * 2)
      have e1 := HO2.out.free (k * 2 + 1)
      go_wp2_with fail
      refine ⟨⟨k + 1, by omega, by go_num, HO2.out.set k (wi, no) (fun i _ => ?_), (HB2.out.setCell (p := ⟨w.heap.size, k * 2, none⟩) (Nat.le_refl _) _).setCell (p := ⟨w.heap.size, k * 2 + 1, none⟩) (Nat.le_refl _) _⟩, by simp [intOf]; omega⟩
      by_cases e : i = k
      · subst e; rw [if_pos rfl, if_pos (by omega), HG.out]
      · by_cases e2 : i < k
        · rw [if_neg e, if_pos e2, if_pos (by omega)]
        · rw [if_neg e, if_neg e2, if_neg (by omega)]
    · go_wp2_with fail
      go_ret
      have e : k = l.length := by omega
      subst e
      exact ⟨_, rfl, HOR.out.congr (fun i hi => if_pos hi), HBR.out⟩
set_option maxHeartbeats 800000 in
theorem c_toWheelsF (A : Option Addr) (cA : Nat) (l : List Rot) (rf : ByteArray) (w : World) (hR : IsRots w (.slice A l.length cA) l) (h1 : l.length ≤ 1048576) (hs : ∀ k, k < l.length → (gR l k).1.size ≤ 1048576 ∧ (gR l k).2.size ≤ 1048576) :
    Calls Try.prog 55 #[.agg #[.slice A l.length cA, .string rf]] w fun e w' => ∃ A' cA', e = .returned (.agg #[.slice A' l.length cA', .string rf]) ∧ IsRots w' (.slice A' l.length cA') l ∧ (∀ b o, A' = some ⟨b, o, none⟩ → w.heap.size ≤ b) ∧ Below w.heap.size w w' := by
  have hb3 : Below w.heap.size w (((w.alloc (.cells #[.slice A l.length cA, .string rf] 24)).alloc (.cells #[.slice none 0 0, .string ⟨#[]⟩] 31)).alloc (.cells #[.slice none 0 0, .string ⟨#[]⟩] 31)) :=
    ((ext_alloc w _).alloc (by simp) _).alloc (by simp; omega) _
  have k0 := ((Blk.new w 24 #[.slice A l.length cA, .string rf]).alloc (.cells #[.slice none 0 0, .string ⟨#[]⟩] 31)).alloc (.cells #[.slice none 0 0, .string ⟨#[]⟩] 31)
  have k1 := (Blk.new (w.alloc (.cells #[.slice A l.length cA, .string rf] 24)) 31 #[.slice none 0 0, .string ⟨#[]⟩]).alloc (.cells #[.slice none 0 0, .string ⟨#[]⟩] 31)
  have k2 := Blk.new ((w.alloc (.cells #[.slice A l.length cA, .string rf] 24)).alloc (.cells #[.slice none 0 0, .string ⟨#[]⟩] 31)) 31 #[.slice none 0 0, .string ⟨#[]⟩]
  have HB3 := Lib.hid hb3
  have K0 := Lib.hid k0
  rw [show (w.alloc (.cells #[.slice A l.length cA, .string rf] 24)).heap.size = w.heap.size + 1 by simp] at k1
  rw [show ((w.alloc (.cells #[.slice A l.length cA, .string rf] 24)).alloc (.cells #[.slice none 0 0, .string ⟨#[]⟩] 31)).heap.size = w.heap.size + 1 + 1 by simp] at k2
  have K1 := Lib.hid k1
  have K2 := Lib.hid k2
  have HW := Lib.hid hR
  have HS := Lib.hid hs
  have HZ := Lib.hid (show (((w.alloc (.cells #[.slice A l.length cA, .string rf] 24)).alloc (.cells #[.slice none 0 0, .string ⟨#[]⟩] 31)).alloc (.cells #[.slice none 0 0, .string ⟨#[]⟩] 31)).heap.size = w.heap.size + 3 by simp)
  clear hR k0 k1 k2 hb3 hs
  go_enter Try.func55, Try.ntmps55
  go_wp2_with fail
  refine (c_toRotorS A cA l _ (HW.out.ext HB3.out) h1).mono ?_
  rintro e w1 ⟨v1, rfl, hv1, hb1⟩
  obtain ⟨A1, c1, hf1⟩ := hv1.slice
  subst hf1
  have L0 := Lib.hid (K0.out.ext hb1)
  have L1 := Lib.hid (K1.out.ext hb1)
  have L2 := Lib.hid (K2.out.ext hb1)
  have BB1 := Lib.hid (ext_trans HB3.out hb1)
  rw [HZ.out] at hv1
  have V1 := Lib.hid (((hv1.setFar (p := ⟨w.heap.size + 1 + 1, 0, none⟩) (by simp) (.slice A1 l.length c1)).setFar (p := ⟨w.heap.size + 1 + 1, 1, none⟩) (by simp) (.string rf)))
  have x0 : w1.cell? ⟨w.heap.size + 1 + 1, 0, none⟩ = some (.slice none 0 0) := L2.out.cell 0
  have x1 := L2.out.free 0
  have L0a := L0.out.far (p := ⟨w.heap.size + 1 + 1, 0, none⟩) (by simp; omega) (.slice A1 l.length c1)
  have L2a := L2.out.set 0 (.slice A1 l.length c1)
  have L1a := L1.out.far (p := ⟨w.heap.size + 1 + 1, 0, none⟩) (by simp) (.slice A1 l.length c1)
  have x2 : (w1.setCell ⟨w.heap.size + 1 + 1, 0, none⟩ (.slice A1 l.length c1)).cell? ⟨w.heap.size, 1, none⟩ = some (.string rf) := L0a.cell 1
  have x3 : (w1.setCell ⟨w.heap.size + 1 + 1, 0, none⟩ (.slice A1 l.length c1)).cell? ⟨w.heap.size + 1 + 1, 1, none⟩ = some (.string ⟨#[]⟩) := L2a.cell 1
  have x4 := L2a.free 1
  have L2b := L2a.set 1 (.string rf)
  have L1b := L1a.far (p := ⟨w.heap.size + 1 + 1, 1, none⟩) (by simp) (.string rf)
  have BBb := (BB1.out.setCell (p := ⟨w.heap.size + 1 + 1, 0, none⟩) (by simp; omega) (.slice A1 l.length c1)).setCell (p := ⟨w.heap.size + 1 + 1, 1, none⟩) (by simp; omega) (.string rf)
  have z0 : ((w1.setCell ⟨w.heap.size + 1 + 1, 0, none⟩ (.slice A1 l.length c1)).setCell ⟨w.heap.size + 1 + 1, 1, none⟩ (.string rf)).cell? ⟨w.heap.size + 1 + 1, 0, none⟩ = some (.slice A1 l.length c1) := L2b.cell 0
  have z1 : ((w1.setCell ⟨w.heap.size + 1 + 1, 0, none⟩ (.slice A1 l.length c1)).setCell ⟨w.heap.size + 1 + 1, 1, none⟩ (.string rf)).cell? ⟨w.heap.size + 1 + 1, 1, none⟩ = some (.string rf) := L2b.cell 1
  have z2 : ((w1.setCell ⟨w.heap.size + 1 + 1, 0, none⟩ (.slice A1 l.length c1)).setCell ⟨w.heap.size + 1 + 1, 1, none⟩ (.string rf)).cell? ⟨w.heap.size + 1, 0, none⟩ = some (.slice none 0 0) := L1b.cell 0
  have z3 : ((w1.setCell ⟨w.heap.size + 1 + 1, 0, none⟩ (.slice A1 l.length c1)).setCell ⟨w.heap.size + 1 + 1, 1, none⟩ (.string rf)).cell? ⟨w.heap.size + 1, 1, none⟩ = some (.string ⟨#[]⟩) := L1b.cell 1
  have z4 := L1b.free 0
  have z5 := L1b.free 1
  have NF := Lib.hid ((L1b.set 0 (.slice A1 l.length c1)).set 1 (.string rf))
  have VF := Lib.hid ((V1.out.setFar (p := ⟨w.heap.size + 1, 0, none⟩) (by simp) (.slice A1 l.length c1)).setFar (p := ⟨w.heap.size + 1, 1, none⟩) (by simp) (.string rf))
  have BF := Lib.hid ((BBb.setCell (p := ⟨w.heap.size + 1, 0, none⟩) (by simp) (.slice A1 l.length c1)).setCell (p := ⟨w.heap.size + 1, 1, none⟩) (by simp) (.string rf))
  clear hv1 hb1 L0a L1a L2a L1b L2b BBb
  go_wp2_with fail
  have q0 := NF.out.cell 0
  have q1 := NF.out.cell 1
  have i1 := VF.out
  have i3 := BF.out
  generalize ((((w1.setCell ⟨w.heap.size + 1 + 1, 0, none⟩ (.slice A1 l.length c1)).setCell ⟨w.heap.size + 1 + 1, 1, none⟩ (.string rf)).setCell ⟨w.heap.size + 1, 0, none⟩ (.slice A1 l.length c1)).setCell ⟨w.heap.size + 1, 1, none⟩ (.string rf)) = WF at *
  refine bodyPost_ret (v := .agg #[.slice A1 l.length c1, .string rf]) (by simp [results, Try.results55, go_sem, q0, q1]) rfl ⟨_, _, rfl, i1.rots (by omega) (fun k hk => ?_), ?_, i3⟩
  · have := HS.out k hk
    omega
  · intro b o e
    have := (i1.blk_lt (g := b) (by rw [e]; rfl)).1
    omega
theorem c_toWheels (A : Option Addr) (cA : Nat) (l : List Rot) (rf : ByteArray) (w : World) (hR : IsRots w (.slice A l.length cA) l) (h1 : l.length ≤ 1048576) (hs : ∀ k, k < l.length → (gR l k).1.size ≤ 1048576 ∧ (gR l k).2.size ≤ 1048576) :
    Calls Try.prog 55 #[.agg #[.slice A l.length cA, .string rf]] w fun e w' => ∃ A' cA', e = .returned (.agg #[.slice A' l.length cA', .string rf]) ∧ IsRots w' (.slice A' l.length cA') l ∧ Below w.heap.size w w' :=
  (c_toWheelsF A cA l rf w hR h1 hs).mono fun _ _ ⟨A', cA', h1, h2, _, h3⟩ => ⟨A', cA', h1, h2, h3⟩
set_option maxHeartbeats 400000 in
theorem c_eqRotor (wi no : ByteArray) (w : World) : Calls Try.prog 141 #[.agg #[.string wi, .string no], .agg #[.string wi, .string no]] w fun e w' => e = .returned (.bool true) ∧ Below w.heap.size w w' := by
  have t1 := bs_yes (a := wi) rfl
  have t2 := bs_yes (a := no) rfl
  go_enter Try.func141, Try.ntmps141
  go_wp2_with fail
  go_ret
  exact ⟨rfl, (ext_alloc w _).alloc (by simp) _⟩
set_option maxHeartbeats 800000 in
theorem c_eqRotorS (A : Option Addr) (cA : Nat) (A' : Option Addr) (cA' : Nat) (l : List Rot) (w : World) (hR : IsRots w (.slice A l.length cA) l) (hR' : IsRots w (.slice A' l.length cA') l) :
    Calls Try.prog 109 #[.slice A l.length cA, .slice A' l.length cA'] w fun e w' => e = .returned (.bool true) ∧ Below w.heap.size w w' := by
  have HL := Lib.hid hR
  have HL' := Lib.hid hR'
  have hll := hR.len_le
  clear hR hR'
  go_enter Try.func109, Try.ntmps109
  go_wp2_with fail
  go_loopg [5] l.length (fun gk i wr => ∃ k : Nat, k + gk = l.length ∧ i = .int .i64 k ∧ Below w.heap.size w wr)
  case atStart => exact ⟨0, by omega, rfl, Below.refl _ _⟩
  case round =>
    obtain ⟨k, hk, rfl, hb⟩ := hrel
    have HB := Lib.hid hb
    clear hb
    by_cases hlt : k < l.length
    · obtain ⟨b, o, rfl, hb, hc0, hc1⟩ := (HL.out.ext HB.out).at_ hlt
      obtain ⟨b', o', rfl, hb', hd0, hd1⟩ := (HL'.out.ext HB.out).at_ hlt
      generalize gR l k = rk at hc0 hc1 hd0 hd1
      obtain ⟨wi, no⟩ := rk
      have i1 : (0 : Int) ≤ (k : Int) := by omega
      have i2 : (k : Int) < (l.length : Int) := by omega
      go_wp2_with fail
      go_region_held3 (fun w' => w'.cell? ⟨b, o + k * 2, none⟩ = some (.string wi) ∧ w'.cell? ⟨b, o + k * 2 + 1, none⟩ = some (.string no) ∧ w'.cell? ⟨b', o' + k * 2, none⟩ = some (.string wi) ∧ w'.cell? ⟨b', o' + k * 2 + 1, none⟩ = some (.string no))
        (first | exact ⟨hc0, hc1, hd0, hd1⟩ | exact hk8)
        (first | (go_at_call 141; refine (c_eqRotor wi no _).mono ?_; rintro e w8 ⟨rfl, hb8⟩; have hk8 : w8.cell? ⟨b, o + k * 2, none⟩ = some (.string wi) ∧ w8.cell? ⟨b, o + k * 2 + 1, none⟩ = some (.string no) ∧ w8.cell? ⟨b', o' + k * 2, none⟩ = some (.string wi) ∧ w8.cell? ⟨b', o' + k * 2 + 1, none⟩ = some (.string no) := ⟨(hb8.cell (p := ⟨b, o + k * 2, none⟩) hb).trans hc0, (hb8.cell (p := ⟨b, o + k * 2 + 1, none⟩) hb).trans hc1, (hb8.cell (p := ⟨b', o' + k * 2, none⟩) hb').trans hd0, (hb8.cell (p := ⟨b', o' + k * 2 + 1, none⟩) hb').trans hd1⟩))
      have HB8 := Lib.hid (ext_trans HB.out ((Below.refl wr.heap.size wr).drew.trans hb8))
      clear hk8 hb8 hc0 hc1 hd0 hd1
      go_wp2_with fail
      go_roundg (l.length - (k + 1))
      case measure => omega
      case rel => exact ⟨k + 1, by omega, by go_num, HB8.out⟩
    · have e : k = l.length := by omega
      subst e
      go_wp2_with fail
      go_ret
      exact ⟨rfl, HB.out⟩
set_option maxHeartbeats 400000 in
theorem c_eqWheels (A : Option Addr) (cA : Nat) (A' : Option Addr) (cA' : Nat) (l : List Rot) (rf : ByteArray) (w : World) (hR : IsRots w (.slice A l.length cA) l) (hR' : IsRots w (.slice A' l.length cA') l) :
    Calls Try.prog 59 #[.agg #[.slice A l.length cA, .string rf], .agg #[.slice A' l.length cA', .string rf]] w fun e w' => e = .returned (.bool true) ∧ Below w.heap.size w w' := by
  have hb2 : Below w.heap.size w ((w.alloc (.cells #[.slice A l.length cA, .string rf] 31)).alloc (.cells #[.slice A' l.length cA', .string rf] 31)) := (ext_alloc w _).alloc (by simp) _
  have HB2 := Lib.hid hb2
  have HR := Lib.hid (hR.ext hb2)
  have HR' := Lib.hid (hR'.ext hb2)
  have K0 := Lib.hid ((Blk.new w 31 #[.slice A l.length cA, .string rf]).alloc (.cells #[.slice A' l.length cA', .string rf] 31))
  have k1 := Blk.new (w.alloc (.cells #[.slice A l.length cA, .string rf] 31)) 31 #[.slice A' l.length cA', .string rf]
  rw [show (w.alloc (.cells #[.slice A l.length cA, .string rf] 31)).heap.size = w.heap.size + 1 by simp] at k1
  have K1 := Lib.hid k1
  clear k1 hR hR' hb2
  have t1 := bs_yes (a := rf) rfl
  go_enter Try.func59, Try.ntmps59
  go_wp2_with fail
  refine (c_eqRotorS A cA A' cA' l _ HR.out HR'.out).mono ?_
  rintro e w1 ⟨rfl, hb1⟩
  have x0 : w1.cell? ⟨w.heap.size, 1, none⟩ = some (.string rf) := (K0.out.ext hb1).cell 1
  have x1 : w1.cell? ⟨w.heap.size + 1, 1, none⟩ = some (.string rf) := (K1.out.ext hb1).cell 1
  have HB1 := Lib.hid (ext_trans HB2.out hb1)
  clear hb1
  go_wp2_with fail
  go_ret
  exact ⟨rfl, HB1.out⟩
end Go.Proofs.Ytnfeddnkokocfaa
