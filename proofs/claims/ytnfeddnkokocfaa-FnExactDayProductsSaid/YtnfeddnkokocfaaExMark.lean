/- Marks: what is written over what a call was handed. -/
import Derived.Test.YtnfeddnkokocfaaExactMach
import Derived.Test.YtnfeddnkokocfaaKitA
namespace Go.Proofs.Ytnfeddnkokocfaa
set_option linter.unusedVariables false
set_option linter.unusedSimpArgs false
open Go.RowKit
attribute [local go_sem] Ext.cell
open BigFrame

theorem ownR_low {w : World} {B B' n : Nat} {v : Value} {f : Nat → Rot} (h : OwnR w B v n f) (hB : B' ≤ B) : OwnR w B' v n f := by
  refine ⟨h.1, ?_⟩
  rcases h.2 with h' | ⟨g, cap, cur, e, hb, r⟩
  · exact .inl h'
  · exact .inr ⟨g, cap, cur, e, by omega, r⟩
theorem ownR_far {w w' : World} {B n b : Nat} {v : Value} {f : Nat → Rot} (h : OwnR w B v n f) (hg : w.grownBy w' (some b)) (hb : b < B) : OwnR w' B v n f :=
  h.kept hg (fun g e => by injection e with e; subst e; intro he; have := (h.blk_lt he).1; omega)
theorem grown_any {a b : World} (h : a.grownBy b none) (r : Option Nat) : a.grownBy b r := ⟨h.os, h.tape, h.output, h.size, fun i hi _ => h.block i hi (by simp)⟩
theorem grown_of {a b : World} (h : Below a.heap.size a b) : a.grownBy b none := ⟨h.os, h.tape, h.output, h.size, fun k hk _ => h.block k hk⟩
theorem grown_ext {a b c : World} {r : Option Nat} (h : a.grownBy b r) (hb : Below b.heap.size b c) : a.grownBy c r := h.trans (grown_any (grown_of hb) r)
set_option maxHeartbeats 1000000
theorem size_one9 (x : Int) : (strOfNums [x]).size = 1 := by rw [strOfNums_size]; rfl
theorem c_toWheelsO (A : Option Addr) (cA : Nat) (l : List Rot) (rf : ByteArray) (w : World) (hR : IsRots w (.slice A l.length cA) l) (h1 : l.length ≤ 1048576) (hs : ∀ k, k < l.length → (gR l k).1.size ≤ 1048576 ∧ (gR l k).2.size ≤ 1048576) :
    Calls Try.prog 55 #[.agg #[.slice A l.length cA, .string rf]] w fun e w' => ∃ A' cA', e = .returned (.agg #[.slice A' l.length cA', .string rf]) ∧ OwnR w' w.heap.size (.slice A' l.length cA') l.length (gR l) ∧ Below w.heap.size w w' := by
  have hb3 : Below w.heap.size w (((w.alloc (.cells #[.slice A l.length cA, .string rf] 24)).alloc (.cells #[.slice none 0 0, .string ⟨#[]⟩] 31)).alloc (.cells #[.slice none 0 0, .string ⟨#[]⟩] 31)) :=
    ((ext_alloc w _).alloc (by simp) _).alloc (by simp; omega) _
  have k0 := ((Blk.new w 24 #[.slice A l.length cA, .string rf]).alloc (.cells #[.slice none 0 0, .string ⟨#[]⟩] 31)).alloc (.cells #[.slice none 0 0, .string ⟨#[]⟩] 31)
  have k1 := (Blk.new (w.alloc (.cells #[.slice A l.length cA, .string rf] 24)) 31 #[.slice none 0 0, .string ⟨#[]⟩]).alloc (.cells #[.slice none 0 0, .string ⟨#[]⟩] 31)
  have k2 := Blk.new ((w.alloc (.cells #[.slice A l.length cA, .string rf] 24)).alloc (.cells #[.slice none 0 0, .string ⟨#[]⟩] 31)) 31 #[.slice none 0 0, .string ⟨#[]⟩]
  have HB3 := Lib.hid hb3
  have K0 := Lib.hid k0
  rw [show (w.alloc (.cells #[.slice A l.length cA, .string rf] 24)).heap.size = w.heap.size + 1 by simp] at k1
  rw [show ((w.alloc (.cells #[.slice A l.length cA, .string rf] 24)).alloc (.cells #[.slice none 0 0, .string ⟨#[]⟩] 31)).heap.size = w.heap.size + 1 + 1 by simp] at k2
  have K1 := Lib.hid k1
  have K2 := Lib.hid k2
  have HW := Lib.hid hR
  have HS := Lib.hid hs
  have HZ := Lib.hid (show (((w.alloc (.cells #[.slice A l.length cA, .string rf] 24)).alloc (.cells #[.slice none 0 0, .string ⟨#[]⟩] 31)).alloc (.cells #[.slice none 0 0, .string ⟨#[]⟩] 31)).heap.size = w.heap.size + 3 by simp)
  clear hR k0 k1 k2 hb3 hs
  go_enter Try.func55, Try.ntmps55
  go_wp2_with fail
  refine (c_toRotorS A cA l _ (HW.out.ext HB3.out) h1).mono ?_
  rintro e w1 ⟨v1, rfl, hv1, hb1⟩
  obtain ⟨A1, c1, hf1⟩ := hv1.slice
  subst hf1
  have L0 := Lib.hid (K0.out.ext hb1)
  have L1 := Lib.hid (K1.out.ext hb1)
  have L2 := Lib.hid (K2.out.ext hb1)
  have BB1 := Lib.hid (ext_trans HB3.out hb1)
  rw [HZ.out] at hv1
  have V1 := Lib.hid (((hv1.setFar (p := ⟨w.heap.size + 1 + 1, 0, none⟩) (by simp) (.slice A1 l.length c1)).setFar (p := ⟨w.heap.size + 1 + 1, 1, none⟩) (by simp) (.string rf)))
  have x0 : w1.cell? ⟨w.heap.size + 1 + 1, 0, none⟩ = some (.slice none 0 0) := L2.out.cell 0
  have x1 := L2.out.free 0
  have L0a := L0.out.far (p := ⟨w.heap.size + 1 + 1, 0, none⟩) (by simp; omega) (.slice A1 l.length c1)
  have L2a := L2.out.set 0 (.slice A1 l.length c1)
  have L1a := L1.out.far (p := ⟨w.heap.size + 1 + 1, 0, none⟩) (by simp) (.slice A1 l.length c1)
  have x2 : (w1.setCell ⟨w.heap.size + 1 + 1, 0, none⟩ (.slice A1 l.length c1)).cell? ⟨w.heap.size, 1, none⟩ = some (.string rf) := L0a.cell 1
  have x3 : (w1.setCell ⟨w.heap.size + 1 + 1, 0, none⟩ (.slice A1 l.length c1)).cell? ⟨w.heap.size + 1 + 1, 1, none⟩ = some (.string ⟨#[]⟩) := L2a.cell 1
  have x4 := L2a.free 1
  have L2b := L2a.set 1 (.string rf)
  have L1b := L1a.far (p := ⟨w.heap.size + 1 + 1, 1, none⟩) (by simp) (.string rf)
  have BBb := (BB1.out.setCell (p := ⟨w.heap.size + 1 + 1, 0, none⟩) (by simp; omega) (.slice A1 l.length c1)).setCell (p := ⟨w.heap.size + 1 + 1, 1, none⟩) (by simp; omega) (.string rf)
  have z0 : ((w1.setCell ⟨w.heap.size + 1 + 1, 0, none⟩ (.slice A1 l.length c1)).setCell ⟨w.heap.size + 1 + 1, 1, none⟩ (.string rf)).cell? ⟨w.heap.size + 1 + 1, 0, none⟩ = some (.slice A1 l.length c1) := L2b.cell 0
  have z1 : ((w1.setCell ⟨w.heap.size + 1 + 1, 0, none⟩ (.slice A1 l.length c1)).setCell ⟨w.heap.size + 1 + 1, 1, none⟩ (.string rf)).cell? ⟨w.heap.size + 1 + 1, 1, none⟩ = some (.string rf) := L2b.cell 1
  have z2 : ((w1.setCell ⟨w.heap.size + 1 + 1, 0, none⟩ (.slice A1 l.length c1)).setCell ⟨w.heap.size + 1 + 1, 1, none⟩ (.string rf)).cell? ⟨w.heap.size + 1, 0, none⟩ = some (.slice none 0 0) := L1b.cell 0
  have z3 : ((w1.setCell ⟨w.heap.size + 1 + 1, 0, none⟩ (.slice A1 l.length c1)).setCell ⟨w.heap.size + 1 + 1, 1, none⟩ (.string rf)).cell? ⟨w.heap.size + 1, 1, none⟩ = some (.string ⟨#[]⟩) := L1b.cell 1
  have z4 := L1b.free 0
  have z5 := L1b.free 1
  have NF := Lib.hid ((L1b.set 0 (.slice A1 l.length c1)).set 1 (.string rf))
  have VF := Lib.hid ((V1.out.setFar (p := ⟨w.heap.size + 1, 0, none⟩) (by simp) (.slice A1 l.length c1)).setFar (p := ⟨w.heap.size + 1, 1, none⟩) (by simp) (.string rf))
  have BF := Lib.hid ((BBb.setCell (p := ⟨w.heap.size + 1, 0, none⟩) (by simp) (.slice A1 l.length c1)).setCell (p := ⟨w.heap.size + 1, 1, none⟩) (by simp) (.string rf))
  clear hv1 hb1 L0a L1a L2a L1b L2b BBb
  go_wp2_with fail
  have q0 := NF.out.cell 0
  have q1 := NF.out.cell 1
  have i1 := VF.out
  have i3 := BF.out
  generalize ((((w1.setCell ⟨w.heap.size + 1 + 1, 0, none⟩ (.slice A1 l.length c1)).setCell ⟨w.heap.size + 1 + 1, 1, none⟩ (.string rf)).setCell ⟨w.heap.size + 1, 0, none⟩ (.slice A1 l.length c1)).setCell ⟨w.heap.size + 1, 1, none⟩ (.string rf)) = WF at *
  refine bodyPost_ret (v := .agg #[.slice A1 l.length c1, .string rf]) (by simp [results, Try.results55, go_sem, q0, q1]) rfl ⟨_, _, rfl, ownR_low i1 (by omega), i3⟩
theorem c_toMachineO (A : Option Addr) (cA : Nat) (M : Mch) (w : World) (hR : IsRots w (.slice A M.l.length cA) M.l) (h1 : M.l.length ≤ 1048576) (hs : ∀ k, k < M.l.length → (gR M.l k).1.size ≤ 1048576 ∧ (gR M.l k).2.size ≤ 1048576) :
    Calls Try.prog 15 #[mV A cA M] w fun e w' => ∃ A' cA', e = .returned (mV A' cA' M) ∧ OwnR w' w.heap.size (.slice A' M.l.length cA') M.l.length (gR M.l) ∧ Below w.heap.size w w' := by
  obtain ⟨z, hz⟩ : ∃ z : Array Value, z = #[.slice none 0 0, .string ⟨#[]⟩, .string ⟨#[]⟩, .string ⟨#[]⟩] := ⟨_, rfl⟩
  obtain ⟨m, hm⟩ : ∃ m : Array Value, m = #[.slice A M.l.length cA, .string M.rf, .string M.rg, .string M.pl] := ⟨_, rfl⟩
  have hb3 : Below w.heap.size w (((w.alloc (.cells m 26)).alloc (.cells z 33)).alloc (.cells z 33)) := ((ext_alloc w _).alloc (by simp) _).alloc (by simp; omega) _
  have k0 := ((Blk.new w 26 m).alloc (.cells z 33)).alloc (.cells z 33)
  have k1 := (Blk.new (w.alloc (.cells m 26)) 33 z).alloc (.cells z 33)
  have k2 := Blk.new ((w.alloc (.cells m 26)).alloc (.cells z 33)) 33 z
  have hzz : (((w.alloc (.cells m 26)).alloc (.cells z 33)).alloc (.cells z 33)).heap.size = w.heap.size + 3 := by simp
  simp only [World.size_alloc] at k1 k2
  subst hz hm
  have HB3 := Lib.hid hb3
  have K0 := Lib.hid k0
  have K1 := Lib.hid k1
  have K2 := Lib.hid k2
  have HW := Lib.hid (hR.ext hb3)
  have HS := Lib.hid hs
  have HZ := Lib.hid hzz
  have y0 := k0.cell 0
  have y1 := k0.cell 1
  clear hR k0 k1 k2 hb3 hs hzz
  go_enter Try.func15, Try.ntmps15
  go_wp2_with fail
  refine (c_toWheelsO A cA M.l M.rf _ HW.out h1 HS.out).mono ?_
  rintro e w1 ⟨A1, c1, rfl, hv1, hb1⟩
  rw [HZ.out] at hv1
  have L0 := Lib.hid (K0.out.ext hb1)
  have L1 := Lib.hid (K1.out.ext hb1)
  have L2 := Lib.hid (K2.out.ext hb1)
  have BB1 := Lib.hid (ext_trans HB3.out hb1)
  have V1 := Lib.hid hv1
  clear hv1 hb1 K0 K1 K2 HB3 HW y0 y1 HZ
  have x0 := L2.out.cell 0
  have x1 := L2.out.cell 1
  have f0 := L2.out.free 0
  have f1 := L2.out.free 1
  go_upto_region 3 with fail
  have g1 := grow_set (grow_cell w1 ⟨w.heap.size + 1 + 1, 0, none⟩ (.slice A1 M.l.length c1)) (p := ⟨w.heap.size + 1 + 1, 1, none⟩) (.inl rfl) (.string M.rf)
  have M2 := Lib.hid ((L2.out.set 0 (.slice A1 M.l.length c1)).set 1 (.string M.rf))
  have M1 := Lib.hid (L1.out.grownR g1 (by simp))
  have M0 := Lib.hid (L0.out.grownR g1 (by simp; omega))
  have V2 := Lib.hid (ownR_far V1.out g1 (by first | (simp; done) | (simp; omega)))
  have B2 := Lib.hid (below_grown BB1.out g1 (Nat.le_refl _) (by simp; omega))
  clear g1 x0 x1 f0 f1 L0 L1 L2 BB1 V1
  generalize (w1.setCell ⟨w.heap.size + 1 + 1, 0, none⟩ (.slice A1 M.l.length c1)).setCell ⟨w.heap.size + 1 + 1, 1, none⟩ (.string M.rf) = w2 at *
  have x2 := M2.out.cell 2
  have y2 := M0.out.cell 2
  have f2 := M2.out.free 2
  go_upto_region 4 with fail
  have g1 := grow_cell w2 ⟨w.heap.size + 1 + 1, 2, none⟩ (.string M.rg)
  have N2 := Lib.hid (M2.out.set 2 (.string M.rg))
  have N1 := Lib.hid (M1.out.grownR g1 (by simp))
  have N0 := Lib.hid (M0.out.grownR g1 (by simp; omega))
  have V3 := Lib.hid (ownR_far V2.out g1 (by first | (simp; done) | (simp; omega)))
  have B3 := Lib.hid (below_grown B2.out g1 (Nat.le_refl _) (by simp; omega))
  clear g1 x2 y2 f2 M0 M1 M2 B2 V2
  generalize w2.setCell ⟨w.heap.size + 1 + 1, 2, none⟩ (.string M.rg) = w3 at *
  have x3 := N2.out.cell 3
  have y3 := N0.out.cell 3
  have f3 := N2.out.free 3
  go_upto_region 5 with fail
  have g1 := grow_cell w3 ⟨w.heap.size + 1 + 1, 3, none⟩ (.string M.pl)
  have P2 : Hid (Blk (w3.setCell ⟨w.heap.size + 1 + 1, 3, none⟩ (.string M.pl)) (w.heap.size + 1 + 1) 33 #[.slice A1 M.l.length c1, .string M.rf, .string M.rg, .string M.pl]) := N2.out.set 3 (.string M.pl)
  have P1 := Lib.hid (N1.out.grownR g1 (by simp))
  have V4 := Lib.hid (ownR_far V3.out g1 (by first | (simp; done) | (simp; omega)))
  have B4 := Lib.hid (below_grown B3.out g1 (Nat.le_refl _) (by simp; omega))
  clear g1 x3 y3 f3 N0 N1 N2 B3 V3
  generalize w3.setCell ⟨w.heap.size + 1 + 1, 3, none⟩ (.string M.pl) = w4 at *
  go_wp2_with (first | (refine wpList_load_row rfl 33 _ rfl (w.heap.size + 1 + 1) rfl 33 _ (0, 0) _ P2.out Try.underlying33 rfl info_mach ?_) | (refine wpList_store_row rfl 33 _ _ rfl (w.heap.size + 1) _ rfl rfl 33 _ P1.out info_mach rfl (by simp [Value.oneCell']) ?_))
  have g1 := grow_row w4 (w.heap.size + 1) #[.slice A1 M.l.length c1, .string M.rf, .string M.rg, .string M.pl]
  refine bodyPost_ret (results_cell4 Try.results15 _ _ (w.heap.size + 1) _ _ rfl (P1.out.setRow #[.slice A1 M.l.length c1, .string M.rf, .string M.rg, .string M.pl]) Try.underlying33 rfl info_mach) rfl ⟨A1, c1, rfl, ownR_low (ownR_far V4.out g1 (by omega)) (by omega), below_grown B4.out g1 (Nat.le_refl _) (by omega)⟩
/-- the digits of a number ahead of a word -/
def decS (m : Nat) (s : ByteArray) : ByteArray := if h : m = 0 then s else decS (m / 10) (strOfNums [48 + ((m % 10 : Nat) : Int)] ++ s)
termination_by m
decreasing_by omega
theorem decS_zero (s : ByteArray) : decS 0 s = s := by rw [decS]; rfl
theorem decS_pos {m : Nat} (h : m ≠ 0) (s : ByteArray) : decS m s = decS (m / 10) (strOfNums [48 + ((m % 10 : Nat) : Int)] ++ s) := by rw [decS, dif_neg h]
theorem decS_size : ∀ (n m : Nat) (s : ByteArray), m ≤ n → (decS m s).size ≤ s.size + m
  | 0, m, s, h => by rw [show m = 0 by omega, decS_zero]; omega
  | n + 1, m, s, h => by
    by_cases h0 : m = 0
    · subst h0; rw [decS_zero]; omega
    · rw [decS_pos h0]
      obtain ⟨T, hT⟩ : ∃ T, strOfNums [48 + ((m % 10 : Nat) : Int)] ++ s = T := ⟨_, rfl⟩
      have hz : T.size = 1 + s.size := by rw [← hT, ByteArray.size_append, strOfNums_size]; rfl
      rw [hT]
      have h1 := decS_size n (m / 10) T (by omega)
      omega
/-- the text of a mark -/
def mtS (m : Nat) : ByteArray := ⟨#[109]⟩ ++ decS m ⟨#[]⟩
theorem mtS_size (m : Nat) : (mtS m).size ≤ m + 1 := by
  unfold mtS; rw [ByteArray.size_append]
  have := decS_size m m ⟨#[]⟩ (Nat.le_refl _)
  have e : (⟨#[]⟩ : ByteArray).size = 0 := rfl
  have e2 : (⟨#[109]⟩ : ByteArray).size = 1 := rfl
  omega
set_option maxRecDepth 100000 in
theorem c_markText (m : Nat) (w : World) (h1 : 1 ≤ m) (hm : m ≤ 1000000000) : Calls Try.prog 73 #[.int .i64 m] w fun e w' => e = .returned (.string (mtS m)) ∧ Below w.heap.size w w' := by
  have hc := fun (w : World) (x : Int) => conv_one (P := Try.prog) w x 61 9 5 Try.underlying61 Try.underlying5 Try.underlying9
  have hms := mtS_size m
  go_enter Try.func73, Try.ntmps73
  go_wp2_with fail
  go_loopw [0, 3] (fun a x wr => ∃ (k : Nat) (s : ByteArray), a = .int .i64 k ∧ x = .string s ∧ decS k s = decS m ⟨#[]⟩ ∧ s.size + k ≤ m ∧ Below w.heap.size w wr) (fun a _ _ => (intOf a).toNat)
  case atStart => exact ⟨m, ⟨#[]⟩, rfl, rfl, rfl, by show 0 + m ≤ m; omega, Below.refl _ _⟩
  case round =>
    obtain ⟨k, s, rfl, rfl, hd, hsz, hbr⟩ := hrel
    have HD := Lib.hid hd
    have HBR := Lib.hid hbr
    clear hd hbr
    by_cases h0 : k = 0
    · subst h0
      have hs9 : ¬ 9223372036854775807 < 1 + s.size := by omega
      go_wp2_with fail
      go_ret
      exact ⟨by unfold mtS; rw [← HD.out, decS_zero]; rfl, HBR.out⟩
    · have i0 : (0 : Int) < k := by omega
      have HE := Lib.hid (decS_pos h0 s)
      have e1 : Int.tmod (k : Int) 10 = ((k % 10 : Nat) : Int) := by rw [Int.tmod_eq_emod_of_nonneg (by omega)]; omega
      have e2 : Int.tdiv (k : Int) 10 = ((k / 10 : Nat) : Int) := by rw [Int.tdiv_eq_ediv_of_nonneg (by omega)]; omega
      have e3 : (k : Int) % 10 = ((k % 10 : Nat) : Int) := by omega
      have e4 : (k : Int) / 10 = ((k / 10 : Nat) : Int) := by omega
      obtain ⟨d, hd⟩ : ∃ d, k % 10 = d := ⟨_, rfl⟩
      obtain ⟨q, hq⟩ : ∃ q, k / 10 = q := ⟨_, rfl⟩
      have hd10 : d < 10 := by omega
      have hqk : q < k := by omega
      rw [hd] at e1 e3 HE
      rw [hq] at e2 e4 HE
      have z1 := size_one9 (48 + (d : Int))
      have hs9 : ¬ 9223372036854775807 < 1 + s.size := by omega
      have HQ := Lib.hid hq
      clear hd hq
      go_wp2_with fail
      refine ⟨⟨q, _, by go_num, rfl, ?_, ?_, HBR.out.trans ((ext_alloc _ _).mono HBR.out.size)⟩, by simp [intOf]; omega⟩
      · rw [← HE.out]; exact HD.out
      · rw [ByteArray.size_append, z1]; omega
set_option maxRecDepth 100000 in
theorem c_markRotorS (A : Option Addr) (n c B m : Nat) (w : World) (hO : ∃ xs, w.ownsRow B 144 2 (.slice A n c) n xs) (h1 : 1 ≤ m) (hm : m ≤ 10000) (hn : n ≤ 1048576) : Calls Try.prog 119 #[.slice A n c, .int .i64 m] w fun e w' => e = .returned (.int .i64 ((m + 2 * n : Nat) : Int)) ∧ w.grownBy w' (Value.slice A n c).ownBlock := by
  have HO := Lib.hid hO
  clear hO
  go_enter Try.func119, Try.ntmps119
  go_wp2_with fail
  go_loopw [1, 5] (fun x i wr => ∃ k a : Nat, k ≤ n ∧ i = .int .i64 k ∧ x = .int .i64 (a : Int) ∧ a = m + 2 * k ∧ (∃ xs, wr.ownsRow B 144 2 (.slice A n c) n xs) ∧ w.grownBy wr (Value.slice A n c).ownBlock) (fun _ i _ => n - (intOf i).toNat)
  case atStart => exact ⟨0, m, Nat.zero_le _, rfl, rfl, rfl, HO.out, World.grownBy.refl _ _⟩
  case round =>
    clear HO
    obtain ⟨k, a, hk, rfl, rfl, ha, ⟨xs, hO⟩, hg⟩ := hrel
    have HA := Lib.hid ha
    by_cases hlt : k < n
    · obtain ⟨g, rfl⟩ : ∃ g, A = some ⟨g, 0, none⟩ := by
        rcases hO.2 with ⟨e, e2⟩ | ⟨g, cap, cur, e, _⟩
        · omega
        · injection e with e; exact ⟨g, e⟩
      have hxl : xs.length = n * 2 := hO.1
      have G := Lib.hid (show w.grownBy wr (some g) from hg)
      have O := Lib.hid hO
      have hc0 : wr.cell? ⟨g, k * 2, none⟩ = some (xs[k * 2]'(by omega)) := by rw [World.ownsRow.cellAt hO (k * 2) (by omega), List.getElem?_eq_getElem]
      have hf0 := World.ownsRow.frozenAt hO (k * 2)
      have i0 : (0 : Int) ≤ k := by omega
      have i1 : (k : Int) < n := by omega
      have ha1 : 1 ≤ a := by omega
      have ha2 : a ≤ 10000000 := by omega
      obtain ⟨a1, e1⟩ : ∃ a1, a + 1 = a1 := ⟨_, rfl⟩
      have E1 := Lib.hid e1
      have i2 : (a : Int) + 1 = (a1 : Int) := by omega
      have ha3 : 1 ≤ a1 := by omega
      have ha4 : a1 ≤ 10000001 := by omega
      have i3 : (a1 : Int) + 1 = ((a1 + 1 : Nat) : Int) := by omega
      have I3 := Lib.hid i3
      clear hO hg ha e1 i3
      go_wp2_with fail
      refine (c_markText a _ ha1 (by omega)).mono ?_
      rintro e w1 ⟨rfl, hb1⟩
      have G1 := Lib.hid (grown_ext G.out hb1)
      have O1 := Lib.hid (World.ownsRow.kept (row := none) O.out (grown_of hb1) (.inr (by simp [Value.ownBlock])))
      have hc1 : w1.cell? ⟨g, k * 2, none⟩ = some (xs[k * 2]'(by omega)) := by rw [World.ownsRow.cellAt O1.out (k * 2) (by omega), List.getElem?_eq_getElem]
      have hf1 := World.ownsRow.frozenAt O1.out (k * 2)
      clear hb1 hc0 hf0 O G
      go_upto_region 5 with fail
      have G2 := Lib.hid (grow_set G1.out (p := ⟨g, k * 2, none⟩) (.inl rfl) (.string (mtS a)))
      have O2 := Lib.hid (World.ownsRow.stored O1.out (k * 2) (.string (mtS a))).1
      clear G1 O1 hc1 hf1
      generalize w1.setCell ⟨g, k * 2, none⟩ (.string (mtS a)) = w2 at *
      obtain ⟨ys, hys⟩ : ∃ ys, xs.set (k * 2) (Value.string (mtS a)) = ys := ⟨_, rfl⟩
      rw [hys] at O2
      clear hys
      go_wp2_with fail
      refine (c_markText a1 _ ha3 (by omega)).mono ?_
      rintro e w3 ⟨rfl, hb3⟩
      have G3 := Lib.hid (grown_ext G2.out hb3)
      have O3 := Lib.hid (World.ownsRow.kept (row := none) O2.out (grown_of hb3) (.inr (by simp [Value.ownBlock])))
      have hyl : ys.length = n * 2 := O3.out.1
      have hc3 : w3.cell? ⟨g, k * 2 + 1, none⟩ = some (ys[k * 2 + 1]'(by omega)) := by rw [World.ownsRow.cellAt O3.out (k * 2 + 1) (by omega), List.getElem?_eq_getElem]
      have hf3 := World.ownsRow.frozenAt O3.out (k * 2 + 1)
      clear hb3 O2 G2
      go_upto_region 7 with fail
      have G4 := Lib.hid (grow_set G3.out (p := ⟨g, k * 2 + 1, none⟩) (.inl rfl) (.string (mtS a1)))
      have O4 := Lib.hid (World.ownsRow.stored O3.out (k * 2 + 1) (.string (mtS a1))).1
      clear G3 O3 hc3 hf3
      generalize w3.setCell ⟨g, k * 2 + 1, none⟩ (.string (mtS a1)) = w4 at *
      go_wp2_with fail
      exact ⟨⟨k + 1, a1 + 1, by omega, by go_num, by rw [← I3.out], by have := HA.out; have := E1.out; omega, ⟨_, O4.out⟩, G4.out⟩, by simp [intOf]; omega⟩
    · have e : k = n := by omega
      subst e
      go_wp2_with fail
      go_ret
      exact ⟨by rw [← HA.out]; rfl, hg⟩
theorem c_markWheels (A : Option Addr) (n c B m : Nat) (rf : ByteArray) (w : World) (hO : ∃ xs, w.ownsRow B 144 2 (.slice A n c) n xs) (h1 : 1 ≤ m) (hm : m ≤ 10000) (hn : n ≤ 1048576) : Calls Try.prog 72 #[.agg #[.slice A n c, .string rf], .int .i64 m] w fun e w' => e = .returned (.int .i64 ((m + 2 * n : Nat) : Int)) ∧ w.grownBy w' (Value.slice A n c).ownBlock := by
  obtain ⟨xs, hO⟩ := hO
  have K := Lib.hid (Blk.new w 31 #[.slice A n c, .string rf])
  have O1 := Lib.hid (World.ownsRow.alloc hO (.cells #[.slice A n c, .string rf] 31))
  have G1 := Lib.hid (grown_any (grown_of (ext_alloc w (.cells #[.slice A n c, .string rf] 31))) (Value.slice A n c).ownBlock)
  obtain ⟨q, hq⟩ : ∃ q, m + 2 * n = q := ⟨_, rfl⟩
  rw [hq]
  have HQ := Lib.hid hq
  clear hO hq
  go_enter Try.func72, Try.ntmps72
  have x0 := K.out.cell 0
  have x1 := K.out.cell 1
  go_wp2_with fail
  refine (c_markRotorS A n c B m _ ⟨xs, O1.out⟩ h1 hm hn).mono ?_
  rintro e w2 ⟨rfl, hg2⟩
  have G2 := Lib.hid (G1.out.trans hg2)
  rw [HQ.out]
  clear hg2 x0 x1 K O1 G1
  go_wp2_with fail
  go_ret
  exact ⟨rfl, G2.out⟩
theorem c_markMachine (A : Option Addr) (cA B m : Nat) (M : Mch) (w : World) (hO : ∃ xs, w.ownsRow B 144 2 (.slice A M.l.length cA) M.l.length xs) (h1 : 1 ≤ m) (hm : m ≤ 10000) (hn : M.l.length ≤ 1048576) : Calls Try.prog 29 #[mV A cA M, .int .i64 m] w fun e w' => e = .returned (.int .i64 ((m + 2 * M.l.length : Nat) : Int)) ∧ w.grownBy w' (Value.slice A M.l.length cA).ownBlock := by
  obtain ⟨xs, hO⟩ := hO
  have K := Lib.hid (Blk.new w 33 #[.slice A M.l.length cA, .string M.rf, .string M.rg, .string M.pl])
  have O1 := Lib.hid (World.ownsRow.alloc hO (.cells #[.slice A M.l.length cA, .string M.rf, .string M.rg, .string M.pl] 33))
  have G1 := Lib.hid (grown_any (grown_of (ext_alloc w (.cells #[.slice A M.l.length cA, .string M.rf, .string M.rg, .string M.pl] 33))) (Value.slice A M.l.length cA).ownBlock)
  obtain ⟨q, hq⟩ : ∃ q, m + 2 * M.l.length = q := ⟨_, rfl⟩
  rw [hq]
  have HQ := Lib.hid hq
  clear hO hq
  go_enter Try.func29, Try.ntmps29
  have x0 := K.out.cell 0
  have x1 := K.out.cell 1
  go_wp2_with fail
  refine (c_markWheels A M.l.length cA B m M.rf _ ⟨xs, O1.out⟩ h1 hm hn).mono ?_
  rintro e w2 ⟨rfl, hg2⟩
  have G2 := Lib.hid (G1.out.trans hg2)
  rw [HQ.out]
  clear hg2 x0 x1 K O1 G1
  go_wp2_with fail
  go_ret
  exact ⟨rfl, G2.out⟩
/-- n marks from m on -/
def mkL (m n : Nat) : List ByteArray := (List.range n).map (fun i => mtS (m + i))
theorem mkL_len (m n : Nat) : (mkL m n).length = n := by simp [mkL]
theorem mkL_at (m : Nat) {n i : Nat} (hi : i < n) : gS (mkL m n) i = mtS (m + i) := by
  unfold gS mkL; rw [List.getD_eq_getElem?_getD, List.getElem?_map, List.getElem?_range hi]; rfl
theorem mkL_small (m n k : Nat) (hm : m + n ≤ 1000000000) (hk : k < (mkL m n).length) : (gS (mkL m n) k).size ≤ 9223372036854775807 := by
  rw [mkL_len] at hk
  rw [mkL_at m hk]
  have := mtS_size (m + k)
  omega
set_option maxRecDepth 100000 in
theorem c_markStringS (v : Value) (n B m : Nat) (w : World) (hO : ∃ xs, xs.length = n ∧ Own w B 9 v xs) (h1 : 1 ≤ m) (hm : m ≤ 10000) (hn : n ≤ 1048576) : Calls Try.prog 30 #[v, .int .i64 m] w fun e w' => e = .returned (.int .i64 ((m + n : Nat) : Int)) ∧ IsStrs w' v (mkL m n) ∧ w.grownBy w' v.ownBlock := by
  obtain ⟨zs, hzl, hO⟩ := hO
  obtain ⟨A, c, rfl⟩ := hO.slice
  rw [hzl] at hO ⊢
  have HO := Lib.hid hO
  clear hO
  go_enter Try.func30, Try.ntmps30
  go_wp2_with fail
  go_loopw [1, 5] (fun x i wr => ∃ k a : Nat, k ≤ n ∧ i = .int .i64 k ∧ x = .int .i64 (a : Int) ∧ a = m + k ∧ (∃ xs, xs.length = n ∧ Own wr B 9 (.slice A n c) xs ∧ ∀ i, i < k → xs[i]? = some (.string (mtS (m + i)))) ∧ w.grownBy wr (Value.slice A n c).ownBlock) (fun _ i _ => n - (intOf i).toNat)
  case atStart => exact ⟨0, m, Nat.zero_le _, rfl, rfl, rfl, ⟨zs, hzl, HO.out, fun i hi => by omega⟩, World.grownBy.refl _ _⟩
  case round =>
    clear HO
    obtain ⟨k, a, hk, rfl, rfl, ha, ⟨xs, hxl, hO, hX⟩, hg⟩ := hrel
    have HA := Lib.hid ha
    have HX : Hid (∀ i, i < k → xs[i]? = some (.string (mtS (m + i)))) := hX
    have HXL := Lib.hid hxl
    clear hX
    by_cases hlt : k < n
    · obtain ⟨g, rfl⟩ : ∃ g, A = some ⟨g, 0, none⟩ := by
        rcases hO.2 with ⟨e, e2⟩ | ⟨g, cap, cur, e, _⟩
        · omega
        · injection e with e; exact ⟨g, e⟩
      have G := Lib.hid (show w.grownBy wr (some g) from hg)
      have O := Lib.hid hO
      have i0 : (0 : Int) ≤ k := by omega
      have i1 : (k : Int) < n := by omega
      have ha1 : 1 ≤ a := by omega
      have ha2 : a ≤ 10000000 := by omega
      have i3 : (a : Int) + 1 = ((a + 1 : Nat) : Int) := by omega
      have I3 := Lib.hid i3
      clear hO hg ha i3 hxl
      go_wp2_with fail
      refine (c_markText a _ ha1 (by omega)).mono ?_
      rintro e w1 ⟨rfl, hb1⟩
      have G1 := Lib.hid (grown_ext G.out hb1)
      have O1 := Lib.hid (O.out.ext hb1)
      have hxl2 := HXL.out
      have hc1 : w1.cell? ⟨g, k, none⟩ = some (xs[k]'(by omega)) := O1.out.cellAt (by rw [List.getElem?_eq_getElem])
      have hf1 := O1.out.free hxl2.symm k
      clear hb1 O G
      go_wp2_with fail
      have G2 := Lib.hid (grow_set G1.out (p := ⟨g, k, none⟩) (.inl rfl) (.string (mtS a)))
      have O2 := Lib.hid (O1.out.stored HXL.out.symm k (.string (mtS a)))
      refine ⟨⟨k + 1, a + 1, by omega, by go_num, by rw [← I3.out], by have := HA.out; omega, ⟨_, by rw [List.length_set]; exact HXL.out, O2.out, fun i hi => ?_⟩, G2.out⟩, by simp [intOf]; omega⟩
      rw [List.getElem?_set]
      have hxl := HXL.out
      by_cases e : k = i
      · subst e
        rw [if_pos rfl, if_pos (by omega), HA.out]
      · rw [if_neg e]
        exact HX.out i (by omega)
    · have e : k = n := by omega
      subst e
      have hS : IsStrs wr (.slice A k c) (mkL m k) := by
        have e : xs = (mkL m k).map .string := by
          apply List.ext_getElem?
          intro i
          by_cases hi : i < k
          · rw [HX.out i hi, List.getElem?_map]
            unfold mkL
            rw [List.getElem?_map, List.getElem?_range hi]
            rfl
          · rw [List.getElem?_eq_none (by rw [hxl]; omega), List.getElem?_eq_none (by rw [List.length_map, mkL_len]; omega)]
        rw [e] at hO
        exact hO.strs (by rw [mkL_len]; omega) (mkL_small m k · (by omega))
      have HS := Lib.hid hS
      have HG := Lib.hid hg
      clear hO hS hg hxl
      go_wp2_with fail
      go_ret
      exact ⟨by rw [← HA.out]; rfl, HS.out, HG.out⟩
set_option maxRecDepth 100000 in
theorem c_heldStringS (v : Value) (n m : Nat) (w : World) (hS : IsStrs w v (mkL m n)) (h1 : 1 ≤ m) (hm : m ≤ 10000) (hn : n ≤ 1048576) : Calls Try.prog 31 #[v, .int .i64 m] w fun e w' => e = .returned (.int .i64 ((m + n : Nat) : Int)) ∧ Below w.heap.size w w' := by
  obtain ⟨A, c, rfl⟩ := hS.form
  rw [mkL_len] at hS ⊢
  have HS := Lib.hid hS
  clear hS
  go_enter Try.func31, Try.ntmps31
  go_wp2_with fail
  go_loopw [1, 5] (fun x i wr => ∃ k a : Nat, k ≤ n ∧ i = .int .i64 k ∧ x = .int .i64 (a : Int) ∧ a = m + k ∧ IsStrs wr (.slice A n c) (mkL m n) ∧ Below w.heap.size w wr) (fun _ i _ => n - (intOf i).toNat)
  case atStart => exact ⟨0, m, Nat.zero_le _, rfl, rfl, rfl, HS.out, Below.refl _ _⟩
  case round =>
    clear HS
    obtain ⟨k, a, hk, rfl, rfl, ha, hS, hb⟩ := hrel
    have HA := Lib.hid ha
    have S := Lib.hid hS
    have B := Lib.hid hb
    by_cases hlt : k < n
    · obtain ⟨g, o, rfl, hbl, hc⟩ := hS.at_ (k := k) (by rw [mkL_len]; exact hlt)
      rw [mkL_at m hlt, ← ha] at hc
      have i0 : (0 : Int) ≤ k := by omega
      have i1 : (k : Int) < n := by omega
      have ha1 : 1 ≤ a := by omega
      have ha2 : a ≤ 10000000 := by omega
      have i3 : (a : Int) + 1 = ((a + 1 : Nat) : Int) := by omega
      have I3 := Lib.hid i3
      obtain ⟨t, ht⟩ : ∃ t, mtS a = t := ⟨_, rfl⟩
      rw [ht] at hc
      have HT := Lib.hid ht
      clear hS hb ha i3 ht
      go_wp2_with fail
      refine wp_region_ext (by kernel_rfl) (by kernel_rfl) ?_
      repeat (go_big_quiet_step ((go_at_call 73; exact Ext.callv _ (c_markText a _ ha1 (by omega)) (congrArg Value.string HT.out))))
      refine wpQuiet_nil ?_
      rintro _ ⟨⟨w6, hb6⟩, rfl⟩
      have S6 := Lib.hid (S.out.ext hb6)
      have B6 := Lib.hid (ext_trans B.out hb6)
      clear hb6
      go_wp2_with fail
      exact ⟨⟨k + 1, a + 1, by omega, by go_num, by rw [← I3.out], by have := HA.out; omega, S6.out, B6.out⟩, by simp [intOf]; omega⟩
    · have e : k = n := by omega
      subst e
      go_wp2_with fail
      go_ret
      exact ⟨by rw [← HA.out]; rfl, B.out⟩
end Go.Proofs.Ytnfeddnkokocfaa
