/- Contracts of PlugsValid, MachineValid, settingValid, offsets (impl). -/
import Derived.Test.YtnfeddnkokocfaaPermMore
import Derived.Test.YtnfeddnkokocfaaKitS
namespace Go.Proofs.Ytnfeddnkokocfaa
set_option linter.unusedVariables false
set_option linter.unusedSimpArgs false
open Go.RowKit
attribute [local go_sem] Ext.cell
open BigFrame

/-- the sizes of a machine's strings -/
def MSz (M : Mch) : Prop := M.rf.size ≤ 9223372036854775807 ∧ M.rg.size ≤ 9223372036854775807 ∧ M.pl.size ≤ 9223372036854775807
/-- a machine as a value -/
abbrev mV (A : Option Addr) (cA : Nat) (M : Mch) : Value := .agg #[.slice A M.l.length cA, .string M.rf, .string M.rg, .string M.pl]
/-- a machine lies in block b -/
structure MW (w : World) (b : Nat) (A : Option Addr) (cA : Nat) (M : Mch) (W : World) : Prop where
  c0 : W.cell? ⟨b, 0, none⟩ = some (.slice A M.l.length cA)
  c1 : W.cell? ⟨b, 1, none⟩ = some (.string M.rf)
  c2 : W.cell? ⟨b, 2, none⟩ = some (.string M.rg)
  c3 : W.cell? ⟨b, 3, none⟩ = some (.string M.pl)
  lt : b < W.heap.size
  rot : IsRots W (.slice A M.l.length cA) M.l
  bel : Below w.heap.size w W
theorem MW.start {w w1 : World} {A : Option Addr} {cA : Nat} (M : Mch) (hb : Below w.heap.size w w1) (hR : IsRots w1 (.slice A M.l.length cA) M.l) :
    MW w w1.heap.size A cA M (w1.alloc (.cells #[.slice A M.l.length cA, .string M.rf, .string M.rg, .string M.pl] 33)) :=
  ⟨(Blk.new w1 _ _).cell 0, (Blk.new w1 _ _).cell 1, (Blk.new w1 _ _).cell 2, (Blk.new w1 _ _).cell 3, by simp, hR.ext (ext_alloc _ _), ext_trans hb (ext_alloc _ _)⟩
theorem MW.ext {w W W' : World} {b : Nat} {A : Option Addr} {cA : Nat} {M : Mch} (h : MW w b A cA M W) (hb : Below W.heap.size W W') : MW w b A cA M W' :=
  ⟨(hb.cell (p := ⟨b, 0, none⟩) h.lt).trans h.c0, (hb.cell (p := ⟨b, 1, none⟩) h.lt).trans h.c1, (hb.cell (p := ⟨b, 2, none⟩) h.lt).trans h.c2, (hb.cell (p := ⟨b, 3, none⟩) h.lt).trans h.c3, Nat.lt_of_lt_of_le h.lt hb.size, h.rot.ext hb, ext_trans h.bel hb⟩

theorem c_PlugsValid (p : ByteArray) (w : World) (hs : p.size ≤ 9223372036854775807) : Calls Try.prog 111 #[.string p] w fun e w' => e = .returned (.bool (plugB p)) ∧ Below w.heap.size w w' := by
  go_enter Try.func111, Try.ntmps111
  go_wp2_with fail
  refine (c_plugsOf p _ hs).mono ?_
  rintro e w1 ⟨rfl, hb1⟩
  have B1 := Lib.hid hb1
  unfold plugR
  clear hb1
  go_wp2_with (refine wpList_store_row rfl 85 _ _ rfl w1.heap.size _ rfl rfl 85 _ (heap_alloc_new w1 _) (by rw [permA_size]; exact size_perm) (by simp only [permA_size]; rfl) (permA_one _) ?_; rw [World.setRow_alloc_new])
  all_goals
    go_ret
    exact ⟨rfl, ext_trans B1.out (ext_alloc _ _)⟩
theorem c_MachineValid (A : Option Addr) (cA : Nat) (M : Mch) (w : World) (hR : IsRots w (.slice A M.l.length cA) M.l) (hz : MSz M) : Calls Try.prog 61 #[mV A cA M] w fun e w' => e = .returned (.bool (mB M)) ∧ Below w.heap.size w w' := by
  have L0 := Lib.hid (MW.start M (Below.refl _ _) hR)
  have HZ := Lib.hid hz
  clear hR hz
  go_enter Try.func61, Try.ntmps61
  go_wp2_with fail
  refine (c_windowsValid _ M.l M.rf M.rg _ L0.out.rot HZ.out.1 HZ.out.2.1).mono ?_
  rintro e w1 ⟨rfl, hb1⟩
  have L1 := Lib.hid (L0.out.ext hb1)
  have x3 := L1.out.c3
  clear hb1 L0
  cases h1 : winB M.l M.rf M.rg with
  | false =>
    have HE : Hid (mB M = false) := by show mB M = false; unfold mB; rw [h1]; rfl
    clear h1
    go_wp2_with fail
    go_ret
    exact ⟨by rw [HE.out]; rfl, L1.out.bel⟩
  | true =>
    have HE : Hid (mB M = plugB M.pl) := by show mB M = _; unfold mB; rw [h1]; rfl
    clear h1
    go_wp2_with fail
    refine (c_PlugsValid M.pl _ HZ.out.2.2).mono ?_
    rintro e w2 ⟨rfl, hb2⟩
    have L2 := Lib.hid (L1.out.ext hb2)
    clear hb2 x3
    go_wp2_with fail
    go_ret
    exact ⟨by rw [HE.out]; rfl, L2.out.bel⟩
theorem setB_cases (M : Mch) (s : ByteArray) : (mB M = false ∧ setB M s = false) ∨ (mB M = true ∧ s.size ≠ M.rg.size ∧ setB M s = false) ∨ (mB M = true ∧ s.size = M.rg.size ∧ setB M s = wv s) := by
  unfold setB
  cases h1 : mB M
  · left; exact ⟨rfl, rfl⟩
  · right
    by_cases h2 : s.size = M.rg.size
    · right; exact ⟨rfl, h2, by rw [decide_eq_true h2]; simp⟩
    · left; exact ⟨rfl, h2, by rw [decide_eq_false h2]; simp⟩
set_option maxHeartbeats 400000 in
theorem c_settingValid (A : Option Addr) (cA : Nat) (M : Mch) (s : ByteArray) (w : World) (hR : IsRots w (.slice A M.l.length cA) M.l) (hz : MSz M) (hs : s.size ≤ 9223372036854775807) : Calls Try.prog 56 #[mV A cA M, .string s] w fun e w' => e = .returned (.bool (setB M s)) ∧ Below w.heap.size w w' := by
  have L0 := Lib.hid (MW.start M (Below.refl _ _) hR)
  have HZ := Lib.hid hz
  have hz1 := hz.2.1
  clear hR hz
  go_enter Try.func56, Try.ntmps56
  go_wp2_with fail
  refine (c_MachineValid A cA M _ L0.out.rot HZ.out).mono ?_
  rintro e w1 ⟨rfl, hb1⟩
  have L1 := Lib.hid (L0.out.ext hb1)
  have x2 := L1.out.c2
  clear hb1 L0
  rcases setB_cases M s with ⟨h1, hr⟩ | ⟨h1, h2, hr⟩ | ⟨h1, h2, hr⟩
  · rw [h1]
    have HR := Lib.hid hr
    clear h1 hr
    go_wp2_with fail
    go_ret
    exact ⟨by rw [HR.out]; rfl, L1.out.bel⟩
  · rw [h1]
    have HR := Lib.hid hr
    have t1 : ((s.size : Int) == (M.rg.size : Int)) = false := by rw [beq_eq_false_iff_ne]; omega
    clear h1 hr h2
    go_wp2_with fail
    go_ret
    exact ⟨by rw [HR.out]; rfl, L1.out.bel⟩
  · rw [h1]
    have HR := Lib.hid hr
    have t1 : ((s.size : Int) == (M.rg.size : Int)) = true := by rw [beq_iff_eq]; omega
    clear h1 hr h2
    go_wp2_with (go_at_call 43; refine (c_WordValid _ _ (by omega)).mono ?_; rintro e w' ⟨rfl, rfl⟩)
    go_ret
    exact ⟨by rw [HR.out]; rfl, L1.out.bel⟩
end Go.Proofs.Ytnfeddnkokocfaa
