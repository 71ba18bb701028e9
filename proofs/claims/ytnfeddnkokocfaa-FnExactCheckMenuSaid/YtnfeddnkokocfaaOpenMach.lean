/- Arguments that came in, opened: machines. -/
import Derived.Test.YtnfeddnkokocfaaOpenWheels
import Derived.Test.YtnfeddnkokocfaaMachine
import Derived.Lib.SmallJoins
namespace Go.Proofs.Ytnfeddnkokocfaa
set_option linter.unusedVariables false
set_option linter.unusedSimpArgs false
open Go.RowKit Go.ChangeShapes Go.WideShapes Go.Joins Go.Deep

/-- a machine that came in -/
def IsMachine (w : World) (v : Value) (M : Mch) : Prop := ∃ A c, v = mV A c M ∧ IsRots w (.slice A M.l.length c) M.l ∧ MSz M
section
variable {H : Type} {enc : TypeId × Value → H} {P : Program} {w : World} {base : Nat} {spare : Nat → Bool} {held : Bool}
theorem trod_strA {t : TypeId} {fuel : Nat} {v : Value} {x : DataW H × List MemPlace} (ht : P.underlying t = some .string) (h : DataW.trod enc P w base spare held fuel t [v] = some x) : ∃ s : ByteArray, v = .string s ∧ s.size ≤ 9223372036854775807 := by
  obtain ⟨s, hs, _, hz⟩ := DataW.trod_string ht h
  injection hs with hs
  exact ⟨s, hs, by unfold maxLen at hz; omega⟩
set_option maxRecDepth 100000 in
theorem openK_machine {r : Reach} {b0 : Nat} {v : Value} {d : DataW H} {p : List MemPlace} (hv : Value.okWide Try.prog w r b0 26 v) (h : DataW.Trod enc Try.prog w base spare held 26 v d p) :
    ∃ x, IsMachine w v x := by
  obtain ⟨cs, rfl, hsz⟩ := okWide_struct Try.underlying26 hv
  have hc4 : Try.prog.cellsOf 26 = 4 := by kernel_rfl
  obtain ⟨c0, c1, c2, c3, rfl⟩ := array4 (hsz.trans hc4)
  obtain ⟨fuel, hf⟩ := h
  obtain ⟨y0, y1, y2, n, hx, _, h0, h1, h2⟩ := trod_struct3 Try.underlying26 hf
  have k0 : Try.prog.cellsOf 24 = 2 := by kernel_rfl
  have k1 : Try.prog.cellsOf 9 = 1 := by kernel_rfl
  have k2 : Try.prog.cellsOf 22 = 1 := by kernel_rfl
  simp [Value.cells, k0, k1] at h0 h1 h2
  obtain ⟨z0, z1, n', _, _, g0, g1⟩ := trod_struct2 Try.underlying24 h0
  simp [k1, k2] at g0 g1
  obtain ⟨l, A, c, rfl, hl⟩ := open_rotsA Try.underlying22 Try.underlying161 (by kernel_rfl) rfl rfl (by kernel_rfl) (by kernel_rfl) Try.underlying9 Try.underlying9 g0
  obtain ⟨s1, rfl, q1⟩ := trod_strA Try.underlying9 g1
  obtain ⟨s2, rfl, q2⟩ := trod_strA Try.underlying9 h1
  obtain ⟨s3, rfl, q3⟩ := trod_strA Try.underlying9 h2
  exact ⟨⟨l, s1, s2, s3⟩, A, c, rfl, hl, q1, q2, q3⟩
end
end Go.Proofs.Ytnfeddnkokocfaa
