/- rcTexts of two lists that are one. -/
import Derived.Test.YthelcpfcamidiaaGreatKitA
namespace Go.Proofs.YthelcpfcamidiaaGreat
set_option linter.unusedVariables false
set_option linter.unusedSimpArgs false
open Go.RowKit

theorem c_rcTexts (v v' : Value) (l : List ByteArray) (w : World) (hl : IsStrs w v l) (hl' : IsStrs w v' l) :
    Calls Tryz.prog 31 #[v, v'] w fun e w' => e = .returned (.bool true) ∧ Below w.heap.size w w' := by
  have HL := Lib.hid hl
  have HL' := Lib.hid hl'
  have hll := hl.len_le
  obtain ⟨A, c, rfl⟩ := hl.form
  obtain ⟨A', c', rfl⟩ := hl'.form
  clear hl hl'
  go_enter Tryz.func31, Tryz.ntmps31
  go_wp2_with fail
  go_loopw [5] (fun i wr => ∃ k : Nat, k ≤ l.length ∧ i = .int .i64 k ∧ Below w.heap.size w wr) (fun i _ => l.length - (intOf i).toNat)
  case atStart => exact ⟨0, Nat.zero_le _, rfl, Below.refl _ _⟩
  case round =>
    obtain ⟨k, hk, rfl, hbr⟩ := hrel
    have HBR := Lib.hid hbr
    clear hbr
    by_cases hlt : k < l.length
    · obtain ⟨b, o, rfl, hb, hc⟩ := (HL.out.ext HBR.out).at_ hlt
      obtain ⟨b', o', rfl, hb', hc'⟩ := (HL'.out.ext HBR.out).at_ hlt
      have i1 : (0 : Int) ≤ k := by omega
      have i2 : (k : Int) < l.length := by omega
      go_wp2_with fail
      go_quiet (fail)
      go_wp2_with fail
      exact ⟨⟨k + 1, by omega, by go_num, below_drewN HBR.out _⟩, by simp [intOf]; omega⟩
    · go_wp2_with fail
      go_ret
      exact ⟨rfl, HBR.out⟩
end Go.Proofs.YthelcpfcamidiaaGreat
