/- The walks of the laws on pin wheels: each returns true. -/
import Derived.Test.YtomgkpiogbmfgaaPinPlain
namespace Go.Proofs.Ytomgkpiogbmfgaa
open Go.RowKit

set_option maxHeartbeats 1000000 in
theorem walk_FnPinSum (a0 : Option Addr) (len0 cap0 : Nat) (z0 : List Int) (w : World) (w0 : IsRowB w a0 len0 cap0 z0) :
    Calls Try.prog 7 #[.slice a0 len0 cap0] w fun e w' => e = .returned (.bool true) ∧ Below w.heap.size w w' := by
  by_cases hl : 1048576 < len0
  · clear w0
    go_enter Try.func7, Try.ntmps7
    go_wp2_with fail
    go_ret
    exact ⟨rfl, Below.refl _ _⟩
  · have HC := Lib.hid (code_of w0 (by omega))
    clear w0
    go_enter Try.func7, Try.ntmps7
    go_wp2_with fail
    refine (c_DrawPinEncipher a0 len0 cap0 _ HC.out).mono ?_
    rintro e w1 ⟨vW, vB, vP, ws, bs, ps, s, rfl, iW, iB, iP, hs, hb1⟩
    obtain ⟨AW, cW, hvW⟩ := iW.form
    obtain ⟨AB, cB, hvB⟩ := iB.form
    have hb2 := ext_trans hb1 (ext_alloc w1 (.cells #[vW, vB] 26))
    have IW := Lib.hid (iW.ext (ext_alloc w1 (.cells #[vW, vB] 26)))
    have IB := Lib.hid (iB.ext (ext_alloc w1 (.cells #[vW, vB] 26)))
    have IP := Lib.hid (iP.ext (ext_alloc w1 (.cells #[vW, vB] 26)))
    have K := Lib.hid (Blk.new w1 26 #[vW, vB])
    have B2 := Lib.hid hb2
    subst hvW hvB
    clear iW iB iP hb1 hb2 HC
    go_wp2_with fail
    refine (c_PinEncipher _ _ _ ws bs ps s _ IW.out IB.out IP.out (by omega)).mono ?_
    rintro e w3 ⟨rfl, hb3⟩
    have IW3 := Lib.hid (IW.out.ext hb3)
    have IB3 := Lib.hid (IB.out.ext hb3)
    have IP3 := Lib.hid (IP.out.ext hb3)
    have K3 := Lib.hid (K.out.ext hb3)
    have B3 := Lib.hid (ext_trans B2.out hb3)
    clear hb3 IW IB IP K B2
    have x0 : w3.cell? ⟨w1.heap.size, 0, none⟩ = some (.slice AW ws.length cW) := K3.out.cell 0
    have x1 : w3.cell? ⟨w1.heap.size, 1, none⟩ = some (.slice AB bs.length cB) := K3.out.cell 1
    cases hk : encOk ws bs ps s with
    | false =>
      have HK := Lib.hid hk
      rw [encR_non hk]
      clear hk
      go_wp2_with fail
      refine (c_specPinEncipher _ _ _ ws bs ps s _ IW3.out IB3.out IP3.out (by omega)).mono ?_
      rintro e w4 ⟨rfl, hb4⟩
      rw [encR_non HK.out]
      have B4 := Lib.hid (ext_trans B3.out hb4)
      clear hb4
      go_wp2_with fail
      go_ret
      exact ⟨rfl, B4.out⟩
    | true =>
      have HK := Lib.hid hk
      rw [encR_yes hk]
      clear hk
      go_wp2_with fail
      refine (c_specPinEncipher _ _ _ ws bs ps s _ IW3.out IB3.out IP3.out (by omega)).mono ?_
      rintro e w4 ⟨rfl, hb4⟩
      rw [encR_yes HK.out]
      have IW4 := Lib.hid (IW3.out.ext hb4)
      have IB4 := Lib.hid (IB3.out.ext hb4)
      have IP4 := Lib.hid (IP3.out.ext hb4)
      have K4 := Lib.hid (K3.out.ext hb4)
      have B4 := Lib.hid (ext_trans B3.out hb4)
      have y0 : w4.cell? ⟨w1.heap.size, 0, none⟩ = some (.slice AW ws.length cW) := K4.out.cell 0
      have y1 : w4.cell? ⟨w1.heap.size, 1, none⟩ = some (.slice AB bs.length cB) := K4.out.cell 1
      clear hb4
      go_wp2_with fail
      refine (c_PinKey _ _ _ ws bs ps s.size _ IW4.out IB4.out IP4.out).mono ?_
      rintro e w5 ⟨rfl, hb5⟩
      rw [keyR_ok (key_ok HK.out), Int.toNat_natCast]
      have B5 := Lib.hid (ext_trans B4.out hb5)
      clear hb5
      go_wp2_with fail
      refine (c_AddWords _ _ _ (by rw [encS_size]; omega) (by omega)).mono ?_
      rintro e w6 ⟨rfl, hb6⟩
      rw [mixR_ok (sum_ok HK.out), sum_key HK.out]
      have B6 := Lib.hid (ext_trans B5.out hb6)
      clear hb6
      go_wp2_with fail
      go_ret
      exact ⟨rfl, B6.out⟩
end Go.Proofs.Ytomgkpiogbmfgaa
