/- IdentityPerm, ConjugatePerm, rcRenamed, rcBare, rcProducts; a machine without pairs. -/
import Derived.Test.YthelcpfcamidiaaGreatRepFns
import Derived.Test.YthelcpfcamidiaaGreatDrawM
import Derived.Test.YthelcpfcamidiaaGreatQT
namespace Go.Proofs.YthelcpfcamidiaaGreat
set_option linter.unusedVariables false
set_option linter.unusedSimpArgs false
open Go.RowKit
attribute [local go_sem] Ext.cell
open BigFrame

/-- the machine with other pairs -/
def plM (M : Mch) (p : ByteArray) : Mch := { M with pl := p }
def bareM (M : Mch) : Mch := plM M (pS (fun i => i))
theorem plugB_id : plugB (pS (fun i => i)) = true := by
  rw [plugB_iff]
  refine ⟨pS_perm IsP.id, fun i hi => ?_⟩
  rw [pn_pS IsP.id hi, pn_pS IsP.id hi]
theorem mB_pl {M : Mch} {p : ByteArray} (h : mB M = true) (hp : plugB p = true) : mB (plM M p) = true := (mB_iff _).2 ⟨((mB_iff M).1 h).1, hp⟩
theorem setB_pl {M : Mch} {p s : ByteArray} (h : mB M = true) (hp : plugB p = true) : setB (plM M p) s = setB M s := by
  unfold setB; rw [h, mB_pl h hp]; rfl
theorem fix_pl {M : Mch} {p : ByteArray} (s : ByteArray) (h : mB M = true) (hp : plugB p = true) (i : Nat) : fixB (prF (plM M p) s i) = fixB (prF M s i) := by
  rw [fix_bare s h i, fix_bare s (mB_pl h hp) i]; rfl
theorem repB_pl {M : Mch} {p : ByteArray} (s : ByteArray) (n : Int) (h : mB M = true) (hp : plugB p = true) : repB (plM M p) s n = repB M s n := by
  unfold repB; rw [setB_pl h hp, fix_pl s h hp]
theorem ren_bare {M : Mch} (s : ByteArray) (h : mB M = true) (i : Nat) : pS (fun x => pn M.pl (prF (bareM M) s i (invF (pn M.pl) x))) = pS (prF M s i) := by
  obtain ⟨p, q⟩ := plug_facts h
  refine pS_congr fun x hx => ?_
  rw [invF_invol p q hx, prF_bare s h i hx]
  show pn M.pl (prF (plM M (pS fun i => i)) s i (pn M.pl x)) = _
  rw [prF_bare s (mB_pl h plugB_id) i (p.1 x hx)]
  show pn M.pl (pn (pS fun i => i) (bareF M s i (pn (pS fun i => i) (pn M.pl x)))) = _
  rw [pn_pS IsP.id (p.1 x hx)]
  have hb : bareF M s i (pn M.pl x) < 10 := (turnT_P _ h).1 _ ((turnT_P _ h).1 _ (p.1 x hx))
  rw [pn_pS IsP.id hb]
theorem c_IdentityPerm (w : World) : Calls Tryz.prog 72 #[] w fun e w' => e = .returned (.string (pS (fun i => i))) ∧ Below w.heap.size w w' := by
  go_enter Tryz.func72, Tryz.ntmps72
  go_wp2_with fail
  refine (c_identity _).mono ?_
  rintro e w1 ⟨rfl, hb1⟩
  have B1 := Lib.hid hb1
  clear hb1
  go_wp2_with fail
  refine (c_String (fun i => i) _ (fun i hi => hi)).mono ?_
  rintro e w2 ⟨rfl, hb2⟩
  have B2 := Lib.hid (ext_trans B1.out hb2)
  clear hb2
  go_wp2_with fail
  go_ret
  exact ⟨rfl, B2.out⟩
/-- a word renamed by a permutation -/
noncomputable def renS (a p : ByteArray) : ByteArray := pS (fun x => pn p (pn a (invF (pn p) x)))
theorem renS_of {f : Nat → Nat} (hf : IsP f) {p : ByteArray} (hp : permB p = true) : renS (pS f) p = pS (fun x => pn p (f (invF (pn p) x))) :=
  pS_congr fun x hx => by rw [pn_pS hf ((isP_pn hp).inv.1 x hx)]
set_option maxHeartbeats 1000000 in
set_option maxRecDepth 100000 in
theorem c_ConjugatePerm (a p : ByteArray) (w : World) (ha : permB a = true) (hp : permB p = true) : Calls Tryz.prog 73 #[.string a, .string p] w fun e w' => e = .returned (.tuple #[.string (renS a p), .bool true]) ∧ Below w.heap.size w w' := by
  have HA := Lib.hid ha
  have HP := Lib.hid hp
  have hza : a.size ≤ 10 := by rw [permB_size ha]; omega
  have hzp : p.size ≤ 10 := by rw [permB_size hp]; omega
  clear ha hp
  go_enter Tryz.func73, Tryz.ntmps73
  go_wp2_with fail
  refine (c_permOf a _ (by omega)).mono ?_
  rintro e w1 ⟨rfl, hb1⟩
  rw [permR_ok HA.out]
  have N2 := Lib.hid (Blk.new w1 63 (permA fun i => (pn a i : Int)))
  have B2 := Lib.hid (ext_trans hb1 (ext_alloc w1 (.cells (permA fun i => (pn a i : Int)) 63)))
  have hlo1 := hb1.size
  clear hb1
  go_wp2_with (refine wpList_store_row rfl 63 _ _ rfl w1.heap.size _ rfl rfl 63 _ (heap_alloc_new w1 _) (by rw [permA_size]; exact size_perm) (by simp only [permA_size]; rfl) (permA_one _) ?_; rw [World.setRow_alloc_new])
  refine (c_permOf p _ (by omega)).mono ?_
  rintro e w3 ⟨rfl, hb3⟩
  rw [permR_ok HP.out]
  have K4 := Lib.hid ((N2.out.ext hb3).alloc (.cells (permA fun i => (pn p i : Int)) 63))
  have N4 := Lib.hid (Blk.new w3 63 (permA fun i => (pn p i : Int)))
  have B4 := Lib.hid (ext_trans (ext_trans B2.out hb3) (ext_alloc w3 (.cells (permA fun i => (pn p i : Int)) 63)))
  clear hb3 N2 B2 hlo1
  go_wp2_with (refine wpList_store_row rfl 63 _ _ rfl w3.heap.size _ rfl rfl 63 _ (heap_alloc_new w3 _) (by rw [permA_size]; exact size_perm) (by simp only [permA_size]; rfl) (permA_one _) ?_; rw [World.setRow_alloc_new])
  have PA := Lib.hid K4.out.permAt
  have PB := Lib.hid N4.out.permAt
  have hPa := Lib.hid (isP_pn HA.out)
  have hPp := Lib.hid (isP_pn HP.out)
  have hPi := Lib.hid hPp.out.inv
  have hc1 := Lib.hid (hPi.out.comp hPa.out)
  have hc2 := Lib.hid (hc1.out.comp hPp.out)
  clear K4 N4
  refine wp_region_ext (by kernel_rfl) (by kernel_rfl) ?_
  repeat (first
    | (go_big_quiet_want
       first
       | (refine quiet_perm _ rfl w3.heap.size 0 rfl (fun i => (pn p i : Int)) PB.out ?_)
       | (refine quiet_perm _ rfl w1.heap.size 0 rfl (fun i => (pn a i : Int)) PA.out ?_)
       simp only [Act.put, List.setIfInBounds_toArray, List.set_cons_succ, List.set_cons_zero]
       go_big_quiet_on)
    | go_big_quiet_step ((first
      | (go_at_call 99; exact Ext.call _ (c_inverse (pn p) _ hPp.out))
      | (go_at_call 77; exact Ext.call _ (c_then _ _ _ (by first | exact hPi.out.1 | exact hc1.out.1)))
      | (go_at_call 70; exact Ext.call _ (c_String _ _ hc2.out.1)))))
  refine wpQuiet_nil ?_
  rintro _ ⟨⟨w5, hb5⟩, rfl⟩
  have B5 := Lib.hid (ext_trans B4.out hb5)
  clear hb5
  go_wp2_with fail
  go_ret2
  exact ⟨rfl, B5.out⟩
theorem c_rcRenamed (a p : ByteArray) (w : World) (ha : permB a = true) (hp : permB p = true) : Calls Tryz.prog 35 #[.string a, .string p] w fun e w' => e = .returned (.string (renS a p)) ∧ Below w.heap.size w w' := by
  have HA := Lib.hid ha
  have HP := Lib.hid hp
  clear ha hp
  go_enter Tryz.func35, Tryz.ntmps35
  go_wp2_with fail
  refine (c_ConjugatePerm a p _ HA.out HP.out).mono ?_
  rintro e w1 ⟨rfl, hb1⟩
  have B1 := Lib.hid hb1
  clear hb1
  go_wp2_with fail
  go_ret
  exact ⟨rfl, B1.out⟩
theorem c_rcBare (A : Option Addr) (cA : Nat) (M : Mch) (w : World) (hR : IsRots w (.slice A M.l.length cA) M.l) : Calls Tryz.prog 34 #[mV A cA M] w fun e w' => e = .returned (mV A cA (bareM M)) ∧ Below w.heap.size w w' := by
  have L0 := Lib.hid ((MW.start M (Below.refl w.heap.size w) hR).ext (ext_alloc _ (.cells #[.slice none 0 0, .string ⟨#[]⟩, .string ⟨#[]⟩, .string ⟨#[]⟩] 27)))
  have K0 := Lib.hid (Blk.new (w.alloc (.cells #[.slice A M.l.length cA, .string M.rf, .string M.rg, .string M.pl] 27)) 27 #[.slice none 0 0, .string ⟨#[]⟩, .string ⟨#[]⟩, .string ⟨#[]⟩])
  rw [World.size_alloc] at K0
  clear hR
  go_enter Tryz.func34, Tryz.ntmps34
  go_upto_region 1 with fail
  have x0 := L0.out.c0
  have x1 := L0.out.c1
  have x2 := L0.out.c2
  have hlw := L0.out.lt
  generalize ((w.alloc (.cells #[.slice A M.l.length cA, .string M.rf, .string M.rg, .string M.pl] 27)).alloc (.cells #[.slice none 0 0, .string ⟨#[]⟩, .string ⟨#[]⟩, .string ⟨#[]⟩] 27)) = W0 at *
  refine wp_region_ext_tail 6 (by kernel_rfl) (by kernel_rfl) ?_
  dsimp only [List.take, List.drop]
  repeat (go_big_quiet_step ((go_at_call 72; exact Ext.call _ (c_IdentityPerm _))))
  refine wpQuiet_nil ?_
  rintro _ ⟨⟨w1, hb1⟩, rfl⟩
  have L1 := Lib.hid (L0.out.ext hb1)
  have K1 := Lib.hid (K0.out.ext hb1)
  clear hb1 x0 x1 x2
  go_wp2_with (refine wpList_store_row rfl 27 _ _ rfl (w.heap.size + 1) _ rfl rfl 27 _ K1.out infoM rfl (by simp [Value.oneCell']) ?_)
  exact bodyPost_ret (resM Tryz.results34 _ _ (w.heap.size + 1) _ _ rfl (K1.out.setRow _) Tryz.underlying27 rfl infoM) rfl ⟨rfl, below_row L1.out.bel (by omega) _⟩
theorem c_rcProducts (A : Option Addr) (cA : Nat) (M : Mch) (s : ByteArray) (w : World) (hR : IsRots w (.slice A M.l.length cA) M.l) (hz : MSz M) (hs : s.size ≤ 9223372036854775807) : Calls Tryz.prog 33 #[mV A cA M, .string s] w fun e w' => ∃ v, e = .returned v ∧ Own w' w.heap.size 9 v ((prR M s).map .string) ∧ Below w.heap.size w w' := by
  have L0 := Lib.hid (MW.start M (Below.refl w.heap.size w) hR)
  have HZ := Lib.hid hz
  clear hR hz
  go_enter Tryz.func33, Tryz.ntmps33
  have x0 := L0.out.c0
  have x1 := L0.out.c1
  have x2 := L0.out.c2
  have x3 := L0.out.c3
  go_wp2_with fail
  refine (c_DayProducts A cA M s _ L0.out.rot HZ.out hs).mono ?_
  rintro e w1 ⟨v, rfl, hO, hb1⟩
  have O1 := Lib.hid (hO.lower (B' := w.heap.size) (by simp))
  have L1 := Lib.hid (L0.out.ext hb1)
  clear hO hb1 x0 x1 x2 x3
  go_wp2_with fail
  go_ret
  exact ⟨v, rfl, O1.out, L1.out.bel⟩
end Go.Proofs.YthelcpfcamidiaaGreat
