/- slices.Clone at rotors, Wheels.clone, WithPlugs; DrawWithPlugs. -/
import Derived.Test.YthelcpfcamidiaaGreatPlugFns
import Derived.Test.YthelcpfcamidiaaGreatDrawM
import Derived.Test.YthelcpfcamidiaaGreatLawMa
import Derived.Test.YthelcpfcamidiaaGreatDrawSheet
namespace Go.Proofs.YthelcpfcamidiaaGreat
set_option linter.unusedVariables false
set_option linter.unusedSimpArgs false
open Go.RowKit

theorem own_emptyR (w : World) (f : Nat → Rot) : OwnR (w.alloc (.cells #[] 104)) w.heap.size (.slice (some ⟨w.heap.size, 0, none⟩) 0 0) 0 f :=
  ⟨rfl, .inr ⟨w.heap.size, 0, #[], rfl, Nat.le_refl _, heap_alloc_new w _, Nat.le_refl _, Nat.zero_le _, rfl, rfl⟩⟩
/-- append(s, x...) of rotors that came in, onto an empty row of the call's own -/
theorem appRI {P : Program} (w : World) {ops : Array Oper} {rest : List Oper} {o : Oper} {a : Act} {Q : Exit → Act → World → Prop} (hgd : o.guard = none) (s x : Operand) (t : TypeId)
    (ho : o.op = .call { callee := .builtin .append, args := #[s, x], argTypes := #[t, t] })
    (B : Nat) (ht : P.underlying t = some (.slice 104)) (hinfo : (P.info? 104).map (fun i => (i.zero, i.size, i.bytes)) = some (some (.agg #[.string ByteArray.empty, .string ByteArray.empty]), 2, 32))
    (v : Value) (l : List Rot) (b off c : Nat) (hs : a.eval s = v) (hown : OwnR w B v 0 (gR l)) (hx : a.eval x = .slice (some ⟨b, off, none⟩) l.length c) (hR : IsRots w (.slice (some ⟨b, off, none⟩) l.length c) l)
    (hlen : l.length ≤ 1000000000) (hbase : B ≤ w.heap.size)
    (hK : ∀ v' w', OwnR w' B v' l.length (gR l) → w.grownBy w' v.ownBlock → wpList P ops Q rest (a.put o.dst v') w') :
    wpList P ops Q (o :: rest) a w := by
  obtain ⟨i, hi, hz0, hz1, hz2⟩ := info_parts hinfo
  refine wpList_append_own_at (P := P) w hgd s x t ho B 104 i _ 2 32 ht hi hz0 hz1 hz2 rfl (by omega) v 0 _ hs hown ⟨b, off, none⟩ l.length c (rngV (cellR (gR l)) (l.length * 2)) hx (rngV_len _ _) ?_ ?_ (by unfold maxLen; omega) (by omega) (by omega) ?_
  · intro j u hj
    have hj' : j < l.length * 2 := by
      have := (List.getElem?_eq_some_iff.1 hj).1
      rwa [rngV_len] at this
    have e1 : (⟨b, off, none⟩ : Addr).add j = ⟨b, off + j, none⟩ := by unfold Addr.add; split <;> simp_all
    have e2 : u = cellR (gR l) j := by
      unfold rngV at hj
      rw [List.getElem?_map, List.getElem?_range hj'] at hj
      exact (Option.some.inj hj).symm
    obtain ⟨b', o', e3, _, h1, h2⟩ := hR.at_ (k := j / 2) (by omega)
    injection e3 with e3
    injection e3 with e3 e4
    subst e3 e4
    rw [e1, e2]
    unfold cellR
    by_cases hp : j % 2 = 0
    · rw [if_pos hp, ← h1, show off + j / 2 * 2 = off + j by omega]
    · rw [if_neg hp, ← h2, show off + j / 2 * 2 + 1 = off + j by omega]
  · intro u hu
    unfold rngV at hu
    obtain ⟨j, _, rfl⟩ := List.mem_map.1 hu
    unfold cellR
    split <;> rfl
  · intro v' w' ho' hg' _ _
    refine hK v' w' ?_ hg'
    unfold OwnR
    rw [Nat.zero_add] at ho'
    exact ho'
set_option maxHeartbeats 1000000 in
set_option maxRecDepth 100000 in
theorem c_slicesClone (A : Option Addr) (c : Nat) (l : List Rot) (w : World) (hR : IsRots w (.slice A l.length c) l) (h1 : 1 ≤ l.length) (h3 : l.length ≤ 3) : Calls Tryz.prog 97 #[.slice A l.length c] w fun e w' => ∃ v, e = .returned v ∧ OwnR w' w.heap.size v l.length (gR l) ∧ Below w.heap.size w w' := by
  obtain ⟨b, o, rfl, hb, _⟩ := hR.at_ (k := 0) (by omega)
  have O1 := Lib.hid (own_emptyR w (gR l))
  have R1 := Lib.hid (hR.ext (ext_alloc w (.cells #[] 104)))
  have B1 := Lib.hid (ext_alloc w (.cells #[] 104))
  have hz : (w.alloc (.cells #[] 104)).heap.size = w.heap.size + 1 := by simp
  have HZ := Lib.hid hz
  have qT : ∀ (w : World) (a : Option Addr) (n c : Nat), (binOp .eql 23 (.slice a n c) (.slice none 0 0)).run Tryz.prog w = .ok (.bool a.isNone) w := fun w a n c => Lib.run_eql_slice_nil w _ _ a n c 0 0 Tryz.underlying23
  clear hR hz
  go_enter Tryz.func97, Tryz.ntmps97
  go_wp2_with (at_builtin; refine appRI _ rfl _ _ _ rfl w.heap.size Tryz.underlying23 info_rot _ l b o c rfl O1.out rfl R1.out (by omega) (by simp) ?_; intro v' w4 hown4 hgr4)
  have HO := Lib.hid hown4
  have HB : Hid (Below w.heap.size w w4) := B1.out.grown hgr4 B1.out.size (fun k hk => by have e : w.heap.size = k := Option.some.inj hk; omega)
  clear hown4 hgr4
  go_wp2_with fail
  go_ret
  exact ⟨_, rfl, HO.out, HB.out⟩
/-- the wheels' variable is filled -/
theorem set2W {w W : World} {b cA : Nat} {tc : TypeId} {A : Option Addr} {l : List Rot} {rf : ByteArray} {z0 z1 : Value} (hk : Blk W b tc #[z0, z1]) (hR : IsRots W (.slice A l.length cA) l) (hne : ∀ b' o, A = some ⟨b', o, none⟩ → b' ≠ b) (hb : Below w.heap.size w W) (hw : w.heap.size ≤ b) :
    Blk ((W.setCell ⟨b, 0, none⟩ (.slice A l.length cA)).setCell ⟨b, 1, none⟩ (.string rf)) b tc #[.slice A l.length cA, .string rf] ∧ IsRots ((W.setCell ⟨b, 0, none⟩ (.slice A l.length cA)).setCell ⟨b, 1, none⟩ (.string rf)) (.slice A l.length cA) l ∧ Below w.heap.size w ((W.setCell ⟨b, 0, none⟩ (.slice A l.length cA)).setCell ⟨b, 1, none⟩ (.string rf)) := by
  have h1 : Blk _ b tc #[.slice A l.length cA, z1] := hk.set 0 (.slice A l.length cA)
  have h2 : Blk _ b tc #[.slice A l.length cA, .string rf] := h1.set 1 (.string rf)
  have g2 := grow_set (grow_cell W ⟨b, 0, none⟩ (.slice A l.length cA)) (p := ⟨b, 1, none⟩) (.inl rfl) (.string rf)
  exact ⟨h2, hR.grownR g2 hne, below_of_grown hb g2 hw⟩
theorem infoW : (Tryz.prog.info? 25).map (·.size) = some 2 := by kernel_rfl
set_option maxHeartbeats 1000000 in
set_option maxRecDepth 100000 in
theorem c_clone (A : Option Addr) (c : Nat) (l : List Rot) (rf : ByteArray) (w : World) (hR : IsRots w (.slice A l.length c) l) (h1 : 1 ≤ l.length) (h3 : l.length ≤ 3) : Calls Tryz.prog 69 #[.agg #[.slice A l.length c, .string rf]] w fun e w' => ∃ (A' : Option Addr) (c' : Nat), e = .returned (.agg #[.slice A' l.length c', .string rf]) ∧ IsRots w' (.slice A' l.length c') l ∧ (∀ b o, A' = some ⟨b, o, none⟩ → w.heap.size ≤ b) ∧ Below w.heap.size w w' := by
  have L0 := Lib.hid ((LW.start rf (Below.refl w.heap.size w) hR).ext (ext_alloc _ (.cells #[.slice none 0 0, .string ⟨#[]⟩] 25)))
  have K0 := Lib.hid (Blk.new (w.alloc (.cells #[.slice A l.length c, .string rf] 25)) 25 #[.slice none 0 0, .string ⟨#[]⟩])
  rw [World.size_alloc] at K0
  have HSZ : Hid (∀ k, k < l.length → (gR l k).1.size ≤ 9223372036854775807 ∧ (gR l k).2.size ≤ 9223372036854775807) := by
    obtain ⟨_, _, _, _, h, _⟩ := hR
    exact h
  clear hR
  go_enter Tryz.func69, Tryz.ntmps69
  go_upto_region 1 with fail
  have x0 := L0.out.c0
  have x1 := L0.out.c1
  have hlw := L0.out.lt
  have hkl := K0.out.lt
  generalize ((w.alloc (.cells #[.slice A l.length c, .string rf] 25)).alloc (.cells #[.slice none 0 0, .string ⟨#[]⟩] 25)) = W0 at *
  go_region_with (first
    | (go_at_call 97; refine (c_slicesClone A c l W0.drew (L0.out.rot.ext (Below.refl _ _).drew) h1 h3).mono ?_; rintro e w1 ⟨v, rfl, hO, hb1⟩
       obtain ⟨gg, cc, rfl, hg1, hg2⟩ := hO.at0 (by omega)
       have L1 := Lib.hid ((L0.out.ext (Below.refl _ _).drew).ext hb1)
       have K1 := Lib.hid ((K0.out.ext (Below.refl _ _).drew).ext hb1)
       have O1 := Lib.hid hO
       have y0 := L1.out.c0
       have y1 := L1.out.c1
       have z0 := K1.out.cell 0
       have z1 := K1.out.cell 1
       have f0 := K1.out.free 0
       have f1 := K1.out.free 1))
  all_goals
    have HF := Lib.hid (set2W (A := some ⟨gg, 0, none⟩) (cA := cc) (l := l) (rf := rf) K1.out (O1.out.rots (by omega) HSZ.out) (fun b' o e => by injection e with e; injection e with e; have : W0.drew.heap.size = W0.heap.size := rfl; omega) L1.out.bel (by omega))
    clear K1 O1 L1 y0 y1 z0 z1 f0 f1 hb1 hO
    obtain ⟨q1, q2, q3⟩ := HF.out
    go_wp2_with fail
    exact bodyPost_ret (resM Tryz.results69 _ _ (w.heap.size + 1) _ _ rfl q1 Tryz.underlying25 rfl infoW) rfl ⟨some ⟨gg, 0, none⟩, cc, rfl, q2, fun b o e => by injection e with e; injection e with e; have : W0.drew.heap.size = W0.heap.size := rfl; omega, q3⟩
set_option maxHeartbeats 1000000 in
set_option maxRecDepth 100000 in
theorem c_WithPlugs (A : Option Addr) (cA : Nat) (M : Mch) (p : ByteArray) (w : World) (hR : IsRots w (.slice A M.l.length cA) M.l) (hz : MSz M) (hm : mB M = true) (hp : p.size ≤ 9223372036854775807) : Calls Tryz.prog 28 #[mV A cA M, .string p] w fun e w' =>
    ((plugB p = false ∧ ∃ v, e = .returned (.tuple #[.agg #[.slice none 0 0, .string ⟨#[]⟩, .string ⟨#[]⟩, .string ⟨#[]⟩], .bool false]) ∧ v = true) ∨ (plugB p = true ∧ ∃ (A' : Option Addr) (c' : Nat), e = .returned (.tuple #[mV A' c' (plM M p), .bool true]) ∧ IsRots w' (.slice A' M.l.length c') M.l)) ∧ Below w.heap.size w w' := by
  have h1 : 1 ≤ M.l.length := by have := win_facts ((mB_iff M).1 hm).1; omega
  have h3 : M.l.length ≤ 3 := by have := win_facts ((mB_iff M).1 hm).1; omega
  have L0 := Lib.hid ((MW.start M (Below.refl w.heap.size w) hR).ext (ext_alloc _ (.cells #[.slice none 0 0, .string ⟨#[]⟩, .string ⟨#[]⟩, .string ⟨#[]⟩] 27)))
  have K0 := Lib.hid (Blk.new (w.alloc (.cells #[.slice A M.l.length cA, .string M.rf, .string M.rg, .string M.pl] 27)) 27 #[.slice none 0 0, .string ⟨#[]⟩, .string ⟨#[]⟩, .string ⟨#[]⟩])
  rw [World.size_alloc] at K0
  have HZ := Lib.hid hz
  have HM := Lib.hid hm
  clear hR hz hm
  go_enter Tryz.func28, Tryz.ntmps28
  go_upto_region 1 with fail
  have x0 := L0.out.c0
  have x1 := L0.out.c1
  have x2 := L0.out.c2
  have x3 := L0.out.c3
  generalize ((w.alloc (.cells #[.slice A M.l.length cA, .string M.rf, .string M.rg, .string M.pl] 27)).alloc (.cells #[.slice none 0 0, .string ⟨#[]⟩, .string ⟨#[]⟩, .string ⟨#[]⟩] 27)) = W0 at *
  go_wp2_with fail
  refine (c_MachineValid A cA M _ L0.out.rot HZ.out).mono ?_
  rintro e w1 ⟨rfl, hb1⟩
  rw [HM.out]
  have L1 := Lib.hid (L0.out.ext hb1)
  have K1 := Lib.hid (K0.out.ext hb1)
  clear hb1 x0 x1 x2 x3 L0 K0
  go_wp2_with fail
  refine (c_PlugsValid p _ hp).mono ?_
  rintro e w2 ⟨rfl, hb2⟩
  have L2 := Lib.hid (L1.out.ext hb2)
  have K2 := Lib.hid (K1.out.ext hb2)
  clear hb2 L1 K1
  cases hpl : plugB p with
  | false =>
    have HPL := Lib.hid hpl
    clear hpl
    go_wp2_with (refine wpList_store_row rfl 27 _ _ rfl (w.heap.size + 1) #[.slice none 0 0, .string ⟨#[]⟩, .string ⟨#[]⟩, .string ⟨#[]⟩] rfl rfl 27 _ K2.out infoM rfl (by simp [Value.oneCell']) ?_)
    exact bodyPost_ret (res_c1 Tryz.results28 _ _ (w.heap.size + 1) _ _ rfl (K2.out.setRow _) Tryz.underlying27 rfl infoM) rfl ⟨.inl ⟨HPL.out, true, rfl, rfl⟩, below_row L2.out.bel (by omega) _⟩
  | true =>
    have HPL := Lib.hid hpl
    have x0 := L2.out.c0
    have x1 := L2.out.c1
    have x2 := L2.out.c2
    have hlw := L2.out.lt
    have hkl := K2.out.lt
    clear hpl
    go_wp2_with fail
    go_region_with (first
      | (go_at_call 69; refine (c_clone A cA M.l M.rf w2.drew (L2.out.rot.ext (Below.refl _ _).drew) h1 h3).mono ?_; rintro e w3 ⟨A', c', rfl, hR3, hA3, hb3⟩
         have L3 := Lib.hid ((L2.out.ext (Below.refl _ _).drew).ext hb3)
         have K3 := Lib.hid ((K2.out.ext (Below.refl _ _).drew).ext hb3)
         have R3 := Lib.hid hR3
         have y0 := L3.out.c0
         have y1 := L3.out.c1
         have y2 := L3.out.c2
         have z0 := K3.out.cell 0
         have z1 := K3.out.cell 1
         have z2 := K3.out.cell 2
         have z3 := K3.out.cell 3
         have f0 := K3.out.free 0
         have f1 := K3.out.free 1
         have f2 := K3.out.free 2
         have f3 := K3.out.free 3))
    all_goals
      have HF := Lib.hid (set4M (A := A') (cA := c') (M := plM M p) K3.out R3.out (fun b' o e => by have := hA3 b' o e; have : w2.drew.heap.size = w2.heap.size := rfl; omega) L3.out.bel (by omega))
      clear K3 L3 y0 y1 y2 z0 z1 z2 z3 f0 f1 f2 f3 hb3 hR3 hA3 R3
      obtain ⟨q1, q2, q3⟩ := HF.out
      go_wp2_with fail
      exact bodyPost_ret (res_c1 Tryz.results28 _ _ (w.heap.size + 1) _ _ rfl q1 Tryz.underlying27 rfl infoM) rfl ⟨.inr ⟨HPL.out, A', c', rfl, q2⟩, q3⟩
theorem c_l4Bad (g P : Nat) (s : ByteArray) (w : World) (hr : Rd w g P) (hP : P + 100 ≤ 1000000) (hs1 : 1 ≤ s.size) (hs : s.size ≤ 1000) :
    Calls Tryz.prog 66 #[.pointer (some ⟨g, 0, none⟩), .string s] w fun e w' => ∃ t : ByteArray, e = .returned (.string t) ∧ t.size ≤ 1001 ∧ Rd w' g (P + 20) ∧ w.grownBy w' (some g) := by
  have HR := Lib.hid hr
  clear hr
  go_enter Tryz.func66, Tryz.ntmps66
  go_wp2_with fail
  refine (c_pick g P _ _ HR.out (by omega) (by omega) (by omega)).mono ?_
  rintro e w1 ⟨q, rfl, hq, hr1, hg1⟩
  have R1 := Lib.hid hr1
  have G1 := Lib.hid hg1
  clear hr1 hg1
  by_cases q0 : q = 0
  · have t0 : ((q : Int) == 0) = true := by simp [q0]
    clear q0
    go_wp2_with fail
    refine (c_l2Some g (P + 1) _ R1.out (by omega)).mono ?_
    rintro e w2 ⟨t, rfl, hz, _, hr2, hg2⟩
    have R2 := Lib.hid hr2
    have G2 := Lib.hid (G1.out.trans hg2)
    clear hr2 hg2
    go_wp2_with fail
    go_ret
    exact ⟨t, rfl, by omega, R2.out.more (by omega), G2.out⟩
  · have t0 : ((q : Int) == 0) = false := by simp [q0]
    clear q0
    go_wp2_with fail
    refine (c_l2Bad g (P + 1) s _ R1.out (by omega) hs1 hs).mono ?_
    rintro e w2 ⟨t, rfl, hz, hr2, hg2⟩
    have R2 := Lib.hid hr2
    have G2 := Lib.hid (G1.out.trans hg2)
    clear hr2 hg2
    go_wp2_with fail
    go_ret
    exact ⟨t, rfl, by omega, R2.out.more (by omega), G2.out⟩
set_option maxHeartbeats 1000000 in
set_option maxRecDepth 100000 in
theorem c_DrawWithPlugs (A0 : Option Addr) (n c : Nat) (w : World) (hc : Code_ w A0 n c) :
    Calls Tryz.prog 26 #[.slice A0 n c] w fun e w' => ∃ (A : Option Addr) (cA : Nat) (M : Mch) (s : ByteArray), e = .returned (.tuple #[mV A cA M, .string s]) ∧ IsRots w' (.slice A M.l.length cA) M.l ∧ MSm M ∧ s.size ≤ 1001 ∧ Below w.heap.size w w' := by
  have HC := Lib.hid (hc.ext (ext_alloc w (.cells #[.slice none 0 0, .string ByteArray.empty, .string ByteArray.empty, .string ByteArray.empty] 27)))
  clear hc
  go_enter Tryz.func26, Tryz.ntmps26
  go_wp2_with fail
  refine (c_l21Open A0 n c _ HC.out.1 HC.out.2.1 HC.out.2.2).mono ?_
  rintro e w1 ⟨g, rfl, hg, hr1, hb1⟩
  have hg' : w.heap.size + 1 ≤ g := by simpa using hg
  have K1 := Lib.hid ((Blk.new w 27 #[.slice none 0 0, .string ByteArray.empty, .string ByteArray.empty, .string ByteArray.empty]).ext hb1)
  have BL1 := Lib.hid ((ext_alloc w (.cells #[.slice none 0 0, .string ByteArray.empty, .string ByteArray.empty, .string ByteArray.empty] 27)).trans (hb1.mono (by simp)))
  have R1 := Lib.hid hr1
  have hgl1 := hr1.1
  clear hg hr1 hb1 HC
  go_wp2_with fail
  refine (c_l8Any g 0 _ R1.out (by omega)).mono ?_
  rintro e w2 ⟨vR, rf, s, rg, pl, m, f, rfl, hrf, hrg, hpl, hm1, hm3, hs, ho, hok, hr2, hg2⟩
  obtain ⟨gR, cR, rfl, hgR1, hgR2⟩ := ho.at0 (by omega)
  have K2 := Lib.hid ((K1.out.grown hg2 (by simp; omega)).alloc (.cells #[.slice (some ⟨gR, 0, none⟩) m cR, .string rf, .string rg, .string pl] 27))
  have KB := Lib.hid (Blk.new w2 27 #[.slice (some ⟨gR, 0, none⟩) m cR, .string rf, .string rg, .string pl])
  have O2 : Hid (OwnR (w2.alloc (.cells #[.slice (some ⟨gR, 0, none⟩) m cR, .string rf, .string rg, .string pl] 27)) (w1.heap.size + 1) (.slice (some ⟨gR, 0, none⟩) m cR) m f) := ho.ext (ext_alloc _ _)
  have R2 := Lib.hid (hr2.ext (ext_alloc w2 (.cells #[.slice (some ⟨gR, 0, none⟩) m cR, .string rf, .string rg, .string pl] 27)))
  have G2 := Lib.hid (grow_alloc hg2 (.cells #[.slice (some ⟨gR, 0, none⟩) m cR, .string rf, .string rg, .string pl] 27))
  have HOK := Lib.hid hok
  have hl2 : w1.heap.size + 1 ≤ w2.heap.size := by omega
  have hz2 : (w2.alloc (.cells #[.slice (some ⟨gR, 0, none⟩) m cR, .string rf, .string rg, .string pl] 27)).heap.size = w2.heap.size + 1 := by simp
  have HZ2 := Lib.hid hz2
  have hs1 : 1 ≤ s.size := by omega
  have hs3 : s.size ≤ 3 := by omega
  have hrg1 : 1 ≤ rg.size := by omega
  have hrg3 : rg.size ≤ 3 := by omega
  have hrf1 : rf.size ≤ 10 := by omega
  have hpl1 : pl.size ≤ 10 := by omega
  clear hr2 hg2 ho hok hz2 R1 hs hrg hrf hpl
  go_upto_region 3 with fail
  generalize w2.alloc (.cells #[.slice (some ⟨gR, 0, none⟩) m cR, .string rf, .string rg, .string pl] 27) = W2 at *
  go_wp2_with fail
  refine (c_l4Any g (0 + 300) _ R2.out (by omega)).mono ?_
  rintro e w3 ⟨p, rfl, hpz, _, hr3, hg3⟩
  have KB3 := Lib.hid (KB.out.grown hg3 (by simp; omega))
  have O3 := Lib.hid (O2.out.keptB hg3 (by omega))
  have R3 := Lib.hid hr3
  have G3 := Lib.hid (G2.out.trans hg3)
  have hs3' := hg3.size
  clear hr3 hg3
  go_wp2_with fail
  refine (c_l4Bad g (0 + 300 + 11) p _ R3.out (by omega) (by omega) (by omega)).mono ?_
  rintro e w4 ⟨t, rfl, htz, hr4, hg4⟩
  have KB4 := Lib.hid (KB3.out.grown hg4 (by simp; omega))
  have O4 := Lib.hid (O3.out.keptB hg4 (by omega))
  have R4 := Lib.hid hr4
  have G4 := Lib.hid (G3.out.trans hg4)
  have hs4' := hg4.size
  have hz5 := HZ2.out
  have x0 := KB4.out.cell 0
  have x1 := KB4.out.cell 1
  have x2 := KB4.out.cell 2
  have x3 := KB4.out.cell 3
  clear hr4 hg4
  go_wp2_with fail
  refine (c_l8Bad g (0 + 300 + 11 + 20) (w1.heap.size + 1) m _ rf rg pl f w1 _ R4.out (by omega) (by omega) G4.out hgl1 (by omega) O4.out HOK.out hm1 hm3 (by omega) (by omega) (by omega) (by omega)).mono ?_
  rintro e w6 ⟨A, cA, M, rfl, hR6, m1, m2, m3, hne, hr6, hg6⟩
  have HM : Hid (MSm M) := ⟨m1, m2, m3⟩
  have K7 := Lib.hid (K1.out.grown hg6 (by simp; omega))
  have HF := Lib.hid (fin9 (A := A) (c := cA) (M := M) K7.out hR6 (fun b o e => by have := (hne b o e).2; have := BL1.out.size; omega) (below_of_grown BL1.out hg6 (by omega)) (Nat.le_refl _))
  clear hR6 hne m1 m2 m3 hr6 hg6 x0 x1 x2 x3 KB4 O4 G4 R4
  go_wp2_with (refine wpList_store_row rfl 27 _ _ rfl w.heap.size _ rfl rfl 27 _ K7.out infoM rfl (by simp [Value.oneCell']) ?_)
  obtain ⟨q1, q2, q3⟩ := HF.out
  exact bodyPost_ret (res_c1 Tryz.results26 _ _ w.heap.size _ _ rfl q1 Tryz.underlying27 rfl infoM) rfl ⟨A, cA, M, t, rfl, q2, HM.out, by omega, q3⟩
end Go.Proofs.YthelcpfcamidiaaGreat
