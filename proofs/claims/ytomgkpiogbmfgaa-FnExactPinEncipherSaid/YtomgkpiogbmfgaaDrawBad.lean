/- Contracts of the draws of cages that sometimes do not fit, and of the laws' arguments. -/
import Derived.Test.YtomgkpiogbmfgaaDrawPins
namespace Go.Proofs.Ytomgkpiogbmfgaa
open Go.RowKit
attribute [local go_sem ↓] Go.wp_at_zero Go.wp_at_succ

theorem Own.intAt {w : World} {B : Nat} {e : TypeId} {g c n : Nat} {l : List Int} (h : Own w B e (.slice (some ⟨g, 0, none⟩) n c) (l.map (Value.int .i64))) {k : Nat} (hk : k < l.length) : w.cell? ⟨g, k, none⟩ = some (.int .i64 (gI l k)) := by
  obtain ⟨g2, c2, h, _, _, hc⟩ := h.at_ (k := k) (u := .int .i64 (gI l k)) (by rw [List.getElem?_map, List.getElem?_eq_getElem hk]; simp [gI, List.getD_eq_getElem?_getD, List.getElem?_eq_getElem hk])
  injection h with h; injection h with h; injection h with h
  rw [h]; exact hc
theorem Own.strAt {w : World} {B : Nat} {e : TypeId} {g c n : Nat} {l : List ByteArray} (h : Own w B e (.slice (some ⟨g, 0, none⟩) n c) (l.map Value.string)) {k : Nat} (hk : k < l.length) : w.cell? ⟨g, k, none⟩ = some (.string (gS l k)) := by
  obtain ⟨g2, c2, h, _, _, hc⟩ := h.at_ (k := k) (u := .string (gS l k)) (by rw [List.getElem?_map, List.getElem?_eq_getElem hk]; simp [gS, List.getD_eq_getElem?_getD, List.getElem?_eq_getElem hk])
  injection h with h; injection h with h; injection h with h
  rw [h]; exact hc
theorem Own.setTy {w : World} {B b j : Nat} {e tc : TypeId} {v : Value} {l : List Value} {cs : Array Value} (h : Own w B e v l) (hk : Blk w b tc cs) (hne : e ≠ tc) (u : Value) : Own (w.setCell ⟨b, j, none⟩ u) B e v l := by
  refine h.keptNe (row := some b) (grow_set (World.grownBy.refl _ _) (.inl rfl) u) fun g hg hv => ?_
  injection hg with hg
  subst hg
  rcases h.2 with ⟨rfl, _⟩ | ⟨g1, cap, cur, rfl, _, hh, _⟩
  · cases hv
  · have e1 : g1 = b := by simpa [Value.ownBlock] using hv
    subst e1
    unfold Blk at hk
    rw [hh] at hk
    injection hk with hk
    injection hk with _ ht
    exact hne ht
/-- an integer slice at the end: an own one, or an empty one -/
def OwnI (w : World) (B : Nat) (e : TypeId) (v : Value) (l : List Int) : Prop := (Own w B e v (l.map (.int .i64)) ∧ l.length ≤ 1000) ∨ (∃ A c, v = .slice A 0 c ∧ l = [])
theorem OwnI.ints {w : World} {B : Nat} {e : TypeId} {v : Value} {l : List Int} (h : OwnI w B e v l) : IsInts w v l := by
  rcases h with ⟨h, hl⟩ | ⟨A, c, rfl, rfl⟩
  · exact h.ints (by omega)
  · exact ⟨A, c, rfl, by simp, fun k hk => by simp at hk⟩
theorem OwnI.setTy {w : World} {B b j : Nat} {e tc : TypeId} {v : Value} {l : List Int} {cs : Array Value} (h : OwnI w B e v l) (hk : Blk w b tc cs) (hne : e ≠ tc) (u : Value) : OwnI (w.setCell ⟨b, j, none⟩ u) B e v l := by
  rcases h with ⟨h, hl⟩ | h
  · exact .inl ⟨h.setTy hk hne u, hl⟩
  · exact .inr h
/-- the results laid into their variable -/
theorem bad_fin {w0 W : World} {g P B b : Nat} {ts ti tc : TypeId} {vW vB vP : Value} {ws : List ByteArray} {bs ps : List Int} (hk : Blk W b tc #[.slice none 0 0, .slice none 0 0]) (hW : Own W B ts vW (ws.map .string)) (hs : ts ≠ tc) (hi : ti ≠ tc)
    (hB : OwnI W B ti vB bs) (hP : OwnI W B ti vP ps) (hw : ws.length ≤ 1000) (hsz : ∀ k, k < ws.length → (gS ws k).size ≤ 1000000) (hr : Rd W g P) (hgw : w0.grownBy W (some g)) (hg : g < b) (hb : w0.heap.size ≤ b) :
    ((W.setCell ⟨b, 0, none⟩ vW).setCell ⟨b, 1, none⟩ vB).cell? ⟨b, 0, none⟩ = some vW ∧ ((W.setCell ⟨b, 0, none⟩ vW).setCell ⟨b, 1, none⟩ vB).cell? ⟨b, 1, none⟩ = some vB ∧
    IsStrs ((W.setCell ⟨b, 0, none⟩ vW).setCell ⟨b, 1, none⟩ vB) vW ws ∧ IsInts ((W.setCell ⟨b, 0, none⟩ vW).setCell ⟨b, 1, none⟩ vB) vB bs ∧ IsInts ((W.setCell ⟨b, 0, none⟩ vW).setCell ⟨b, 1, none⟩ vB) vP ps ∧
    Rd ((W.setCell ⟨b, 0, none⟩ vW).setCell ⟨b, 1, none⟩ vB) g P ∧ w0.grownBy ((W.setCell ⟨b, 0, none⟩ vW).setCell ⟨b, 1, none⟩ vB) (some g) := by
  have k1 := hk.set 0 vW
  have k2 := k1.set 1 vB
  refine ⟨k2.cell 0, k2.cell 1, ((hW.setTy hk hs _).setTy k1 hs _).strs (by omega) (fun k hk => Nat.le_trans (hsz k hk) (by omega)), ((hB.setTy hk hi _).setTy k1 hi _).ints, ((hP.setTy hk hi _).setTy k1 hi _).ints, (hr.setFar hg _).setFar hg _, grow_new (grow_new hgw hb _) hb _⟩

theorem ne_ty {w : World} {B b g n c : Nat} {e tc : TypeId} {l : List Value} {cs : Array Value} (hk : Blk w b tc cs) (h : Own w B e (.slice (some ⟨g, 0, none⟩) n c) l) (hne : e ≠ tc) : b ≠ g := by
  rintro rfl
  rcases h.2 with ⟨h, _⟩ | ⟨g1, cap, cur, h, _, hh, _⟩
  · cases h
  · injection h with h; injection h with h; injection h with h
    subst h
    unfold Blk at hk
    rw [hh] at hk
    injection hk with hk
    injection hk with _ ht
    exact hne ht
theorem setS_own {w : World} {B : Nat} {e : TypeId} {v : Value} {ws : List ByteArray} {m : Nat} {s : ByteArray} (h : Own w B e v ((ws.map Value.string).set m (.string s))) : Own w B e v ((ws.set m s).map Value.string) := by
  rw [List.map_set]; exact h
theorem setI_own {w : World} {B : Nat} {e : TypeId} {v : Value} {l : List Int} {m : Nat} {x : Int} (h : Own w B e v ((l.map (Value.int .i64)).set m (.int .i64 x))) : Own w B e v ((l.set m x).map (Value.int .i64)) := by
  rw [List.map_set]; exact h
theorem setS_size {ws : List ByteArray} {m : Nat} (s : ByteArray) (h : ∀ k, k < ws.length → (gS ws k).size ≤ 9) (hs : s.size ≤ 1000) : ∀ k, k < (ws.set m s).length → (gS (ws.set m s) k).size ≤ 1000000 := by
  intro k hk
  have hk' : k < ws.length := by simpa using hk
  have := h k hk'
  unfold gS at *
  rw [List.getD_eq_getElem?_getD, List.getElem?_set] at *
  split
  · split
    · simp; omega
    · simp
  · rw [List.getElem?_eq_getElem hk'] at *; simp at *; omega

set_option maxHeartbeats 1000000 in
set_option maxRecDepth 100000 in
theorem c_l15Bad (g P B : Nat) (vW vB vP : Value) (ws : List ByteArray) (bs ps : List Int) (w0 w : World) (hr : Rd w g P) (hP : P + 200 ≤ 1000000) (hB : w0.heap.size ≤ B) (hgw : w0.grownBy w (some g)) (hg0 : g < w0.heap.size) (hBw : B ≤ w.heap.size)
    (hW : Own w B 9 vW (ws.map .string)) (hBo : Own w B 3 vB (bs.map (.int .i64))) (hPo : Own w B 3 vP (ps.map (.int .i64))) (hne : vB.ownBlock = none ∨ vB.ownBlock ≠ vP.ownBlock)
    (hw1 : 1 ≤ ws.length) (hw4 : ws.length ≤ 4) (hb1 : 1 ≤ bs.length) (hb9 : bs.length ≤ 9) (hpl : ps.length = ws.length) (hsz : ∀ k, k < ws.length → (gS ws k).size ≤ 9) :
    Calls Try.prog 54 #[.pointer (some ⟨g, 0, none⟩), .agg #[vW, vB], vP] w fun e w' => ∃ (vW' vB' vP' : Value) (ws' : List ByteArray) (bs' ps' : List Int), e = .returned (.tuple #[.agg #[vW', vB'], vP']) ∧
      IsStrs w' vW' ws' ∧ IsInts w' vB' bs' ∧ IsInts w' vP' ps' ∧ vW'.ownBlock ≠ some g ∧ vB'.ownBlock ≠ some g ∧ vP'.ownBlock ≠ some g ∧ Rd w' g (P + 10) ∧ w0.grownBy w' (some g) := by
  obtain ⟨gW, cW, hvW⟩ : ∃ gg c, vW = .slice (some ⟨gg, 0, none⟩) ws.length c := by
    obtain ⟨gg, c, h, _⟩ := hW.at_ (k := 0) (u := .string (gS ws 0)) (by cases ws with | nil => simp at hw1 | cons a t => rfl)
    exact ⟨gg, c, by rw [h]; simp⟩
  obtain ⟨gB, cB, hvB⟩ : ∃ gg c, vB = .slice (some ⟨gg, 0, none⟩) bs.length c := by
    obtain ⟨gg, c, h, _⟩ := hBo.at_ (k := 0) (u := .int .i64 (gI bs 0)) (by cases bs with | nil => simp at hb1 | cons a t => rfl)
    exact ⟨gg, c, by rw [h]; simp⟩
  obtain ⟨gP, cP, hvP⟩ : ∃ gg c, vP = .slice (some ⟨gg, 0, none⟩) ps.length c := by
    obtain ⟨gg, c, h, _⟩ := hPo.at_ (k := 0) (u := .int .i64 (gI ps 0)) (by cases ps with | nil => simp at hpl; omega | cons a t => rfl)
    exact ⟨gg, c, by rw [h]; simp⟩
  subst hvW hvB hvP
  have HR := Lib.hid hr
  have HGW := Lib.hid hgw
  have HW := Lib.hid hW
  have HB := Lib.hid hBo
  have HPO := Lib.hid hPo
  have HNE := Lib.hid hne
  have HPL := Lib.hid hpl
  have HSZ := Lib.hid hsz
  have NGW := Lib.hid (hW.ne_blk (g := g) (by omega))
  have NGB := Lib.hid (hBo.ne_blk (g := g) (by omega))
  have NGP := Lib.hid (hPo.ne_blk (g := g) (by omega))
  have hpl' : ps.length ≤ 4 := by omega
  have hpl1 : 1 ≤ ps.length := by omega
  have hgl := hr.1
  have hw0w : w0.heap.size ≤ w.heap.size := hgw.size
  clear hr hgw hW hBo hPo hne hpl hsz
  go_enter Try.func54, Try.ntmps54
  go_wp2_with fail
  refine (c_pick g P _ _ ((HR.out.ext (ext_alloc _ _)).ext (ext_alloc _ _)) (by omega) (by omega) (by omega)).mono ?_
  rintro e w1 ⟨m, rfl, hm, hr1, hg1⟩
  have k0 := ((Blk.new w 26 #[.slice (some ⟨gW, 0, none⟩) ws.length cW, .slice (some ⟨gB, 0, none⟩) bs.length cB]).alloc (.cells #[.slice none 0 0, .slice none 0 0] 26)).grown hg1 (by simp; omega)
  have k1 : Blk w1 (w.heap.size + 1) 26 #[.slice none 0 0, .slice none 0 0] := by
    have h1 := Blk.new (w.alloc (.cells #[.slice (some ⟨gW, 0, none⟩) ws.length cW, .slice (some ⟨gB, 0, none⟩) bs.length cB] 26)) 26 #[.slice none 0 0, .slice none 0 0]
    simp only [World.size_alloc] at h1
    exact h1.grown hg1 (by simp; omega)
  have K0 := Lib.hid k0
  have K1 := Lib.hid k1
  have R1 := Lib.hid hr1
  have G1 := Lib.hid (HGW.out.trans ((grow_alloc (grow_alloc (World.grownBy.refl w (some g)) _) _).trans hg1))
  have W1 := Lib.hid (((HW.out.alloc (.cells #[.slice (some ⟨gW, 0, none⟩) ws.length cW, .slice (some ⟨gB, 0, none⟩) bs.length cB] 26)).alloc (.cells #[.slice none 0 0, .slice none 0 0] 26)).kept hg1 (fun x hx => by injection hx with hx; omega))
  have B1 := Lib.hid (((HB.out.alloc (.cells #[.slice (some ⟨gW, 0, none⟩) ws.length cW, .slice (some ⟨gB, 0, none⟩) bs.length cB] 26)).alloc (.cells #[.slice none 0 0, .slice none 0 0] 26)).kept hg1 (fun x hx => by injection hx with hx; omega))
  have P1 := Lib.hid (((HPO.out.alloc (.cells #[.slice (some ⟨gW, 0, none⟩) ws.length cW, .slice (some ⟨gB, 0, none⟩) bs.length cB] 26)).alloc (.cells #[.slice none 0 0, .slice none 0 0] 26)).kept hg1 (fun x hx => by injection hx with hx; omega))
  have hz1 : w.heap.size + 2 ≤ w1.heap.size := by have := hg1.size; simp at this; omega
  clear k0 k1 hr1 hg1 HR HGW HW HB HPO
  go_wp2_with fail
  refine (c_pick g (P + 1) _ _ R1.out (by omega) (by omega) (by omega)).mono ?_
  rintro e w2 ⟨q, rfl, hq, hr2, hg2⟩
  have K02 := Lib.hid (K0.out.grown hg2 (by simp; omega))
  have K12 := Lib.hid (K1.out.grown hg2 (by simp; omega))
  have R2 := Lib.hid hr2
  have G2 := Lib.hid (G1.out.trans hg2)
  have W2 := Lib.hid (W1.out.kept hg2 (fun x hx => by injection hx with hx; omega))
  have B2 := Lib.hid (B1.out.kept hg2 (fun x hx => by injection hx with hx; omega))
  have P2 := Lib.hid (P1.out.kept hg2 (fun x hx => by injection hx with hx; omega))
  have hz2 : w.heap.size + 2 ≤ w2.heap.size := Nat.le_trans hz1 hg2.size
  clear hr2 hg2 K0 K1 R1 G1 W1 B1 P1 hz1
  have x0 : w2.cell? ⟨w.heap.size, 0, none⟩ = some (.slice (some ⟨gW, 0, none⟩) ws.length cW) := K02.out.cell 0
  have x1 : w2.cell? ⟨w.heap.size, 1, none⟩ = some (.slice (some ⟨gB, 0, none⟩) bs.length cB) := K02.out.cell 1
  have y0 : w2.cell? ⟨w.heap.size + 1, 0, none⟩ = some (.slice none 0 0) := K12.out.cell 0
  have y1 : w2.cell? ⟨w.heap.size + 1, 1, none⟩ = some (.slice none 0 0) := K12.out.cell 1
  have u0 := K02.out.free 0
  have u1 := K02.out.free 1
  have v0 := K12.out.free 0
  have v1 := K12.out.free 1
  have hmw : m < ws.length := by have := HPL.out; omega
  by_cases q0 : q = 0
  · have t0 : ((q : Int) == 0) = true := by simp [q0]
    clear q0
    have hlz : w.heap.size < w2.heap.size := by omega
    have wc : w2.cell? ⟨gW, m, none⟩ = some (.string (gS ws m)) := W2.out.strAt hmw
    have hgW := W2.out.blk_lt (g := gW) rfl
    have i1 : (0 : Int) ≤ (m : Int) := by omega
    have i2 : (m : Int) < (ws.length : Int) := by omega
    go_wp2_with fail
    go_region_law (first
      | (go_simp
         go_at_call 61
         refine (c_ofL g (P + 2) [⟨#[]⟩, ⟨#[49]⟩, ⟨#[48, 49, 48, 49, 48, 49, 48, 49, 48, 49]⟩, ⟨#[48, 49, 50]⟩] _ _ _ w2.drew rfl rfl R2.out.drew (by omega) (by decide) (by decide) (by decide)).mono ?_
         rintro e w3 ⟨s, rfl, hs, hr3, hg3⟩
         have hkeep : w3.cell? ⟨w.heap.size, 0, none⟩ = some (.slice (some ⟨gW, 0, none⟩) ws.length cW) := (K02.out.drew.grown hg3 (by simp; omega)).cell 0
         have hwc : w3.cell? ⟨gW, m, none⟩ = some (.string (gS ws m)) := (hg3.cell_far ⟨gW, m, none⟩ hgW.2 (by simp; omega)).trans wc
         have hwf : w3.frozen? ⟨gW, m, none⟩ = false := (W2.out.drew.kept hg3 (fun x hx => by injection hx with hx; omega)).free (by simp) m))
    all_goals
      have hs' : s.size ≤ 1000 := by
        have : ∀ t ∈ [(⟨#[]⟩ : ByteArray), ⟨#[49]⟩, ⟨#[48, 49, 48, 49, 48, 49, 48, 49, 48, 49]⟩, ⟨#[48, 49, 50]⟩], t.size ≤ 1000 := by decide
        exact this s hs
      have W3 := W2.out.drew.kept hg3 (fun x hx => by injection hx with hx; omega)
      have hst : w3.grownBy (w3.setCell ⟨gW, m, none⟩ (.string s)) (some gW) := grow_set (World.grownBy.refl _ _) (.inl rfl) _
      have NW := Lib.hid (W3.stored (by simp) m (.string s))
      have NB := Lib.hid ((B2.out.drew.kept hg3 (fun x hx => by injection hx with hx; omega)).keptNe hst (fun x hx => by injection hx with hx; subst hx; exact (W2.out.ne_type B2.out (by decide)) _ rfl))
      have NP := Lib.hid ((P2.out.drew.kept hg3 (fun x hx => by injection hx with hx; omega)).keptNe hst (fun x hx => by injection hx with hx; subst hx; exact (W2.out.ne_type P2.out (by decide)) _ rfl))
      have NR := Lib.hid (hr3.setFar (p := ⟨gW, m, none⟩) (by simp; omega) (.string s))
      have NG := Lib.hid (grow_new (p := ⟨gW, m, none⟩) (G2.out.trans ⟨hg3.os, hg3.tape, hg3.output, hg3.size, hg3.block⟩) (by simp; omega) (.string s))
      have N0 := Lib.hid ((K02.out.drew.grown hg3 (by simp; omega)).far (p := ⟨gW, m, none⟩) (ne_ty K02.out W2.out (by decide)) (.string s))
      have N1 := Lib.hid ((K12.out.drew.grown hg3 (by simp; omega)).far (p := ⟨gW, m, none⟩) (ne_ty K12.out W2.out (by decide)) (.string s))
      clear hr3 hg3 W3 hst hkeep hwc hwf wc x0 x1 y0 y1 u0 u1 v0 v1 K02 K12 W2 B2 P2 R2 hs
      have hg2s := G2.out.size
      generalize w3.setCell ⟨gW, m, none⟩ (.string s) = w5 at *
      have HF := Lib.hid (bad_fin (w0 := w0) (b := w.heap.size + 1) N1.out (setS_own NW.out) (by decide) (by decide) (.inl ⟨NB.out, by omega⟩) (.inl ⟨NP.out, by omega⟩) (by simp; omega) (setS_size s HSZ.out hs') NR.out NG.out (by omega) (by omega))
      have x0 : w5.cell? ⟨w.heap.size, 0, none⟩ = some (.slice (some ⟨gW, 0, none⟩) ws.length cW) := N0.out.cell 0
      have x1 : w5.cell? ⟨w.heap.size, 1, none⟩ = some (.slice (some ⟨gB, 0, none⟩) bs.length cB) := N0.out.cell 1
      have y0 : w5.cell? ⟨w.heap.size + 1, 0, none⟩ = some (.slice none 0 0) := N1.out.cell 0
      have y1 : w5.cell? ⟨w.heap.size + 1, 1, none⟩ = some (.slice none 0 0) := N1.out.cell 1
      have v0 := N1.out.free 0
      have v1 := N1.out.free 1
      go_wp2_with fail
      have hf := HF.out
      generalize (w5.setCell ⟨w.heap.size + 1, 0, none⟩ (.slice (some ⟨gW, 0, none⟩) ws.length cW)).setCell ⟨w.heap.size + 1, 1, none⟩ (.slice (some ⟨gB, 0, none⟩) bs.length cB) = WF at *
      obtain ⟨f0, f1, f2, f3, f4, f5, f6⟩ := hf
      refine bodyPost_ret (v := .tuple #[.agg #[.slice (some ⟨gW, 0, none⟩) ws.length cW, .slice (some ⟨gB, 0, none⟩) bs.length cB], .slice (some ⟨gP, 0, none⟩) ps.length cP]) (by simp [results, Try.results54, go_sem, f0, f1]) rfl
        ⟨_, _, _, (ws.set m s), bs, ps, rfl, f2, f3, f4, NGW.out, NGB.out, NGP.out, f5.more (by omega), f6⟩
  · have t0 : ((q : Int) == 0) = false := by simp [q0]
    by_cases q1 : q = 1
    · have t1 : ((q : Int) == 1) = true := by simp [q1]
      clear q0 q1
      have hlz : w.heap.size < w2.heap.size := by omega
      have wc : w2.cell? ⟨gB, 0, none⟩ = some (.int .i64 (gI bs 0)) := B2.out.intAt (by omega)
      have hgB := B2.out.blk_lt (g := gB) rfl
      have hBP : gB ≠ gP := by
        rcases HNE.out with h | h
        · cases h
        · intro e; exact h (by rw [e]; rfl)
      have p2 := pow_le4 hw4
      have e1 : IntKind.i64.wrap (2 ^ ws.length) = 2 ^ ws.length := IntWalk.i64_in _ (by omega)
      have e3 : IntKind.u64.wrap (ws.length : Int) = ws.length := IntWalk.u64_in _ (by omega)
      have E1 := Lib.hid e1
      have E3 := Lib.hid e3
      have i2 : (0 : Int) < (bs.length : Int) := by omega
      have i3 : 0 < bs.length := by omega
      clear e1 e3
      go_wp2_with fail
      have e1 := E1.out
      have e3 := E3.out
      go_region_law (first
        | (go_simp
           go_at_call 32
           refine (c_numL g (P + 2) [-1, 2 ^ ws.length, 9223372036854775807] _ _ _ w2.drew rfl rfl R2.out.drew (by omega) (by simp) (by simp)).mono ?_
           rintro e w3 ⟨x, rfl, hx, hr3, hg3⟩
           have hkeep : w3.cell? ⟨w.heap.size, 1, none⟩ = some (.slice (some ⟨gB, 0, none⟩) bs.length cB) := (K02.out.drew.grown hg3 (by simp; omega)).cell 1
           have hwc : w3.cell? ⟨gB, 0, none⟩ = some (.int .i64 (gI bs 0)) := (hg3.cell_far ⟨gB, 0, none⟩ hgB.2 (by simp; omega)).trans wc
           have hwf : w3.frozen? ⟨gB, 0, none⟩ = false := (B2.out.drew.kept hg3 (fun x hx => by injection hx with hx; omega)).free (by simp) 0))
      all_goals
        have B3 := B2.out.drew.kept hg3 (fun x hx => by injection hx with hx; omega)
        have hst : w3.grownBy (w3.setCell ⟨gB, 0, none⟩ (.int .i64 x)) (some gB) := grow_set (World.grownBy.refl _ _) (.inl rfl) _
        have NB := Lib.hid (B3.stored (by simp) 0 (.int .i64 x))
        have NW := Lib.hid ((W2.out.drew.kept hg3 (fun x hx => by injection hx with hx; omega)).keptNe hst (fun y hy => by injection hy with hy; subst hy; exact (B2.out.ne_type W2.out (by decide)) _ rfl))
        have NP := Lib.hid ((P2.out.drew.kept hg3 (fun x hx => by injection hx with hx; omega)).keptNe hst (fun y hy hz => by injection hy with hy; injection hz with hz; exact hBP (hy.trans hz.symm)))
        have NR := Lib.hid (hr3.setFar (p := ⟨gB, 0, none⟩) (by simp; omega) (.int .i64 x))
        have NG := Lib.hid (grow_new (p := ⟨gB, 0, none⟩) (G2.out.trans ⟨hg3.os, hg3.tape, hg3.output, hg3.size, hg3.block⟩) (by simp; omega) (.int .i64 x))
        have N0 := Lib.hid ((K02.out.drew.grown hg3 (by simp; omega)).far (p := ⟨gB, 0, none⟩) (ne_ty K02.out B2.out (by decide)) (.int .i64 x))
        have N1 := Lib.hid ((K12.out.drew.grown hg3 (by simp; omega)).far (p := ⟨gB, 0, none⟩) (ne_ty K12.out B2.out (by decide)) (.int .i64 x))
        clear hr3 hg3 B3 hst hkeep hwc hwf wc x0 x1 y0 y1 u0 u1 v0 v1 K02 K12 W2 B2 P2 R2 hx e1 e3
        generalize w3.setCell ⟨gB, 0, none⟩ (.int .i64 x) = w5 at *
        have HF := Lib.hid (bad_fin (w0 := w0) (b := w.heap.size + 1) N1.out NW.out (by decide) (by decide) (.inl ⟨setI_own NB.out, by simp; omega⟩) (.inl ⟨NP.out, by omega⟩) (by omega) (fun k hk => Nat.le_trans (HSZ.out k hk) (by omega)) NR.out NG.out (by omega) (by omega))
        have x0 : w5.cell? ⟨w.heap.size, 0, none⟩ = some (.slice (some ⟨gW, 0, none⟩) ws.length cW) := N0.out.cell 0
        have x1 : w5.cell? ⟨w.heap.size, 1, none⟩ = some (.slice (some ⟨gB, 0, none⟩) bs.length cB) := N0.out.cell 1
        have y0 : w5.cell? ⟨w.heap.size + 1, 0, none⟩ = some (.slice none 0 0) := N1.out.cell 0
        have y1 : w5.cell? ⟨w.heap.size + 1, 1, none⟩ = some (.slice none 0 0) := N1.out.cell 1
        have v0 := N1.out.free 0
        have v1 := N1.out.free 1
        go_wp2_with fail
        have hf := HF.out
        generalize (w5.setCell ⟨w.heap.size + 1, 0, none⟩ (.slice (some ⟨gW, 0, none⟩) ws.length cW)).setCell ⟨w.heap.size + 1, 1, none⟩ (.slice (some ⟨gB, 0, none⟩) bs.length cB) = WF at *
        obtain ⟨f0, f1, f2, f3, f4, f5, f6⟩ := hf
        refine bodyPost_ret (v := .tuple #[.agg #[.slice (some ⟨gW, 0, none⟩) ws.length cW, .slice (some ⟨gB, 0, none⟩) bs.length cB], .slice (some ⟨gP, 0, none⟩) ps.length cP]) (by simp [results, Try.results54, go_sem, f0, f1]) rfl
          ⟨_, _, _, ws, (bs.set 0 x), ps, rfl, f2, f3, f4, NGW.out, NGB.out, NGP.out, f5.more (by omega), f6⟩
    · have t1 : ((q : Int) == 1) = false := by rw [beq_eq_false_iff_ne]; omega
      by_cases q2 : q = 2
      · have t2 : ((q : Int) == 2) = true := by simp [q2]
        clear q0 q1 q2
        have N0 := Lib.hid (K02.out.set 1 (.slice (some ⟨gB, 0, none⟩) 0 cB))
        have N1 := Lib.hid (K12.out.far (p := ⟨w.heap.size, 1, none⟩) (by simp) (.slice (some ⟨gB, 0, none⟩) 0 cB))
        have NW := Lib.hid (W2.out.setTy (j := 1) K02.out (by decide) (.slice (some ⟨gB, 0, none⟩) 0 cB))
        have NP := Lib.hid (P2.out.setTy (j := 1) K02.out (by decide) (.slice (some ⟨gB, 0, none⟩) 0 cB))
        have NR := Lib.hid (R2.out.setFar (p := ⟨w.heap.size, 1, none⟩) (by simp; omega) (.slice (some ⟨gB, 0, none⟩) 0 cB))
        have NG := Lib.hid (grow_new (p := ⟨w.heap.size, 1, none⟩) G2.out (by simp; omega) (.slice (some ⟨gB, 0, none⟩) 0 cB))
        have HF := Lib.hid (bad_fin (w0 := w0) (b := w.heap.size + 1) N1.out NW.out (by decide) (by decide) (.inr ⟨some ⟨gB, 0, none⟩, cB, rfl, rfl⟩) (.inl ⟨NP.out, by omega⟩) (by omega) (fun k hk => Nat.le_trans (HSZ.out k hk) (by omega)) NR.out NG.out (by omega) (by omega))
        have z0 : (w2.setCell ⟨w.heap.size, 1, none⟩ (.slice (some ⟨gB, 0, none⟩) 0 cB)).cell? ⟨w.heap.size, 0, none⟩ = some (.slice (some ⟨gW, 0, none⟩) ws.length cW) := N0.out.cell 0
        have z1 : (w2.setCell ⟨w.heap.size, 1, none⟩ (.slice (some ⟨gB, 0, none⟩) 0 cB)).cell? ⟨w.heap.size, 1, none⟩ = some (.slice (some ⟨gB, 0, none⟩) 0 cB) := N0.out.cell 1
        have z2 : (w2.setCell ⟨w.heap.size, 1, none⟩ (.slice (some ⟨gB, 0, none⟩) 0 cB)).cell? ⟨w.heap.size + 1, 0, none⟩ = some (.slice none 0 0) := N1.out.cell 0
        have z3 : (w2.setCell ⟨w.heap.size, 1, none⟩ (.slice (some ⟨gB, 0, none⟩) 0 cB)).cell? ⟨w.heap.size + 1, 1, none⟩ = some (.slice none 0 0) := N1.out.cell 1
        have z4 := N1.out.free 0
        have z5 := N1.out.free 1
        go_wp2_with fail
        have hf := HF.out
        generalize ((w2.setCell ⟨w.heap.size, 1, none⟩ (.slice (some ⟨gB, 0, none⟩) 0 cB)).setCell ⟨w.heap.size + 1, 0, none⟩ (.slice (some ⟨gW, 0, none⟩) ws.length cW)).setCell ⟨w.heap.size + 1, 1, none⟩ (.slice (some ⟨gB, 0, none⟩) 0 cB) = WF at *
        obtain ⟨f0, f1, f2, f3, f4, f5, f6⟩ := hf
        refine bodyPost_ret (v := .tuple #[.agg #[.slice (some ⟨gW, 0, none⟩) ws.length cW, .slice (some ⟨gB, 0, none⟩) 0 cB], .slice (some ⟨gP, 0, none⟩) ps.length cP]) (by simp [results, Try.results54, go_sem, f0, f1]) rfl
          ⟨_, _, _, ws, [], ps, rfl, f2, f3, f4, NGW.out, fun h => NGB.out h, NGP.out, f5.more (by omega), f6⟩
      · have t2 : ((q : Int) == 2) = false := by rw [beq_eq_false_iff_ne]; omega
        by_cases q3 : q = 3
        · have t3 : ((q : Int) == 3) = true := by simp [q3]
          clear q0 q1 q2 q3
          have wc : w2.cell? ⟨gP, m, none⟩ = some (.int .i64 (gI ps m)) := P2.out.intAt (by omega)
          have wcs : w2.cell? ⟨gW, m, none⟩ = some (.string (gS ws m)) := W2.out.strAt hmw
          have hgP := P2.out.blk_lt (g := gP) rfl
          have hBP : gB ≠ gP := by
            rcases HNE.out with h | h
            · cases h
            · intro e; exact h (by rw [e]; rfl)
          have hlz : w.heap.size < w2.heap.size := by omega
          have hmp : m < ps.length := by omega
          go_wp2_with fail
          refine (c_numL g (P + 2) [-1, ((gS ws m).size : Int), 9223372036854775807] _ _ _ _ rfl rfl R2.out (by omega) (by simp) (by simp)).mono ?_
          rintro e w3 ⟨x, rfl, hx, hr3, hg3⟩
          have hwc : w3.cell? ⟨gP, m, none⟩ = some (.int .i64 (gI ps m)) := (hg3.cell_far ⟨gP, m, none⟩ hgP.2 (by simp; omega)).trans wc
          have hwf : w3.frozen? ⟨gP, m, none⟩ = false := (P2.out.kept hg3 (fun x hx => by injection hx with hx; omega)).free (by simp) m
          have P3 := P2.out.kept hg3 (fun x hx => by injection hx with hx; omega)
          have hst : w3.grownBy (w3.setCell ⟨gP, m, none⟩ (.int .i64 x)) (some gP) := grow_set (World.grownBy.refl _ _) (.inl rfl) _
          have NP := Lib.hid (P3.stored (by simp) m (.int .i64 x))
          have NW := Lib.hid ((W2.out.kept hg3 (fun x hx => by injection hx with hx; omega)).keptNe hst (fun y hy => by injection hy with hy; subst hy; exact (P2.out.ne_type W2.out (by decide)) _ rfl))
          have NB := Lib.hid ((B2.out.kept hg3 (fun x hx => by injection hx with hx; omega)).keptNe hst (fun y hy hz => by injection hy with hy; injection hz with hz; exact hBP (hz.trans hy.symm)))
          have NR := Lib.hid (hr3.setFar (p := ⟨gP, m, none⟩) (by simp; omega) (.int .i64 x))
          have NG := Lib.hid (grow_new (p := ⟨gP, m, none⟩) (G2.out.trans hg3) (by simp; omega) (.int .i64 x))
          have N0 := Lib.hid ((K02.out.grown hg3 (by simp; omega)).far (p := ⟨gP, m, none⟩) (ne_ty K02.out P2.out (by decide)) (.int .i64 x))
          have N1 := Lib.hid ((K12.out.grown hg3 (by simp; omega)).far (p := ⟨gP, m, none⟩) (ne_ty K12.out P2.out (by decide)) (.int .i64 x))
          clear hr3 hg3 P3 hst wc wcs x0 x1 y0 y1 u0 u1 v0 v1 K02 K12 W2 B2 P2 R2 hx
          have HF := Lib.hid (bad_fin (w0 := w0) (b := w.heap.size + 1) N1.out NW.out (by decide) (by decide) (.inl ⟨NB.out, by omega⟩) (.inl ⟨setI_own NP.out, by simp; omega⟩) (by omega) (fun k hk => Nat.le_trans (HSZ.out k hk) (by omega)) NR.out NG.out (by omega) (by omega))
          have x0 : (w3.setCell ⟨gP, m, none⟩ (.int .i64 x)).cell? ⟨w.heap.size, 0, none⟩ = some (.slice (some ⟨gW, 0, none⟩) ws.length cW) := N0.out.cell 0
          have x1 : (w3.setCell ⟨gP, m, none⟩ (.int .i64 x)).cell? ⟨w.heap.size, 1, none⟩ = some (.slice (some ⟨gB, 0, none⟩) bs.length cB) := N0.out.cell 1
          have y0 : (w3.setCell ⟨gP, m, none⟩ (.int .i64 x)).cell? ⟨w.heap.size + 1, 0, none⟩ = some (.slice none 0 0) := N1.out.cell 0
          have y1 : (w3.setCell ⟨gP, m, none⟩ (.int .i64 x)).cell? ⟨w.heap.size + 1, 1, none⟩ = some (.slice none 0 0) := N1.out.cell 1
          have v0 := N1.out.free 0
          have v1 := N1.out.free 1
          go_wp2_with fail
          have hf := HF.out
          generalize ((w3.setCell ⟨gP, m, none⟩ (.int .i64 x)).setCell ⟨w.heap.size + 1, 0, none⟩ (.slice (some ⟨gW, 0, none⟩) ws.length cW)).setCell ⟨w.heap.size + 1, 1, none⟩ (.slice (some ⟨gB, 0, none⟩) bs.length cB) = WF at *
          obtain ⟨f0, f1, f2, f3, f4, f5, f6⟩ := hf
          refine bodyPost_ret (v := .tuple #[.agg #[.slice (some ⟨gW, 0, none⟩) ws.length cW, .slice (some ⟨gB, 0, none⟩) bs.length cB], .slice (some ⟨gP, 0, none⟩) ps.length cP]) (by simp [results, Try.results54, go_sem, f0, f1]) rfl
            ⟨_, _, _, ws, bs, (ps.set m x), rfl, f2, f3, f4, NGW.out, NGB.out, NGP.out, f5.more (by omega), f6⟩
        · have t3 : ((q : Int) == 3) = false := by rw [beq_eq_false_iff_ne]; omega
          by_cases q4 : q = 4
          · have t4 : ((q : Int) == 4) = true := by simp [q4]
            clear q0 q1 q2 q3 q4
            have hBP : gB ≠ gP := by
              rcases HNE.out with h | h
              · cases h
              · intro e; exact h (by rw [e]; rfl)
            have hgP := P2.out.blk_lt (g := gP) rfl
            go_wp2_with (
              at_builtin
              refine app1 _ rfl _ _ _ rfl B 3 Try.underlying24 info_int rfl _ _ rfl P2.out _ rfl rfl (by simp; omega) (by omega) (by omega) ?_
              intro v7 w7 hown7 hgr7
              have hgr7' : w2.grownBy w7 (some gP) := hgr7
              have N0 := Lib.hid (K02.out.grown hgr7' (fun h => ne_ty K02.out P2.out (by decide) (by injection h)))
              have N1 := Lib.hid (K12.out.grown hgr7' (fun h => ne_ty K12.out P2.out (by decide) (by injection h)))
              have x0' : w7.cell? ⟨w.heap.size, 0, none⟩ = some (.slice (some ⟨gW, 0, none⟩) ws.length cW) := N0.out.cell 0
              have x1' : w7.cell? ⟨w.heap.size, 1, none⟩ = some (.slice (some ⟨gB, 0, none⟩) bs.length cB) := N0.out.cell 1
              have y0' : w7.cell? ⟨w.heap.size + 1, 0, none⟩ = some (.slice none 0 0) := N1.out.cell 0
              have y1' : w7.cell? ⟨w.heap.size + 1, 1, none⟩ = some (.slice none 0 0) := N1.out.cell 1
              have v0' := N1.out.free 0
              have v1' := N1.out.free 1
              have NP := Lib.hid hown7
              have NB := Lib.hid (B2.out.keptNe hgr7' (fun y hy hz => by injection hy with hy; injection hz with hz; exact hBP (hz.trans hy.symm)))
              have NW := Lib.hid (W2.out.keptNe hgr7' (fun y hy => by injection hy with hy; subst hy; exact (P2.out.ne_type W2.out (by decide)) _ rfl))
              have NR := Lib.hid (R2.out.own P2.out (by omega) hgr7)
              have NG := Lib.hid (grow_own G2.out P2.out hB hgr7)
              clear hown7 hgr7 hgr7')
            have HF := Lib.hid (bad_fin (w0 := w0) (ps := ps ++ [0]) (b := w.heap.size + 1) N1.out NW.out (by decide) (by decide) (.inl ⟨NB.out, by omega⟩) (.inl ⟨by simpa using NP.out, by simp; omega⟩) (by omega) (fun k hk => Nat.le_trans (HSZ.out k hk) (by omega)) NR.out NG.out (by omega) (by omega))
            have hf := HF.out
            generalize (w7.setCell ⟨w.heap.size + 1, 0, none⟩ (.slice (some ⟨gW, 0, none⟩) ws.length cW)).setCell ⟨w.heap.size + 1, 1, none⟩ (.slice (some ⟨gB, 0, none⟩) bs.length cB) = WF at *
            obtain ⟨f0, f1, f2, f3, f4, f5, f6⟩ := hf
            refine bodyPost_ret (v := .tuple #[.agg #[.slice (some ⟨gW, 0, none⟩) ws.length cW, .slice (some ⟨gB, 0, none⟩) bs.length cB], v7]) (by simp [results, Try.results54, go_sem, f0, f1]) rfl
              ⟨_, _, _, ws, bs, ps ++ [0], rfl, f2, f3, f4, NGW.out, NGB.out, NP.out.ne_blk (by omega), f5.more (by omega), f6⟩
          · have t4 : ((q : Int) == 4) = false := by rw [beq_eq_false_iff_ne]; omega
            clear q0 q1 q2 q3 q4
            have HF := Lib.hid (bad_fin (w0 := w0) (b := w.heap.size + 1) K12.out W2.out (by decide) (by decide) (.inl ⟨B2.out, by omega⟩) (.inl ⟨P2.out, by omega⟩) (by omega) (fun k hk => Nat.le_trans (HSZ.out k hk) (by omega)) R2.out G2.out (by omega) (by omega))
            go_wp2_with fail
            have hf := HF.out
            generalize (w2.setCell ⟨w.heap.size + 1, 0, none⟩ (.slice (some ⟨gW, 0, none⟩) ws.length cW)).setCell ⟨w.heap.size + 1, 1, none⟩ (.slice (some ⟨gB, 0, none⟩) bs.length cB) = WF at *
            obtain ⟨f0, f1, f2, f3, f4, f5, f6⟩ := hf
            refine bodyPost_ret (v := .tuple #[.agg #[.slice (some ⟨gW, 0, none⟩) ws.length cW, .slice (some ⟨gB, 0, none⟩) bs.length cB], .slice (some ⟨gP, 0, none⟩) ps.length cP]) (by simp [results, Try.results54, go_sem, f0, f1]) rfl
              ⟨_, _, _, ws, bs, ps, rfl, f2, f3, f4, NGW.out, NGB.out, NGP.out, f5.more (by omega), f6⟩
end Go.Proofs.Ytomgkpiogbmfgaa
