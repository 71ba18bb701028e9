/- Contract of FormatCage (impl), the walk of FnExactFormatCage. -/
import Derived.Test.YthelcpfcamidiaaDoorFormat2
namespace Go.Proofs.YthelcpfcamidiaaDoor
set_option linter.unusedVariables false
set_option linter.unusedSimpArgs false
open Go.RowKit

theorem IsStrs.cellsJ {w : World} {b o n c : Nat} {l : List ByteArray} (h : IsStrs w (.slice (some ⟨b, o, none⟩) n c) l) : ∀ (j : Nat) x, l[j]? = some x → w.cell? ⟨b, o + j, none⟩ = some (.string x) := by
  intro j x hx
  have hj : j < l.length := (List.getElem?_eq_some_iff.1 hx).1
  obtain ⟨b', o', e, _, hc⟩ := h.at_ hj
  injection e with e
  injection e with e1 e2
  subst e1 e2
  rw [hc]
  unfold gS
  rw [List.getD_eq_getElem?_getD, hx]
  rfl
theorem join_all (l : List ByteArray) : (⟨(Lib.join (l.map (·.data.toList)) [32]).toArray⟩ : ByteArray) = jnS l l.length := by
  have := join_jnS l l.length (Nat.le_refl _)
  rw [List.take_length] at this
  exact this
theorem join_allz (l : List ByteArray) : (Lib.join (l.map (·.data.toList)) [32]).length = (jnS l l.length).size := by
  rw [← join_all l]
  show _ = (Lib.join (l.map (·.data.toList)) [32]).toArray.size
  simp
set_option maxHeartbeats 1000000 in
set_option maxRecDepth 100000 in
theorem c_FormatCage (A B : Option Addr) (cA cB : Nat) (ws : List ByteArray) (bs : List Int) (w : World) (hW : IsStrs w (.slice A ws.length cA) ws) (hB : IsInts w (.slice B bs.length cB) bs) (hcap : ws.length ≤ cA) :
    Calls Tryd.prog 7 #[.agg #[.slice A ws.length cA, .slice B bs.length cB]] w fun e w' => e = .returned (.string (fmtR ws bs)) ∧ Below w.heap.size w w' := by
  have K0 := Lib.hid (Blk.new w 28 #[.slice A ws.length cA, .slice B bs.length cB])
  have hb0 := ext_alloc w (.cells #[.slice A ws.length cA, .slice B bs.length cB] 28)
  have W0 := Lib.hid (hW.ext hb0)
  have I0 := Lib.hid (hB.ext hb0)
  have B0 := Lib.hid hb0
  clear hW hB hb0
  go_enter Tryd.func7, Tryd.ntmps7
  have x0 := K0.out.cell 0
  have x1 := K0.out.cell 1
  go_wp2_with fail
  refine (c_CageValid _ _ ws bs _ W0.out I0.out).mono ?_
  rintro e w1 ⟨rfl, hb1⟩
  have K1 := Lib.hid (K0.out.ext hb1)
  have W1 := Lib.hid (W0.out.ext hb1)
  have I1 := Lib.hid (I0.out.ext hb1)
  have B1 := Lib.hid (ext_trans B0.out hb1)
  clear hb1 x0 x1 K0 W0 I0 B0
  cases hc : cageB ws bs with
  | false =>
    have HE : Hid (fmtR ws bs = ⟨#[]⟩) := by show fmtR ws bs = _; unfold fmtR; rw [hc]; rfl
    clear hc
    go_wp2_with fail
    go_ret
    exact ⟨by rw [HE.out]; rfl, B1.out⟩
  | true =>
    have HE : Hid (fmtR ws bs = jnS ws ws.length ++ ⟨#[47]⟩ ++ jnS (decL bs) bs.length) := by show fmtR ws bs = _; unfold fmtR; rw [hc]; rfl
    obtain ⟨h1, h2, h3, h4, h5, h6⟩ := cageB_all hc
    have hzw := jnS_size ws 9 ws.length (fun i hi => h5 i hi)
    have hzb := jnS_size (decL bs) 2 bs.length (fun i hi => by
      rw [decL_at bs hi]
      obtain ⟨d, e, hd⟩ := h6 i hi
      rw [e]
      exact (decW_size (by omega)).2)
    have HZW : Hid ((jnS ws ws.length).size ≤ 40) := by show (jnS ws ws.length).size ≤ 40; omega
    have HZB : Hid ((jnS (decL bs) bs.length).size ≤ 27) := by show (jnS (decL bs) bs.length).size ≤ 27; omega
    have H6 : Hid (∀ k, k < bs.length → ∃ d : Nat, gI bs k = (d : Int) ∧ d < 16) := h6
    have x0 := K1.out.cell 0
    have x1 := K1.out.cell 1
    clear hc h5 h6 hzw hzb
    go_wp2_with fail
    go_loopw [3, 12] (fun v i wr => ∃ k : Nat, k ≤ bs.length ∧ i = .int .i64 k ∧ Own wr w1.heap.size 9 v (((decL bs).take k).map .string) ∧ Below w1.heap.size w1 wr ∧ w1.heap.size ≤ wr.heap.size) (fun _ i _ => bs.length - (intOf i).toNat)
    case atStart => exact ⟨0, Nat.zero_le _, rfl, Own.nil _ _ _, Below.refl _ _, Nat.le_refl _⟩
    case round =>
      clear x0 x1
      obtain ⟨k, hk, rfl, hO, hB, hws⟩ := hrel
      have hlen : ((decL bs).take k).length = k := by rw [List.length_take, decL_len]; omega
      obtain ⟨AO, cO, rfl⟩ := hO.slice
      rw [List.length_map, hlen] at hO ⊢
      have O := Lib.hid hO
      have BB := Lib.hid hB
      have K2 := Lib.hid (K1.out.ext hB)
      have W2 := Lib.hid (W1.out.ext hB)
      have hI2 := I1.out.ext hB
      have B2 := Lib.hid (ext_trans B1.out hB)
      have HLEN := Lib.hid hlen
      by_cases hlt : k < bs.length
      · obtain ⟨b, o, rfl, hb, hcl⟩ := hI2.at_ hlt
        obtain ⟨d, hd, hd16⟩ := H6.out k hlt
        have hdl := decL_at bs hlt
        rw [hd] at hcl hdl
        rw [show ((d : Int)).toNat = d by omega] at hdl
        have htk : Hid (((decL bs).take (k + 1)).map Value.string = ((decL bs).take k).map .string ++ [.string (decW d)]) := by
          show _ = _
          have hkl : k < (decL bs).length := by rw [decL_len]; exact hlt
          have e2 : (decL bs)[k]'hkl = decW d := by
            rw [← hdl]; unfold gS; rw [List.getD_eq_getElem?_getD, List.getElem?_eq_getElem hkl]; rfl
          rw [List.take_add_one, List.getElem?_eq_getElem hkl, e2, List.map_append]
          rfl
        obtain ⟨u, hu⟩ : ∃ u, decW d = u := ⟨_, rfl⟩
        rw [hu] at htk
        have HU := Lib.hid hu
        have i0 : (0 : Int) ≤ k := by omega
        have i1 : (k : Int) < bs.length := by omega
        have hll : (((decL bs).take k).map Value.string).length ≤ 1000000000 := by rw [List.length_map, hlen]; omega
        clear hO hB hI2 hd hdl hu hlen
        go_wp2_with fail
        refine (Tryd.strconv_Itoa_small d (by omega) _).mono ?_
        rintro e w' ⟨rfl, rfl⟩
        rw [show (⟨(Lib.decDigits d).toArray⟩ : ByteArray) = u from HU.out]
        go_wp2_with (at_builtin; refine app1 _ rfl _ _ _ rfl w1.heap.size 9 Tryd.underlying22 info_str rfl _ _ rfl O.out _ rfl rfl hll (by omega) hws ?_; intro v' w8 hown8 hgr8)
        have hB8 := O.out.below (Nat.le_refl _) hws BB.out hgr8
        have hs8 := hgr8.size
        have O8 := Lib.hid hown8
        clear hown8 hgr8
        go_wp2_with fail
        refine ⟨⟨k + 1, by omega, by go_num, ?_, hB8, Nat.le_trans hws hs8⟩, by simp [intOf]; omega⟩
        rw [htk.out]
        exact O8.out
      · have e : k = bs.length := by omega
        subst e
        have htl : (decL bs).take bs.length = decL bs := by rw [← decL_len bs, List.take_length]
        rw [htl] at hO hlen
        obtain ⟨g, hg, hgc⟩ : ∃ g, AO = some ⟨g, 0, none⟩ ∧ bs.length ≤ cO := by
          rcases hO.2 with ⟨e, _⟩ | ⟨g, cap, cur, e, _, _, h, _⟩
          · injection e with e1 e2; omega
          · injection e with e1 e2 e3
            rw [List.length_map, decL_len] at h
            exact ⟨g, e1, by omega⟩
        subst hg
        have hS : IsStrs wr (.slice (some ⟨g, 0, none⟩) bs.length cO) (decL bs) := by
          have h := hO.strs (by rw [decL_len]; omega) (fun j hj => by
            rw [decL_len] at hj
            rw [decL_at bs hj]
            obtain ⟨d, e, hd⟩ := H6.out j hj
            rw [e]
            have := (decW_size (d := (d : Int).toNat) (by omega)).2
            omega)
          exact h
        have hgl := (hO.blk_lt (g := g) rfl).2
        have S := Lib.hid hS
        obtain ⟨b, o, rfl, hb, _⟩ := W2.out.at_ (k := 0) (by omega)
        have x0 := K2.out.cell 0
        have hJW := join_all ws
        have hJB := join_all (decL bs)
        have hjz := join_allz ws
        have hjzb := join_allz (decL bs)
        rw [decL_len] at hJB hjzb
        have HJW := Lib.hid hJW
        have HJB := Lib.hid hJB
        have hz1 := HZW.out
        have hz2 := HZB.out
        obtain ⟨P, hP⟩ : ∃ P, jnS ws ws.length = P := ⟨_, rfl⟩
        obtain ⟨Q, hQ⟩ : ∃ Q, jnS (decL bs) bs.length = Q := ⟨_, rfl⟩
        rw [hP] at hz1 hjz HJW HE
        rw [hQ] at hz2 hjzb HJB HE
        have HLW : Hid ((Lib.join (ws.map (·.data.toList)) [32]).length ≤ 140737488355328) := by show _ ≤ _; omega
        have HLB : Hid ((Lib.join ((decL bs).map (·.data.toList)) [32]).length ≤ 140737488355328) := by show _ ≤ _; omega
        have z47 : (⟨#[47]⟩ : ByteArray).size = 1 := rfl
        have n1 : ¬ 9223372036854775807 < P.size + 1 := by omega
        have n2 : ¬ 9223372036854775807 < P.size + 1 + Q.size := by omega
        clear hO hB hI2 hS hlen htl hP hQ hJW hJB hjz hjzb HLEN
        go_wp2_with fail
        refine (Tryd.strings_Join b o cA ws ⟨#[32]⟩ _ W2.out.cellsJ hb (by omega) hcap HLW.out).mono ?_
        rintro e w9 ⟨rfl, hb9⟩
        have S9 := Lib.hid (S.out.ext hb9)
        have B9 := Lib.hid (ext_trans B2.out hb9)
        have hg9 : g < w9.heap.size := Nat.lt_of_lt_of_le hgl hb9.size
        rw [show (⟨(Lib.join (ws.map (·.data.toList)) [32]).toArray⟩ : ByteArray) = P from HJW.out]
        clear hb9 x0
        go_wp2_with fail
        have hcl := S9.out.cellsJ
        have hjn := Tryd.strings_Join g 0 cO (decL bs) ⟨#[32]⟩ w9 hcl hg9 (by rw [decL_len]; omega) (by rw [decL_len]; exact hgc) HLB.out
        rw [decL_len] at hjn
        refine hjn.mono ?_
        rintro e w10 ⟨rfl, hb10⟩
        have B10 := Lib.hid (ext_trans B9.out hb10)
        rw [show (⟨(Lib.join ((decL bs).map (·.data.toList)) [32]).toArray⟩ : ByteArray) = Q from HJB.out]
        clear hb10 hcl hjn
        go_wp2_with fail
        go_ret
        exact ⟨by rw [HE.out]; rfl, B10.out⟩
end Go.Proofs.YthelcpfcamidiaaDoor
