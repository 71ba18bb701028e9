/- Links of a menu: how they lie; MenuValid (impl). -/
import Derived.Test.YtnfeddnkokocfaaKitA
namespace Go.Proofs.Ytnfeddnkokocfaa
set_option linter.unusedVariables false
set_option linter.unusedSimpArgs false
open Go.RowKit

abbrev Lnk := ByteArray × ByteArray × Int
def gL (l : List Lnk) (k : Nat) : Lnk := l.getD k (ByteArray.empty, ByteArray.empty, 0)
/-- a slice that reads as a list of links -/
def IsLinks (w : World) (v : Value) (l : List Lnk) : Prop :=
  ∃ A c, v = .slice A l.length c ∧ l.length ≤ 9223372036854775807 ∧ (∀ k, k < l.length → (gL l k).1.size ≤ 9223372036854775807 ∧ (gL l k).2.1.size ≤ 9223372036854775807) ∧
    ∀ k, k < l.length → ∃ b o, A = some ⟨b, o, none⟩ ∧ b < w.heap.size ∧ w.cell? ⟨b, o + k * 3, none⟩ = some (.string (gL l k).1) ∧ w.cell? ⟨b, o + k * 3 + 1, none⟩ = some (.string (gL l k).2.1) ∧ w.cell? ⟨b, o + k * 3 + 2, none⟩ = some (.int .i64 (gL l k).2.2)
theorem IsLinks.ext {w w' : World} {v : Value} {l : List Lnk} (h : IsLinks w v l) (hb : Below w.heap.size w w') : IsLinks w' v l := by
  obtain ⟨A, c, rfl, h1, h2, h3⟩ := h
  refine ⟨A, c, rfl, h1, h2, fun k hk => ?_⟩
  obtain ⟨b, o, e, hlt, hc, hd, he⟩ := h3 k hk
  exact ⟨b, o, e, Nat.lt_of_lt_of_le hlt hb.size, (hb.cell (p := ⟨b, o + k * 3, none⟩) hlt).trans hc, (hb.cell (p := ⟨b, o + k * 3 + 1, none⟩) hlt).trans hd, (hb.cell (p := ⟨b, o + k * 3 + 2, none⟩) hlt).trans he⟩
theorem IsLinks.form {w : World} {v : Value} {l : List Lnk} (h : IsLinks w v l) : ∃ A c, v = .slice A l.length c := by
  obtain ⟨A, c, e, _⟩ := h; exact ⟨A, c, e⟩
theorem IsLinks.len_le {w : World} {v : Value} {l : List Lnk} (h : IsLinks w v l) : l.length ≤ 9223372036854775807 := by
  obtain ⟨A, c, e, h1, _⟩ := h; exact h1
theorem IsLinks.sizes {w : World} {v : Value} {l : List Lnk} (h : IsLinks w v l) {k : Nat} (hk : k < l.length) : (gL l k).1.size ≤ 9223372036854775807 ∧ (gL l k).2.1.size ≤ 9223372036854775807 := by
  obtain ⟨A, c, e, _, h2, _⟩ := h; exact h2 k hk
theorem IsLinks.at_ {w : World} {A : Option Addr} {n c : Nat} {l : List Lnk} (h : IsLinks w (.slice A n c) l) {k : Nat} (hk : k < l.length) :
    ∃ b o, A = some ⟨b, o, none⟩ ∧ b < w.heap.size ∧ w.cell? ⟨b, o + k * 3, none⟩ = some (.string (gL l k).1) ∧ w.cell? ⟨b, o + k * 3 + 1, none⟩ = some (.string (gL l k).2.1) ∧ w.cell? ⟨b, o + k * 3 + 2, none⟩ = some (.int .i64 (gL l k).2.2) := by
  obtain ⟨A', c', e, h1, h2, h3⟩ := h
  injection e with e1 e2 e3
  subst e1
  exact h3 k hk
/-- a link may come behind one at place last -/
def linkB (last : Int) (x : Lnk) : Bool := decide (x.1.size = 1) && (decide (x.2.1.size = 1) && (wv (x.1 ++ x.2.1) && (decide (x.1 ≠ x.2.1) && (decide (last < x.2.2) && decide (x.2.2 ≤ 60)))))
def lastL (l : List Lnk) (k : Nat) : Int := if k = 0 then 0 else (gL l (k - 1)).2.2
def menuB (l : List Lnk) : Bool := (decide (1 ≤ l.length) && decide (l.length ≤ 12)) && allB l.length (fun k => linkB (lastL l k) (gL l k))
theorem menuB_len {l : List Lnk} (h : ¬ (1 ≤ l.length ∧ l.length ≤ 12)) : menuB l = false := by
  cases e : menuB l with
  | false => rfl
  | true => unfold menuB at e; simp only [Bool.and_eq_true, decide_eq_true_eq] at e; exact absurd e.1 h
theorem menuB_bad {l : List Lnk} {k : Nat} (hk : k < l.length) (h : linkB (lastL l k) (gL l k) = false) : menuB l = false := by
  unfold menuB; rw [allB_false (k := k) hk h]; simp
theorem menuB_good {l : List Lnk} (h : 1 ≤ l.length ∧ l.length ≤ 12) (ha : allB l.length (fun k => linkB (lastL l k) (gL l k)) = true) : menuB l = true := by
  unfold menuB; rw [ha]; simp [h.1, h.2]
theorem linkB_iff (last : Int) (x : Lnk) : linkB last x = true ↔ x.1.size = 1 ∧ x.2.1.size = 1 ∧ wv (x.1 ++ x.2.1) = true ∧ x.1 ≠ x.2.1 ∧ last < x.2.2 ∧ x.2.2 ≤ 60 := by
  unfold linkB; simp only [Bool.and_eq_true, decide_eq_true_eq]
theorem linkB_no {last : Int} {x : Lnk} (h : ¬ (x.1.size = 1 ∧ x.2.1.size = 1 ∧ wv (x.1 ++ x.2.1) = true ∧ x.1 ≠ x.2.1 ∧ last < x.2.2 ∧ x.2.2 ≤ 60)) : linkB last x = false := by
  rw [← Bool.not_eq_true, linkB_iff]; exact h
set_option maxHeartbeats 1000000 in
set_option maxRecDepth 100000 in
theorem c_MenuValid (v : Value) (l : List Lnk) (w : World) (hl : IsLinks w v l) : Calls Try.prog 81 #[v] w fun e w' => e = .returned (.bool (menuB l)) ∧ Below w.heap.size w w' := by
  have HL := Lib.hid hl
  have hll := hl.len_le
  obtain ⟨A, c, rfl⟩ := hl.form
  clear hl
  by_cases h1 : l.length < 1
  · have HM := Lib.hid (menuB_len (l := l) (by omega))
    have i1 : (l.length : Int) < 1 := by omega
    go_enter Try.func81, Try.ntmps81
    go_wp2_with fail
    go_ret
    exact ⟨by rw [HM.out]; simp, Below.refl _ _⟩
  by_cases h2 : 12 < l.length
  · have HM := Lib.hid (menuB_len (l := l) (by omega))
    have i1 : ¬ (l.length : Int) < 1 := by omega
    have i2 : (12 : Int) < l.length := by omega
    go_enter Try.func81, Try.ntmps81
    go_wp2_with fail
    go_ret
    exact ⟨by rw [HM.out]; simp, Below.refl _ _⟩
  have i1 : ¬ (l.length : Int) < 1 := by omega
  have i2 : ¬ (12 : Int) < l.length := by omega
  go_enter Try.func81, Try.ntmps81
  go_wp2_with fail
  go_loopw [3, 16] (fun x i wr => ∃ k : Nat, k ≤ l.length ∧ i = .int .i64 k ∧ x = .int .i64 (lastL l k) ∧ allB k (fun k => linkB (lastL l k) (gL l k)) = true ∧ Below w.heap.size w wr) (fun _ i _ => l.length - (intOf i).toNat)
  case atStart => exact ⟨0, Nat.zero_le _, rfl, rfl, rfl, Below.refl _ _⟩
  case round =>
    obtain ⟨k, hk, rfl, rfl, ha, hbr⟩ := hrel
    have HA := Lib.hid ha
    have HB := Lib.hid hbr
    obtain ⟨last, hlast⟩ : ∃ z, lastL l k = z := ⟨_, rfl⟩
    rw [hlast]
    have HLA := Lib.hid hlast
    by_cases hlt : k < l.length
    · obtain ⟨b, o, rfl, hb, c0, c1, c2⟩ := (HL.out.ext hbr).at_ hlt
      have hz := HL.out.sizes hlt
      have hnx : lastL l (k + 1) = (gL l k).2.2 := rfl
      obtain ⟨⟨f, t, n⟩, hg⟩ : ∃ x, gL l k = x := ⟨_, rfl⟩
      rw [hg] at c0 c1 c2 hz hnx
      simp only at c0 c1 c2 hz hnx
      have hbad : Hid (linkB last (f, t, n) = false → menuB l = false) := fun h => menuB_bad hlt (by rw [hlast, hg]; exact h)
      have hok : Hid (linkB last (f, t, n) = true → allB (k + 1) (fun k => linkB (lastL l k) (gL l k)) = true) := fun h => allB_step HA.out (by rw [hlast, hg]; exact h)
      have HNX := Lib.hid hnx
      have B2 := Lib.hid (HB.out.trans ((ext_alloc wr (.cells #[.string f, .string t, .int .i64 n] 110)).mono HB.out.size))
      have KN := Lib.hid (Blk.new wr 110 #[.string f, .string t, .int .i64 n])
      have y0 := KN.out.cell 0
      have y1 := KN.out.cell 1
      have y2 := KN.out.cell 2
      have i3 : (0 : Int) ≤ k := by omega
      have i4 : (k : Int) < l.length := by omega
      obtain ⟨hz1, hz2⟩ := hz
      clear ha hbr hlast hg hnx
      by_cases f1 : f.size = 1
      · by_cases t1 : t.size = 1
        · have q1 : (f.size : Int) = 1 := by omega
          have q2 : (t.size : Int) = 1 := by omega
          have hzs : (f ++ t).size ≤ 9223372036854775807 := by rw [ByteArray.size_append]; omega
          have n1 : ¬ 9223372036854775807 < f.size + t.size := by omega
          cases hv : wv (f ++ t) with
          | false =>
            have HM := Lib.hid (hbad.out (linkB_no (by simp [hv])))
            have HV := Lib.hid hv
            clear hv
            go_wp2_with (go_at_call 43; refine (c_WordValid _ _ hzs).mono ?_; rintro e w' ⟨rfl, rfl⟩; rw [HV.out])
            go_ret
            exact ⟨by rw [HM.out]; simp, B2.out⟩
          | true =>
            have HV := Lib.hid hv
            clear hv
            by_cases he : f = t
            · have HM := Lib.hid (hbad.out (linkB_no (by simp [he])))
              subst he
              go_wp2_with (go_at_call 43; refine (c_WordValid _ _ hzs).mono ?_; rintro e w' ⟨rfl, rfl⟩; rw [HV.out])
              go_ret
              exact ⟨by rw [HM.out]; simp, B2.out⟩
            · have be : (f.toList == t.toList) = false := bs_no he
              by_cases ha : n ≤ last
              · have HM := Lib.hid (hbad.out (linkB_no (by intro h; have := h.2.2.2.2.1; simp only at this; omega)))
                go_wp2_with (go_at_call 43; refine (c_WordValid _ _ hzs).mono ?_; rintro e w' ⟨rfl, rfl⟩; rw [HV.out])
                go_ret
                exact ⟨by rw [HM.out]; simp, B2.out⟩
              · by_cases h60 : 60 < n
                · have HM := Lib.hid (hbad.out (linkB_no (by intro h; have := h.2.2.2.2.2; simp only at this; omega)))
                  go_wp2_with (go_at_call 43; refine (c_WordValid _ _ hzs).mono ?_; rintro e w' ⟨rfl, rfl⟩; rw [HV.out])
                  go_ret
                  exact ⟨by rw [HM.out]; simp, B2.out⟩
                · have HM := Lib.hid (hok.out ((linkB_iff _ _).2 ⟨f1, t1, HV.out, he, by show last < n; omega, by show n ≤ 60; omega⟩))
                  go_wp2_with (go_at_call 43; refine (c_WordValid _ _ hzs).mono ?_; rintro e w' ⟨rfl, rfl⟩; rw [HV.out])
                  exact ⟨⟨k + 1, by omega, by go_num, by rw [HNX.out], HM.out, B2.out⟩, by simp [intOf]; omega⟩
        · have HM := Lib.hid (hbad.out (linkB_no (by intro h; exact t1 h.2.1)))
          have q1 : (f.size : Int) = 1 := by omega
          have q2 : ¬ (t.size : Int) = 1 := by omega
          have q3 : ((t.size : Int) == 1) = false := by rw [beq_eq_false_iff_ne]; exact q2
          go_wp2_with fail
          go_ret
          exact ⟨by rw [HM.out]; simp [t1], B2.out⟩
      · have HM := Lib.hid (hbad.out (linkB_no (by intro h; exact f1 h.1)))
        have q1 : ¬ (f.size : Int) = 1 := by omega
        have q3 : ((f.size : Int) == 1) = false := by rw [beq_eq_false_iff_ne]; exact q1
        go_wp2_with fail
        go_ret
        exact ⟨by rw [HM.out]; simp [f1], B2.out⟩
    · have e : k = l.length := by omega
      subst e
      have HM := Lib.hid (menuB_good (l := l) (by omega) HA.out)
      clear ha hbr hlast
      go_wp2_with fail
      go_ret
      exact ⟨by rw [HM.out]; rfl, HB.out⟩
end Go.Proofs.Ytnfeddnkokocfaa
