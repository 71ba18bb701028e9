/- Plain facts: permutations as functions; turned rotors; machines; what they encipher. -/
import Derived.Test.YtnfeddnkokocfaaKitS
namespace Go.Proofs.Ytnfeddnkokocfaa
set_option linter.unusedVariables false
set_option linter.unusedSimpArgs false

/-- a permutation of the numbers below ten -/
def IsP (f : Nat → Nat) : Prop := (∀ i, i < 10 → f i < 10) ∧ ∀ i, i < 10 → ∀ j, j < 10 → f i = f j → i = j
/-- its word -/
def pS (f : Nat → Nat) : ByteArray := mkS 10 (fun i => 97 + (f i : Int))
theorem pS_size (f : Nat → Nat) : (pS f).size = 10 := mkS_size _ _
theorem pS_bt {f : Nat → Nat} {i : Nat} (hi : i < 10) (hf : f i < 10) : bt (pS f) i = 97 + (f i : Int) := by
  unfold pS; rw [bt_mkS _ _ _ hi (by omega) (by omega)]
theorem pS_perm {f : Nat → Nat} (h : IsP f) : permB (pS f) = true := by
  rw [permB_iff]
  refine ⟨pS_size f, fun i hi => ?_, fun i hi j hj e => ?_⟩
  · have := h.1 i hi; rw [pS_bt hi this]; omega
  · rw [pS_bt hi (h.1 i hi), pS_bt (by omega) (h.1 j (by omega))] at e
    have := h.2 i hi j (by omega) (by omega)
    omega
theorem pn_pS {f : Nat → Nat} (h : IsP f) {i : Nat} (hi : i < 10) : pn (pS f) i = f i := by
  unfold pn; rw [pS_bt hi (h.1 i hi)]; omega
theorem pS_congr {f g : Nat → Nat} (h : ∀ i, i < 10 → f i = g i) : pS f = pS g := by
  unfold pS; exact mkS_congr fun k hk => by rw [h k hk]
theorem pS_inj {f g : Nat → Nat} (hf : IsP f) (hg : IsP g) (e : pS f = pS g) : ∀ i, i < 10 → f i = g i := fun i hi => by
  rw [← pn_pS hf hi, e, pn_pS hg hi]
theorem IsP.congr {f g : Nat → Nat} (h : IsP f) (e : ∀ i, i < 10 → f i = g i) : IsP g :=
  ⟨fun i hi => by rw [← e i hi]; exact h.1 i hi, fun i hi j hj q => h.2 i hi j hj (by rw [e i hi, e j hj]; exact q)⟩
theorem IsP.surj {f : Nat → Nat} (h : IsP f) {m : Nat} (hm : m < 10) : ∃ j, j < 10 ∧ f j = m := by
  obtain ⟨j, hj, e⟩ := pn_surj (pS_perm h) hm
  exact ⟨j, hj, by rw [← pn_pS h hj]; exact e⟩
theorem isP_pn {p : ByteArray} (h : permB p = true) : IsP (pn p) := ⟨fun _ hi => pn_lt h hi, fun _ hi _ hj e => pn_inj h hi hj e⟩
theorem pS_pn {p : ByteArray} (h : permB p = true) : pS (pn p) = p := by
  apply bt_ext (by rw [pS_size, permB_size h])
  intro k hk
  rw [pS_size] at hk
  rw [pS_bt hk (pn_lt h hk), pn_bt h hk]
theorem IsP.id : IsP (fun i => i) := ⟨fun _ hi => hi, fun _ _ _ _ e => e⟩
theorem IsP.comp {f g : Nat → Nat} (hf : IsP f) (hg : IsP g) : IsP (fun i => g (f i)) :=
  ⟨fun i hi => hg.1 _ (hf.1 i hi), fun i hi j hj e => hf.2 i hi j hj (hg.2 _ (hf.1 i hi) _ (hf.1 j hj) e)⟩
open Classical in
/-- what undoes it -/
noncomputable def invF (f : Nat → Nat) (m : Nat) : Nat := if h : ∃ j, j < 10 ∧ f j = m then h.choose else 0
theorem invF_of {f : Nat → Nat} (h : IsP f) {j : Nat} (hj : j < 10) : invF f (f j) = j := by
  have hex : ∃ i, i < 10 ∧ f i = f j := ⟨j, hj, rfl⟩
  unfold invF
  rw [dif_pos hex]
  exact h.2 _ hex.choose_spec.1 _ hj hex.choose_spec.2
theorem of_invF {f : Nat → Nat} (h : IsP f) {m : Nat} (hm : m < 10) : f (invF f m) = m ∧ invF f m < 10 := by
  have hex := h.surj hm
  unfold invF
  rw [dif_pos hex]
  exact ⟨hex.choose_spec.2, hex.choose_spec.1⟩
theorem IsP.inv {f : Nat → Nat} (h : IsP f) : IsP (invF f) :=
  ⟨fun _ hi => (of_invF h hi).2, fun i hi j hj e => by rw [← (of_invF h hi).1, ← (of_invF h hj).1, e]⟩
theorem invF_eq {f : Nat → Nat} (h : IsP f) {m j : Nat} (hm : m < 10) (hj : j < 10) (e : f j = m) : invF f m = j := by rw [← e]; exact invF_of h hj
theorem invF_congr {f g : Nat → Nat} (hf : IsP f) (e : ∀ i, i < 10 → f i = g i) {m : Nat} (hm : m < 10) : invF f m = invF g m := by
  have hg := hf.congr e
  have q := of_invF hg hm
  exact invF_eq hf hm q.2 (by rw [e _ q.2]; exact q.1)
theorem invF_comp {f g : Nat → Nat} (hf : IsP f) (hg : IsP g) {m : Nat} (hm : m < 10) : invF (fun i => g (f i)) m = invF f (invF g m) := by
  have a := of_invF hg hm
  have b := of_invF hf a.2
  exact invF_eq (hf.comp hg) hm b.2 (by show g (f (invF f (invF g m))) = m; rw [b.1, a.1])
theorem invF_invol {f : Nat → Nat} (h : IsP f) (hi : ∀ i, i < 10 → f (f i) = i) {m : Nat} (hm : m < 10) : invF f m = f m := invF_eq h hm (h.1 m hm) (hi m hm)
theorem invF_inv {f : Nat → Nat} (h : IsP f) {m : Nat} (hm : m < 10) : invF (invF f) m = f m := invF_eq h.inv hm (h.1 m hm) (invF_of h hm)

/-- a rotor with a wiring, turned by o -/
def rotF (wi : ByteArray) (o : Nat) : Nat → Nat := fun x => (pn wi ((x + o) % 10) + (10 - o)) % 10
theorem IsP.rot {wi : ByteArray} (h : permB wi = true) {o : Nat} (ho : o < 10) : IsP (rotF wi o) := by
  refine ⟨fun i _ => by unfold rotF; omega, fun i hi j hj e => ?_⟩
  unfold rotF at e
  have a := pn_lt h (i := (i + o) % 10) (by omega)
  have b := pn_lt h (i := (j + o) % 10) (by omega)
  have := pn_inj h (i := (i + o) % 10) (j := (j + o) % 10) (by omega) (by omega) (by omega)
  omega
/-- the way through the rotors n-1, .., 0, behind g -/
def wayF (l : List Rot) (of : Nat → Nat) : Nat → (Nat → Nat) → (Nat → Nat)
  | 0, g => g
  | n + 1, g => wayF l of n (fun x => rotF (gR l n).1 (of n) (g x))
theorem wayF_comp (l : List Rot) (of : Nat → Nat) (n : Nat) : ∀ (g : Nat → Nat) (x : Nat), wayF l of n g x = wayF l of n (fun y => y) (g x) := by
  induction n with
  | zero => intro g x; rfl
  | succ n ih => intro g x; unfold wayF; rw [ih, ih (fun x => rotF (gR l n).1 (of n) x)]
theorem IsP.way {l : List Rot} {of : Nat → Nat} {n : Nat} (hl : ∀ i, i < n → permB (gR l i).1 = true) (ho : ∀ i, i < n → of i < 10) : ∀ {g : Nat → Nat}, IsP g → IsP (wayF l of n g) := by
  induction n with
  | zero => intro g h; exact h
  | succ n ih => intro g h; exact ih (fun i hi => hl i (by omega)) (fun i hi => ho i (by omega)) (h.comp (IsP.rot (hl n (by omega)) (ho n (by omega))))
/-- there, through the reflector, and back -/
noncomputable def turnF (way : Nat → Nat) (rf : Nat → Nat) : Nat → Nat := fun x => invF way (rf (way x))
theorem IsP.turn {way rf : Nat → Nat} (hw : IsP way) (hr : IsP rf) : IsP (turnF way rf) := (hw.comp hr).comp hw.inv
theorem turn_invol {way rf : Nat → Nat} (hw : IsP way) (hr : IsP rf) (hi : ∀ i, i < 10 → rf (rf i) = i) {x : Nat} (hx : x < 10) : turnF way rf (turnF way rf x) = x := by
  unfold turnF
  have a := of_invF hw (hr.1 _ (hw.1 x hx))
  rw [a.1, hi _ (hw.1 x hx), invF_of hw hx]
theorem turn_ne {way rf : Nat → Nat} (hw : IsP way) (hr : IsP rf) (hn : ∀ i, i < 10 → rf i ≠ i) {x : Nat} (hx : x < 10) : turnF way rf x ≠ x := by
  intro e
  unfold turnF at e
  have a := of_invF hw (hr.1 _ (hw.1 x hx))
  rw [e] at a
  exact hn _ (hw.1 x hx) a.1.symm
theorem moved_all (p : ByteArray) (n : Nat) (h : moved p n = n) : ∀ i, i < n → pn p i ≠ i := by
  induction n with
  | zero => intro i hi; omega
  | succ n ih =>
    have hle := moved_le p n
    unfold moved at h
    intro i hi
    by_cases e : i = n
    · subst e
      intro hq
      rw [if_pos hq] at h
      omega
    · refine ih ?_ i (by omega)
      split at h <;> omega
theorem refl_facts {rf : ByteArray} (h : reflB rf = true) : IsP (pn rf) ∧ (∀ i, i < 10 → pn rf (pn rf i) = i) ∧ ∀ i, i < 10 → pn rf i ≠ i := by
  unfold reflB at h
  simp only [Bool.and_eq_true, decide_eq_true_eq] at h
  obtain ⟨h1, h2⟩ := h
  obtain ⟨a, b⟩ := (plugB_iff rf).1 h1
  have := moved_le rf 10
  exact ⟨isP_pn a, b, moved_all rf 10 (by omega)⟩

/-- a machine -/
structure Mch where
  l : List Rot
  rf : ByteArray
  rg : ByteArray
  pl : ByteArray
def mB (M : Mch) : Bool := winB M.l M.rf M.rg && plugB M.pl
theorem mB_iff (M : Mch) : mB M = true ↔ winB M.l M.rf M.rg = true ∧ plugB M.pl = true := by unfold mB; simp only [Bool.and_eq_true]
/-- the machine is valid and has these windows -/
def setB (M : Mch) (s : ByteArray) : Bool := mB M && (wv s && decide (s.size = M.rg.size))
theorem setB_iff (M : Mch) (s : ByteArray) : setB M s = true ↔ mB M = true ∧ wv s = true ∧ s.size = M.rg.size := by
  unfold setB; simp only [Bool.and_eq_true, decide_eq_true_eq]
theorem setB_win {M : Mch} {s : ByteArray} (h : setB M s = true) : winB M.l M.rf s = true := by
  obtain ⟨h1, h2, h3⟩ := (setB_iff M s).1 h
  obtain ⟨a, b, c⟩ := (winB_iff _ _ _).1 ((mB_iff M).1 h1).1
  exact (winB_iff _ _ _).2 ⟨a, h2, h3.trans c⟩
theorem setB_it {M : Mch} {s : ByteArray} (h : setB M s = true) (n : Nat) : setB M (it (stepS M.l) n s) = true := by
  obtain ⟨h1, h2, h3⟩ := (setB_iff M s).1 h
  exact (setB_iff _ _).2 ⟨h1, it_wv M.l n h2, by rw [it_size]; exact h3⟩
/-- the number of a letter -/
def dn (s : ByteArray) (i : Nat) : Nat := (bt s i - 97).toNat
theorem dn_spec {s : ByteArray} (h : wv s = true) {i : Nat} (hi : i < s.size) : dn s i < 10 ∧ bt s i = 97 + (dn s i : Int) := by
  have := ((wv_iff s).1 h).2 i hi
  unfold dn; omega
/-- by how much the rotors are turned -/
def ofF (M : Mch) (s : ByteArray) (i : Nat) : Nat := (dn s i + 10 - dn M.rg i) % 10
def wayM (M : Mch) (s : ByteArray) : Nat → Nat := wayF M.l (ofF M s) M.l.length (pn M.pl)
/-- the permutation of a machine at some windows -/
noncomputable def kF (M : Mch) (s : ByteArray) : Nat → Nat := turnF (wayM M s) (pn M.rf)
theorem wayM_P {M : Mch} {s : ByteArray} (h : mB M = true) : IsP (wayM M s) := by
  obtain ⟨h1, h2⟩ := (mB_iff M).1 h
  have hw := ((winB_iff _ _ _).1 h1).1
  refine IsP.way (fun i hi => ?_) (fun i _ => by unfold ofF; omega) (isP_pn ((plugB_iff _).1 h2).1)
  have := wheelsB_rot hw hi
  unfold rotB at this
  simp only [Bool.and_eq_true] at this
  exact this.1
theorem mB_refl {M : Mch} (h : mB M = true) : reflB M.rf = true := by
  have hw := ((winB_iff _ _ _).1 ((mB_iff M).1 h).1).1
  unfold wheelsB at hw
  simp only [Bool.and_eq_true] at hw
  exact hw.2.1
theorem kF_P {M : Mch} (s : ByteArray) (h : mB M = true) : IsP (kF M s) := (wayM_P h).turn (refl_facts (mB_refl h)).1
theorem kF_invol {M : Mch} (s : ByteArray) (h : mB M = true) {x : Nat} (hx : x < 10) : kF M s (kF M s x) = x :=
  turn_invol (wayM_P h) (refl_facts (mB_refl h)).1 (refl_facts (mB_refl h)).2.1 hx
theorem kF_ne {M : Mch} (s : ByteArray) (h : mB M = true) {x : Nat} (hx : x < 10) : kF M s x ≠ x :=
  turn_ne (wayM_P h) (refl_facts (mB_refl h)).1 (refl_facts (mB_refl h)).2.2 hx
/-- the same, as the reference reckons it: the letters of the wheels' permutation renamed by the plugboard -/
theorem kF_spec {M : Mch} (s : ByteArray) (h : mB M = true) {x : Nat} (hx : x < 10) :
    kF M s x = pn M.pl (turnF (wayF M.l (ofF M s) M.l.length (fun y => y)) (pn M.rf) (pn M.pl x)) := by
  obtain ⟨h1, h2⟩ := (mB_iff M).1 h
  obtain ⟨p1, p2⟩ := (plugB_iff _).1 h2
  have hp := isP_pn p1
  have hw := ((winB_iff _ _ _).1 h1).1
  have ht : IsP (wayF M.l (ofF M s) M.l.length (fun y => y)) := by
    refine IsP.way (fun i hi => ?_) (fun i _ => by unfold ofF; omega) IsP.id
    have := wheelsB_rot hw hi
    unfold rotB at this
    simp only [Bool.and_eq_true] at this
    exact this.1
  have hr := (refl_facts (mB_refl h)).1
  have e : ∀ y, wayM M s y = wayF M.l (ofF M s) M.l.length (fun y => y) (pn M.pl y) := fun y => wayF_comp _ _ _ _ _
  unfold kF turnF
  rw [e]
  have hx2 := hr.1 _ (ht.1 _ (hp.1 x hx))
  rw [invF_congr (g := fun y => wayF M.l (ofF M s) M.l.length (fun y => y) (pn M.pl y)) (wayM_P h) (fun i _ => e i) hx2, invF_comp hp ht hx2]
  exact invF_invol hp p2 (of_invF ht hx2).2
/-- what a machine makes of a word -/
noncomputable def encW (M : Mch) (s w : ByteArray) : ByteArray := mkS w.size (fun i => 97 + (kF M (it (stepS M.l) (i + 1) s) (dn w i) : Int))
theorem encW_size (M : Mch) (s w : ByteArray) : (encW M s w).size = w.size := mkS_size _ _
theorem encW_bt {M : Mch} {s w : ByteArray} (h : mB M = true) (hw : wv w = true) {i : Nat} (hi : i < w.size) : bt (encW M s w) i = 97 + (kF M (it (stepS M.l) (i + 1) s) (dn w i) : Int) ∧ kF M (it (stepS M.l) (i + 1) s) (dn w i) < 10 := by
  have := (kF_P (it (stepS M.l) (i + 1) s) h).1 _ (dn_spec hw hi).1
  unfold encW
  rw [bt_mkS _ _ _ hi (by omega) (by omega)]
  exact ⟨rfl, this⟩
theorem encW_dn {M : Mch} {s w : ByteArray} (h : mB M = true) (hw : wv w = true) {i : Nat} (hi : i < w.size) : dn (encW M s w) i = kF M (it (stepS M.l) (i + 1) s) (dn w i) := by
  have := encW_bt (s := s) h hw hi
  unfold dn at *
  omega
theorem encW_wv {M : Mch} {s w : ByteArray} (h : mB M = true) (hw : wv w = true) : wv (encW M s w) = true := by
  rw [wv_iff, encW_size]
  refine ⟨((wv_iff w).1 hw).1, fun k hk => ?_⟩
  have := encW_bt (s := s) h hw hk
  omega
theorem encW_twice {M : Mch} {s w : ByteArray} (h : mB M = true) (hw : wv w = true) : encW M s (encW M s w) = w := by
  apply bt_ext (by rw [encW_size, encW_size])
  intro k hk
  rw [encW_size, encW_size] at hk
  rw [(encW_bt h (encW_wv h hw) (by rw [encW_size]; exact hk)).1, encW_dn h hw hk, kF_invol _ h (dn_spec hw hk).1, (dn_spec hw hk).2]
theorem encW_ne {M : Mch} {s w : ByteArray} (h : mB M = true) (hw : wv w = true) {i : Nat} (hi : i < w.size) : bt (encW M s w) i ≠ bt w i := by
  have a := encW_bt (s := s) h hw hi
  have b := dn_spec hw hi
  have := kF_ne (it (stepS M.l) (i + 1) s) h b.1
  omega
theorem encW_inj {M : Mch} {s w v : ByteArray} (h : mB M = true) (hw : wv w = true) (hv : wv v = true) {i : Nat} (hi : i < w.size) (hj : i < v.size) : bt (encW M s w) i = bt (encW M s v) i ↔ bt w i = bt v i := by
  have a := encW_bt (s := s) h hw hi
  have b := encW_bt (s := s) h hv hj
  have c := dn_spec hw hi
  have d := dn_spec hv hj
  constructor
  · intro e
    have := (kF_P (it (stepS M.l) (i + 1) s) h).2 _ c.1 _ d.1 (by omega)
    omega
  · intro e
    have : dn w i = dn v i := by omega
    rw [a.1, b.1, this]
end Go.Proofs.Ytnfeddnkokocfaa
