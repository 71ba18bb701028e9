/- Plain facts: periods and lead-ins; rotors with one notch each. -/
import Derived.Test.YtlcanmofgjbcbaaStepMany
namespace Go.Proofs.Ytlcanmofgjbcbaa
set_option linter.unusedVariables false
set_option linter.unusedSimpArgs false

section
variable {α : Type}
/-- a phase that goes up by one with every step, modulo M, and tells all -/
theorem phase_it {f : α → α} {Inv : α → Prop} {φ : α → Nat} {M : Nat} (h1 : ∀ x, Inv x → Inv (f x)) (h2 : ∀ x, Inv x → φ (f x) = (φ x + 1) % M) (h3 : ∀ x, Inv x → φ x < M) {x : α} (hx : Inv x) (k : Nat) :
    Inv (it f k x) ∧ φ (it f k x) = (φ x + k) % M := by
  induction k with
  | zero => exact ⟨hx, by rw [it_zero, Nat.add_zero, Nat.mod_eq_of_lt (h3 x hx)]⟩
  | succ k ih => exact ⟨h1 _ ih.1, by rw [it_succ, h2 _ ih.1, ih.2, Nat.mod_add_mod, Nat.add_assoc]⟩
theorem mod_iff {a i j M : Nat} (hij : i < j) : (a + i) % M = (a + j) % M ↔ M ∣ (j - i) := by
  have e : a + j = (a + i) + (j - i) := by omega
  rw [e]
  constructor
  · intro h
    have q1 := Nat.div_add_mod (a + i) M
    have q2 := Nat.div_add_mod (a + i + (j - i)) M
    refine ⟨(a + i + (j - i)) / M - (a + i) / M, ?_⟩
    rw [Nat.mul_sub]
    generalize M * ((a + i + (j - i)) / M) = u at *
    generalize M * ((a + i) / M) = v at *
    omega
  · rintro ⟨k, hk⟩
    rw [hk, Nat.add_mul_mod_self_left]
theorem rho_phase {f : α → α} (Inv : α → Prop) (φ : α → Nat) {M : Nat} (hM : 1 ≤ M) (h1 : ∀ x, Inv x → Inv (f x)) (h2 : ∀ x, Inv x → φ (f x) = (φ x + 1) % M) (h3 : ∀ x, Inv x → φ x < M)
    (h4 : ∀ x y, Inv x → Inv y → φ x = φ y → x = y) {x : α} (hx : Inv x) : Rho f x 0 M := by
  refine ⟨hM, fun i j hij => ?_⟩
  obtain ⟨a1, a2⟩ := phase_it h1 h2 h3 hx i
  obtain ⟨b1, b2⟩ := phase_it h1 h2 h3 hx j
  constructor
  · intro e
    refine ⟨Nat.zero_le _, (mod_iff (a := φ x) hij).1 ?_⟩
    rw [← a2, ← b2, e]
  · rintro ⟨_, hd⟩
    exact h4 _ _ a1 b1 (by rw [a2, b2]; exact (mod_iff hij).2 hd)
/-- the period and the lead-in, from a later place in the cycle -/
theorem rho_tail {f : α → α} {x : α} {m p t M : Nat} (h : Rho f x m p) (h' : Rho f (it f t x) 0 M) : p = M ∧ m ≤ t := by
  have hp := h.1
  have hM := h'.1
  have e : ∀ i j, it f i (it f t x) = it f j (it f t x) ↔ it f (i + t) x = it f (j + t) x := fun i j => by rw [it_add, it_add]
  -- M is a period of x from t on
  have a := (h.2 (0 + t) (M + t) (by omega)).1 ((e 0 M).1 ((h'.2 0 M (by omega)).2 ⟨Nat.le_refl _, by simp⟩))
  have hm : m ≤ t := by omega
  have a2 : p ∣ M := by have := a.2; rwa [show M + t - (0 + t) = M by omega] at this
  have b := (h'.2 0 p (by omega)).1 ((e 0 p).2 ((h.2 (0 + t) (p + t) (by omega)).2 ⟨by omega, by rw [show p + t - (0 + t) = p by omega]; exact Nat.dvd_refl _⟩))
  exact ⟨Nat.dvd_antisymm a2 (by simpa using b.2), hm⟩
end

/-! ### rotors with one notch each -/
/-- the number of a letter -/
def dg (s : ByteArray) (i : Nat) : Nat := (bt s i - 97).toNat
theorem dg_spec {s : ByteArray} (h : wv s = true) {i : Nat} (hi : i < s.size) : dg s i < 10 ∧ bt s i = 97 + (dg s i : Int) := by
  have := ((wv_iff s).1 h).2 i hi
  unfold dg; omega
/-- how far a letter is behind the notch of its rotor -/
def rl (l : List Rot) (s : ByteArray) (i : Nat) : Nat := (dg s i + 10 - dg (gR l i).2 0) % 10
def singB (l : List Rot) : Bool := allB l.length (fun i => decide ((gR l i).2.size = 1))
/-- windows of wheels with one notch for each rotor -/
structure Sg (l : List Rot) (s : ByteArray) : Prop where
  len : s.size = l.length
  word : wv s = true
  one : ∀ i, i < l.length → (gR l i).2.size = 1 ∧ wv (gR l i).2 = true
theorem Sg.of {l : List Rot} {rf s : ByteArray} (h : winB l rf s = true) (h1 : singB l = true) : Sg l s := by
  obtain ⟨f1, f2, f3, f4⟩ := win_facts h
  have hw := ((winB_iff l rf s).1 h).1
  refine ⟨f3, f4, fun i hi => ⟨?_, (rotB_notch (wheelsB_rot hw hi)).2⟩⟩
  have := (allB_iff _ _).1 h1 i hi
  simpa using this
theorem Sg.step {l : List Rot} {s : ByteArray} (h : Sg l s) : Sg l (stepS l s) := ⟨by rw [stepS_size]; exact h.len, stepS_wv l h.word, h.one⟩
theorem Sg.it {l : List Rot} {s : ByteArray} (h : Sg l s) (n : Nat) : Sg l (it (stepS l) n s) := it_inv (stepS l) (Sg l) (fun _ hx => hx.step) n h
theorem Sg.at_ {l : List Rot} {s : ByteArray} (h : Sg l s) {i : Nat} (hi : i < s.size) : atN l s i = true ↔ rl l s i = 0 := by
  have hl : i < l.length := by have := h.len; omega
  obtain ⟨n1, n2⟩ := h.one i hl
  have d1 := dg_spec h.word hi
  have d2 := dg_spec n2 (i := 0) (by omega)
  unfold atN rl
  rw [hasB_iff]
  constructor
  · rintro ⟨j, hj, e⟩
    have : j = 0 := by omega
    subst this
    omega
  · intro e
    exact ⟨0, by omega, by omega⟩
theorem Sg.dg_step {l : List Rot} {s : ByteArray} (h : Sg l s) {i : Nat} (hi : i < s.size) : dg (stepS l s) i = (dg s i + if mvB l s i = true then 1 else 0) % 10 := by
  have d1 := dg_spec h.word hi
  have e := stepS_bt l s hi
  unfold dg at *
  rw [e]
  split <;> omega
theorem Sg.rl_step {l : List Rot} {s : ByteArray} (h : Sg l s) {i : Nat} (hi : i < s.size) : rl l (stepS l s) i = (rl l s i + if mvB l s i = true then 1 else 0) % 10 := by
  have hl : i < l.length := by have := h.len; omega
  obtain ⟨n1, n2⟩ := h.one i hl
  have d1 := dg_spec h.word hi
  have d2 := dg_spec n2 (i := 0) (by omega)
  unfold rl
  rw [h.dg_step hi]
  split <;> omega
theorem Sg.rl_lt {l : List Rot} {s : ByteArray} (i : Nat) : rl l s i < 10 := by unfold rl; omega
/-- what the letters are, from what the phases tell -/
theorem Sg.ext {l : List Rot} {s t : ByteArray} (h : Sg l s) (h' : Sg l t) (e : ∀ i, i < s.size → dg s i = dg t i ∨ rl l s i = rl l t i) : s = t := by
  have hs : s.size = t.size := by rw [h.len, h'.len]
  refine bt_ext hs fun i hi => ?_
  have hl : i < l.length := by have := h.len; omega
  obtain ⟨n1, n2⟩ := h.one i hl
  have d1 := dg_spec h.word hi
  have d2 := dg_spec h'.word (i := i) (by omega)
  have d3 := dg_spec n2 (i := 0) (by omega)
  have q := e i hi
  unfold rl at q
  omega
theorem dg_last {l : List Rot} {s : ByteArray} {i : Nat} (hi : i + 1 = s.size) : mvB l s i = true := by unfold mvB; simp [hi]

/-- one rotor -/
theorem single1 {l : List Rot} {s : ByteArray} (h : Sg l s) (h1 : s.size = 1) : Rho (stepS l) s 0 10 := by
  refine rho_phase (fun x => Sg l x ∧ x.size = 1) (fun x => dg x 0) (by omega) ?_ ?_ ?_ ?_ ⟨h, h1⟩
  · rintro x ⟨hx, e⟩; exact ⟨hx.step, by rw [stepS_size]; exact e⟩
  · rintro x ⟨hx, e⟩; rw [hx.dg_step (by omega), if_pos (dg_last (by omega))]
  · rintro x ⟨hx, e⟩; exact (dg_spec hx.word (by omega)).1
  · rintro x y ⟨hx, ex⟩ ⟨hy, ey⟩ e
    exact hx.ext hy fun i hi => .inl (by have : i = 0 := by omega
                                         subst this; exact e)
/-- two rotors -/
def ph2 (l : List Rot) (s : ByteArray) : Nat := (rl l s 1 + 9) % 10
theorem mv2_0 {l : List Rot} {s : ByteArray} (h : Sg l s) (h2 : s.size = 2) : mvB l s 0 = true ↔ rl l s 1 = 0 := by
  rw [← h.at_ (by omega)]
  unfold mvB
  simp [h2]
theorem ph2_step {l : List Rot} {s : ByteArray} (h : Sg l s) (h2 : s.size = 2) : (mvB l s 0 = true ∧ ph2 l s = 9 ∧ ph2 l (stepS l s) = 0) ∨ (mvB l s 0 = false ∧ ph2 l s < 9 ∧ ph2 l (stepS l s) = ph2 l s + 1) := by
  have e1 := h.rl_step (i := 1) (by omega)
  rw [if_pos (dg_last (by omega))] at e1
  have e2 := mv2_0 h h2
  have e3 : rl l s 1 < 10 := Sg.rl_lt 1
  unfold ph2
  rw [e1]
  cases hm : mvB l s 0
  · rw [hm] at e2
    have : rl l s 1 ≠ 0 := fun e => by have := e2.2 e; cases this
    right; exact ⟨rfl, by omega, by omega⟩
  · have := e2.1 hm
    left; exact ⟨rfl, by omega, by omega⟩
theorem single2 {l : List Rot} {s : ByteArray} (h : Sg l s) (h2 : s.size = 2) : Rho (stepS l) s 0 100 := by
  refine rho_phase (fun x => Sg l x ∧ x.size = 2) (fun x => 10 * dg x 0 + ph2 l x) (by omega) ?_ ?_ ?_ ?_ ⟨h, h2⟩
  · rintro x ⟨hx, e⟩; exact ⟨hx.step, by rw [stepS_size]; exact e⟩
  · rintro x ⟨hx, e⟩
    have d := dg_spec hx.word (i := 0) (by omega)
    have q := hx.dg_step (i := 0) (by omega)
    show 10 * dg (stepS l x) 0 + ph2 l (stepS l x) = (10 * dg x 0 + ph2 l x + 1) % 100
    rcases ph2_step hx e with ⟨a, b, c⟩ | ⟨a, b, c⟩
    · rw [a] at q; simp only [if_true] at q; omega
    · rw [a] at q; simp only [Bool.false_eq_true, if_false] at q; omega
  · rintro x ⟨hx, e⟩
    have d := dg_spec hx.word (i := 0) (by omega)
    show 10 * dg x 0 + (rl l x 1 + 9) % 10 < 100
    omega
  · rintro x y ⟨hx, ex⟩ ⟨hy, ey⟩ e
    have e3 : rl l x 1 < 10 := Sg.rl_lt 1
    have e4 : rl l y 1 < 10 := Sg.rl_lt 1
    have e5 : 10 * dg x 0 + (rl l x 1 + 9) % 10 = 10 * dg y 0 + (rl l y 1 + 9) % 10 := e
    refine hx.ext hy fun i hi => ?_
    have : i = 0 ∨ i = 1 := by omega
    rcases this with rfl | rfl
    · left; omega
    · right; omega
/-- three rotors -/
def ph3 (b c : Nat) : Nat := if b = 0 then 89 else if b = 1 then (c + 8) % 10 else 9 + 10 * (b - 2) + (c + 9) % 10
def in3 (b c : Nat) : Prop := (b = 0 ∧ c = 1) ∨ (b = 1 ∧ c ≠ 1) ∨ 2 ≤ b
theorem mv3 {l : List Rot} {s : ByteArray} (h : Sg l s) (h3 : s.size = 3) : (mvB l s 0 = true ↔ rl l s 1 = 0) ∧ (mvB l s 1 = true ↔ rl l s 2 = 0 ∨ rl l s 1 = 0) := by
  rw [← h.at_ (i := 1) (by omega), ← h.at_ (i := 2) (by omega)]
  unfold mvB
  simp [h3]
theorem st3 {l : List Rot} {s : ByteArray} (h : Sg l s) (h3 : s.size = 3) : rl l (stepS l s) 2 = (rl l s 2 + 1) % 10 ∧ rl l (stepS l s) 1 = (if rl l s 2 = 0 ∨ rl l s 1 = 0 then (rl l s 1 + 1) % 10 else rl l s 1) ∧
    dg (stepS l s) 0 = (if rl l s 1 = 0 then (dg s 0 + 1) % 10 else dg s 0) := by
  have e0 := h.dg_step (i := 0) (by omega)
  have e1 := h.rl_step (i := 1) (by omega)
  have e2 := h.rl_step (i := 2) (by omega)
  obtain ⟨m0, m1⟩ := mv3 h h3
  have d := dg_spec h.word (i := 0) (by omega)
  have r1 : rl l s 1 < 10 := Sg.rl_lt 1
  rw [if_pos (dg_last (by omega))] at e2
  refine ⟨e2, ?_, ?_⟩
  · rw [e1]
    by_cases hm : mvB l s 1 = true
    · rw [if_pos hm, if_pos (m1.1 hm)]
    · rw [if_neg hm, if_neg (fun h => hm (m1.2 h))]; omega
  · rw [e0]
    by_cases hm : mvB l s 0 = true
    · rw [if_pos hm, if_pos (m0.1 hm)]
    · rw [if_neg hm, if_neg (fun h => hm (m0.2 h))]; omega
instance (b c : Nat) : Decidable (in3 b c) := by unfold in3; infer_instance
set_option maxRecDepth 100000 in
theorem ph3_all : ∀ b, b < 10 → ∀ c, c < 10 → in3 b c → in3 (if c = 0 ∨ b = 0 then (b + 1) % 10 else b) ((c + 1) % 10) ∧
    ph3 (if c = 0 ∨ b = 0 then (b + 1) % 10 else b) ((c + 1) % 10) = (if b = 0 then 0 else ph3 b c + 1) ∧ ph3 b c < 90 ∧ (b = 0 ↔ ph3 b c = 89) := by decide
theorem ph3_step {b c : Nat} (hb : b < 10) (hc : c < 10) (h : in3 b c) : in3 (if c = 0 ∨ b = 0 then (b + 1) % 10 else b) ((c + 1) % 10) ∧
    ph3 (if c = 0 ∨ b = 0 then (b + 1) % 10 else b) ((c + 1) % 10) = (if b = 0 then 0 else ph3 b c + 1) ∧ ph3 b c < 90 ∧ (b = 0 ↔ ph3 b c = 89) := ph3_all b hb c hc h
theorem ph3_inj {b c b' c' : Nat} (hb : b < 10) (hc : c < 10) (hb' : b' < 10) (hc' : c' < 10) (h : in3 b c) (h' : in3 b' c') (e : ph3 b c = ph3 b' c') : b = b' ∧ c = c' := by
  unfold in3 at *
  unfold ph3 at e
  split at e <;> split at e <;> (try split at e) <;> (try split at e) <;> omega
theorem in3_two {b c : Nat} (hb : b < 10) (hc : c < 10) : in3 (if (c + 1) % 10 = 0 ∨ (if c = 0 ∨ b = 0 then (b + 1) % 10 else b) = 0 then ((if c = 0 ∨ b = 0 then (b + 1) % 10 else b) + 1) % 10 else (if c = 0 ∨ b = 0 then (b + 1) % 10 else b)) (((c + 1) % 10 + 1) % 10) := by
  unfold in3
  by_cases h1 : c = 0 ∨ b = 0
  · rw [if_pos h1]; split <;> omega
  · rw [if_neg h1]; split <;> omega
def Inv3 (l : List Rot) (s : ByteArray) : Prop := Sg l s ∧ s.size = 3 ∧ in3 (rl l s 1) (rl l s 2)
theorem Inv3.step {l : List Rot} {s : ByteArray} (h : Inv3 l s) : Inv3 l (stepS l s) ∧ ph3 (rl l (stepS l s) 1) (rl l (stepS l s) 2) = (if rl l s 1 = 0 then 0 else ph3 (rl l s 1) (rl l s 2) + 1) ∧ ph3 (rl l s 1) (rl l s 2) < 90 ∧ (rl l s 1 = 0 ↔ ph3 (rl l s 1) (rl l s 2) = 89) := by
  obtain ⟨h1, h2, h3⟩ := h
  obtain ⟨a, b, c⟩ := st3 h1 h2
  have := ph3_step (Sg.rl_lt 1) (Sg.rl_lt 2) h3
  rw [← a, ← b] at this
  exact ⟨⟨h1.step, by rw [stepS_size]; exact h2, this.1⟩, this.2.1, this.2.2.1, this.2.2.2⟩
theorem inv3 {l : List Rot} {s : ByteArray} (h : Sg l s) (h3 : s.size = 3) : Inv3 l (it (stepS l) 2 s) := by
  obtain ⟨a, b, _⟩ := st3 h h3
  obtain ⟨a', b', _⟩ := st3 h.step (by rw [stepS_size]; exact h3)
  refine ⟨h.it 2, by rw [it_size]; exact h3, ?_⟩
  show in3 (rl l (stepS l (stepS l s)) 1) (rl l (stepS l (stepS l s)) 2)
  rw [a', b', a, b]
  exact in3_two (Sg.rl_lt 1) (Sg.rl_lt 2)
theorem single3 {l : List Rot} {s : ByteArray} (h : Inv3 l s) : Rho (stepS l) s 0 900 := by
  refine rho_phase (Inv3 l) (fun x => 90 * dg x 0 + ph3 (rl l x 1) (rl l x 2)) (by omega) (fun x hx => hx.step.1) ?_ ?_ ?_ h
  · intro x hx
    obtain ⟨_, b, c, d⟩ := hx.step
    obtain ⟨h1, h2, _⟩ := hx
    obtain ⟨_, _, q⟩ := st3 h1 h2
    have e := dg_spec h1.word (i := 0) (by omega)
    show 90 * dg (stepS l x) 0 + ph3 (rl l (stepS l x) 1) (rl l (stepS l x) 2) = (90 * dg x 0 + ph3 (rl l x 1) (rl l x 2) + 1) % 900
    rw [b, q]
    by_cases h0 : rl l x 1 = 0
    · rw [if_pos h0, if_pos h0]; have := d.1 h0; omega
    · rw [if_neg h0, if_neg h0]
      have : ph3 (rl l x 1) (rl l x 2) ≠ 89 := fun e => h0 (d.2 e)
      omega
  · intro x hx
    obtain ⟨_, b, c, d⟩ := hx.step
    have e := dg_spec hx.1.word (i := 0) (by have := hx.2.1; omega)
    show 90 * dg x 0 + ph3 (rl l x 1) (rl l x 2) < 900
    omega
  · intro x y hx hy e
    have e' : 90 * dg x 0 + ph3 (rl l x 1) (rl l x 2) = 90 * dg y 0 + ph3 (rl l y 1) (rl l y 2) := e
    have a := hx.step.2.2.1
    have b := hy.step.2.2.1
    have c : ph3 (rl l x 1) (rl l x 2) = ph3 (rl l y 1) (rl l y 2) := by omega
    obtain ⟨q1, q2⟩ := ph3_inj (Sg.rl_lt 1) (Sg.rl_lt 2) (Sg.rl_lt 1) (Sg.rl_lt 2) hx.2.2 hy.2.2 c
    refine hx.1.ext hy.1 fun i hi => ?_
    have : i = 0 ∨ i = 1 ∨ i = 2 := by have := hx.2.1; omega
    rcases this with rfl | rfl | rfl
    · left; omega
    · right; exact q1
    · right; exact q2
/-- the known periods, and the short lead-ins -/
theorem single_rho {l : List Rot} {s : ByteArray} (h : Sg l s) (h1 : 1 ≤ s.size) (h3 : s.size ≤ 3) {m p : Nat} (hr : Rho (stepS l) s m p) :
    (s.size = 1 ∧ p = 10 ∧ m = 0) ∨ (s.size = 2 ∧ p = 100 ∧ m = 0) ∨ (s.size = 3 ∧ p = 900 ∧ m ≤ 2) := by
  have hc : s.size = 1 ∨ s.size = 2 ∨ s.size = 3 := by omega
  rcases hc with e | e | e
  · obtain ⟨a, b⟩ := rho_tail (t := 0) hr (single1 h e); exact .inl ⟨e, a, by omega⟩
  · obtain ⟨a, b⟩ := rho_tail (t := 0) hr (single2 h e); exact .inr (.inl ⟨e, a, by omega⟩)
  · obtain ⟨a, b⟩ := rho_tail (t := 2) hr (single3 (inv3 h e)); exact .inr (.inr ⟨e, a, b⟩)
/-- how often the first rotor moves -/
theorem left2 {l : List Rot} {s : ByteArray} (h : Sg l s) (h2 : s.size = 2) (k : Nat) : 10 * leftN l s k + ph2 l (it (stepS l) k s) = ph2 l s + k := by
  induction k with
  | zero => simp [leftN, it_zero]
  | succ k ih =>
    have hs : (it (stepS l) k s).size = 2 := by rw [it_size]; exact h2
    simp only [leftN]
    rw [it_succ]
    rcases ph2_step (h.it k) hs with ⟨a, b, c⟩ | ⟨a, b, c⟩
    · rw [if_pos a]; omega
    · rw [if_neg (by rw [a]; simp)]; omega
theorem left3 {l : List Rot} {s : ByteArray} (h : Inv3 l s) (k : Nat) : Inv3 l (it (stepS l) k s) ∧ 90 * leftN l s k + ph3 (rl l (it (stepS l) k s) 1) (rl l (it (stepS l) k s) 2) = ph3 (rl l s 1) (rl l s 2) + k := by
  induction k with
  | zero => exact ⟨h, by simp [leftN, it_zero]⟩
  | succ k ih =>
    obtain ⟨i1, i2⟩ := ih
    obtain ⟨a, b, c, d⟩ := i1.step
    obtain ⟨m0, _⟩ := mv3 i1.1 i1.2.1
    refine ⟨a, ?_⟩
    simp only [leftN]
    rw [it_succ, b]
    by_cases h0 : rl l (it (stepS l) k s) 1 = 0
    · rw [if_pos h0, if_pos (m0.2 h0)]; have := d.1 h0; omega
    · rw [if_neg h0, if_neg (fun h => h0 (m0.1 h))]; omega
theorem left_cycle {l : List Rot} {s : ByteArray} (h : Sg l s) (h2 : 2 ≤ s.size) (h3 : s.size ≤ 3) {p : Nat} (hp : p = 100 ∧ s.size = 2 ∨ p = 900 ∧ s.size = 3 ∧ Inv3 l s) (k : Nat) :
    leftN l s p = 10 ∧ leftN l s (p + k) = 10 + leftN l s k := by
  rcases hp with ⟨rfl, e⟩ | ⟨rfl, e, hi⟩
  · have a := left2 h e 100
    have b := left2 h e (100 + k)
    have c := left2 h e k
    have p1 : ∀ x : ByteArray, ph2 l x < 10 := fun x => by unfold ph2; omega
    have := p1 s
    have := p1 (it (stepS l) 100 s)
    have := p1 (it (stepS l) (100 + k) s)
    have := p1 (it (stepS l) k s)
    exact ⟨by omega, by omega⟩
  · obtain ⟨i1, a⟩ := left3 hi 900
    obtain ⟨i2, b⟩ := left3 hi (900 + k)
    obtain ⟨i3, c⟩ := left3 hi k
    have := hi.step.2.2.1
    have := i1.step.2.2.1
    have := i2.step.2.2.1
    have := i3.step.2.2.1
    exact ⟨by omega, by omega⟩
end Go.Proofs.Ytlcanmofgjbcbaa
