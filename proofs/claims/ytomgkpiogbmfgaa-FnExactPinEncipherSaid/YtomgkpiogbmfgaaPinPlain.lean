/- Plain laws of the pin keys and of subtraction. -/
import Derived.Test.YtomgkpiogbmfgaaPinEnc
import Derived.Test.YtomgkpiogbmfgaaDrawLaw
namespace Go.Proofs.Ytomgkpiogbmfgaa
open Go.RowKit

theorem bt_letter {f : Nat → Int} {n k : Nat} (hk : k < n) (h0 : 0 ≤ f k) (h1 : f k ≤ 255) : bt (mkS n f) k = f k := bt_mkS n f k hk h0 h1
theorem mixS_size (v w : ByteArray) (t : Int) : (mixS v w t).size = v.size := by unfold mixS; exact mkS_size _ _
theorem mixS_bt (v w : ByteArray) (t : Int) {k : Nat} (hk : k < v.size) : bt (mixS v w t) k = 97 + (bt v k - 97 + t * (bt w k - 97)) % 10 := by
  unfold mixS; exact bt_mkS _ _ _ hk (by omega) (by omega)
theorem mixS_wv {v w : ByteArray} {t : Int} (h : v.size ≤ 200) : wv (mixS v w t) = true := by
  rw [wv_iff, mixS_size]
  refine ⟨h, fun k hk => ?_⟩
  rw [mixS_bt _ _ _ hk]; omega
theorem keyS_size (ws : List ByteArray) (bs ps : List Int) (n : Nat) : (keyS ws bs ps n).size = n := by unfold keyS; exact mkS_size _ _
theorem keyS_bt {ws : List ByteArray} {bs ps : List Int} {n k : Nat} (hc : cageB ws bs = true) (hk : k < n) : bt (keyS ws bs ps n) k = 97 + (disp ws bs (posF ws ps k) : Int) := by
  have := disp_le hc (posF ws ps k)
  unfold keyS; exact bt_mkS _ _ _ hk (by omega) (by omega)
theorem keyOk_facts {ws : List ByteArray} {bs ps : List Int} {n : Nat} (h : keyOk ws bs ps n = true) : fitB ws bs ps = true ∧ n ≤ 200 := by
  unfold keyOk inB at h; simp at h
  exact ⟨h.1, by have := h.2; omega⟩
theorem keyS_wv {ws : List ByteArray} {bs ps : List Int} {n : Nat} (h : keyOk ws bs ps n = true) : wv (keyS ws bs ps n) = true := by
  have hf := keyOk_facts h
  rw [wv_iff, keyS_size]
  refine ⟨hf.2, fun k hk => ?_⟩
  have := disp_le (fitB_facts hf.1).1 (posF ws ps k)
  rw [keyS_bt (fitB_facts hf.1).1 hk]; omega
theorem mixOk_key {ws : List ByteArray} {bs ps : List Int} {s : ByteArray} (h : keyOk ws bs ps s.size = true) : mixOk (keyS ws bs ps s.size) s = wv s := by
  unfold mixOk; rw [keyS_wv h, keyS_size]; simp
def encS (ws : List ByteArray) (bs ps : List Int) (s : ByteArray) : ByteArray := mixS (keyS ws bs ps s.size) s (-1)
def encOk (ws : List ByteArray) (bs ps : List Int) (s : ByteArray) : Bool := keyOk ws bs ps s.size && wv s
theorem encR_yes {ws : List ByteArray} {bs ps : List Int} {s : ByteArray} (h : encOk ws bs ps s = true) : encR ws bs ps s = .tuple #[.string (encS ws bs ps s), .bool true] := by
  unfold encOk at h
  simp only [Bool.and_eq_true] at h
  rw [encR_ok h.1, mixR_ok (by rw [mixOk_key h.1]; exact h.2)]; rfl
theorem encR_non {ws : List ByteArray} {bs ps : List Int} {s : ByteArray} (h : encOk ws bs ps s = false) : encR ws bs ps s = .tuple #[.string ByteArray.empty, .bool false] := by
  unfold encOk at h
  cases hk : keyOk ws bs ps s.size with
  | false => exact encR_no hk
  | true =>
    rw [hk] at h
    simp only [Bool.true_and] at h
    rw [encR_ok hk, mixR_no (by rw [mixOk_key hk]; exact h)]
theorem encOk_iff (ws : List ByteArray) (bs ps : List Int) (s : ByteArray) : encOk ws bs ps s = true ↔ fitB ws bs ps = true ∧ wv s = true := by
  unfold encOk keyOk inB
  constructor
  · intro h; simp at h; exact ⟨h.1.1, h.2⟩
  · intro h
    have := ((wv_iff s).1 h.2).1
    simp [h.1, h.2]; omega
theorem encS_size (ws : List ByteArray) (bs ps : List Int) (s : ByteArray) : (encS ws bs ps s).size = s.size := by unfold encS; rw [mixS_size, keyS_size]
theorem encOk_le {ws : List ByteArray} {bs ps : List Int} {s : ByteArray} (h : encOk ws bs ps s = true) : s.size ≤ 200 := ((wv_iff s).1 ((encOk_iff _ _ _ _).1 h).2).1
theorem encS_wv {ws : List ByteArray} {bs ps : List Int} {s : ByteArray} (h : encOk ws bs ps s = true) : wv (encS ws bs ps s) = true := by
  unfold encS; exact mixS_wv (by rw [keyS_size]; exact encOk_le h)
theorem encS_bt {ws : List ByteArray} {bs ps : List Int} {s : ByteArray} (h : encOk ws bs ps s = true) {k : Nat} (hk : k < s.size) : bt (encS ws bs ps s) k = 97 + (disp ws bs (posF ws ps k) - (bt s k - 97)) % 10 := by
  have hf := ((encOk_iff _ _ _ _).1 h).1
  unfold encS
  rw [mixS_bt _ _ _ (by rw [keyS_size]; exact hk), keyS_bt (fitB_facts hf).1 hk]
  congr 2; omega
/-- a word and what is made of it add up to the key -/
theorem sum_key {ws : List ByteArray} {bs ps : List Int} {s : ByteArray} (h : encOk ws bs ps s = true) : mixS (encS ws bs ps s) s 1 = keyS ws bs ps s.size := by
  have hs := (encOk_iff _ _ _ _).1 h
  apply bt_ext (by rw [mixS_size, encS_size, keyS_size])
  intro k hk
  rw [mixS_size, encS_size] at hk
  have hd := disp_le (fitB_facts hs.1).1 (posF ws ps k)
  have hb := ((wv_iff s).1 hs.2).2 k hk
  rw [mixS_bt _ _ _ (by rw [encS_size]; exact hk), encS_bt h hk, keyS_bt (fitB_facts hs.1).1 hk]
  omega
theorem sum_ok {ws : List ByteArray} {bs ps : List Int} {s : ByteArray} (h : encOk ws bs ps s = true) : mixOk (encS ws bs ps s) s = true := by
  rw [mixOk_iff]; exact ⟨encS_wv h, ((encOk_iff _ _ _ _).1 h).2, encS_size _ _ _ _⟩
theorem key_ok {ws : List ByteArray} {bs ps : List Int} {s : ByteArray} (h : encOk ws bs ps s = true) : keyOk ws bs ps s.size = true := by
  unfold encOk at h; simp only [Bool.and_eq_true] at h; exact h.1
/-- twice is nothing -/
theorem twice_ok {ws : List ByteArray} {bs ps : List Int} {s : ByteArray} (h : encOk ws bs ps s = true) : encOk ws bs ps (encS ws bs ps s) = true :=
  (encOk_iff _ _ _ _).2 ⟨((encOk_iff _ _ _ _).1 h).1, encS_wv h⟩
theorem twice {ws : List ByteArray} {bs ps : List Int} {s : ByteArray} (h : encOk ws bs ps s = true) : encS ws bs ps (encS ws bs ps s) = s := by
  have hs := (encOk_iff _ _ _ _).1 h
  apply bt_ext (by rw [encS_size, encS_size])
  intro k hk
  rw [encS_size, encS_size] at hk
  have hb := ((wv_iff s).1 hs.2).2 k hk
  rw [encS_bt (twice_ok h) (by rw [encS_size]; exact hk), encS_bt h hk]
  omega
/-- parts of words -/
theorem ext_size (s : ByteArray) {a b : Nat} (h : a ≤ b) (hb : b ≤ s.size) : (s.extract a b).size = b - a := by
  rw [ByteArray.size_extract]; omega
theorem ext_bt (s : ByteArray) {a b k : Nat} (hk : a + k < b) (_hb : b ≤ s.size) : bt (s.extract a b) k = bt s (a + k) := by
  unfold bt
  have h1 : (s.extract a b).data.toList = (s.data.toList.drop a).take (b - a) := by
    rw [ByteArray.data_extract, Array.toList_extract]
  rw [h1, List.getD_eq_getElem?_getD, List.getElem?_take, if_pos (by omega), List.getElem?_drop, List.getD_eq_getElem?_getD]
theorem ext_wv {s : ByteArray} (h : wv s = true) {a b : Nat} (hab : a ≤ b) (hb : b ≤ s.size) : wv (s.extract a b) = true := by
  have hs := (wv_iff s).1 h
  rw [wv_iff, ext_size s hab hb]
  refine ⟨by omega, fun k hk => ?_⟩
  rw [ext_bt s (by omega) hb]; exact hs.2 _ (by omega)
theorem ext_encOk {ws : List ByteArray} {bs ps : List Int} {s : ByteArray} (hf : fitB ws bs ps = true) (h : wv s = true) {a b : Nat} (hab : a ≤ b) (hb : b ≤ s.size) : encOk ws bs ps (s.extract a b) = true :=
  (encOk_iff _ _ _ _).2 ⟨hf, ext_wv h hab hb⟩
/-- two parts -/
theorem turn_fit {ws : List ByteArray} {bs ps : List Int} (h : fitB ws bs ps = true) (t : Nat) : fitB ws bs (turnL ws ps t) = true := by
  obtain ⟨g1, g2, g3⟩ := fitB_facts h
  refine fitB_good g1 (turnL_len _ _ _) ((allB_iff _ _).2 fun k hk => ?_)
  rw [turnL_len] at hk
  have := posF_range (ps := ps) (t := t) ((cageB_facts g1).2.2.2.2 k hk).1
  rw [turnL_at ws ps t hk]; simp; omega
theorem turn_pos {ws : List ByteArray} {bs ps : List Int} (_h : fitB ws bs ps = true) (t u : Nat) {i : Nat} (hi : i < ws.length) : posF ws (turnL ws ps t) u i = posF ws ps (t + u) i := by
  unfold posF
  rw [turnL_at ws ps t hi]
  unfold posF
  rw [Int.emod_add_emod]
  congr 1; omega
theorem turn_disp {ws : List ByteArray} {bs ps : List Int} (h : fitB ws bs ps = true) (t u : Nat) : disp ws bs (posF ws (turnL ws ps t) u) = disp ws bs (posF ws ps (t + u)) :=
  disp_congr fun _ hi => turn_pos h t u hi
theorem parts {ws : List ByteArray} {bs ps : List Int} {s : ByteArray} (h : encOk ws bs ps s = true) {k : Nat} (hk : k ≤ s.size) :
    encS ws bs ps (s.extract 0 k) ++ encS ws bs (turnL ws ps k) (s.extract k s.size) = encS ws bs ps s := by
  have hs := (encOk_iff _ _ _ _).1 h
  have o1 := ext_encOk hs.1 hs.2 (Nat.zero_le k) hk
  have o2 := ext_encOk (turn_fit hs.1 k) hs.2 hk (Nat.le_refl s.size)
  have s1 : (s.extract 0 k).size = k := by rw [ext_size s (Nat.zero_le k) hk]; omega
  have s2 : (s.extract k s.size).size = s.size - k := ext_size s hk (Nat.le_refl _)
  apply bt_ext
  · rw [ByteArray.size_append, encS_size, encS_size, encS_size, s1, s2]; omega
  intro j hj
  rw [ByteArray.size_append, encS_size, encS_size, s1, s2] at hj
  rw [bt_append, encS_size, s1, encS_bt h (by omega)]
  split
  · rw [encS_bt o1 (by omega), ext_bt s (by omega) hk, Nat.zero_add]
  · rw [encS_bt o2 (by omega), ext_bt s (by omega) (Nat.le_refl _), turn_disp hs.1, show k + (j - k) = j by omega]
/-- the key of a depth falls out -/
theorem depth {ws : List ByteArray} {bs ps : List Int} {s v : ByteArray} (h : encOk ws bs ps s = true) (hv : wv v = true) {n : Nat} (h1 : n ≤ s.size) (h2 : n ≤ v.size) :
    mixS ((encS ws bs ps s).extract 0 n) (encS ws bs ps (v.extract 0 n)) (-1) = mixS (v.extract 0 n) (s.extract 0 n) (-1) := by
  have hs := (encOk_iff _ _ _ _).1 h
  have o2 := ext_encOk hs.1 hv (Nat.zero_le n) h2
  have s0 : ((encS ws bs ps s).extract 0 n).size = n := by rw [ext_size _ (Nat.zero_le n) (by rw [encS_size]; exact h1)]; omega
  have s1 : (v.extract 0 n).size = n := by rw [ext_size v (Nat.zero_le n) h2]; omega
  have s2 : (s.extract 0 n).size = n := by rw [ext_size s (Nat.zero_le n) h1]; omega
  apply bt_ext (by rw [mixS_size, mixS_size, s0, s1])
  intro j hj
  rw [mixS_size, s0] at hj
  have hb := ((wv_iff s).1 hs.2).2 j (by omega)
  have hb2 := ((wv_iff v).1 hv).2 j (by omega)
  rw [mixS_bt _ _ _ (by omega), mixS_bt _ _ _ (by omega), ext_bt _ (by omega) (by rw [encS_size]; exact h1), ext_bt v (by omega) h2, ext_bt s (by omega) h1, encS_bt h (by omega), encS_bt o2 (by omega), ext_bt v (by omega) h2]
  simp only [Nat.zero_add]
  omega
theorem depth_ok1 {ws : List ByteArray} {bs ps : List Int} {s v : ByteArray} (h : encOk ws bs ps s = true) (hv : wv v = true) {n : Nat} (h1 : n ≤ s.size) (h2 : n ≤ v.size) :
    mixOk ((encS ws bs ps s).extract 0 n) (encS ws bs ps (v.extract 0 n)) = true := by
  have hs := (encOk_iff _ _ _ _).1 h
  have o2 := ext_encOk hs.1 hv (Nat.zero_le n) h2
  rw [mixOk_iff]
  refine ⟨ext_wv (encS_wv h) (Nat.zero_le n) (by rw [encS_size]; exact h1), encS_wv o2, ?_⟩
  rw [ext_size _ (Nat.zero_le n) (by rw [encS_size]; exact h1), encS_size, ext_size v (Nat.zero_le n) h2]
theorem depth_ok2 {s v : ByteArray} (h : wv s = true) (hv : wv v = true) {n : Nat} (h1 : n ≤ s.size) (h2 : n ≤ v.size) : mixOk (v.extract 0 n) (s.extract 0 n) = true := by
  rw [mixOk_iff]
  exact ⟨ext_wv hv (Nat.zero_le n) h2, ext_wv h (Nat.zero_le n) h1, by rw [ext_size v (Nat.zero_le n) h2, ext_size s (Nat.zero_le n) h1]⟩

/-- a slice of bytes that came in -/
def IsRowB (w : World) (a : Option Addr) (len cap : Nat) (zs : List Int) : Prop :=
  (a = none ∧ len = 0 ∧ cap = 0 ∧ zs = []) ∨
  ∃ x, a = some x ∧ len ≤ cap ∧ cap ≤ maxLen ∧ zs.length = cap ∧ (∀ i, i < zs.length → w.cell? (x.add i) = some (.int .u8 (zs.getD i 0))) ∧ ∀ n ∈ zs, (Lit.int .u8 n).wf = true
theorem code_of {w : World} {a : Option Addr} {len cap : Nat} {zs : List Int} (h : IsRowB w a len cap zs) (hl : len ≤ 1048576) : Code_ w a len cap := by
  rcases h with ⟨rfl, rfl, rfl, rfl⟩ | ⟨x, rfl, h1, h2, h3, h4, h5⟩
  · exact ⟨by omega, by omega, fun k hk => by omega⟩
  · refine ⟨by omega, h1, fun k hk => ?_⟩
    have h0 := h4 0 (by omega)
    have hk' := h4 k (by omega)
    obtain ⟨b, o, sp⟩ := x
    have e0 : (⟨b, o, sp⟩ : Addr).add 0 = ⟨b, o, sp⟩ := rfl
    rw [e0] at h0
    have hsp : sp = none := by
      unfold World.cell? at h0
      split at h0
      · cases sp with
        | none => rfl
        | some _ => simp at h0
      · cases h0
    subst hsp
    have e1 : (⟨b, o, none⟩ : Addr).add k = ⟨b, o + k, none⟩ := by unfold Addr.add; split <;> simp_all
    rw [e1] at hk'
    have hm : zs.getD k 0 ∈ zs := by
      rw [List.getD_eq_getElem?_getD, List.getElem?_eq_getElem (by omega)]; exact List.getElem_mem _
    have hw := h5 _ hm
    have hr := bounds_u8 hw
    exact ⟨b, o, zs.getD k 0, rfl, World.block_lt_of_cell? w _ h0, hk', hr.1, hr.2⟩
end Go.Proofs.Ytomgkpiogbmfgaa
