/- Contract of Encipher (impl). -/
import Derived.Test.YtnfeddnkokocfaaRounds
namespace Go.Proofs.Ytnfeddnkokocfaa
set_option linter.unusedVariables false
set_option linter.unusedSimpArgs false
open Go.RowKit
attribute [local go_sem] Ext.cell
attribute [local go_sem] Oper.semAt_some
open BigFrame

/-- what Encipher returns -/
noncomputable def encR (M : Mch) (s t : ByteArray) : Value := if (setB M s && wv t) = true then .tuple #[.string (encW M s t), .string (it (stepS M.l) t.size s), .bool true] else .tuple #[.string ByteArray.empty, .string ByteArray.empty, .bool false]
theorem encR_ok {M : Mch} {s t : ByteArray} (h : setB M s = true) (ht : wv t = true) : encR M s t = .tuple #[.string (encW M s t), .string (it (stepS M.l) t.size s), .bool true] := by unfold encR; rw [h, ht]; rfl
theorem encR_no {M : Mch} {s t : ByteArray} (h : (setB M s && wv t) = false) : encR M s t = .tuple #[.string ByteArray.empty, .string ByteArray.empty, .bool false] := by unfold encR; rw [h]; rfl
/-- what Encipher holds: the bytes f, the windows s', the index z -/
structure EncJ (A : Option Addr) (cA : Nat) (M : Mch) (t : ByteArray) (w : World) (b Bx B9 g cap : Nat) (f : Nat → Int) (s' : ByteArray) (z : Int) (W : World) : Prop where
  row : Row W g t.size f
  win : Blk W (w.heap.size + 1) 9 #[.string s']
  out : Blk W B9 61 #[.slice (some ⟨g, 0, none⟩) t.size cap]
  idx : Blk W (B9 + 1) 3 #[.int .i64 z]
  st : kSt A cA M b Bx (Bx + 1) W
  bel : Below w.heap.size w W
/-- where its blocks lie -/
structure EncL (A : Option Addr) (w : World) (b Bx B9 g : Nat) : Prop where
  h1 : w.heap.size + 1 < g
  h2 : g < B9
  h3 : B9 + 1 < b
  h4 : b < Bx
  hA : ∀ b o, A = some ⟨b, o, none⟩ → b < w.heap.size
section
variable {A : Option Addr} {cA : Nat} {M : Mch} {s t : ByteArray} {w : World} {b Bx B9 g cap k : Nat} {f : Nat → Int} {s' : ByteArray} {z : Int} {W : World}
theorem EncJ.grownR {r : Nat} {W' : World} (h : EncJ A cA M t w b Bx B9 g cap f s' z W) (hg : W.grownBy W' (some r)) (hr : Bx < r) (hL : EncL A w b Bx B9 g) : EncJ A cA M t w b Bx B9 g cap f s' z W' := by
  obtain ⟨h1, h2, h3, h4, hA⟩ := hL
  exact ⟨h.row.grown hg (by omega), h.win.grownR hg (by omega), h.out.grownR hg (by omega), h.idx.grownR hg (by omega), h.st.grownR hg (by omega) (by omega) (fun b' o e => by have := hA b' o e; omega), below_grown h.bel hg (Nat.le_refl _) (by omega)⟩
theorem EncJ.ext {W' : World} (h : EncJ A cA M t w b Bx B9 g cap f s' z W) (hb : Below W.heap.size W W') : EncJ A cA M t w b Bx B9 g cap f s' z W' :=
  ⟨h.row.ext hb, h.win.ext hb, h.out.ext hb, h.idx.ext hb, h.st.ext hb, ext_trans h.bel hb⟩
theorem EncJ.setRow (h : EncJ A cA M t w b Bx B9 g cap f s' z W) (hL : EncL A w b Bx B9 g) (hk : k < t.size) (x : Int) {f' : Nat → Int} (hf : ∀ i, i < t.size → (if i = k then x else f i) = f' i) : EncJ A cA M t w b Bx B9 g cap f' s' z (W.setCell ⟨g, k, none⟩ (.int .u8 x)) := by
  obtain ⟨h1, h2, h3, h4, hA⟩ := hL
  have hg := grow_cell W ⟨g, k, none⟩ (.int .u8 x)
  exact ⟨(h.row.set hk x).congr hf, h.win.grownR hg (by simp; omega), h.out.grownR hg (by simp; omega), h.idx.grownR hg (by simp; omega), h.st.grownR hg (by simp; omega) (by simp; omega) (fun b' o e => by have := hA b' o e; simp; omega), below_grown h.bel hg (Nat.le_refl _) (by simp; omega)⟩
theorem EncJ.setWin (h : EncJ A cA M t w b Bx B9 g cap f s' z W) (hL : EncL A w b Bx B9 g) (s'' : ByteArray) : EncJ A cA M t w b Bx B9 g cap f s'' z (W.setCell ⟨w.heap.size + 1, 0, none⟩ (.string s'')) := by
  obtain ⟨h1, h2, h3, h4, hA⟩ := hL
  have hg := grow_cell W ⟨w.heap.size + 1, 0, none⟩ (.string s'')
  exact ⟨h.row.grown hg (by simp; omega), h.win.set 0 _, h.out.grownR hg (by simp; omega), h.idx.grownR hg (by simp; omega), h.st.grownR hg (by simp; omega) (by simp; omega) (fun b' o e => by have := hA b' o e; simp; omega), below_grown h.bel hg (Nat.le_refl _) (by simp)⟩
theorem EncJ.setIdx (h : EncJ A cA M t w b Bx B9 g cap f s' z W) (hL : EncL A w b Bx B9 g) (z' : Int) : EncJ A cA M t w b Bx B9 g cap f s' z' (W.setCell ⟨B9 + 1, 0, none⟩ (.int .i64 z')) := by
  obtain ⟨h1, h2, h3, h4, hA⟩ := hL
  have hg := grow_cell W ⟨B9 + 1, 0, none⟩ (.int .i64 z')
  exact ⟨h.row.grown hg (by simp; omega), h.win.grownR hg (by simp; omega), h.out.grownR hg (by simp), h.idx.set 0 _, h.st.grownR hg (by simp; omega) (by simp; omega) (fun b' o e => by have := hA b' o e; simp; omega), below_grown h.bel hg (Nat.le_refl _) (by simp; omega)⟩
end
/-- the bytes when k letters are enciphered -/
noncomputable def encRow (M : Mch) (s t : ByteArray) (k j : Nat) : Int := if j < k then 97 + (kF M (it (stepS M.l) (j + 1) s) (dn t j) : Int) else bt t j
/-- k letters are enciphered -/
abbrev EncI (A : Option Addr) (cA : Nat) (M : Mch) (s t : ByteArray) (w : World) (b Bx B9 g cap k : Nat) (W : World) : Prop := EncJ A cA M t w b Bx B9 g cap (encRow M s t k) (it (stepS M.l) k s) k W
/-- what a round keeps -/
def Stays (Bw : Nat) (W W' : World) : Prop := KeepsOthers W W' ∧ W'.cell? ⟨Bw, 0, none⟩ = W.cell? ⟨Bw, 0, none⟩ ∧ W'.frozen? ⟨Bw, 0, none⟩ = W.frozen? ⟨Bw, 0, none⟩
theorem Stays.ext {Bw : Nat} {W W' : World} (h : Below W.heap.size W W') (hB : Bw < W.heap.size) : Stays Bw W W' := ⟨keeps_ext h, h.cell (p := ⟨Bw, 0, none⟩) hB, h.frozen (p := ⟨Bw, 0, none⟩) hB⟩
theorem Stays.set {Bw : Nat} {W W' : World} (h : Stays Bw W W') {p : Addr} (hp : Bw ≠ p.block) (u : Value) : Stays Bw W (W'.setCell p u) :=
  ⟨h.1.trans (KeepsOthers.setCell W' p u), by rw [World.cell?_setCell_other _ _ _ _ (by intro e; rw [e] at hp; exact hp rfl)]; exact h.2.1, by rw [World.frozen?_setCell]; exact h.2.2⟩
theorem encRow_next (M : Mch) (s t : ByteArray) (k i : Nat) : (if i = k then (97 + (kF M (it (stepS M.l) (k + 1) s) (dn t k) : Int)) else encRow M s t k i) = encRow M s t (k + 1) i := by
  unfold encRow
  by_cases e : i = k
  · subst e; rw [if_pos rfl, if_pos (by omega)]
  · rw [if_neg e]
    by_cases e2 : i < k
    · rw [if_pos e2, if_pos (by omega)]
    · rw [if_neg e2, if_neg (by omega)]
/-- the frame of a round, its variables laid -/
noncomputable def encFr (A : Option Addr) (cA : Nat) (M : Mch) (s t : ByteArray) (w : World) (b Bx B9 g cap k bp : Nat) : Act :=
  { tmps := #[mV A cA M, .string s, .string t, .pointer (some ⟨w.heap.size, 0, none⟩), .pointer (some ⟨w.heap.size + 1, 0, none⟩), undef, .string { data := #[] }, .string { data := #[] }, .bool false, .pointer (some ⟨B9, 0, none⟩),
      .pointer (some ⟨B9 + 1, 0, none⟩), .string (it (stepS M.l) (k + 1) s), .pointer (some ⟨bp, 0, none⟩), mV A cA M, .string s, .bool true, .bool false, .bool false, .string t, .bool true,
      .bool false, .bool false, .string t, .slice (some ⟨g, 0, none⟩) t.size cap, .slice (some ⟨g, 0, none⟩) t.size cap, .int .i64 t.size, .bool false, undef, mV A cA M, .pointer (some ⟨b, 0, none⟩),
      .string s, .func (.func 116) #[] #[.pointer (some ⟨Bx, 0, none⟩), .pointer (some ⟨Bx + 1, 0, none⟩)], .string (it (stepS M.l) (k + 1) s), pV (kF M (it (stepS M.l) (k + 1) s)), undef, undef, undef, undef, undef, undef,
      undef, undef, undef, undef, undef, undef, undef, undef, undef, undef, undef, undef, undef, undef, undef, undef], defers := [] }
theorem c_numD (d : Nat) (w : World) (hd : d < 10) : Calls Try.prog 83 #[.int .u8 (97 + (d : Int))] w fun e w' => e = .returned (.int .i64 (d : Int)) ∧ w = w' :=
  (c_number (97 + (d : Int)) w (by omega) (by omega)).mono fun _ _ ⟨h1, h2⟩ => ⟨by rw [h1]; congr 2; omega, h2⟩
set_option maxHeartbeats 400000 in
set_option maxRecDepth 100000 in
theorem c_Encipher (A : Option Addr) (cA : Nat) (M : Mch) (s t : ByteArray) (w : World) (hR : IsRots w (.slice A M.l.length cA) M.l) (hz : MSz M) (hs : s.size ≤ 9223372036854775807) (ht : t.size ≤ 9223372036854775807) : Calls Try.prog 67 #[mV A cA M, .string s, .string t] w fun e w' => e = .returned (encR M s t) ∧ Below w.heap.size w w' := by
  have L0 := Lib.hid ((MW.start M (Below.refl w.heap.size w) hR).ext (ext_alloc _ (.cells #[.string s] 9)))
  have K0 := Lib.hid (Blk.new (w.alloc (.cells #[.slice A M.l.length cA, .string M.rf, .string M.rg, .string M.pl] 33)) 9 #[.string s])
  rw [World.size_alloc] at K0
  have HZ := Lib.hid hz
  have hRw := Lib.hid hR
  clear hR hz
  refine calls_marks Try.func67 rfl ?_
  simp only [Try.ntmps67, List.size_toArray, List.length_cons, List.length_nil, Nat.reduceAdd, Nat.reduceSub, Array.replicate_succ, Array.replicate_zero, List.push_toArray, List.append_toArray, List.nil_append, List.cons_append]
  have hlw : w.heap.size + 1 < (((w.alloc (.cells #[.slice A M.l.length cA, .string M.rf, .string M.rg, .string M.pl] 33)).alloc (.cells #[.string s] 9))).heap.size := by simp
  have y0 := L0.out.c0
  have y1 := L0.out.c1
  have y2 := L0.out.c2
  have y3 := L0.out.c3
  have y4 := K0.out.cell 0
  go_upto_region 1 with fail
  generalize ((w.alloc (.cells #[.slice A M.l.length cA, .string M.rf, .string M.rg, .string M.pl] 33)).alloc (.cells #[.string s] 9)) = W0 at *
  cases h1 : setB M s with
  | false =>
    have HE := Lib.hid (encR_no (M := M) (s := s) (t := t) (by rw [h1]; rfl))
    go_wp2_with (go_at_call 56; refine (c_settingValid A cA M s _ L0.out.rot HZ.out hs).mono ?_; rintro e w1 ⟨rfl, hb1⟩; have L1 := Lib.hid (L0.out.ext hb1); rw [h1]; clear hb1)
    refine marks_ret (.tuple #[.string ByteArray.empty, .string ByteArray.empty, .bool false]) (by simp [results, Try.results67, go_sem]; rfl) rfl ⟨by rw [HE.out], L1.out.bel⟩
  | true =>
    cases h2 : wv t with
    | false =>
      have HE := Lib.hid (encR_no (M := M) (s := s) (t := t) (by rw [h2]; simp))
      go_wp2_with (first | (go_at_call 56; refine (c_settingValid A cA M s _ L0.out.rot HZ.out hs).mono ?_; rintro e w1 ⟨rfl, hb1⟩; have L1 := Lib.hid (L0.out.ext hb1); rw [h1]; clear hb1) | (go_at_call 43; refine (c_WordValid _ _ (by omega)).mono ?_; rintro e w' ⟨rfl, rfl⟩; rw [h2]))
      refine marks_ret (.tuple #[.string ByteArray.empty, .string ByteArray.empty, .bool false]) (by simp [results, Try.results67, go_sem]; rfl) rfl ⟨by rw [HE.out], L1.out.bel⟩
    | true =>
      have HE := Lib.hid (encR_ok h1 h2)
      go_upto_region 5 with (first | (go_at_call 56; refine (c_settingValid A cA M s _ L0.out.rot HZ.out hs).mono ?_; rintro e w1 ⟨rfl, hb1⟩; have L1 := Lib.hid (L0.out.ext hb1); have K1 := Lib.hid (K0.out.ext hb1); have hbA := Lib.hid (Nat.lt_of_lt_of_le hlw hb1.size); rw [h1]; clear hb1) | (go_at_call 43; refine (c_WordValid _ _ (by omega)).mono ?_; rintro e w' ⟨rfl, rfl⟩; rw [h2]) | (refine wpList_bytes _ rfl 9 61 5 _ rfl Try.underlying9 Try.underlying61 Try.underlying5 _ rfl ?_; intro cap w3 hrow hbw; have R3 := Lib.hid hrow; have L3 := Lib.hid (L1.out.ext hbw); have K3 := Lib.hid (K1.out.ext hbw); clear hrow hbw L1 K1))
      have hg1 : w.heap.size + 1 < w1.heap.size := by have := hbA.out; omega
      have hg2 : w1.heap.size < w3.heap.size := R3.out.lt
      have R4 := Lib.hid ((R3.out.ext (ext_alloc w3 (.cells #[.slice (some ⟨w1.heap.size, 0, none⟩) t.size cap] 61))).ext (ext_alloc _ (.cells #[.int .i64 0] 3)))
      have L4 := Lib.hid ((L3.out.ext (ext_alloc w3 (.cells #[.slice (some ⟨w1.heap.size, 0, none⟩) t.size cap] 61))).ext (ext_alloc _ (.cells #[.int .i64 0] 3)))
      have K4 := Lib.hid ((K3.out.ext (ext_alloc w3 (.cells #[.slice (some ⟨w1.heap.size, 0, none⟩) t.size cap] 61))).ext (ext_alloc _ (.cells #[.int .i64 0] 3)))
      have O4 := Lib.hid ((Blk.new w3 61 #[.slice (some ⟨w1.heap.size, 0, none⟩) t.size cap]).ext (ext_alloc _ (.cells #[.int .i64 0] 3)))
      have I4 := Lib.hid (Blk.new (w3.alloc (.cells #[.slice (some ⟨w1.heap.size, 0, none⟩) t.size cap] 61)) 3 #[.int .i64 0])
      rw [World.size_alloc] at I4
      have hz4 : ((w3.alloc (.cells #[.slice (some ⟨w1.heap.size, 0, none⟩) t.size cap] 61)).alloc (.cells #[.int .i64 0] 3)).heap.size = w3.heap.size + 2 := by simp
      have HZ4 := Lib.hid hz4
      clear R3 L3 K3 hz4 L0 K0 y0 y1 y2 y3 y4 hbA
      generalize (w3.alloc (.cells #[.slice (some ⟨w1.heap.size, 0, none⟩) t.size cap] 61)).alloc (.cells #[.int .i64 0] 3) = W4 at *
      generalize w3.heap.size = B9 at *
      generalize w1.heap.size = g at *
      have o0 := O4.out.cell 0
      have y4 := K4.out.cell 0
      have H1 := Lib.hid h1
      have H2 := Lib.hid h2
      clear h1 h2
      by_cases h0 : t.size = 0
      · have t1 : ((t.size : Int) == 0) = true := by rw [beq_iff_eq]; omega
        have H0 := Lib.hid h0
        have hl4 : w.heap.size + 1 < W4.heap.size := K4.out.lt
        clear h0
        go_wp2_with fail
        refine wp_region_ext (by kernel_rfl) (by kernel_rfl) ?_
        repeat (go_big_quiet_step (fail))
        refine wpQuiet_nil ?_
        rintro _ ⟨⟨w5, hb5⟩, rfl⟩
        rename World => w5
        go_wp2_with fail
        refine marks_ret (.tuple #[.string ByteArray.empty, .string s, .bool true]) (by simp [results, Try.results67, go_sem]; rfl) rfl ⟨?_, ext_trans L4.out.bel hb5⟩
        rw [HE.out, H0.out]
        unfold encW
        rw [H0.out]
        rfl
      · have t1 : ((t.size : Int) == 0) = false := by rw [beq_eq_false_iff_ne]; omega
        have y0 := L4.out.c0
        have y1 := L4.out.c1
        have y2 := L4.out.c2
        have y3 := L4.out.c3
        have H0 : Hid (t.size ≠ 0) := h0
        have hl4 : w.heap.size + 1 < W4.heap.size := K4.out.lt
        clear h0
        go_wp2_with fail
        have HR4 := Lib.hid L4.out.rot
        refine meet (K := ?K1) (kReady A cA M s W4) ?f ?main ?rest
        case main =>
          intro HK
          go_region_with (first | (go_at_call 69; refine (c_newAssembly A cA M W4.drew (HR4.out.ext (Below.refl _ _).drew) ((setB_iff M s).1 H1.out).1).mono ?_; rintro e w5 ⟨b, rfl, hge, hAs, hb5⟩; have q4 : w5.cell? ⟨w.heap.size + 1, 0, none⟩ = some (.string s) := (hb5.cell (p := ⟨w.heap.size + 1, 0, none⟩) hl4).trans y4) | (go_at_call 70; refine (c_keys _ _ _).mono ?_; rintro e w6 ⟨rfl, rfl⟩))
          all_goals
            obtain ⟨Bx, hBx⟩ : ∃ x, w5.heap.size = x := ⟨_, rfl⟩
            have hk := kReady.of (W := W4) (s := s) ((Below.refl W4.heap.size W4).drew.trans hb5) hge hAs
            rw [hBx] at hk ⊢
            exact HK b Bx _ hk
        intro b Bx W6 hk6
        clear y0 y1 y2 y3 y4 o0 HR4
        go_wp2_with fail
        have HA : Hid (∀ b o, A = some ⟨b, o, none⟩ → b < w.heap.size) := by
          obtain ⟨bR, oR, hA0, hbR⟩ := hRw.out.blk (by have := win_facts (setB_win H1.out); omega)
          exact fun b o e => by rw [hA0] at e; injection e with e; injection e with e; omega
        obtain ⟨q1, q2, q3, q4, q5, q6, q7⟩ := hk6
        have hz4 := HZ4.out
        have E6 : Hid (EncI A cA M s t w b Bx B9 g cap 0 W6) := ⟨(R4.out.ext q4).congr (fun i _ => by unfold encRow; simp), K4.out.ext q4, O4.out.ext q4, I4.out.ext q4, q1, ext_trans L4.out.bel q4⟩
        have hq1 := q1.2.1
        have HL : Hid (EncL A w b Bx B9 g) := ⟨hg1, hg2, by omega, q6, HA.out⟩
        clear R4 K4 O4 I4 L4 q1 q4 HZ4
        refine (wpIn_wide (n := 6)).1 ?_
        refine wpIn_rangeFunc_st (F := Fence.wide) rfl (by omega) (gf := 116) (lb := #[.pointer (some ⟨Bx, 0, none⟩), .pointer (some ⟨Bx + 1, 0, none⟩)]) rfl trivial (enters_of Try.func116 (by kernel_rfl) rfl)
          (c_keysIt A cA M b Bx (Bx + 1) s (6 - 1) H1.out (by omega) (by omega) (fun b' o e => by have := HA.out b' o e; omega)) (fun k => rfl) (by omega) q2 q3 t.size 0 (Nat.pos_of_ne_zero H0.out)
          (fun k W => EncI A cA M s t w b Bx B9 g cap k W) (fun k W => k = t.size ∧ EncI A cA M s t w b Bx B9 g cap k W)
          (fun k X Y r hr h hg => h.grownR hg (by omega) HL.out) (fun k X Y r hr h hg => ⟨h.1, h.2.grownR hg (by omega) HL.out⟩)
          (fun k X h => h.st) E6.out
          (fun k a₁ W => EncI A cA M s t w b Bx B9 g cap k W ∧ ∃ bp, Blk W bp 85 (permA fun i => (kF M (it (stepS M.l) (k + 1) s) i : Int)) ∧ Bx + 4 ≤ bp ∧ a₁ = encFr A cA M s t w b Bx B9 g cap k bp)
          (fun k a₁ X Y r hr h hg => ⟨h.1.grownR hg (by omega) HL.out, h.2.imp fun bp h2 => ⟨h2.1.grownR hg (by omega), h2.2⟩⟩) ?assign ?body ?stop
        case assign =>
          intro l k W K hE hkN hsz hK
          have KZ := Lib.hid (Blk.new W 85 (permA fun _ => 0))
          unfold kE
          simp only [List.zip_toArray, List.zip_cons_cons, List.zip_nil_right, List.foldl_toArray, List.foldl_cons, List.foldl_nil, List.setIfInBounds_toArray, List.set_cons_succ, List.set_cons_zero]
          have HE' := Lib.hid hE
          have HK : Hid _ := Lib.hid hK
          clear hE hK
          gi_wp2_with (simp only [permA_zero]; refine in_store_row (WideF.round l) rfl 85 _ _ rfl W.heap.size _ rfl rfl 85 _ KZ.out (by rw [permA_size]; exact size_perm) (by simp only [permA_size]) (permA_one _) ?_; rw [World.setRow_alloc_new])
          simp only [Act.put]
          have k1 := Blk.new W 85 (permA fun i => (kF M (it (stepS M.l) (k + 1) s) i : Int))
          obtain ⟨bp, hbp⟩ : ∃ x, W.heap.size = x := ⟨_, rfl⟩
          have hle : Bx + 4 ≤ bp := by omega
          rw [hbp] at k1 ⊢
          exact HK.out _ _ ⟨HE'.out.ext (ext_alloc W _), bp, k1, hle, rfl⟩ (ext_alloc W _)
        case body =>
          rintro l k _ W ⟨hE, bp, hP, hbp, rfl⟩ hkN hsz hcB hfB
          unfold encFr
          have hd := dn_spec H2.out hkN
          have hkf := (kF_P (it (stepS M.l) (k + 1) s) ((setB_iff M s).1 H1.out).1).1 _ hd.1
          have o0 := hE.out.cell 0
          have i0 := hE.idx.cell 0
          have r0 := hE.row.cell hkN
          unfold encRow at r0
          simp only [Nat.lt_irrefl, if_false] at r0
          rw [hd.2] at r0
          have hbl : bp < W.heap.size := hP.lt
          have hgl : g < W.heap.size := hE.row.lt
          have hol : B9 < W.heap.size := hE.out.lt
          have hil : B9 + 1 < W.heap.size := hE.idx.lt
          have p0 : W.cell? ⟨bp, dn t k, none⟩ = some (.int .u8 (kF M (it (stepS M.l) (k + 1) s) (dn t k) : Int)) := by rw [hP.cell, permA_at _ hd.1]
          have HE := Lib.hid hE
          have HD := Lib.hid hd.2
          have hd1 := hd.1
          have HCB := Lib.hid hcB
          have HFB := Lib.hid hfB
          obtain ⟨d, hdd⟩ : ∃ d, dn t k = d := ⟨_, rfl⟩
          rw [hdd] at r0 p0 hd1 hkf
          obtain ⟨x, hx⟩ : ∃ x, kF M (it (stepS M.l) (k + 1) s) d = x := ⟨_, rfl⟩
          rw [hx] at p0 hkf
          have HX := Lib.hid hx
          have HDD := Lib.hid hdd
          have i1 : (0 : Int) ≤ (k : Int) := by omega
          have i2 : (k : Int) < (t.size : Int) := by omega
          have i3 : (0 : Int) ≤ (d : Int) := by omega
          have i4 : (d : Int) < 10 := by omega
          clear hE hP hd hx hdd hcB hfB
          gi_wp2_with fail
          refine wpIn_region_ext_tail 12 (WideF.round l) (by kernel_rfl) (by kernel_rfl) (by kernel_rfl) ?_
          dsimp only [List.take, List.drop]
          repeat (go_big_quiet_step ((first
            | (go_at_call 83; exact Ext.same _ (c_numD d _ hd1))
            | (go_at_call 62; exact Ext.same _ (c_letter _ _ (by omega) (by omega))))))
          refine wpQuiet_nil ?_
          rintro _ ⟨⟨w7, hb7⟩, rfl⟩
          rename World => w7
          have E7 := Lib.hid (HE.out.ext hb7)
          have S7 := Lib.hid (Stays.ext (Bw := Bx + 1) hb7 (by omega))
          have r7 := (hb7.cell (p := ⟨g, k, none⟩) hgl).trans r0
          have f7 := E7.out.row.free hkN
          clear HE hb7 o0 i0 r0 p0
          gi_upto_region 11 with fail
          have E8 := Lib.hid (E7.out.setRow HL.out hkN (97 + (x : Int)) (f' := encRow M s t (k + 1)) (fun i _ => by rw [← HX.out, ← HDD.out]; exact encRow_next M s t k i))
          have S8 := Lib.hid (S7.out.set (p := ⟨g, k, none⟩) (by simp; omega) (.int .u8 (97 + (x : Int))))
          clear E7 S7 r7 f7
          generalize w7.setCell ⟨g, k, none⟩ (.int .u8 (97 + (x : Int))) = w8 at *
          have c8 := E8.out.win.cell 0
          have f8 := E8.out.win.free 0
          gi_upto_region 12 with fail
          have E9 := Lib.hid (E8.out.setWin HL.out (it (stepS M.l) (k + 1) s))
          have S9 := Lib.hid (S8.out.set (p := ⟨w.heap.size + 1, 0, none⟩) (by simp; omega) (.string (it (stepS M.l) (k + 1) s)))
          clear E8 S8 c8 f8
          generalize w8.setCell ⟨w.heap.size + 1, 0, none⟩ (.string (it (stepS M.l) (k + 1) s)) = w9 at *
          have c9 := E9.out.idx.cell 0
          have f9 := E9.out.idx.free 0
          gi_upto_region 13 with fail
          have E10 := Lib.hid (E9.out.setIdx HL.out ((k : Int) + 1))
          have S10 := Lib.hid (S9.out.set (p := ⟨B9 + 1, 0, none⟩) (by simp; omega) (.int .i64 ((k : Int) + 1)))
          clear E9 S9 c9 f9
          generalize w9.setCell ⟨B9 + 1, 0, none⟩ (.int .i64 ((k : Int) + 1)) = w10 at *
          have c10 := E10.out.idx.cell 0
          have o10 := E10.out.out.cell 0
          by_cases hend : k + 1 = t.size
          · have t2 : ((k : Int) + 1 == (t.size : Int)) = true := by rw [beq_iff_eq]; omega
            have HEnd := Lib.hid hend
            clear hend
            gi_wp2_with fail
            exact ⟨rfl, S10.out.1, HEnd.out, E10.out⟩
          · have t2 : ((k : Int) + 1 == (t.size : Int)) = false := by rw [beq_eq_false_iff_ne]; omega
            gi_wp2_with fail
            exact ⟨S10.out.1, S10.out.2.1, S10.out.2.2, by omega, E10.out⟩
        case stop =>
          rintro D k W ⟨rfl, hE⟩ rfl hD
          refine wpIn_wide.2 ?_
          have EE := Lib.hid hE
          have HD := Lib.hid hD
          have o0 := hE.out.cell 0
          have s0 := hE.win.cell 0
          have hol : B9 < W.heap.size := hE.out.lt
          have hil : w.heap.size + 1 < W.heap.size := hE.win.lt
          have HC : Hid (∀ y : Ext W, (convert 61 9 (.slice (some ⟨g, 0, none⟩) t.size cap)).run Try.prog y.1 = .ok (.string (encW M s t)) y.1) := by
            intro y
            have := conv_row (P := Try.prog) (hE.row.ext y.2) 61 9 5 cap Try.underlying61 Try.underlying5 Try.underlying9
            rw [this]
            refine congrArg (fun z => Result.ok (Value.string z) y.1) (mkS_congr fun j hj => ?_)
            unfold encRow
            rw [if_pos hj]
          clear hE hD
          go_wp2_with fail
          have hcv := HC.out
          refine wp_region_ext (by kernel_rfl) (by kernel_rfl) ?_
          repeat (go_big_quiet_step (fail))
          refine wpQuiet_nil ?_
          rintro _ ⟨⟨w7, hb7⟩, rfl⟩
          rename World => w7
          clear hcv
          go_wp2_with fail
          have hD7 := (hb7.block W6.heap.size (by have := HD.out; exact (Array.getElem?_eq_some_iff.1 this).1)).trans HD.out
          refine marks_ret1 (.tuple #[.string (encW M s t), .string (it (stepS M.l) t.size s), .bool true]) W6.heap.size rfl hD7 (by simp [results, Try.results67, go_sem]) ⟨by rw [HE.out], ?_⟩
          exact below_grown (ext_trans EE.out.bel hb7) (grownBy_putObj' _ _ _) (Nat.le_refl _) (by omega)
end Go.Proofs.Ytnfeddnkokocfaa
