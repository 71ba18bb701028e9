/- Contracts of keys and of the function that it returns (impl). -/
import Derived.Test.YtnfeddnkokocfaaAsmA
import Derived.Test.YtnfeddnkokocfaaQT
namespace Go.Proofs.Ytnfeddnkokocfaa
set_option linter.unusedVariables false
set_option linter.unusedSimpArgs false
open Go.RowKit
attribute [local go_sem] Ext.cell
attribute [local go_sem] Oper.semAt_some
open BigFrame

/-- the boxes that the keys' function has captured, as they are made -/
def kW (w : World) (b : Nat) (s : ByteArray) : World := (w.alloc (.cells #[.pointer (some ⟨b, 0, none⟩)] 101)).alloc (.cells #[.string s] 9)
theorem kW_size (w : World) (b : Nat) (s : ByteArray) : (kW w b s).heap.size = w.heap.size + 2 := by unfold kW; simp
theorem kW_below (w : World) (b : Nat) (s : ByteArray) : Below w.heap.size w (kW w b s) := (ext_alloc w _).alloc (by simp) _
theorem kW_a (w : World) (b : Nat) (s : ByteArray) : Blk (kW w b s) w.heap.size 101 #[.pointer (some ⟨b, 0, none⟩)] := (Blk.new w _ _).alloc _
theorem kW_s (w : World) (b : Nat) (s : ByteArray) : Blk (kW w b s) (w.heap.size + 1) 9 #[.string s] := by
  have := Blk.new (w.alloc (.cells #[.pointer (some ⟨b, 0, none⟩)] 101)) 9 #[.string s]
  rw [World.size_alloc] at this
  exact this
theorem c_keys (b : Nat) (s : ByteArray) (w : World) : Calls Try.prog 70 #[.pointer (some ⟨b, 0, none⟩), .string s] w fun e w' => e = .returned (.func (.func 116) #[] #[.pointer (some ⟨w.heap.size, 0, none⟩), .pointer (some ⟨w.heap.size + 1, 0, none⟩)]) ∧ w' = kW w b s := by
  go_enter Try.func70, Try.ntmps70
  go_wp2_with fail
  go_ret
  exact ⟨rfl, rfl⟩
/-- what the keys' function hands out -/
noncomputable def kE (M : Mch) (s : ByteArray) (k : Nat) : Array Value := #[.string (it (stepS M.l) (k + 1) s), pV (kF M (it (stepS M.l) (k + 1) s))]
def kC (M : Mch) (s : ByteArray) (k : Nat) : Value := .string (it (stepS M.l) k s)
/-- what it reads -/
def kSt (A : Option Addr) (cA : Nat) (M : Mch) (b Bx Bw : Nat) (W : World) : Prop := W.cell? ⟨Bx, 0, none⟩ = some (.pointer (some ⟨b, 0, none⟩)) ∧ Bx < W.heap.size ∧ Bw < W.heap.size ∧ Asm W b A cA M
/-- k rounds are over, r are to come at most -/
def kJ (M : Mch) (s : ByteArray) (R : Nat → World → Prop) (N Bw : Nat) (wr : World) (r : Nat) : Prop := ∃ k, k < N ∧ r = N - k ∧ R k wr ∧ wr.cell? ⟨Bw, 0, none⟩ = some (kC M s k) ∧ wr.frozen? ⟨Bw, 0, none⟩ = false
set_option maxHeartbeats 400000 in
set_option maxRecDepth 100000 in
theorem c_keysIt (A : Option Addr) (cA : Nat) (M : Mch) (b Bx Bw : Nat) (s : ByteArray) (n : Nat) (h : setB M s = true) (hx : Bx ≠ Bw) (hb : b ≠ Bw) (hA : ∀ b o, A = some ⟨b, o, none⟩ → b ≠ Bw) :
    ItSt Fence.wide n Try.prog 116 #[.pointer (some ⟨Bx, 0, none⟩), .pointer (some ⟨Bw, 0, none⟩)] (kE M s) Bw (kC M s) (kSt A cA M b Bx Bw) := by
  intro l R Rx N W hR hSt hY hN h0 hc hf
  have HS := Lib.hid h
  have HR := Lib.hid hR
  have HST := Lib.hid hSt
  have HY := Lib.hid hY
  have H0 := Lib.hid (⟨h0, hc, hf⟩ : R 0 W ∧ W.cell? ⟨Bw, 0, none⟩ = some (kC M s 0) ∧ W.frozen? ⟨Bw, 0, none⟩ = false)
  clear h hR hSt hY h0 hc hf
  refine callsIn_of_wp Try.func116 rfl trivial ?_ rfl
  simp only [Try.ntmps116, List.size_toArray, List.length_cons, List.length_nil, Nat.reduceAdd, Nat.reduceSub, Array.replicate_succ, Array.replicate_zero, List.push_toArray, List.append_toArray, List.nil_append, List.cons_append]
  gi_wp2_with fail
  gi_loopw [4] (fun _ wr => ∃ r, kJ M s R N Bw wr r) (fun _ wr => leastOf (kJ M s R N Bw wr))
  case atStart => exact ⟨_, 0, hN, rfl, H0.out.1, H0.out.2.1, H0.out.2.2⟩
  case round =>
    clear H0
    obtain ⟨μ, hμ⟩ : ∃ μ, leastOf (kJ M s R N Bw wr) = μ := ⟨_, rfl⟩
    have hl := (leastOf_spec hrel).1
    have HM := Lib.hid hμ
    rw [hμ] at hl
    clear hμ hrel
    obtain ⟨k, hkN, hr, hRk, hc, hf⟩ := hl
    obtain ⟨x1, x2, x3, hAs⟩ := HST.out k wr hRk
    have y0 := hAs.c0
    have y1 := hAs.c1
    have hlt := hAs.lt
    have RT := Lib.hid hAs.rot
    have AS := Lib.hid hAs
    have HRK := Lib.hid hRk
    have HRR := Lib.hid hr
    have y2 : wr.cell? ⟨Bw, 0, none⟩ = some (.string (it (stepS M.l) k s)) := hc
    have HF := Lib.hid hf
    clear hAs hRk hr hc hf
    gi_wp2_with fail
    refine wpIn_region_ext_tail 7 WideF.wide (by kernel_rfl) (by kernel_rfl) (by kernel_rfl) ?_
    dsimp only [List.take, List.drop]
    repeat (go_big_quiet_step ((first
      | (go_at_call 117; exact Ext.call _ (c_stepIt _ M.l M.rf s k _ (RT.out.ext (Subtype.property _)) (setB_win HS.out))))))
    refine wpQuiet_nil ?_
    rintro _ ⟨⟨w4, hb4⟩, rfl⟩
    rename World => w4
    have q2 : w4.cell? ⟨Bw, 0, none⟩ = some (.string (it (stepS M.l) k s)) := (hb4.cell (p := ⟨Bw, 0, none⟩) x3).trans y2
    have q3 : w4.frozen? ⟨Bw, 0, none⟩ = false := (hb4.frozen (p := ⟨Bw, 0, none⟩) x3).trans HF.out
    have R5 := Lib.hid (HR.out k _ _ HRK.out (grow_set (grow_ext hb4 (some Bw)) (p := ⟨Bw, 0, none⟩) (.inl rfl) (.string (it (stepS M.l) (k + 1) s))))
    have C5 := Lib.hid (World.cell?_setCell_same w4 ⟨Bw, 0, none⟩ (.string (it (stepS M.l) (k + 1) s)) q2)
    have F5 : Hid ((w4.setCell ⟨Bw, 0, none⟩ (.string (it (stepS M.l) (k + 1) s))).frozen? ⟨Bw, 0, none⟩ = false) := by
      show (w4.setCell ⟨Bw, 0, none⟩ (.string (it (stepS M.l) (k + 1) s))).frozen? ⟨Bw, 0, none⟩ = false
      rw [World.frozen?_setCell]; exact q3
    clear hb4 x1 x2 x3 y0 y1 y2 RT AS HF HRK hlt
    gi_wp2_with fail
    clear q2 q3
    generalize w4.setCell ⟨Bw, 0, none⟩ (.string (it (stepS M.l) (k + 1) s)) = w5 at *
    obtain ⟨x1, x2, x3, hAs⟩ := HST.out k w5 R5.out
    have AS := Lib.hid hAs
    have y2 := C5.out
    clear hAs
    refine wpIn_region_ext_tail 5 WideF.wide (by kernel_rfl) (by kernel_rfl) (by kernel_rfl) ?_
    dsimp only [List.take, List.drop]
    repeat (go_big_quiet_step ((first
      | (go_at_call 118; exact Ext.call _ (c_permAt A cA M b _ _ (AS.out.ext (Subtype.property _)) (setB_it HS.out (k + 1)))))))
    refine wpQuiet_nil ?_
    rintro _ ⟨⟨w6, hb6⟩, rfl⟩
    rename World => w6
    obtain ⟨fn, tmps, assign, body, hy, hRd⟩ := HY.out k w6 hkN (HR.out k _ _ R5.out (grow_ext hb6 _)) ((hb6.cell (p := ⟨Bw, 0, none⟩) x3).trans y2) ((hb6.frozen (p := ⟨Bw, 0, none⟩) x3).trans F5.out)
    unfold kE at hy
    clear x1 x2 x3 y2 AS hb6 R5 C5 F5
    gi_wp2_with fail
    refine ⟨WideF.wide.depth, hRd.mono ?_⟩
    clear hy hRd
    rintro e W7 (⟨rfl, hR7, hc7, hf7, hk7⟩ | ⟨rfl, hx7⟩)
    · have J7 : Hid (kJ M s R N Bw W7 (N - (k + 1))) := ⟨k + 1, hk7, rfl, hR7, hc7, hf7⟩
      clear hR7 hc7 hf7
      gi_wp2_with fail
      refine ⟨⟨_, J7.out⟩, ?_⟩
      rw [HM.out, HRR.out]
      exact Nat.lt_of_le_of_lt ((leastOf_spec ⟨_, J7.out⟩).2 _ J7.out) (by omega)
    · gi_wp2_with fail
      refine bodyPost_ret (results_none rfl _ _ _) rfl ?_
      exact ⟨⟨_, rfl⟩, k + 1, hx7⟩
end Go.Proofs.Ytnfeddnkokocfaa
