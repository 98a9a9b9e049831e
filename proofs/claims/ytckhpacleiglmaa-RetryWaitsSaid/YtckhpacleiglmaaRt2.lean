/- The walks of package retry: Result, Tick, Ready, Longest. -/
import Derived.Test.YtckhpacleiglmaaRt1
namespace Go.Proofs.Ytckhpacleiglmaa
open Go.RowKit

theorem nt_bd (t x : Int) : 0 ≤ nt t x ∧ nt t x ≤ 5 := by
  unfold nt vld
  split
  · rename_i h; have := of_decide_eq_true h; omega
  · omega
theorem wt_bd (t : Int) : 0 ≤ wt t ∧ wt t ≤ 16 := by unfold wt; repeat (split <;> try omega)
theorem nx_bd (t x : Int) : 0 ≤ nx t x ∧ nx t x ≤ wt (nt t x) := by
  cases h : vld t x with
  | true =>
    rw [nx, nt, if_pos h, if_pos h]
    unfold vld at h
    have := of_decide_eq_true h; omega
  | false => rw [nx, nt, if_neg (by rw [h]; simp), if_neg (by rw [h]; simp)]; decide
def resT (t e : Int) : Int := if e = 0 then t else if e = 16 ∧ t < 5 then t + 1 else t
def resX (t x e : Int) : Int := if e = 0 then x else if e = 16 ∧ t < 5 then wt (t + 1) else x
def resD (t e : Int) : Int := if e = 0 then 1 else if e = 16 ∧ t < 5 then 2 else 3

theorem result_done (t x t' x' : Int) (w : World) (hn : ∀ W, Calls Try.prog 20 #[.agg #[.int .i64 t, .int .i64 x]] W fun e w' => e = .returned (.agg #[.int .i64 t', .int .i64 x']) ∧ Below W.heap.size W w') :
    Calls Try.prog 10 #[.agg #[.int .i64 t, .int .i64 x], .int .i64 0] w fun e w' => e = .returned (.tuple #[.agg #[.int .i64 t', .int .i64 x'], .int .i64 1]) ∧ Below w.heap.size w w' := by
  have HN := Lib.hid hn
  clear hn
  go_enter Try.func10, Try.ntmps10
  go_wp2_with (go_at_call 20; refine (HN.out _).mono ?_; rintro e w1 ⟨rfl, hB⟩; have HBw := Lib.hid (two_boxes hB); obtain ⟨c0, c1, d0, d1, f0, g0⟩ := boxes2 hB; clear hB)
  refine bodyPost_ret (v := .tuple #[.agg #[.int .i64 t', .int .i64 x'], .int .i64 1]) (by simp [results, Try.results10, go_sem, d0, d1]) rfl ⟨rfl, ?_⟩
  exact HBw.out.setCell (by simp) _ |>.setCell (by simp) _ |>.setCell (by simp) _ |>.setCell (by simp) _
theorem result_final (t x t' x' e : Int) (w : World) (h0 : e ≠ 0) (h1 : e ≠ 16 ∨ t' = 5) (hn : ∀ W, Calls Try.prog 20 #[.agg #[.int .i64 t, .int .i64 x]] W fun e w' => e = .returned (.agg #[.int .i64 t', .int .i64 x']) ∧ Below W.heap.size W w') :
    Calls Try.prog 10 #[.agg #[.int .i64 t, .int .i64 x], .int .i64 e] w fun e w' => e = .returned (.tuple #[.agg #[.int .i64 t', .int .i64 x'], .int .i64 3]) ∧ Below w.heap.size w w' := by
  have HN := Lib.hid hn
  have he : (e == 0) = false := by simpa using h0
  clear hn h0
  by_cases h16 : e = 16
  · subst h16
    obtain rfl : t' = 5 := by omega
    clear h1
    go_enter Try.func10, Try.ntmps10
    go_wp2_with (go_at_call 20; refine (HN.out _).mono ?_; rintro e w1 ⟨rfl, hB⟩; have HBw := Lib.hid (two_boxes hB); obtain ⟨c0, c1, d0, d1, f0, g0⟩ := boxes2 hB; clear hB)
    refine bodyPost_ret (v := .tuple #[.agg #[.int .i64 5, .int .i64 x'], .int .i64 3]) (by simp [results, Try.results10, go_sem, d0, d1]) rfl ⟨rfl, ?_⟩
    exact HBw.out.setCell (by simp) _ |>.setCell (by simp) _ |>.setCell (by simp) _ |>.setCell (by simp) _
  · have hf : (e == 16) = false := by simpa using h16
    clear h1 h16
    go_enter Try.func10, Try.ntmps10
    go_wp2_with (go_at_call 20; refine (HN.out _).mono ?_; rintro e w1 ⟨rfl, hB⟩; have HBw := Lib.hid (two_boxes hB); obtain ⟨c0, c1, d0, d1, f0, g0⟩ := boxes2 hB; clear hB)
    refine bodyPost_ret (v := .tuple #[.agg #[.int .i64 t', .int .i64 x'], .int .i64 3]) (by simp [results, Try.results10, go_sem, d0, d1]) rfl ⟨rfl, ?_⟩
    exact HBw.out.setCell (by simp) _ |>.setCell (by simp) _ |>.setCell (by simp) _ |>.setCell (by simp) _
theorem result_again (t x t' x' m : Int) (w : World) (h1 : t' < 5) (h2 : 0 ≤ t')
    (hix : ∀ W : World, (Instr.index 41 (.agg #[.int .i64 0, .int .i64 1, .int .i64 2, .int .i64 4, .int .i64 8, .int .i64 16]) (.int .i64 (t' + 1))).run Try.prog W = .ok (.int .i64 m) W)
    (hn : ∀ W, Calls Try.prog 20 #[.agg #[.int .i64 t, .int .i64 x]] W fun e w' => e = .returned (.agg #[.int .i64 t', .int .i64 x']) ∧ Below W.heap.size W w') :
    Calls Try.prog 10 #[.agg #[.int .i64 t, .int .i64 x], .int .i64 16] w fun e w' => e = .returned (.tuple #[.agg #[.int .i64 (t' + 1), .int .i64 m], .int .i64 2]) ∧ Below w.heap.size w w' := by
  have HN := Lib.hid hn
  clear hn
  go_enter Try.func10, Try.ntmps10
  go_wp2_with (go_at_call 20; refine (HN.out _).mono ?_; rintro e w1 ⟨rfl, hB⟩; have HBw := Lib.hid (two_boxes hB); obtain ⟨c0, c1, d0, d1, f0, g0⟩ := boxes2 hB; clear hB)
  obtain ⟨wq, hwq⟩ : ∃ wq, wq = (w1.setCell ⟨w.heap.size, 0, none⟩ (.int .i64 t')).setCell ⟨w.heap.size, 1, none⟩ (.int .i64 x') := ⟨_, rfl⟩
  rw [← hwq]
  have hq : wq.cell? ⟨w.heap.size, 0, none⟩ = some (.int .i64 t') ∧ wq.cell? ⟨w.heap.size + 1, 0, none⟩ = some (.int .i64 0) ∧ wq.cell? ⟨w.heap.size + 1, 1, none⟩ = some (.int .i64 0) ∧
      wq.frozen? ⟨w.heap.size + 1, 0, none⟩ = false ∧ wq.frozen? ⟨w.heap.size + 1, 1, none⟩ = false := by
    rw [hwq]; refine ⟨?_, ?_, ?_, ?_, ?_⟩ <;> simp [go_sem, c0, d0, d1, g0]
  have HBq := Lib.hid (show Below w.heap.size w wq by rw [hwq]; exact HBw.out.setCell (by simp) _ |>.setCell (by simp) _)
  have hsz : w.heap.size + 1 < wq.heap.size := World.block_lt_of_cell? wq ⟨w.heap.size + 1, 0, none⟩ hq.2.1
  clear HBw hwq c0 c1 d0 d1 f0 g0
  obtain ⟨q0, q1, q2, q3, q4⟩ := hq
  have hwr : IntKind.i64.wrap (t' + 1) = t' + 1 := IntWalk.i64_in _ (by omega)
  go_region_held3 (fun w' => w'.cell? ⟨w.heap.size, 0, none⟩ = some (.int .i64 t'))
    (first
      | go_keep
      | (rw [hb1 _ _ (by simp; omega)]; assumption)
      | (simp [go_sem]; assumption))
    (first
      | (go_simp; go_at_call 21; refine (waits_any _).mono ?_; rintro e w2 ⟨rfl, hB⟩; obtain ⟨hb1, hb2⟩ := bcell hB; have r1 := (hb1 (w.heap.size + 1) 0 (by simp; omega)).trans q1; have r2 := (hb1 (w.heap.size + 1) 1 (by simp; omega)).trans q2; have r3 := (hb2 (w.heap.size + 1) 0 (by simp; omega)).trans q3; have r4 := (hb2 (w.heap.size + 1) 1 (by simp; omega)).trans q4))
  go_wp2
  refine bodyPost_ret (v := .tuple #[.agg #[.int .i64 (t' + 1), .int .i64 m], .int .i64 2]) (by simp [results, Try.results10, go_sem, r1, r2]) rfl ⟨rfl, ?_⟩
  have hB2 : Below w.heap.size w w2 := HBq.out.drew.trans (hB.mono (by have := HBq.out.size; simpa using this))
  exact hB2.setCell (by simp) _ |>.setCell (by simp) _
/-- retry.Result -/
theorem result_any (t x e : Int) (w : World) : Calls Try.prog 10 #[.agg #[.int .i64 t, .int .i64 x], .int .i64 e] w
    fun r w' => r = .returned (.tuple #[.agg #[.int .i64 (resT (nt t x) e), .int .i64 (resX (nt t x) (nx t x) e)], .int .i64 (resD (nt t x) e)]) ∧ Below w.heap.size w w' := by
  have hb := nt_bd t x
  have hn := normal_any t x
  generalize nt t x = t' at *
  generalize nx t x = x' at *
  by_cases h0 : e = 0
  · subst h0
    have := result_done t x t' x' w hn
    simpa [resT, resX, resD] using this
  · by_cases h1 : e = 16 ∧ t' < 5
    · obtain ⟨rfl, h1⟩ := h1
      have key : ∀ m, wt (t' + 1) = m → (∀ W : World, (Instr.index 41 (.agg #[.int .i64 0, .int .i64 1, .int .i64 2, .int .i64 4, .int .i64 8, .int .i64 16]) (.int .i64 (t' + 1))).run Try.prog W = .ok (.int .i64 m) W) →
          Calls Try.prog 10 #[.agg #[.int .i64 t, .int .i64 x], .int .i64 16] w fun r w' => r = .returned (.tuple #[.agg #[.int .i64 (resT t' 16), .int .i64 (resX t' x' 16)], .int .i64 (resD t' 16)]) ∧ Below w.heap.size w w' := by
        intro m hm hix
        have := result_again t x t' x' m w h1 hb.1 hix hn
        rw [resT, resX, resD, if_neg h0, if_neg h0, if_neg h0, if_pos ⟨rfl, h1⟩, if_pos ⟨rfl, h1⟩, if_pos ⟨rfl, h1⟩, hm]
        exact this
      obtain rfl | rfl | rfl | rfl | rfl : t' = 0 ∨ t' = 1 ∨ t' = 2 ∨ t' = 3 ∨ t' = 4 := by omega
      · exact key 1 rfl (fun W => by kernel_rfl)
      · exact key 2 rfl (fun W => by kernel_rfl)
      · exact key 4 rfl (fun W => by kernel_rfl)
      · exact key 8 rfl (fun W => by kernel_rfl)
      · exact key 16 rfl (fun W => by kernel_rfl)
    · have := result_final t x t' x' e w h0 (by omega) hn
      rw [resT, resX, resD, if_neg h0, if_neg h0, if_neg h0, if_neg h1, if_neg h1, if_neg h1]
      exact this

theorem field_wait (a b : Value) (W : World) : (Instr.field 23 (.agg #[a, b]) 1).run Try.prog W = .ok b W := by kernel_rfl
/-- retry.Ready -/
theorem ready_any (t x : Int) (w : World) : Calls Try.prog 14 #[.agg #[.int .i64 t, .int .i64 x]] w fun e w' => e = .returned (.bool (nx t x == 0)) ∧ Below w.heap.size w w' := by
  have hfd := field_wait
  go_enter Try.func14, Try.ntmps14
  go_wp2_with (go_at_call 20; refine (normal_any t x _).mono ?_; rintro e w1 ⟨rfl, hB⟩)
  go_ret
  exact ⟨rfl, one_box hB⟩
/-- retry.Tick -/
def tickX (x : Int) : Int := if 0 < x then x - 1 else 0
theorem tick_pos (t x t' x' y : Int) (w : World) (hb : 0 ≤ x' ∧ x' ≤ 16) (hy : y = tickX x') (hn : ∀ W, Calls Try.prog 20 #[.agg #[.int .i64 t, .int .i64 x]] W fun e w' => e = .returned (.agg #[.int .i64 t', .int .i64 x']) ∧ Below W.heap.size W w') :
    Calls Try.prog 16 #[.agg #[.int .i64 t, .int .i64 x]] w fun e w' => e = .returned (.agg #[.int .i64 t', .int .i64 y]) ∧ Below w.heap.size w w' := by
  have HN := Lib.hid hn
  have hmx : (if 0 < x' - 1 then x' - 1 else 0) = y := by rw [hy]; unfold tickX; split <;> split <;> omega
  have HM := Lib.hid hmx
  clear hn hy hmx
  by_cases h1 : 1 < x'
  · obtain rfl : y = x' - 1 := by have := HM.out; rw [if_pos (by omega)] at this; exact this.symm
    go_enter Try.func16, Try.ntmps16
    go_wp2_with (go_at_call 20; refine (HN.out _).mono ?_; rintro e w1 ⟨rfl, hB⟩; have HBw := Lib.hid (two_boxes hB); obtain ⟨c0, c1, d0, d1, f0, g0⟩ := boxes2 hB; clear hB; have e1 : ((w1.setCell ⟨w.heap.size, 0, none⟩ (.int .i64 t')).setCell ⟨w.heap.size, 1, none⟩ (.int .i64 x')).cell? ⟨w.heap.size, 1, none⟩ = some (.int .i64 x') := by simp [go_sem, c1])
    refine bodyPost_ret (v := .agg #[.int .i64 t', .int .i64 (x' - 1)]) (by simp [results, Try.results16, go_sem, d0, d1]) rfl ⟨rfl, ?_⟩
    exact HBw.out.setCell (by simp) _ |>.setCell (by simp) _ |>.setCell (by simp) _ |>.setCell (by simp) _ |>.setCell (by simp) _
  · obtain rfl : y = 0 := by have := HM.out; rw [if_neg (by omega)] at this; exact this.symm
    have h2 : x' ≤ 1 := by omega
    go_enter Try.func16, Try.ntmps16
    go_wp2_with (go_at_call 20; refine (HN.out _).mono ?_; rintro e w1 ⟨rfl, hB⟩; have HBw := Lib.hid (two_boxes hB); obtain ⟨c0, c1, d0, d1, f0, g0⟩ := boxes2 hB; clear hB; have e1 : ((w1.setCell ⟨w.heap.size, 0, none⟩ (.int .i64 t')).setCell ⟨w.heap.size, 1, none⟩ (.int .i64 x')).cell? ⟨w.heap.size, 1, none⟩ = some (.int .i64 x') := by simp [go_sem, c1])
    refine bodyPost_ret (v := .agg #[.int .i64 t', .int .i64 0]) (by simp [results, Try.results16, go_sem, d0, d1]) rfl ⟨rfl, ?_⟩
    exact HBw.out.setCell (by simp) _ |>.setCell (by simp) _ |>.setCell (by simp) _ |>.setCell (by simp) _ |>.setCell (by simp) _
theorem tick_any (t x : Int) (w : World) : Calls Try.prog 16 #[.agg #[.int .i64 t, .int .i64 x]] w fun e w' => e = .returned (.agg #[.int .i64 (nt t x), .int .i64 (tickX (nx t x))]) ∧ Below w.heap.size w w' := by
  have hb := nx_bd t x
  have hb2 := wt_bd (nt t x)
  exact tick_pos t x _ _ _ w (by omega) rfl (normal_any t x)

/-- retry.Longest -/
def lsum (t : Int) : Int := if t = 0 then 31 else if t = 1 then 30 else if t = 2 then 28 else if t = 3 then 24 else if t = 4 then 16 else 0
theorem wt_cells {w2 : World} : ∀ j : Nat, j < 6 → (w2.alloc (Obj.cells #[.int .i64 0, .int .i64 1, .int .i64 2, .int .i64 4, .int .i64 8, .int .i64 16] 41)).cell? ⟨w2.heap.size, j, none⟩ = some (.int .i64 (wt j)) := by
  intro j hj
  rw [cell_of_row _ _ j _ _ _ (heap_alloc_new w2 _)]
  match j, hj with
  | 0, _ => rfl
  | 1, _ => rfl
  | 2, _ => rfl
  | 3, _ => rfl
  | 4, _ => rfl
  | 5, _ => rfl
/-- the waits behind t tries, of the first i repetitions -/
def psum (t : Nat) : Nat → Int
  | 0 => 0
  | i + 1 => psum t i + wt ((t + 1 + i : Nat) : Int)
theorem psum_bd (t : Nat) : ∀ i : Nat, 0 ≤ psum t i ∧ psum t i ≤ 16 * i
  | 0 => by simp [psum]
  | i + 1 => by
    have := psum_bd t i
    have := wt_bd ((t + 1 + i : Nat) : Int)
    unfold psum
    omega
theorem psum_all (t : Nat) (h : t ≤ 5) : psum t (5 - t) = lsum t := by
  match t, h with
  | 0, _ => decide
  | 1, _ => decide
  | 2, _ => decide
  | 3, _ => decide
  | 4, _ => decide
  | 5, _ => decide
theorem longest_at (t x x' : Int) (k n : Nat) (A : Nat → Option Addr) (w : World) (hx : 0 ≤ x' ∧ x' ≤ 16) (hk : k + n = 5)
    (hsl : ∀ (g : Nat) (W : World), (Instr.sliceAt 41 (.pointer (some ⟨g, 0, none⟩)) (some (.int .i64 ((k : Int) + 1))) none none).run Try.prog W = .ok (.slice (A g) n n) W)
    (hA : ∀ g, 0 < n → A g = some ⟨g, k + 1, none⟩)
    (hn : ∀ W, Calls Try.prog 20 #[.agg #[.int .i64 t, .int .i64 x]] W fun e w' => e = .returned (.agg #[.int .i64 (k : Int), .int .i64 x']) ∧ Below W.heap.size W w') :
    Calls Try.prog 15 #[.agg #[.int .i64 t, .int .i64 x]] w fun e w' => e = .returned (.int .i64 (x' + lsum k)) ∧ Below w.heap.size w w' := by
  have HL := Lib.hid (psum_all k (by omega))
  have HN := Lib.hid hn
  have HA := Lib.hid hA
  clear hn hA
  go_enter Try.func15, Try.ntmps15
  go_wp2_with (first
    | (go_at_call 20; refine (HN.out _).mono ?_; rintro e w1 ⟨rfl, hB⟩; have HBw := Lib.hid (one_box hB); obtain ⟨c0, c1, f0⟩ := box1 hB; clear hB)
    | (go_at_call 21; refine (waits_any _).mono ?_; rintro e w2 ⟨rfl, hB2⟩; have l1 : w.heap.size < w1.heap.size := World.block_lt_of_cell? w1 _ c0; have l2 : w1.heap.size ≤ w2.heap.size := (by simpa using hB2.size); have e2 := hB2.cell (p := ⟨w.heap.size, 0, none⟩) (by simpa using l1); simp [go_sem, c0] at e2; have e3 := ((Go.Joins.below_alloc1 w2 (Obj.cells #[.int .i64 0, .int .i64 1, .int .i64 2, .int .i64 4, .int .i64 8, .int .i64 16] 41)).cell (p := ⟨w.heap.size, 0, none⟩) (by show w.heap.size < _; omega)).trans e2; have HB2 := Lib.hid ((HBw.out.setCell (by simp) _ |>.setCell (by simp) _).trans (hB2.mono (by first | (simp; done) | (simp; omega)))); have HC := Lib.hid (wt_cells (w2 := w2)); clear hB2))
  go_loop [3, 17] (fun vs vi => ∃ i : Nat, i ≤ n ∧ vi = .int .i64 i ∧ vs = .int .i64 (x' + psum k i)) (fun _ vi => n - (intOf vi).toNat)
  case atStart => exact ⟨0, by omega, rfl, by simp [psum]⟩
  case round =>
    obtain ⟨i, hi, rfl, rfl⟩ := hrel
    have hb := psum_bd k i
    by_cases hlt : i < n
    · have hcell := HC.out (k + 1 + i) (by omega)
      have hub := wt_bd ((k + 1 + i : Nat) : Int)
      have hps := Lib.hid (show psum k (i + 1) = psum k i + wt ((k + 1 + i : Nat) : Int) from rfl)
      generalize wt ((k + 1 + i : Nat) : Int) = u at *
      have hAg := HA.out w2.heap.size (by omega)
      clear e2 e3 c0 c1 f0
      go_wp2
      go_round
      case rel => exact ⟨i + 1, by omega, by go_num, by rw [hps.out]; congr 1; omega⟩
      case measure => simp [intOf]; omega
    · obtain rfl : i = n := by omega
      go_wp2
      go_ret
      refine ⟨ret_int (by have := HL.out; rw [show 5 - k = i by omega] at this; omega), ?_⟩
      exact HB2.out.alloc HB2.out.size _
theorem longest_any (t x : Int) (w : World) : Calls Try.prog 15 #[.agg #[.int .i64 t, .int .i64 x]] w fun e w' => e = .returned (.int .i64 (nx t x + lsum (nt t x))) ∧ Below w.heap.size w w' := by
  have hb := nt_bd t x
  have hx := nx_bd t x
  have hx2 := wt_bd (nt t x)
  have hn := normal_any t x
  generalize nx t x = x' at *
  obtain ⟨k, hk⟩ : ∃ k : Nat, nt t x = (k : Int) := ⟨(nt t x).toNat, by omega⟩
  rw [hk] at hn ⊢
  obtain rfl | rfl | rfl | rfl | rfl | rfl : k = 0 ∨ k = 1 ∨ k = 2 ∨ k = 3 ∨ k = 4 ∨ k = 5 := by omega
  · exact longest_at t x x' 0 5 (fun g => some ⟨g, 1, none⟩) w (by omega) rfl (fun g W => rfl) (fun g _ => rfl) hn
  · exact longest_at t x x' 1 4 (fun g => some ⟨g, 2, none⟩) w (by omega) rfl (fun g W => rfl) (fun g _ => rfl) hn
  · exact longest_at t x x' 2 3 (fun g => some ⟨g, 3, none⟩) w (by omega) rfl (fun g W => rfl) (fun g _ => rfl) hn
  · exact longest_at t x x' 3 2 (fun g => some ⟨g, 4, none⟩) w (by omega) rfl (fun g W => rfl) (fun g _ => rfl) hn
  · exact longest_at t x x' 4 1 (fun g => some ⟨g, 5, none⟩) w (by omega) rfl (fun g W => rfl) (fun g _ => rfl) hn
  · exact longest_at t x x' 5 0 (fun g => some ⟨g, 0, none⟩) w (by omega) rfl (fun g W => rfl) (fun g h => by omega) hn
