/- The walks of the reference tegularef42. -/
import Derived.Test.YtckhpacleiglmaaRt2
import Derived.StillTailTactics
namespace Go.Proofs.Ytckhpacleiglmaa
open Go.RowKit

theorem rvalid_no (t x : Int) (w : World) (h : t < 0 ∨ 5 < t ∨ x < 0) : Calls Try.prog 13 #[.agg #[.int .i64 t, .int .i64 x]] w fun e w' => e = .returned (.bool (vld t x)) ∧ Below w.heap.size w w' := by
  have HV := Lib.hid (vld_neg h)
  by_cases h1 : t < 0
  · clear h
    go_enter Try.func13, Try.ntmps13
    go_wp2
    go_ret
    exact ⟨ret_bool HV.out.symm, Go.Joins.below_alloc1 _ _⟩
  · by_cases h2 : 5 < t
    · clear h
      go_enter Try.func13, Try.ntmps13
      go_wp2
      go_ret
      exact ⟨ret_bool HV.out.symm, Go.Joins.below_alloc1 _ _⟩
    · have h3 : x < 0 := by omega
      clear h
      go_enter Try.func13, Try.ntmps13
      go_wp2
      go_ret
      exact ⟨ret_bool HV.out.symm, Go.Joins.below_alloc1 _ _⟩
theorem wt_cells1 {w : World} {x y : Value} {tt : TypeId} : ∀ j : Nat, j < 6 → ((w.alloc (.cells #[x, y] tt)).alloc (Obj.cells #[.int .i64 0, .int .i64 1, .int .i64 2, .int .i64 4, .int .i64 8, .int .i64 16] 41)).cell? ⟨w.heap.size + 1, j, none⟩ = some (.int .i64 (wt j)) := by
  intro j hj
  have := wt_cells (w2 := w.alloc (.cells #[x, y] tt)) j hj
  rwa [show (w.alloc (.cells #[x, y] tt)).heap.size = w.heap.size + 1 by simp] at this
theorem rvalid_yes (k : Nat) (x : Int) (w : World) (hk : k ≤ 5) (hx : 0 ≤ x) : Calls Try.prog 13 #[.agg #[.int .i64 (k : Int), .int .i64 x]] w fun e w' => e = .returned (.bool (decide (x ≤ wt k))) ∧ Below w.heap.size w w' := by
  have hc := wt_cells1 (w := w) (x := .int .i64 (k : Int)) (y := .int .i64 x) (tt := 28) k (by omega)
  generalize wt k = m at *
  go_enter Try.func13, Try.ntmps13
  go_wp2
  go_quiet (fail)
  go_wp2
  go_ret
  exact ⟨rfl, (Go.Joins.below_alloc2 _ _ _).trans (Go.Joins.below_draws _ _ _)⟩
theorem rvalid_any (t x : Int) (w : World) : Calls Try.prog 13 #[.agg #[.int .i64 t, .int .i64 x]] w fun e w' => e = .returned (.bool (vld t x)) ∧ Below w.heap.size w w' := by
  by_cases h : t < 0 ∨ 5 < t ∨ x < 0
  · exact rvalid_no t x w h
  · obtain ⟨k, rfl⟩ : ∃ k : Nat, t = (k : Int) := ⟨t.toNat, by omega⟩
    have e : vld k x = decide (x ≤ wt k) := by
      unfold vld
      exact decide_eq_decide.mpr (by omega)
    rw [e]
    exact rvalid_yes k x w (by omega) (by omega)
/-- tegularef42.proper -/
theorem proper_any (t x : Int) (w : World) : Calls Try.prog 22 #[.agg #[.int .i64 t, .int .i64 x]] w fun e w' => e = .returned (.agg #[.int .i64 (nt t x), .int .i64 (nx t x)]) ∧ Below w.heap.size w w' := by
  cases hv : vld t x with
  | true =>
    have e1 := Lib.hid (show nt t x = t by rw [nt, if_pos hv])
    have e2 := Lib.hid (show nx t x = x by rw [nx, if_pos hv])
    have HC := Lib.hid (rvalid_any t x)
    rw [hv] at HC
    clear hv
    go_enter Try.func22, Try.ntmps22
    go_wp2_with (go_at_call 13; refine (HC.out _).mono ?_; rintro e w1 ⟨rfl, hB⟩; have HBw := Lib.hid (two_boxes hB); obtain ⟨c0, c1, d0, d1, f0, g0⟩ := boxes2 hB; clear hB)
    refine bodyPost_ret (v := .agg #[.int .i64 t, .int .i64 x]) (by simp [results, Try.results22, go_sem, d0, d1]) rfl ⟨by rw [e1.out, e2.out], ?_⟩
    exact HBw.out.setCell (by simp) _ |>.setCell (by simp) _
  | false =>
    have e1 := Lib.hid (show nt t x = 5 by rw [nt, if_neg (by rw [hv]; simp)])
    have e2 := Lib.hid (show nx t x = 0 by rw [nx, if_neg (by rw [hv]; simp)])
    have HC := Lib.hid (rvalid_any t x)
    rw [hv] at HC
    clear hv
    go_enter Try.func22, Try.ntmps22
    go_wp2_with (go_at_call 13; refine (HC.out _).mono ?_; rintro e w1 ⟨rfl, hB⟩; have HBw := Lib.hid (two_boxes hB); obtain ⟨c0, c1, d0, d1, f0, g0⟩ := boxes2 hB; clear hB)
    refine bodyPost_ret (v := .agg #[.int .i64 5, .int .i64 0]) (by simp [results, Try.results22, go_sem, d0, d1]) rfl ⟨by rw [e1.out, e2.out], ?_⟩
    exact HBw.out.setCell (by simp) _ |>.setCell (by simp) _
/-- tegularef42.Ready -/
theorem rfield_wait (a b : Value) (W : World) : (Instr.field 28 (.agg #[a, b]) 1).run Try.prog W = .ok b W := by kernel_rfl
theorem rready_any (t x : Int) (w : World) : Calls Try.prog 18 #[.agg #[.int .i64 t, .int .i64 x]] w fun e w' => e = .returned (.bool (nx t x == 0)) ∧ Below w.heap.size w w' := by
  have hfd := rfield_wait
  go_enter Try.func18, Try.ntmps18
  go_wp2_with (go_at_call 22; refine (proper_any t x _).mono ?_; rintro e w1 ⟨rfl, hB⟩)
  go_ret
  exact ⟨rfl, one_box hB⟩
/-- tegularef42.Tick -/
theorem rtick_pos (t x t' x' y : Int) (w : World) (hb : 0 ≤ x' ∧ x' ≤ 16) (hy : y = tickX x') (hn : ∀ W, Calls Try.prog 22 #[.agg #[.int .i64 t, .int .i64 x]] W fun e w' => e = .returned (.agg #[.int .i64 t', .int .i64 x']) ∧ Below W.heap.size W w') :
    Calls Try.prog 17 #[.agg #[.int .i64 t, .int .i64 x]] w fun e w' => e = .returned (.agg #[.int .i64 t', .int .i64 y]) ∧ Below w.heap.size w w' := by
  have HN := Lib.hid hn
  clear hn
  by_cases h1 : 0 < x'
  · obtain rfl : y = x' - 1 := by rw [hy, tickX, if_pos h1]
    clear hy
    go_enter Try.func17, Try.ntmps17
    go_wp2_with (go_at_call 22; refine (HN.out _).mono ?_; rintro e w1 ⟨rfl, hB⟩; have HBw := Lib.hid (two_boxes hB); obtain ⟨c0, c1, d0, d1, f0, g0⟩ := boxes2 hB; clear hB; have e1 : ((w1.setCell ⟨w.heap.size, 0, none⟩ (.int .i64 t')).setCell ⟨w.heap.size, 1, none⟩ (.int .i64 x')).cell? ⟨w.heap.size, 1, none⟩ = some (.int .i64 x') := by simp [go_sem, c1])
    refine bodyPost_ret (v := .agg #[.int .i64 t', .int .i64 (x' - 1)]) (by simp [results, Try.results17, go_sem, d0, d1]) rfl ⟨rfl, ?_⟩
    exact HBw.out.setCell (by simp) _ |>.setCell (by simp) _ |>.setCell (by simp) _ |>.setCell (by simp) _ |>.setCell (by simp) _
  · obtain rfl : x' = 0 := by omega
    obtain rfl : y = 0 := by rw [hy, tickX, if_neg h1]
    clear hy
    go_enter Try.func17, Try.ntmps17
    go_wp2_with (go_at_call 22; refine (HN.out _).mono ?_; rintro e w1 ⟨rfl, hB⟩; have HBw := Lib.hid (two_boxes hB); obtain ⟨c0, c1, d0, d1, f0, g0⟩ := boxes2 hB; clear hB; have e1 : ((w1.setCell ⟨w.heap.size, 0, none⟩ (.int .i64 t')).setCell ⟨w.heap.size, 1, none⟩ (.int .i64 0)).cell? ⟨w.heap.size, 1, none⟩ = some (.int .i64 0) := by simp [go_sem, c1])
    refine bodyPost_ret (v := .agg #[.int .i64 t', .int .i64 0]) (by simp [results, Try.results17, go_sem, d0, d1]) rfl ⟨rfl, ?_⟩
    exact HBw.out.setCell (by simp) _ |>.setCell (by simp) _ |>.setCell (by simp) _ |>.setCell (by simp) _
theorem rtick_any (t x : Int) (w : World) : Calls Try.prog 17 #[.agg #[.int .i64 t, .int .i64 x]] w fun e w' => e = .returned (.agg #[.int .i64 (nt t x), .int .i64 (tickX (nx t x))]) ∧ Below w.heap.size w w' := by
  have hb := nx_bd t x
  have hb2 := wt_bd (nt t x)
  exact rtick_pos t x _ _ _ w (by omega) rfl (proper_any t x)

/-- tegularef42.Result -/
theorem rresult_done (t x t' x' : Int) (w : World) (hn : ∀ W, Calls Try.prog 22 #[.agg #[.int .i64 t, .int .i64 x]] W fun e w' => e = .returned (.agg #[.int .i64 t', .int .i64 x']) ∧ Below W.heap.size W w') :
    Calls Try.prog 11 #[.agg #[.int .i64 t, .int .i64 x], .int .i64 0] w fun e w' => e = .returned (.tuple #[.agg #[.int .i64 t', .int .i64 x'], .int .i64 1]) ∧ Below w.heap.size w w' := by
  have HN := Lib.hid hn
  clear hn
  go_enter Try.func11, Try.ntmps11
  go_wp2_with (go_at_call 22; refine (HN.out _).mono ?_; rintro e w1 ⟨rfl, hB⟩; have HBw := Lib.hid (two_boxes hB); obtain ⟨c0, c1, d0, d1, f0, g0⟩ := boxes2 hB; clear hB)
  refine bodyPost_ret (v := .tuple #[.agg #[.int .i64 t', .int .i64 x'], .int .i64 1]) (by simp [results, Try.results11, go_sem, d0, d1]) rfl ⟨rfl, ?_⟩
  exact HBw.out.setCell (by simp) _ |>.setCell (by simp) _ |>.setCell (by simp) _ |>.setCell (by simp) _
theorem rresult_final (t x t' x' e : Int) (w : World) (h0 : e ≠ 0) (h1 : e ≠ 16 ∨ t' = 5) (hn : ∀ W, Calls Try.prog 22 #[.agg #[.int .i64 t, .int .i64 x]] W fun e w' => e = .returned (.agg #[.int .i64 t', .int .i64 x']) ∧ Below W.heap.size W w') :
    Calls Try.prog 11 #[.agg #[.int .i64 t, .int .i64 x], .int .i64 e] w fun e w' => e = .returned (.tuple #[.agg #[.int .i64 t', .int .i64 x'], .int .i64 3]) ∧ Below w.heap.size w w' := by
  have HN := Lib.hid hn
  have he : (e == 0) = false := by simpa using h0
  clear hn h0
  by_cases h16 : e = 16
  · subst h16
    obtain rfl : t' = 5 := by omega
    clear h1
    go_enter Try.func11, Try.ntmps11
    go_wp2_with (go_at_call 22; refine (HN.out _).mono ?_; rintro e w1 ⟨rfl, hB⟩; have HBw := Lib.hid (two_boxes hB); obtain ⟨c0, c1, d0, d1, f0, g0⟩ := boxes2 hB; clear hB)
    refine bodyPost_ret (v := .tuple #[.agg #[.int .i64 5, .int .i64 x'], .int .i64 3]) (by simp [results, Try.results11, go_sem, d0, d1]) rfl ⟨rfl, ?_⟩
    exact HBw.out.setCell (by simp) _ |>.setCell (by simp) _ |>.setCell (by simp) _ |>.setCell (by simp) _
  · have hf : (e != 16) = true := by simpa using h16
    clear h1 h16
    go_enter Try.func11, Try.ntmps11
    go_wp2_with (go_at_call 22; refine (HN.out _).mono ?_; rintro e w1 ⟨rfl, hB⟩; have HBw := Lib.hid (two_boxes hB); obtain ⟨c0, c1, d0, d1, f0, g0⟩ := boxes2 hB; clear hB)
    refine bodyPost_ret (v := .tuple #[.agg #[.int .i64 t', .int .i64 x'], .int .i64 3]) (by simp [results, Try.results11, go_sem, d0, d1]) rfl ⟨rfl, ?_⟩
    exact HBw.out.setCell (by simp) _ |>.setCell (by simp) _ |>.setCell (by simp) _ |>.setCell (by simp) _
theorem wt5_cells {w2 : World} : ∀ j : Nat, j < 5 → (w2.alloc (Obj.cells #[.int .i64 1, .int .i64 2, .int .i64 4, .int .i64 8, .int .i64 16] 43)).cell? ⟨w2.heap.size, j, none⟩ = some (.int .i64 (wt ((j + 1 : Nat) : Int))) := by
  intro j hj
  rw [cell_of_row _ _ j _ _ _ (heap_alloc_new w2 _)]
  match j, hj with
  | 0, _ => rfl
  | 1, _ => rfl
  | 2, _ => rfl
  | 3, _ => rfl
  | 4, _ => rfl
theorem rresult_again (t x x' : Int) (k : Nat) (w : World) (hk : k < 5)
    (hn : ∀ W, Calls Try.prog 22 #[.agg #[.int .i64 t, .int .i64 x]] W fun e w' => e = .returned (.agg #[.int .i64 (k : Int), .int .i64 x']) ∧ Below W.heap.size W w') :
    Calls Try.prog 11 #[.agg #[.int .i64 t, .int .i64 x], .int .i64 16] w fun e w' => e = .returned (.tuple #[.agg #[.int .i64 ((k : Int) + 1), .int .i64 (wt ((k : Int) + 1))], .int .i64 2]) ∧ Below w.heap.size w w' := by
  have HN := Lib.hid hn
  have hk5 : ((k : Int) == 5) = false := beq_eq_false_iff_ne.mpr (by omega)
  clear hn
  go_enter Try.func11, Try.ntmps11
  go_wp2_with (go_at_call 22; refine (HN.out _).mono ?_; rintro e w1 ⟨rfl, hB⟩; have HBw := Lib.hid (two_boxes hB); obtain ⟨c0, c1, d0, d1, f0, g0⟩ := boxes2 hB; clear hB)
  obtain ⟨wp, hwp⟩ : ∃ wp, wp = (w1.setCell ⟨w.heap.size, 0, none⟩ (.int .i64 (k : Int))).setCell ⟨w.heap.size, 1, none⟩ (.int .i64 x') := ⟨_, rfl⟩
  have hz : wp.heap.size = w1.heap.size := by rw [hwp]; simp
  rw [← hwp, ← hz]
  have hcs := wt5_cells (w2 := wp) k hk
  have hq : wp.cell? ⟨w.heap.size, 0, none⟩ = some (.int .i64 (k : Int)) ∧ wp.cell? ⟨w.heap.size + 1, 0, none⟩ = some (.int .i64 0) ∧ wp.cell? ⟨w.heap.size + 1, 1, none⟩ = some (.int .i64 0) ∧
      wp.frozen? ⟨w.heap.size + 1, 0, none⟩ = false ∧ wp.frozen? ⟨w.heap.size + 1, 1, none⟩ = false := by
    rw [hwp]; refine ⟨?_, ?_, ?_, ?_, ?_⟩ <;> simp [go_sem, c0, d0, d1, g0]
  have HBq := Lib.hid (show Below w.heap.size w wp by rw [hwp]; exact HBw.out.setCell (by simp) _ |>.setCell (by simp) _)
  obtain ⟨wq, hwq⟩ : ∃ wq, wq = wp.alloc (Obj.cells #[.int .i64 1, .int .i64 2, .int .i64 4, .int .i64 8, .int .i64 16] 43) := ⟨_, rfl⟩
  rw [← hwq] at hcs ⊢
  have hBa : Below wp.heap.size wp wq := by rw [hwq]; exact Go.Joins.below_alloc1 _ _
  have k0 := World.block_lt_of_cell? wp ⟨w.heap.size + 1, 0, none⟩ hq.2.1
  have q0 := (hBa.cell (p := ⟨w.heap.size, 0, none⟩) (by have : w.heap.size + 1 < wp.heap.size := k0; show w.heap.size < _; omega)).trans hq.1
  have q1 := (hBa.cell (p := ⟨w.heap.size + 1, 0, none⟩) k0).trans hq.2.1
  have q2 := (hBa.cell (p := ⟨w.heap.size + 1, 1, none⟩) k0).trans hq.2.2.1
  have q3 := (hBa.frozen (p := ⟨w.heap.size + 1, 0, none⟩) k0).trans hq.2.2.2.1
  have q4 := (hBa.frozen (p := ⟨w.heap.size + 1, 1, none⟩) k0).trans hq.2.2.2.2
  have HB2 := Lib.hid (HBq.out.trans (hBa.mono HBq.out.size))
  have hwr : IntKind.i64.wrap ((k : Int) + 1) = (k : Int) + 1 := IntWalk.i64_in _ (by omega)
  rw [show ((k + 1 : Nat) : Int) = (k : Int) + 1 by omega] at hcs
  obtain ⟨m, hm⟩ : ∃ m, m = wt ((k : Int) + 1) := ⟨_, rfl⟩
  rw [← hm] at hcs
  have HM := Lib.hid hm
  clear hm hq hBa hwq hwp hz c0 c1 d0 d1 f0 g0 k0
  have hk1 : (0 : Int) ≤ (k : Int) := Int.natCast_nonneg _
  have hk2 : (k : Int) < 5 := by omega
  go_still_tail 8, (by kernel_rfl)
  change wpList _ _ _ _ _ wq.drew
  obtain ⟨w5, hw5⟩ : ∃ w5, w5 = wq.drew := ⟨_, rfl⟩
  rw [← hw5]
  have r1 : w5.cell? ⟨w.heap.size + 1, 0, none⟩ = some (.int .i64 0) := by rw [hw5]; exact q1
  have r2 : w5.cell? ⟨w.heap.size + 1, 1, none⟩ = some (.int .i64 0) := by rw [hw5]; exact q2
  have r3 : w5.frozen? ⟨w.heap.size + 1, 0, none⟩ = false := by rw [hw5]; exact q3
  have r4 : w5.frozen? ⟨w.heap.size + 1, 1, none⟩ = false := by rw [hw5]; exact q4
  have HB5 := Lib.hid (show Below w.heap.size w w5 by rw [hw5]; exact HB2.out.drew)
  clear q0 q1 q2 q3 q4 hw5 hcs hwr
  go_wp2
  refine bodyPost_ret (v := .tuple #[.agg #[.int .i64 ((k : Int) + 1), .int .i64 m], .int .i64 2]) (by simp [results, Try.results11, go_sem, r1, r2]) rfl ⟨by rw [HM.out], ?_⟩
  exact HB5.out.setCell (by simp) _ |>.setCell (by simp) _
theorem rresult_any (t x e : Int) (w : World) : Calls Try.prog 11 #[.agg #[.int .i64 t, .int .i64 x], .int .i64 e] w
    fun r w' => r = .returned (.tuple #[.agg #[.int .i64 (resT (nt t x) e), .int .i64 (resX (nt t x) (nx t x) e)], .int .i64 (resD (nt t x) e)]) ∧ Below w.heap.size w w' := by
  have hb := nt_bd t x
  have hn := proper_any t x
  generalize nt t x = t' at *
  generalize nx t x = x' at *
  by_cases h0 : e = 0
  · subst h0
    have := rresult_done t x t' x' w hn
    simpa [resT, resX, resD] using this
  · by_cases h1 : e = 16 ∧ t' < 5
    · obtain ⟨rfl, h1⟩ := h1
      obtain ⟨k, rfl⟩ : ∃ k : Nat, t' = (k : Int) := ⟨t'.toNat, by omega⟩
      have := rresult_again t x x' k w (by omega) hn
      rw [resT, resX, resD, if_neg h0, if_neg h0, if_neg h0, if_pos ⟨rfl, h1⟩, if_pos ⟨rfl, h1⟩, if_pos ⟨rfl, h1⟩]
      exact this
    · have := rresult_final t x t' x' e w h0 (by omega) hn
      rw [resT, resX, resD, if_neg h0, if_neg h0, if_neg h0, if_neg h1, if_neg h1, if_neg h1]
      exact this

/-- tegularef42.Longest -/
theorem rlongest_at (t x x' : Int) (k n : Nat) (w : World) (hx : 0 ≤ x' ∧ x' ≤ 16) (hk : k + n = 5)
    (hn : ∀ W, Calls Try.prog 22 #[.agg #[.int .i64 t, .int .i64 x]] W fun e w' => e = .returned (.agg #[.int .i64 (k : Int), .int .i64 x']) ∧ Below W.heap.size W w') :
    Calls Try.prog 19 #[.agg #[.int .i64 t, .int .i64 x]] w fun e w' => e = .returned (.int .i64 (x' + lsum k)) ∧ Below w.heap.size w w' := by
  have HL := Lib.hid (psum_all k (by omega))
  have HN := Lib.hid hn
  clear hn
  go_enter Try.func19, Try.ntmps19
  go_wp2_with (go_at_call 22; refine (HN.out _).mono ?_; rintro e w1 ⟨rfl, hB⟩; have HBw := Lib.hid (one_box hB); obtain ⟨c0, c1, f0⟩ := box1 hB; clear hB; have l1 : w.heap.size < w1.heap.size := World.block_lt_of_cell? w1 _ c0; have e3 : (((w1.setCell ⟨w.heap.size, 0, none⟩ (.int .i64 (k : Int))).setCell ⟨w.heap.size, 1, none⟩ (.int .i64 x')).alloc (Obj.cells #[.int .i64 1, .int .i64 2, .int .i64 4, .int .i64 8, .int .i64 16] 43)).cell? ⟨w.heap.size, 0, none⟩ = some (.int .i64 (k : Int)) := (((Go.Joins.below_alloc1 _ _).cell (p := ⟨w.heap.size, 0, none⟩) (by simpa using l1)).trans (by simp [go_sem, c0])))
  have hcs := wt5_cells (w2 := (w1.setCell ⟨w.heap.size, 0, none⟩ (.int .i64 (k : Int))).setCell ⟨w.heap.size, 1, none⟩ (.int .i64 x'))
  rw [show ((w1.setCell ⟨w.heap.size, 0, none⟩ (.int .i64 (k : Int))).setCell ⟨w.heap.size, 1, none⟩ (.int .i64 x')).heap.size = w1.heap.size by simp] at hcs
  have HC := Lib.hid hcs
  have HB2 := Lib.hid (show Below w.heap.size w (((w1.setCell ⟨w.heap.size, 0, none⟩ (.int .i64 (k : Int))).setCell ⟨w.heap.size, 1, none⟩ (.int .i64 x')).alloc (Obj.cells #[.int .i64 1, .int .i64 2, .int .i64 4, .int .i64 8, .int .i64 16] 43)) from (HBw.out.setCell (by simp) _ |>.setCell (by simp) _).alloc (by simp; omega) _)
  clear hcs e3 c0 c1 f0 HBw
  go_loop [3, 5] (fun vs vi => ∃ i : Nat, i ≤ n ∧ vi = .int .i64 ((k + i : Nat) : Int) ∧ vs = .int .i64 (x' + psum k i)) (fun _ vi => 5 - (intOf vi).toNat)
  case atStart => exact ⟨0, by omega, by simp, by simp [psum]⟩
  case round =>
    obtain ⟨i, hi, rfl, rfl⟩ := hrel
    have hb := psum_bd k i
    by_cases hlt : i < n
    · have hcell := HC.out (k + i) (by omega)
      have hub := wt_bd ((k + i + 1 : Nat) : Int)
      have hps := Lib.hid (show psum k (i + 1) = psum k i + wt ((k + i + 1 : Nat) : Int) by rw [psum, show k + 1 + i = k + i + 1 by omega])
      generalize wt ((k + i + 1 : Nat) : Int) = u at *
      have hki : k + i < 5 := by omega
      have HK := Lib.hid hk
      clear hk
      go_wp2
      go_round
      case rel => exact ⟨i + 1, by omega, by go_num, by rw [hps.out]; congr 1; omega⟩
      case measure => simp [intOf]; omega
    · obtain rfl : i = n := by omega
      have HK := Lib.hid hk
      have hge : ¬ k + i < 5 := by omega
      clear hk
      go_wp2
      go_ret
      refine ⟨ret_int (by have := HL.out; have hk := HK.out; rw [show 5 - k = i by omega] at this; omega), ?_⟩
      exact HB2.out
theorem rlongest_any (t x : Int) (w : World) : Calls Try.prog 19 #[.agg #[.int .i64 t, .int .i64 x]] w fun e w' => e = .returned (.int .i64 (nx t x + lsum (nt t x))) ∧ Below w.heap.size w w' := by
  have hb := nt_bd t x
  have hx := nx_bd t x
  have hx2 := wt_bd (nt t x)
  have hn := proper_any t x
  generalize nx t x = x' at *
  obtain ⟨k, hk⟩ : ∃ k : Nat, nt t x = (k : Int) := ⟨(nt t x).toNat, by omega⟩
  rw [hk] at hn ⊢
  exact rlongest_at t x x' k (5 - k) w (by omega) (by omega) hn
