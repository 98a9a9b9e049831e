/- The walks of the laws RetryFinal, RetryResult, RetryTick, RetryLongest: each returns true. -/
import Derived.Test.YtckhpacleiglmaaRt4
namespace Go.Proofs.Ytckhpacleiglmaa
open Go.RowKit

theorem nt_ok {t x : Int} (h : vld t x = true) : nt t x = t := by rw [nt, if_pos h]
theorem nx_ok {t x : Int} (h : vld t x = true) : nx t x = x := by rw [nx, if_pos h]
theorem resT_f (t e : Int) (h : e ≠ 16) : resT t e = t := by
  unfold resT; split
  · rfl
  · rw [if_neg (fun h2 => h h2.1)]
theorem resX_f (t x e : Int) (h : e ≠ 16) : resX t x e = x := by
  unfold resX; split
  · rfl
  · rw [if_neg (fun h2 => h h2.1)]
theorem resD_f (t e : Int) (h : e ≠ 16) (h0 : e ≠ 0) : resD t e = 3 := by
  rw [resD, if_neg h0, if_neg (fun h2 => h h2.1)]

theorem final_any (t x e : Int) (w : World) : Calls Try.prog 4 #[.agg #[.int .i64 t, .int .i64 x], .int .i64 e] w fun r w' => r = .returned (.bool true) ∧ Below w.heap.size w w' := by
  have HV := Lib.hid (rvalid_any t x)
  have HR := Lib.hid (result_any t x e)
  by_cases h16 : e = 16
  · subst h16
    go_enter Try.func4, Try.ntmps4
    go_wp2_with (go_at_call 9; refine (awake_any _).mono ?_; rintro e w1 ⟨rfl, hB⟩)
    go_ret
    exact ⟨rfl, one_box hB⟩
  have hf : (e == 16) = false := by simpa using h16
  have he := eql_state t x
  cases hv : vld t x with
  | false =>
    rw [hv] at HV
    clear h16 HR hv
    go_enter Try.func4, Try.ntmps4
    go_wp2_with (first
      | (go_at_call 9; refine (awake_any _).mono ?_; rintro e w1 ⟨rfl, hB⟩; obtain ⟨c0, c1, f0⟩ := box1 hB; have HB1 := Lib.hid (one_box hB); clear hB)
      | (go_at_call 13; refine (HV.out _).mono ?_; rintro e w2 ⟨rfl, hB⟩; have HB2 := Lib.hid (HB1.out.trans (hB.mono HB1.out.size)); clear hB))
    go_ret
    exact ⟨rfl, HB2.out⟩
  | true =>
    rw [hv] at HV
    rw [nt_ok hv, nx_ok hv, resT_f t e h16, resX_f t x e h16] at HR
    by_cases h0 : e = 0
    · subst h0
      rw [show resD t 0 = 1 from rfl] at HR
      clear h16 hv
      go_enter Try.func4, Try.ntmps4
      go_wp2_with (first
        | (go_at_call 9; refine (awake_any _).mono ?_; rintro e w1 ⟨rfl, hB⟩; obtain ⟨c0, c1, f0⟩ := box1 hB; have HB1 := Lib.hid (one_box hB); clear hB)
        | (go_at_call 13; refine (HV.out _).mono ?_; rintro e w2 ⟨rfl, hB⟩; have HB2 := Lib.hid (HB1.out.trans (hB.mono HB1.out.size)); obtain ⟨d0, d1⟩ := keepB c0 c1 hB; clear hB)
        | (go_at_call 10; refine (HR.out _).mono ?_; rintro e w3 ⟨rfl, hB⟩; have HB3 := Lib.hid (HB2.out.trans (hB.mono HB2.out.size)); obtain ⟨e0, e1⟩ := keepB d0 d1 hB; obtain ⟨k0, k1⟩ := keep2 e0 e1 (.cells #[.int .i64 t, .int .i64 x] 23); clear hB))
      go_ret
      exact ⟨rfl, HB3.out.alloc HB3.out.size _⟩
    · rw [resD_f t e h16 h0] at HR
      have h0a : (e == 0) = false := by simpa using h0
      have h0b : (e != 0) = true := by simpa using h0
      clear h16 hv h0
      go_enter Try.func4, Try.ntmps4
      go_wp2_with (first
        | (go_at_call 9; refine (awake_any _).mono ?_; rintro e w1 ⟨rfl, hB⟩; obtain ⟨c0, c1, f0⟩ := box1 hB; have HB1 := Lib.hid (one_box hB); clear hB)
        | (go_at_call 13; refine (HV.out _).mono ?_; rintro e w2 ⟨rfl, hB⟩; have HB2 := Lib.hid (HB1.out.trans (hB.mono HB1.out.size)); obtain ⟨d0, d1⟩ := keepB c0 c1 hB; clear hB)
        | (go_at_call 10; refine (HR.out _).mono ?_; rintro e w3 ⟨rfl, hB⟩; have HB3 := Lib.hid (HB2.out.trans (hB.mono HB2.out.size)); obtain ⟨e0, e1⟩ := keepB d0 d1 hB; obtain ⟨k0, k1⟩ := keep2 e0 e1 (.cells #[.int .i64 t, .int .i64 x] 23); clear hB))
      go_ret
      exact ⟨rfl, HB3.out.alloc HB3.out.size _⟩

theorem vld_norm (t x : Int) : vld (nt t x) (nx t x) = true := by
  have h1 := nt_bd t x
  have h2 := nx_bd t x
  unfold vld
  exact decide_eq_true (by omega)
theorem vld_res (t x e : Int) : vld (resT (nt t x) e) (resX (nt t x) (nx t x) e) = true := by
  by_cases h0 : e = 0
  · rw [resT, resX, if_pos h0, if_pos h0]; exact vld_norm t x
  · by_cases h1 : e = 16 ∧ nt t x < 5
    · rw [resT, resX, if_neg h0, if_neg h0, if_pos h1, if_pos h1]
      have := nt_bd t x
      have := wt_bd (nt t x + 1)
      unfold vld
      exact decide_eq_true (by omega)
    · rw [resT, resX, if_neg h0, if_neg h0, if_neg h1, if_neg h1]; exact vld_norm t x
theorem keepc {W w1 : World} {a : Addr} {v : Value} (h : W.cell? a = some v) (hB : Below W.heap.size W w1) : w1.cell? a = some v := (hB.cell (World.block_lt_of_cell? W _ h)).trans h
theorem keepw {w W w1 : World} (h : Below w.heap.size w W) (hB : Below W.heap.size W w1) : Below w.heap.size w w1 := h.trans (hB.mono h.size)
theorem result_law (t x e T X D : Int) (v : Bool) (w : World) (hA : ∀ W, Calls Try.prog 9 #[] W fun e w' => e = .returned (.bool true) ∧ Below W.heap.size W w')
    (hR : ∀ W, Calls Try.prog 10 #[.agg #[.int .i64 t, .int .i64 x], .int .i64 e] W fun r w' => r = .returned (.tuple #[.agg #[.int .i64 T, .int .i64 X], .int .i64 D]) ∧ Below W.heap.size W w')
    (hQ : ∀ W, Calls Try.prog 11 #[.agg #[.int .i64 t, .int .i64 x], .int .i64 e] W fun r w' => r = .returned (.tuple #[.agg #[.int .i64 T, .int .i64 X], .int .i64 D]) ∧ Below W.heap.size W w')
    (hV : ∀ W, Calls Try.prog 12 #[.agg #[.int .i64 t, .int .i64 x]] W fun r w' => r = .returned (.bool v) ∧ Below W.heap.size W w')
    (hU : ∀ W, Calls Try.prog 13 #[.agg #[.int .i64 t, .int .i64 x]] W fun r w' => r = .returned (.bool v) ∧ Below W.heap.size W w')
    (hT : ∀ W, Calls Try.prog 12 #[.agg #[.int .i64 T, .int .i64 X]] W fun r w' => r = .returned (.bool true) ∧ Below W.heap.size W w') :
    Calls Try.prog 3 #[.agg #[.int .i64 t, .int .i64 x], .int .i64 e] w fun r w' => r = .returned (.bool true) ∧ Below w.heap.size w w' := by
  have HA := Lib.hid hA
  have HR := Lib.hid hR
  have HQ := Lib.hid hQ
  have HV := Lib.hid hV
  have HU := Lib.hid hU
  have HT := Lib.hid hT
  clear hA hR hQ hV hU hT
  have he := eql_rstate T X
  go_enter Try.func3, Try.ntmps3
  go_wp2_with (first
    | (go_at_call 9; refine (HA.out _).mono ?_; rintro e w1 ⟨rfl, hB⟩; obtain ⟨c0, c1, f0⟩ := box1 hB; have HB1 := Lib.hid (one_box hB); clear hB)
    | (go_at_call 10; refine (HR.out _).mono ?_; rintro e w2 ⟨rfl, hB⟩; have HB2 := Lib.hid (HB1.out.trans (hB.mono HB1.out.size)); obtain ⟨d0, d1⟩ := keepB c0 c1 hB; obtain ⟨k0, k1⟩ := keep2 d0 d1 (.cells #[.int .i64 T, .int .i64 X] 23); clear hB)
    | (go_at_call 11; refine (HQ.out _).mono ?_; rintro e w3 ⟨rfl, hB⟩; have HB3 := Lib.hid ((HB2.out.alloc HB2.out.size _).trans (hB.mono (HB2.out.alloc HB2.out.size _).size)); obtain ⟨e0, e1⟩ := keepB k0 k1 hB; obtain ⟨g0, g1, g2⟩ := box1 hB; obtain ⟨m0, m1⟩ := keep2 e0 e1 (.cells #[.int .i64 T, .int .i64 X] 28); obtain ⟨n0, n1⟩ := keep2 g0 g1 (.cells #[.int .i64 T, .int .i64 X] 28); clear hB))
  have hp0 : (w3.alloc (Obj.cells #[.int .i64 T, .int .i64 X] 28)).cell? ⟨w3.heap.size, 0, none⟩ = some (.int .i64 T) := cell_of_row _ _ 0 _ _ _ (heap_alloc_new w3 _)
  have hp1 : (w3.alloc (Obj.cells #[.int .i64 T, .int .i64 X] 28)).cell? ⟨w3.heap.size, 1, none⟩ = some (.int .i64 X) := cell_of_row _ _ 1 _ _ _ (heap_alloc_new w3 _)
  have HBq := HB3.out.alloc HB3.out.size (Obj.cells #[.int .i64 T, .int .i64 X] 28)
  generalize (w3.alloc (Obj.cells #[.int .i64 T, .int .i64 X] 28)) = wq at *
  clear HB1 HB2 HB3 c0 c1 d0 d1 k0 k1 e0 e1 g0 g1 g2 f0
  go_region_held3 (fun w' => w'.cell? ⟨w.heap.size, 0, none⟩ = some (.int .i64 t) ∧ w'.cell? ⟨w.heap.size, 1, none⟩ = some (.int .i64 x) ∧ w'.cell? ⟨w2.heap.size, 0, none⟩ = some (.int .i64 T) ∧ w'.cell? ⟨w2.heap.size, 1, none⟩ = some (.int .i64 X) ∧
      w'.cell? ⟨w3.heap.size, 0, none⟩ = some (.int .i64 T) ∧ w'.cell? ⟨w3.heap.size, 1, none⟩ = some (.int .i64 X) ∧ Below w.heap.size w w')
    (first
      | (refine ⟨m0, m1, n0, n1, hp0, hp1, HBq.drew⟩)
      | (go_split_ands; refine ⟨?_, ?_, ?_, ?_, ?_, ?_, ?_⟩ <;> (first | exact keepc (by assumption) hB | exact keepw (by assumption) hB)))
    (first
      | (go_simp; go_at_call 12; (with_reducible refine (HV.out _).mono ?_); rintro e w4 ⟨rfl, hB⟩)
      | (go_simp; go_at_call 13; (with_reducible refine (HU.out _).mono ?_); rintro e w4 ⟨rfl, hB⟩)
      | (go_simp; go_at_call 12; (with_reducible refine (HT.out _).mono ?_); rintro e w4 ⟨rfl, hB⟩))
  rename_i hHeld
  obtain ⟨_, _, _, _, _, _, hBf⟩ := hHeld
  go_wp2
  go_ret
  exact ⟨rfl, hBf⟩
theorem retryResult_any (t x e : Int) (w : World) : Calls Try.prog 3 #[.agg #[.int .i64 t, .int .i64 x], .int .i64 e] w fun r w' => r = .returned (.bool true) ∧ Below w.heap.size w w' := by
  refine result_law t x e _ _ _ _ w awake_any (result_any t x e) (rresult_any t x e) (valid_any t x) (rvalid_any t x) (fun W => ?_)
  have := valid_any (resT (nt t x) e) (resX (nt t x) (nx t x) e) W
  rwa [vld_res] at this

theorem vld_tick (t x : Int) : vld (nt t x) (tickX (nx t x)) = true := by
  have h1 := nt_bd t x
  have h2 := nx_bd t x
  unfold vld tickX
  split <;> exact decide_eq_true (by omega)
theorem tick_law (t x T X : Int) (v : Bool) (w : World) (hA : ∀ W, Calls Try.prog 9 #[] W fun e w' => e = .returned (.bool true) ∧ Below W.heap.size W w')
    (hR : ∀ W, Calls Try.prog 16 #[.agg #[.int .i64 t, .int .i64 x]] W fun r w' => r = .returned (.agg #[.int .i64 T, .int .i64 X]) ∧ Below W.heap.size W w')
    (hQ : ∀ W, Calls Try.prog 17 #[.agg #[.int .i64 t, .int .i64 x]] W fun r w' => r = .returned (.agg #[.int .i64 T, .int .i64 X]) ∧ Below W.heap.size W w')
    (hV : ∀ W, Calls Try.prog 14 #[.agg #[.int .i64 t, .int .i64 x]] W fun r w' => r = .returned (.bool v) ∧ Below W.heap.size W w')
    (hU : ∀ W, Calls Try.prog 18 #[.agg #[.int .i64 t, .int .i64 x]] W fun r w' => r = .returned (.bool v) ∧ Below W.heap.size W w')
    (hT : ∀ W, Calls Try.prog 12 #[.agg #[.int .i64 T, .int .i64 X]] W fun r w' => r = .returned (.bool true) ∧ Below W.heap.size W w') :
    Calls Try.prog 6 #[.agg #[.int .i64 t, .int .i64 x]] w fun r w' => r = .returned (.bool true) ∧ Below w.heap.size w w' := by
  have HA := Lib.hid hA
  have HR := Lib.hid hR
  have HQ := Lib.hid hQ
  have HV := Lib.hid hV
  have HU := Lib.hid hU
  have HT := Lib.hid hT
  clear hA hR hQ hV hU hT
  have he := eql_rstate T X
  go_enter Try.func6, Try.ntmps6
  go_wp2_with (first
    | (go_at_call 9; refine (HA.out _).mono ?_; rintro e w1 ⟨rfl, hB⟩; obtain ⟨c0, c1, f0⟩ := box1 hB; have HB1 := Lib.hid (one_box hB); clear hB)
    | (go_at_call 16; refine (HR.out _).mono ?_; rintro e w2 ⟨rfl, hB⟩; have HB2 := Lib.hid (HB1.out.trans (hB.mono HB1.out.size)); obtain ⟨d0, d1⟩ := keepB c0 c1 hB; obtain ⟨k0, k1⟩ := keep2 d0 d1 (.cells #[.int .i64 T, .int .i64 X] 23); clear hB))
  have hp0 : (w2.alloc (Obj.cells #[.int .i64 T, .int .i64 X] 23)).cell? ⟨w2.heap.size, 0, none⟩ = some (.int .i64 T) := cell_of_row _ _ 0 _ _ _ (heap_alloc_new w2 _)
  have hp1 : (w2.alloc (Obj.cells #[.int .i64 T, .int .i64 X] 23)).cell? ⟨w2.heap.size, 1, none⟩ = some (.int .i64 X) := cell_of_row _ _ 1 _ _ _ (heap_alloc_new w2 _)
  have HBq := HB2.out.alloc HB2.out.size (Obj.cells #[.int .i64 T, .int .i64 X] 23)
  generalize (w2.alloc (Obj.cells #[.int .i64 T, .int .i64 X] 23)) = wq at *
  clear HB1 HB2 c0 c1 d0 d1 f0
  go_region_held3 (fun w' => w'.cell? ⟨w.heap.size, 0, none⟩ = some (.int .i64 t) ∧ w'.cell? ⟨w.heap.size, 1, none⟩ = some (.int .i64 x) ∧ w'.cell? ⟨w2.heap.size, 0, none⟩ = some (.int .i64 T) ∧ w'.cell? ⟨w2.heap.size, 1, none⟩ = some (.int .i64 X) ∧ Below w.heap.size w w')
    (first
      | (refine ⟨k0, k1, hp0, hp1, HBq.drew⟩)
      | (go_split_ands; refine ⟨?_, ?_, ?_, ?_, ?_⟩ <;> (first | exact keepc (by assumption) hB | exact keepw (by assumption) hB)))
    (first
      | (go_simp; go_at_call 17; (with_reducible refine (HQ.out _).mono ?_); rintro e w4 ⟨rfl, hB⟩)
      | (go_simp; go_at_call 14; (with_reducible refine (HV.out _).mono ?_); rintro e w4 ⟨rfl, hB⟩)
      | (go_simp; go_at_call 18; (with_reducible refine (HU.out _).mono ?_); rintro e w4 ⟨rfl, hB⟩)
      | (go_simp; go_at_call 12; (with_reducible refine (HT.out _).mono ?_); rintro e w4 ⟨rfl, hB⟩))
  rename_i hHeld
  obtain ⟨_, _, _, _, hBf⟩ := hHeld
  go_wp2
  go_ret
  exact ⟨rfl, hBf⟩
theorem retryTick_any (t x : Int) (w : World) : Calls Try.prog 6 #[.agg #[.int .i64 t, .int .i64 x]] w fun r w' => r = .returned (.bool true) ∧ Below w.heap.size w w' := by
  refine tick_law t x _ _ _ w awake_any (tick_any t x) (rtick_any t x) (ready_any t x) (rready_any t x) (fun W => ?_)
  have := valid_any (nt t x) (tickX (nx t x)) W
  rwa [vld_tick] at this

theorem nt_tick (t x : Int) : nt (nt t x) (tickX (nx t x)) = nt t x := nt_ok (vld_tick t x)
theorem nx_tick (t x : Int) : nx (nt t x) (tickX (nx t x)) = tickX (nx t x) := nx_ok (vld_tick t x)
theorem retryLongest_any (t x : Int) (w : World) : Calls Try.prog 7 #[.agg #[.int .i64 t, .int .i64 x]] w fun r w' => r = .returned (.bool true) ∧ Below w.heap.size w w' := by
  have HL := Lib.hid (longest_any t x)
  have HQ := Lib.hid (rlongest_any t x)
  have HR := Lib.hid (ready_any t x)
  have HT := Lib.hid (tick_any t x)
  have hl2 := longest_any (nt t x) (tickX (nx t x))
  rw [nt_tick, nx_tick] at hl2
  have HM := Lib.hid hl2
  have hb := nx_bd t x
  have hb2 := wt_bd (nt t x)
  have hls : 0 ≤ lsum (nt t x) ∧ lsum (nt t x) ≤ 31 := by unfold lsum; repeat (split <;> try omega)
  have htk : tickX (nx t x) = if 0 < nx t x then nx t x - 1 else 0 := rfl
  clear hl2
  generalize nt t x = T at *
  generalize nx t x = X at *
  generalize lsum T = L at *
  by_cases h0 : X = 0
  · subst h0
    clear htk HM
    go_enter Try.func7, Try.ntmps7
    go_wp2_with (first
      | (go_at_call 9; refine (awake_any _).mono ?_; rintro e w1 ⟨rfl, hB⟩; obtain ⟨c0, c1, f0⟩ := box1 hB; have HB1 := Lib.hid (one_box hB); clear hB)
      | (go_at_call 15; (with_reducible refine (HL.out _).mono ?_); rintro e w2 ⟨rfl, hB⟩; have HB2 := Lib.hid (keepw HB1.out hB); obtain ⟨d0, d1⟩ := keepB c0 c1 hB; clear hB)
      | (go_at_call 19; (with_reducible refine (HQ.out _).mono ?_); rintro e w3 ⟨rfl, hB⟩; have HB3 := Lib.hid (keepw HB2.out hB); obtain ⟨e0, e1⟩ := keepB d0 d1 hB; clear hB)
      | (go_at_call 14; (with_reducible refine (HR.out _).mono ?_); rintro e w4 ⟨rfl, hB⟩; have HB4 := Lib.hid (keepw HB3.out hB); clear hB))
    go_ret
    exact ⟨rfl, HB4.out⟩
  · rw [if_pos (by omega)] at htk
    rw [htk] at HT HM
    have hx0 : (X == 0) = false := by simpa using h0
    have hx1 : 0 < X := by omega
    have HE := Lib.hid (show (X - 1 + L == X + L - 1) = true by rw [beq_iff_eq]; omega)
    clear htk h0
    go_enter Try.func7, Try.ntmps7
    go_wp2_with (first
      | (go_at_call 9; refine (awake_any _).mono ?_; rintro e w1 ⟨rfl, hB⟩; obtain ⟨c0, c1, f0⟩ := box1 hB; have HB1 := Lib.hid (one_box hB); clear hB)
      | (go_at_call 15; (with_reducible refine (HL.out _).mono ?_); rintro e w2 ⟨rfl, hB⟩; have HB2 := Lib.hid (keepw HB1.out hB); obtain ⟨d0, d1⟩ := keepB c0 c1 hB; clear hB)
      | (go_at_call 19; (with_reducible refine (HQ.out _).mono ?_); rintro e w3 ⟨rfl, hB⟩; have HB3 := Lib.hid (keepw HB2.out hB); obtain ⟨e0, e1⟩ := keepB d0 d1 hB; clear hB)
      | (go_at_call 14; (with_reducible refine (HR.out _).mono ?_); rintro e w4 ⟨rfl, hB⟩; have HB4 := Lib.hid (keepw HB3.out hB); obtain ⟨g0, g1⟩ := keepB e0 e1 hB; clear hB)
      | (go_at_call 16; (with_reducible refine (HT.out _).mono ?_); rintro e w5 ⟨rfl, hB⟩; have HB5 := Lib.hid (keepw HB4.out hB); clear hB)
      | (go_at_call 15; (with_reducible refine (HM.out _).mono ?_); rintro e w6 ⟨rfl, hB⟩; have HB6 := Lib.hid (keepw HB5.out hB); clear hB))
    go_ret
    exact ⟨ret_bool HE.out, HB6.out⟩
