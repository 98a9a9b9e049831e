/- The walk of the law ThrottleWait: it returns true. -/
import Derived.Test.YtogdabfmfabjkaaTh3
import Derived.Test.YtogdabfmfabjkaaThM
namespace Go.Proofs.Ytogdabfmfabjkaa
open Go.RowKit

theorem box1 {w w1 : World} {x y : Value} {t1 : TypeId} (hB : Below (w.alloc (.cells #[x, y] t1)).heap.size (w.alloc (.cells #[x, y] t1)) w1) :
    w1.cell? ⟨w.heap.size, 0, none⟩ = some x ∧ w1.cell? ⟨w.heap.size, 1, none⟩ = some y ∧ Below w.heap.size w w1 := by
  have h1 : (w.alloc (.cells #[x, y] t1)).heap[w.heap.size]? = some (.cells #[x, y] t1 (0, 0)) := heap_alloc_new w _
  have g1 : ∀ j, w1.cell? ⟨w.heap.size, j, none⟩ = #[x, y][j]? := fun j => (hB.cell (by simp)).trans (cell_of_row _ _ j _ _ _ h1)
  exact ⟨g1 0, g1 1, (Go.Joins.below_alloc1 w _).trans (hB.mono (by simp))⟩
theorem sz {w w1 : World} (h : Below w.heap.size w w1) : w.heap.size ≤ w1.heap.size := h.size

set_option maxRecDepth 100000 in
set_option maxHeartbeats 4000000 in
theorem lawWait_any (R B u n : Int) (w : World) (hn1 : -9223372036854775808 ≤ n) (hn2 : n ≤ 9223372036854775807) (hu1 : -9223372036854775808 ≤ u) (hu2 : u ≤ 9223372036854775807) :
    Calls Try.prog 6 #[.int .i64 R, .int .i64 B, .agg #[.int .i64 u, .int .i64 n]] w fun e w' => e = .returned (.bool true) ∧ Below w.heap.size w w' := by
  by_cases hv : okRB R B
  rotate_left
  · have HV := Lib.hid (fun W => rvalid_no R B W hv)
    clear hv
    go_enter Try.func6, Try.ntmps6
    go_wp2_with (go_at_call 10; refine (awake_any _).mono ?_; rintro e w1 ⟨rfl, hB⟩; obtain ⟨c0, c1, hW⟩ := box1 hB; have HW1 := Lib.hid hW; clear hB hW)
    go_quiet (fail)
    go_wp2_with (go_at_call 12; (with_reducible refine (HV.out _).mono ?_); rintro e w' ⟨rfl, rfl⟩)
    go_ret
    exact ⟨rfl, below_d HW1.out _⟩
  have HV := Lib.hid (fun W => rvalid_yes R B W hv)
  have HN := Lib.hid (fun W => new_any R B W hv)
  unfold okRB at hv
  obtain ⟨hR, hR2, hb1, hb2⟩ := hv
  by_cases hu : u < 0
  · go_enter Try.func6, Try.ntmps6
    go_wp2_with (go_at_call 10; refine (awake_any _).mono ?_; rintro e w1 ⟨rfl, hB⟩; obtain ⟨c0, c1, hW⟩ := box1 hB; have HW1 := Lib.hid hW; clear hB hW)
    go_quiet (fail)
    go_wp2_with (go_at_call 12; (with_reducible refine (HV.out _).mono ?_); rintro e w' ⟨rfl, rfl⟩)
    go_ret
    exact ⟨rfl, below_d HW1.out _⟩
  by_cases hu3 : B < u
  · go_enter Try.func6, Try.ntmps6
    go_wp2_with (go_at_call 10; refine (awake_any _).mono ?_; rintro e w1 ⟨rfl, hB⟩; obtain ⟨c0, c1, hW⟩ := box1 hB; have HW1 := Lib.hid hW; clear hB hW)
    go_quiet (fail)
    go_wp2_with (go_at_call 12; (with_reducible refine (HV.out _).mono ?_); rintro e w' ⟨rfl, rfl⟩)
    go_ret
    exact ⟨rfl, below_d HW1.out _⟩
  have HT0 := Lib.hid (fun (g : Nat) (W : World) (h : Buk W g R B B) => take_any g R B B u W h hu2 (by omega) hb2)
  rw [show takeL B u = B - u by rw [takeL, if_pos (by omega)], show took B u = true from decide_eq_true (by omega)] at HT0
  have HWt := Lib.hid (fun (g : Nat) (W : World) (h : Buk W g R B (B - u)) => wait_any g R B (B - u) n W h hR hR2 (by omega) (by omega) hb2)
  have HLv := Lib.hid (fun (g : Nat) (W : World) (h : Buk W g R B (B - u)) => level_any g R B (B - u) W h)
  by_cases ha : n < 0 ∨ B < n
  · rw [show waitK R B (B - u) n = 0 by rw [waitK, if_pos ha], show waitE R B (B - u) n = 1 by rw [waitE, if_pos ha]] at HWt
    rcases ha with ha | ha
    all_goals
      go_enter Try.func6, Try.ntmps6
      go_wp2_with (go_at_call 10; refine (awake_any _).mono ?_; rintro e w1 ⟨rfl, hB⟩; obtain ⟨c0, c1, hW⟩ := box1 hB; have HW1 := Lib.hid hW; clear hB hW)
      go_quiet (fail)
      go_wp2_with (first
        | (go_at_call 12; (with_reducible refine (HV.out _).mono ?_); rintro e w' ⟨rfl, rfl⟩)
        | (go_at_call 11; (with_reducible refine (HN.out _).mono ?_); rintro e w2 ⟨rfl, b2, hB⟩; have HB2 := Lib.hid (show Buk w2 w1.heap.size R B B from b2); have HW2 := Lib.hid (keepw (below_d HW1.out _) hB); have s2 := sz HW1.out; clear b2 hB)
        | (go_at_call 16; (with_reducible refine (HT0.out _ _ HB2.out).mono ?_); rintro e w3 ⟨rfl, b3, g3⟩; have HB3 := Lib.hid b3; have HW3 := Lib.hid (below_g HW2.out g3 s2); clear b3 g3)
        | (go_at_call 19; (with_reducible refine (HWt.out _ _ HB3.out).mono ?_); rintro e w4 ⟨rfl, m4, rfl⟩)
        | (go_at_call 13; (with_reducible refine (HLv.out _ _ (HB3.out.drewN _)).mono ?_); rintro e w' ⟨rfl, rfl⟩))
      go_ret
      exact ⟨rfl, below_d HW3.out _⟩
  have ha1 : ¬ n < 0 := by omega
  have ha2 : ¬ B < n := by omega
  by_cases hb : n ≤ B - u
  · rw [show waitK R B (B - u) n = 0 by rw [waitK, if_neg ha, if_pos hb], show waitE R B (B - u) n = 0 by rw [waitE, if_neg ha, if_pos hb]] at HWt
    have HT1 := Lib.hid (fun (g : Nat) (W : World) (h : Buk W g R B (B - u)) => take_any g R B (B - u) n W h hn2 (by omega) (by omega))
    rw [show took (B - u) n = true from decide_eq_true (by omega)] at HT1
    clear ha
    go_enter Try.func6, Try.ntmps6
    go_wp2_with (go_at_call 10; refine (awake_any _).mono ?_; rintro e w1 ⟨rfl, hB⟩; obtain ⟨c0, c1, hW⟩ := box1 hB; have HW1 := Lib.hid hW; clear hB hW)
    go_quiet (fail)
    go_wp2_with (first
      | (go_at_call 12; (with_reducible refine (HV.out _).mono ?_); rintro e w' ⟨rfl, rfl⟩)
      | (go_at_call 11; (with_reducible refine (HN.out _).mono ?_); rintro e w2 ⟨rfl, b2, hB⟩; have HB2 := Lib.hid (show Buk w2 w1.heap.size R B B from b2); have HW2 := Lib.hid (keepw (below_d HW1.out _) hB); have s2 := sz HW1.out; clear b2 hB)
      | (go_at_call 16; (with_reducible refine (HT0.out _ _ HB2.out).mono ?_); rintro e w3 ⟨rfl, b3, g3⟩; have HB3 := Lib.hid b3; have HW3 := Lib.hid (below_g HW2.out g3 s2); clear b3 g3)
      | (go_at_call 19; (with_reducible refine (HWt.out _ _ HB3.out).mono ?_); rintro e w4 ⟨rfl, m4, rfl⟩)
      | (go_at_call 13; (with_reducible refine (HLv.out _ _ (HB3.out.drewN _)).mono ?_); rintro e w' ⟨rfl, rfl⟩)
      | (go_at_call 16; (with_reducible refine (HT1.out _ _ (HB3.out.drewN _)).mono ?_); rintro e w5 ⟨rfl, b3, g3⟩; have HB5 := Lib.hid b3; have HW5 := Lib.hid (below_g (below_d HW3.out _) g3 s2); clear b3 g3))
    go_ret
    exact ⟨rfl, HW5.out⟩
  by_cases hz : R = 0
  · rw [show waitK R B (B - u) n = 0 by rw [waitK, if_neg ha, if_neg hb, if_pos hz], show waitE R B (B - u) n = 9 by rw [waitE, if_neg ha, if_neg hb, if_pos hz]] at HWt
    have hzb : (R == 0) = true := by simpa using hz
    clear ha hz
    go_enter Try.func6, Try.ntmps6
    go_wp2_with (go_at_call 10; refine (awake_any _).mono ?_; rintro e w1 ⟨rfl, hB⟩; obtain ⟨c0, c1, hW⟩ := box1 hB; have HW1 := Lib.hid hW; clear hB hW)
    go_quiet (fail)
    go_wp2_with (first
      | (go_at_call 12; (with_reducible refine (HV.out _).mono ?_); rintro e w' ⟨rfl, rfl⟩)
      | (go_at_call 11; (with_reducible refine (HN.out _).mono ?_); rintro e w2 ⟨rfl, b2, hB⟩; have HB2 := Lib.hid (show Buk w2 w1.heap.size R B B from b2); have HW2 := Lib.hid (keepw (below_d HW1.out _) hB); have s2 := sz HW1.out; clear b2 hB)
      | (go_at_call 16; (with_reducible refine (HT0.out _ _ HB2.out).mono ?_); rintro e w3 ⟨rfl, b3, g3⟩; have HB3 := Lib.hid b3; have HW3 := Lib.hid (below_g HW2.out g3 s2); clear b3 g3)
      | (go_at_call 19; (with_reducible refine (HWt.out _ _ HB3.out).mono ?_); rintro e w4 ⟨rfl, m4, rfl⟩)
      | (go_at_call 13; (with_reducible refine (HLv.out _ _ (HB3.out.drewN _)).mono ?_); rintro e w' ⟨rfl, rfl⟩))
    go_ret
    exact ⟨rfl, below_d HW3.out _⟩
  have hzb : (R == 0) = false := by simpa using hz
  obtain ⟨k, hk⟩ : ∃ k, k = (n - (B - u) + R - 1) / R := ⟨_, rfl⟩
  rw [show waitK R B (B - u) n = k by rw [waitK, if_neg ha, if_neg hb, if_neg hz, hk], show waitE R B (B - u) n = 0 by rw [waitE, if_neg ha, if_neg hb, if_neg hz]] at HWt
  obtain ⟨k1, k2, k3, k4⟩ := wait_spec (B := B) (L := B - u) (n := n) (by omega) (by omega) (by omega) hk
  have HK1 := Lib.hid (fun (g : Nat) (W : World) (h : Buk W g R B (B - u)) => tick_any g R B (B - u) (k - 1) W h hR hR2 (by omega) (by omega) hb2)
  obtain ⟨l1, l2⟩ := tickL_bd (B := B) (L := B - u) (n := k - 1) hR (by omega)
  obtain ⟨L1, hL1⟩ : ∃ L1, L1 = tickL R B (B - u) (k - 1) := ⟨_, rfl⟩
  rw [← hL1] at k3 k4 l1 l2 HK1
  have HT1 := Lib.hid (fun (g : Nat) (W : World) (h : Buk W g R B L1) => take_any g R B L1 n W h hn2 (by omega) (by omega))
  rw [show took L1 n = false from decide_eq_false (by omega), show takeL L1 n = L1 by rw [takeL, if_neg (by omega)]] at HT1
  have HK2 := Lib.hid (fun (g : Nat) (W : World) (h : Buk W g R B L1) => tick_any g R B L1 1 W h hR hR2 (by omega) (by omega) hb2)
  obtain ⟨l3, l4⟩ := tickL_bd (B := B) (L := L1) (n := 1) hR (by omega)
  obtain ⟨L2, hL2⟩ : ∃ L2, L2 = tickL R B L1 1 := ⟨_, rfl⟩
  rw [← hL2] at k4 l3 l4 HK2
  have HT2 := Lib.hid (fun (g : Nat) (W : World) (h : Buk W g R B L2) => take_any g R B L2 n W h hn2 (by omega) (by omega))
  rw [show took L2 n = true from decide_eq_true (by omega)] at HT2
  have k5 : 0 < k := by omega
  clear ha hz hk hL1 hL2 k1
  go_enter Try.func6, Try.ntmps6
  go_wp2_with (go_at_call 10; refine (awake_any _).mono ?_; rintro e w1 ⟨rfl, hB⟩; obtain ⟨c0, c1, hW⟩ := box1 hB; have HW1 := Lib.hid hW; clear hB hW)
  go_quiet (fail)
  go_wp2_with (first
    | (go_at_call 12; (with_reducible refine (HV.out _).mono ?_); rintro e w' ⟨rfl, rfl⟩)
    | (go_at_call 11; (with_reducible refine (HN.out _).mono ?_); rintro e w2 ⟨rfl, b2, hB⟩; have HB2 := Lib.hid (show Buk w2 w1.heap.size R B B from b2); have HW2 := Lib.hid (keepw (below_d HW1.out _) hB); have s2 := sz HW1.out; clear b2 hB)
    | (go_at_call 16; (with_reducible refine (HT0.out _ _ HB2.out).mono ?_); rintro e w3 ⟨rfl, b3, g3⟩; have HB3 := Lib.hid b3; have HW3 := Lib.hid (below_g HW2.out g3 s2); clear b3 g3)
    | (go_at_call 19; (with_reducible refine (HWt.out _ _ HB3.out).mono ?_); rintro e w4 ⟨rfl, m4, rfl⟩)
    | (go_at_call 13; (with_reducible refine (HLv.out _ _ (HB3.out.drewN _)).mono ?_); rintro e w' ⟨rfl, rfl⟩)
    | (go_at_call 18; (with_reducible refine (HK1.out _ _ (HB3.out.drewN _)).mono ?_); rintro e w5 ⟨rfl, b3, g3⟩; have HB5 := Lib.hid b3; have HW5 := Lib.hid (below_g (below_d HW3.out _) g3 s2); clear b3 g3)
    | (go_at_call 16; (with_reducible refine (HT1.out _ _ (HB5.out)).mono ?_); rintro e w6 ⟨rfl, b3, g3⟩; have HB6 := Lib.hid b3; have HW6 := Lib.hid (below_g (HW5.out) g3 s2); clear b3 g3)
    | (go_at_call 18; (with_reducible refine (HK2.out _ _ (HB6.out)).mono ?_); rintro e w7 ⟨rfl, b3, g3⟩; have HB7 := Lib.hid b3; have HW7 := Lib.hid (below_g (HW6.out) g3 s2); clear b3 g3)
    | (go_at_call 16; (with_reducible refine (HT2.out _ _ (HB7.out)).mono ?_); rintro e w8 ⟨rfl, b3, g3⟩; have HB8 := Lib.hid b3; have HW8 := Lib.hid (below_g (HW7.out) g3 s2); clear b3 g3))
  go_ret
  exact ⟨rfl, HW8.out⟩
