/- The walk of tegulalaw43.awake; the laws ThrottleNew and ThrottleNil. -/
import Derived.Test.YtogdabfmfabjkaaTh2
namespace Go.Proofs.Ytogdabfmfabjkaa
open Go.RowKit

theorem below_g {w w1 w2 : World} {g : Nat} (hB : Below w.heap.size w w1) (hg : w1.grownBy w2 (some g)) (h : w.heap.size ≤ g) : Below w.heap.size w w2 :=
  hB.grown hg hB.size (fun k hk => by cases hk; exact h)
theorem below_d {w w1 : World} (hB : Below w.heap.size w w1) (n : Nat) : Below w.heap.size w (w1.drewN n) := hB.trans (Go.Joins.below_draws _ _ _)
theorem keepw {w W w1 : World} (h : Below w.heap.size w W) (hB : Below W.heap.size W w1) : Below w.heap.size w w1 := h.trans (hB.mono h.size)

theorem awake_any (w : World) : Calls Try.prog 10 #[] w fun e w' => e = .returned (.bool true) ∧ Below w.heap.size w w' := by
  have HN := Lib.hid (fun W => new_any 2 5 W (by unfold okRB; omega))
  go_enter Try.func10, Try.ntmps10
  go_wp2_with (go_at_call 11; (with_reducible refine (HN.out _).mono ?_); rintro e w1 ⟨rfl, b1, hB⟩; have HB1 := Lib.hid b1; have HW1 := Lib.hid hB; clear b1 hB)
  refine (level_any w.heap.size 2 5 5 w1 HB1.out).mono ?_
  rintro e w' ⟨rfl, rfl⟩
  go_wp2_with fail
  refine (take_any w.heap.size 2 5 5 4 w1 HB1.out (by omega) (by omega) (by omega)).mono ?_
  rintro e w2 ⟨rfl, b2, g2⟩
  rw [show takeL 5 4 = 1 by decide] at b2
  rw [show took 5 4 = true by decide]
  have HB2 := Lib.hid b2; have HW2 := Lib.hid (below_g HW1.out g2 (Nat.le_refl _)); clear b2 g2
  go_wp2_with fail
  refine (take_any w.heap.size 2 5 1 2 w2 HB2.out (by omega) (by omega) (by omega)).mono ?_
  rintro e w3 ⟨rfl, b2, g2⟩
  rw [show takeL 1 2 = 1 by decide] at b2
  rw [show took 1 2 = false by decide]
  have HB3 := Lib.hid b2; have HW3 := Lib.hid (below_g HW2.out g2 (Nat.le_refl _)); clear b2 g2
  go_wp2_with fail
  refine (level_any w.heap.size 2 5 1 w3 HB3.out).mono ?_
  rintro e w' ⟨rfl, rfl⟩
  go_wp2_with fail
  refine (wait_any w.heap.size 2 5 1 4 w3 HB3.out (by omega) (by omega) (by omega) (by omega) (by omega)).mono ?_
  rintro e w4 ⟨rfl, m, rfl⟩
  rw [show waitK 2 5 1 4 = 2 by decide, show waitE 2 5 1 4 = 0 by decide]
  go_wp2_with fail
  refine (tick_any w.heap.size 2 5 1 1 _ (HB3.out.drewN m) (by omega) (by omega) (by omega) (by omega) (by omega)).mono ?_
  rintro e w5 ⟨rfl, b2, g2⟩
  rw [show tickL 2 5 1 1 = 3 by decide] at b2
  have HB5 := Lib.hid b2; have HW5 := Lib.hid (below_g (below_d HW3.out m) g2 (Nat.le_refl _)); clear b2 g2
  go_wp2_with fail
  refine (level_any w.heap.size 2 5 3 w5 HB5.out).mono ?_
  rintro e w' ⟨rfl, rfl⟩
  go_wp2_with fail
  refine (tick_any w.heap.size 2 5 3 9 _ HB5.out (by omega) (by omega) (by omega) (by omega) (by omega)).mono ?_
  rintro e w6 ⟨rfl, b2, g2⟩
  rw [show tickL 2 5 3 9 = 5 by decide] at b2
  have HB6 := Lib.hid b2; have HW6 := Lib.hid (below_g HW5.out g2 (Nat.le_refl _)); clear b2 g2
  go_wp2_with fail
  refine (level_any w.heap.size 2 5 5 w6 HB6.out).mono ?_
  rintro e w' ⟨rfl, rfl⟩
  go_wp2
  go_ret
  exact ⟨rfl, HW6.out⟩

/-- tegularef43.Valid -/
theorem rvalid_yes (R B : Int) (w : World) (h : okRB R B) : Calls Try.prog 12 #[.int .i64 R, .int .i64 B] w fun e w' => e = .returned (.bool true) ∧ w = w' := by
  unfold okRB at h
  obtain ⟨h1, h2, h3, h4⟩ := h
  go_enter Try.func12, Try.ntmps12
  go_wp2
  go_ret
  exact ⟨rfl, rfl⟩
theorem rvalid_no (R B : Int) (w : World) (h : ¬ okRB R B) : Calls Try.prog 12 #[.int .i64 R, .int .i64 B] w fun e w' => e = .returned (.bool false) ∧ w = w' := by
  unfold okRB at h
  by_cases h1 : R < 0
  · clear h
    go_enter Try.func12, Try.ntmps12
    go_wp2
    go_ret
    exact ⟨rfl, rfl⟩
  by_cases h2 : 1048576 < R
  · clear h
    go_enter Try.func12, Try.ntmps12
    go_wp2
    go_ret
    exact ⟨rfl, rfl⟩
  by_cases h3 : B < 1
  · clear h
    go_enter Try.func12, Try.ntmps12
    go_wp2
    go_ret
    exact ⟨rfl, rfl⟩
  have h4 : 1073741824 < B := by omega
  clear h
  go_enter Try.func12, Try.ntmps12
  go_wp2
  go_ret
  exact ⟨ret_bool (decide_eq_false (by omega)), rfl⟩

theorem ptr_neq (g : Nat) (W : World) : (binOp .neq 23 (.pointer (some ⟨g, 0, none⟩)) (.pointer none)).run Try.prog W = .ok (.bool true) W := by
  rw [run_neq_pointer_nil W 23 (some ⟨g, 0, none⟩) (by kernel_rfl)]
  rfl
theorem lawNew_any (R B : Int) (w : World) : Calls Try.prog 3 #[.int .i64 R, .int .i64 B] w fun e w' => e = .returned (.bool true) ∧ Below w.heap.size w w' := by
  have hp := ptr_nil
  by_cases h : okRB R B
  · have HV := Lib.hid (fun W => rvalid_yes R B W h)
    have HN := Lib.hid (fun W => new_any R B W h)
    clear h
    go_enter Try.func3, Try.ntmps3
    go_wp2_with (first
      | (go_at_call 10; refine (awake_any _).mono ?_; rintro e w1 ⟨rfl, hB⟩; have HW1 := Lib.hid hB; clear hB)
      | (go_at_call 11; (with_reducible refine (HN.out _).mono ?_); rintro e w2 ⟨rfl, b1, hB⟩; have HB2 := Lib.hid b1; have HW2 := Lib.hid (keepw HW1.out hB); clear b1 hB)
      | (go_at_call 12; (with_reducible refine (HV.out _).mono ?_); rintro e w' ⟨rfl, rfl⟩)
      | (go_at_call 13; (with_reducible refine (level_any _ R B B w2 HB2.out).mono ?_); rintro e w' ⟨rfl, rfl⟩))
    go_ret
    exact ⟨rfl, HW2.out⟩
  · have HV := Lib.hid (fun W => rvalid_no R B W h)
    have HN := Lib.hid (fun W => new_bad R B W h)
    clear h
    go_enter Try.func3, Try.ntmps3
    go_wp2_with (first
      | (go_at_call 10; refine (awake_any _).mono ?_; rintro e w1 ⟨rfl, hB⟩; have HW1 := Lib.hid hB; clear hB)
      | (go_at_call 11; (with_reducible refine (HN.out _).mono ?_); rintro e w' ⟨rfl, rfl⟩)
      | (go_at_call 12; (with_reducible refine (HV.out _).mono ?_); rintro e w' ⟨rfl, rfl⟩))
    go_ret
    exact ⟨rfl, HW1.out⟩
theorem lawNil_any (n : Int) (w : World) : Calls Try.prog 8 #[.int .i64 n] w fun e w' => e = .returned (.bool true) ∧ Below w.heap.size w w' := by
  go_enter Try.func8, Try.ntmps8
  go_wp2_with (first
    | (go_at_call 18; refine (tick_nil _ _).mono ?_; rintro e w1 ⟨rfl, hB⟩; have HW1 := Lib.hid hB; clear hB)
    | (go_at_call 19; refine (wait_nil _ _).mono ?_; rintro e w' ⟨rfl, rfl⟩)
    | (go_at_call 10; refine (awake_any _).mono ?_; rintro e w2 ⟨rfl, hB⟩; have HW2 := Lib.hid (keepw HW1.out hB); clear hB)
    | (go_at_call 16; refine (take_nil _ _).mono ?_; rintro e w3 ⟨rfl, hB⟩; have HW3 := Lib.hid (keepw HW2.out hB); clear hB)
    | (go_at_call 13; refine (level_nil _).mono ?_; rintro e w' ⟨rfl, rfl⟩))
  go_ret
  exact ⟨rfl, HW3.out⟩
