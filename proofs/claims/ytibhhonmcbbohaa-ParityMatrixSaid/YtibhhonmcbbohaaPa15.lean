/- The walk of the law ParityMatrix. -/
import Derived.Test.YtibhhonmcbbohaaPa14
namespace Go.Proofs.Ytibhhonmcbbohaa
open Go.RowKit

set_option maxRecDepth 100000 in
theorem lawMatrix_any (a : Int) (w : World) : Calls Try.prog 3 #[.int .i64 a] w fun e w' => e = .returned (.bool true) ∧ Below w.heap.size w w' := by
  by_cases hbad : a < 1 ∨ 13 < a
  · go_enter Try.func3, Try.ntmps3
    go_wp2_with (first
      | (go_at_call 11; (with_reducible refine (awake_any _).mono ?_); rintro e w1 ⟨rfl, hB⟩)
      | (go_at_call 12; (with_reducible refine (matrix_bad a _ hbad).mono ?_); rintro e w2 ⟨rfl, hB2⟩))
    all_goals (go_ret; exact ⟨rfl, hB.trans (hB2.mono hB.size)⟩)
  · obtain ⟨d, rfl⟩ : ∃ d : Nat, a = d := ⟨a.toNat, by omega⟩
    have h1 : 1 ≤ d := by omega
    have h2 : d ≤ 13 := by omega
    go_enter Try.func3, Try.ntmps3
    go_wp2_with (first
      | (go_at_call 11; (with_reducible refine (awake_any _).mono ?_); rintro e w1 ⟨rfl, hB⟩)
      | (go_at_call 12; (with_reducible refine (matrix_any d _ h1 h2).mono ?_); rintro e w2 ⟨v, gs, rfl, o2, l2, r2, hB2⟩; obtain ⟨A, c, rfl, M2⟩ := Mat.of_own o2 l2 (by omega) r2; have HM := Lib.hid M2; have HB2 := Lib.hid (hB.trans (hB2.mono hB.size)); clear o2 l2 r2 M2 hB2 hB))
    go_loopw [5] (fun vj wr => ∃ j : Nat, j ≤ 3 ∧ vj = .int .i64 j ∧ Below w2.heap.size w2 wr) (fun vj _ => 3 - (intOf vj).toNat)
    case atStart => exact ⟨0, by omega, rfl, Below.refl _ _⟩
    case round =>
      obtain ⟨j, hj, rfl, hB⟩ := hrel
      by_cases hj3 : j < 3
      · have hjd : decide ((j : Int) < 3) = true := decide_eq_true (by omega)
        obtain ⟨b, off, rfl, hrows⟩ := HM.out.below hB
        obtain ⟨rb, ro, rc, hc, hcs⟩ := hrows j hj3
        have HROW := Lib.hid hcs
        have HB := Lib.hid hB
        clear hrows hcs hB
        go_wp2_with fail
        go_loopw [6] (fun vi wq => ∃ i : Nat, i ≤ d ∧ vi = .int .i64 i ∧ Below wr.heap.size wr wq) (fun vi _ => d - (intOf vi).toNat)
        case atStart => exact ⟨0, by omega, rfl, Below.refl _ _⟩
        case round =>
          obtain ⟨i, hi, rfl, hB⟩ := hrel
          have HB3 := Lib.hid hB
          by_cases hin : i < d
          · have c1 := (hB.cell (World.block_lt_of_cell? _ _ hc)).trans hc
            have c2 := (hB.cell (World.block_lt_of_cell? _ _ (HROW.out i hin))).trans (HROW.out i hin)
            have hij : i * j < 1000 := by have := Nat.mul_le_mul (show i ≤ 13 by omega) (show j ≤ 3 by omega); omega
            have hmul : ((i : Int) * (j : Int)) = ((i * j : Nat) : Int) := by simp
            have hx := fun W => rpower_any 2 (i * j) (by omega) (by omega) W
            rw [npow_2_2] at hx
            have hlt63 : (i : Int) * (j : Int) < 1000 := by rw [hmul]; omega
            have hge : 0 ≤ (i : Int) * (j : Int) := by rw [hmul]; omega
            have hwr := IntWalk.i64_in ((i : Int) * (j : Int)) (by omega)
            rw [← hmul] at hx
            obtain ⟨y, hy⟩ : ∃ y, y = Gf.ex (i * j) := ⟨_, rfl⟩
            rw [← hy] at hx c2
            have HX := Lib.hid hx
            clear hx hy hmul hB
            go_wp2_with fail
            go_quiet ((go_at_call 13; exact Calls.quiet_of_same ((HX.out _).mono fun _ _ h => ⟨h.1, h.2.symm⟩)))
            go_wp2_with fail
            go_roundw
            case rel => exact ⟨i + 1, by omega, by go_num, HB3.out.trans (Go.Joins.below_draws _ _ _)⟩
            case measure => simp [intOf]; omega
          · obtain rfl : i = d := by omega
            clear hB
            go_wp2_with fail
            go_roundw
            case rel => exact ⟨j + 1, by omega, by go_num, HB.out.trans (HB3.out.mono HB.out.size)⟩
            case measure => simp [intOf]; omega
      · obtain rfl : j = 3 := by omega
        go_wp2_with fail
        go_ret
        exact ⟨rfl, HB2.out.trans (hB.mono HB2.out.size)⟩
end Go.Proofs.Ytibhhonmcbbohaa
