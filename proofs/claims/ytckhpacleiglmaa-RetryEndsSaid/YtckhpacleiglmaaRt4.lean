/- The walk of tegulalaw42.awake, and the equality of two states. -/
import Derived.Test.YtckhpacleiglmaaRt3
import Derived.Laws.StructEq
namespace Go.Proofs.Ytckhpacleiglmaa
open Go.RowKit

theorem eql_state (a b : Int) (W : World) : (binOp .eql 23 (.agg #[.int .i64 a, .int .i64 b]) (.agg #[.int .i64 a, .int .i64 b])).run Try.prog W = .ok (.bool true) W := by
  rw [run_eql_struct]
  simp [go_sem]
theorem eql_rstate (a b : Int) (W : World) : (binOp .eql 28 (.agg #[.int .i64 a, .int .i64 b]) (.agg #[.int .i64 a, .int .i64 b])).run Try.prog W = .ok (.bool true) W := by
  rw [run_eql_struct]
  simp [go_sem]
theorem keep2 {w : World} {g : Nat} {x y : Value} (h0 : w.cell? ⟨g, 0, none⟩ = some x) (h1 : w.cell? ⟨g, 1, none⟩ = some y) (o : Obj) : (w.alloc o).cell? ⟨g, 0, none⟩ = some x ∧ (w.alloc o).cell? ⟨g, 1, none⟩ = some y :=
  ⟨((Go.Joins.below_alloc1 w o).cell (World.block_lt_of_cell? w _ h0)).trans h0, ((Go.Joins.below_alloc1 w o).cell (World.block_lt_of_cell? w _ h1)).trans h1⟩
theorem keepB {w w1 : World} {g : Nat} {x y : Value} (h0 : w.cell? ⟨g, 0, none⟩ = some x) (h1 : w.cell? ⟨g, 1, none⟩ = some y) (hB : Below w.heap.size w w1) : w1.cell? ⟨g, 0, none⟩ = some x ∧ w1.cell? ⟨g, 1, none⟩ = some y :=
  ⟨(hB.cell (World.block_lt_of_cell? w _ h0)).trans h0, (hB.cell (World.block_lt_of_cell? w _ h1)).trans h1⟩
theorem awake_any (w : World) : Calls Try.prog 9 #[] w fun e w' => e = .returned (.bool true) ∧ Below w.heap.size w w' := by
  have R1 := fun W => result_any 0 0 16 W
  have R2 := fun W => result_any 1 1 14 W
  have L1 := fun W => longest_any 3 4 W
  rw [show nt 0 0 = 0 by decide, show nx 0 0 = 0 by decide, show resT 0 16 = 1 by decide, show resX 0 0 16 = 1 by decide, show resD 0 16 = 2 by decide] at R1
  rw [show nt 1 1 = 1 by decide, show nx 1 1 = 1 by decide, show resT 1 14 = 1 by decide, show resX 1 1 14 = 1 by decide, show resD 1 14 = 3 by decide] at R2
  rw [show nt 3 4 = 3 by decide, show nx 3 4 = 4 by decide, show (4 : Int) + lsum 3 = 28 by decide] at L1
  have he := eql_state 1 1
  have H1 := Lib.hid R1
  have H2 := Lib.hid R2
  have H3 := Lib.hid L1
  clear R1 R2 L1
  go_enter Try.func9, Try.ntmps9
  go_wp2_with (first
    | (go_at_call 10; (with_reducible refine (H1.out _).mono ?_); rintro e w1 ⟨rfl, hB⟩; have HB1 := Lib.hid hB; clear hB)
    | (go_at_call 10; (with_reducible refine (H2.out _).mono ?_); rintro e w2 ⟨rfl, hB⟩; obtain ⟨c0, c1, f0⟩ := box1 hB; obtain ⟨k0, k1⟩ := keep2 c0 c1 (.cells #[.int .i64 1, .int .i64 1] 23); have HB2 := Lib.hid (HB1.out.trans ((one_box hB).mono HB1.out.size)); clear hB)
    | (go_at_call 15; (with_reducible refine (H3.out _).mono ?_); rintro e w3 ⟨rfl, hB⟩; have HB3 := Lib.hid (HB2.out.trans ((one_box hB).mono HB2.out.size)); clear hB))
  go_ret
  exact ⟨rfl, HB3.out⟩
