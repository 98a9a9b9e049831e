/- The walk of the law ThrottleTicks: it returns true. -/
import Derived.Test.YtogdabfmfabjkaaTh4
namespace Go.Proofs.Ytogdabfmfabjkaa
open Go.RowKit

/-- a block of three numbers -/
def Bx (w : World) (g : Nat) (x y z : Value) : Prop := w.heap[g]? = some (.cells #[x, y, z] 49 (0, 0))
theorem Bx.cells {w : World} {g : Nat} {x y z : Value} (h : Bx w g x y z) : w.cell? ⟨g, 0, none⟩ = some x ∧ w.cell? ⟨g, 1, none⟩ = some y ∧ w.cell? ⟨g, 2, none⟩ = some z :=
  ⟨cell_of_row _ _ 0 _ _ _ h, cell_of_row _ _ 1 _ _ _ h, cell_of_row _ _ 2 _ _ _ h⟩
theorem Bx.lt {w : World} {g : Nat} {x y z : Value} (h : Bx w g x y z) : g < w.heap.size := World.block_lt_of_cell? w _ h.cells.1
theorem Bx.below {w w1 : World} {g : Nat} {x y z : Value} (h : Bx w g x y z) (hB : Below w.heap.size w w1) : Bx w1 g x y z := (hB.block g h.lt).trans h
theorem Bx.grown {w w' : World} {g : Nat} {row : Option Nat} {x y z : Value} (h : Bx w g x y z) (hg : w.grownBy w' row) (hne : row ≠ some g) : Bx w' g x y z := (hg.block g h.lt (fun e => hne e.symm)).trans h
theorem Buk.below {w w1 : World} {g : Nat} {R B L : Int} (h : Buk w g R B L) (hB : Below w.heap.size w w1) : Buk w1 g R B L := (hB.block g h.lt).trans h
theorem some_ne {a b : Nat} (h : a ≠ b) : (some a : Option Nat) ≠ some b := fun e => h (by injection e)

set_option maxRecDepth 100000 in
set_option maxHeartbeats 4000000 in
theorem lawTicks_any (R B : Int) (U N M : Nat) (w : World) (hU : U < 4294967296) (hN : N < 4294967296) (hM : M < 4294967296) :
    Calls Try.prog 7 #[.int .i64 R, .int .i64 B, .agg #[.int .u32 U, .int .u32 N, .int .u32 M]] w fun e w' => e = .returned (.bool true) ∧ Below w.heap.size w w' := by
  have hX0 : Bx (w.alloc (.cells #[.int .u32 U, .int .u32 N, .int .u32 M] 49)) w.heap.size (.int .u32 U) (.int .u32 N) (.int .u32 M) := heap_alloc_new w _
  have HX0 := Lib.hid hX0
  clear hX0
  by_cases hv : okRB R B
  rotate_left
  · have HV := Lib.hid (fun W => rvalid_no R B W hv)
    clear hv
    go_enter Try.func7, Try.ntmps7
    go_wp2_with (first
      | (go_at_call 10; refine (awake_any _).mono ?_; rintro e w1 ⟨rfl, hB⟩; have HW1 := Lib.hid (keepw (Go.Joins.below_alloc1 w _) hB); clear hB)
      | (go_at_call 12; (with_reducible refine (HV.out _).mono ?_); rintro e w' ⟨rfl, rfl⟩))
    go_ret
    exact ⟨rfl, HW1.out⟩
  have HV := Lib.hid (fun W => rvalid_yes R B W hv)
  have HN := Lib.hid (fun W => new_any R B W hv)
  unfold okRB at hv
  obtain ⟨hR, hR2, hb1, hb2⟩ := hv
  obtain ⟨u, hu⟩ : ∃ u, u = (U : Int) % (B + 1) := ⟨_, rfl⟩
  have hu0 : 0 ≤ u := by rw [hu]; exact Int.emod_nonneg _ (by omega)
  have hu1 : u ≤ B := by have := Int.emod_lt_of_pos (U : Int) (show 0 < B + 1 by omega); omega
  have hu2 := hu.symm
  have hbz : ¬ B + 1 = 0 := by omega
  have HT0 := Lib.hid (fun (g : Nat) (W : World) (h : Buk W g R B B) => take_any g R B B u W h (by omega) (by omega) hb2)
  rw [show takeL B u = B - u by rw [takeL, if_pos (by omega)], show took B u = true from decide_eq_true (by omega)] at HT0
  obtain ⟨l1, l2⟩ := tickL_bd (B := B) (L := B - u) (n := (N : Int)) hR (by omega)
  have hadd := tickL_add (B := B) (L := B - u) (n := (N : Int)) (m := (M : Int)) hR (by omega) (by omega) (by omega)
  obtain ⟨l3, l4⟩ := tickL_bd (B := B) (L := tickL R B (B - u) N) (n := (M : Int)) hR (by omega)
  have HK1 := Lib.hid (fun (g : Nat) (W : World) (h : Buk W g R B (B - u)) => tick_any g R B (B - u) N W h hR hR2 (by omega) (by omega) hb2)
  have HK3 := Lib.hid (fun (g : Nat) (W : World) (h : Buk W g R B (B - u)) => tick_any g R B (B - u) (N + M) W h hR hR2 (by omega) (by omega) hb2)
  rw [← hadd] at HK3
  obtain ⟨L1, hL1⟩ : ∃ L1, L1 = tickL R B (B - u) N := ⟨_, rfl⟩
  rw [← hL1] at l1 l2 l3 l4 HK1 HK3
  have HK2 := Lib.hid (fun (g : Nat) (W : World) (h : Buk W g R B L1) => tick_any g R B L1 M W h hR hR2 (by omega) (by omega) hb2)
  obtain ⟨L2, hL2⟩ : ∃ L2, L2 = tickL R B L1 M := ⟨_, rfl⟩
  rw [← hL2] at l3 l4 HK2 HK3
  have HLv := Lib.hid (fun (g : Nat) (W : World) (h : Buk W g R B L2) => level_any g R B L2 W h)
  have l5 : B - u ≤ L2 := by omega
  clear hadd hL1 hL2 hu l1 l3
  go_enter Try.func7, Try.ntmps7
  go_wp2_with (first
    | (go_at_call 10; refine (awake_any _).mono ?_; rintro e w1 ⟨rfl, hB⟩; have HX1 := Lib.hid (HX0.out.below hB); have HW1 := Lib.hid (keepw (Go.Joins.below_alloc1 w _) hB); clear hB)
    | (go_at_call 12; (with_reducible refine (HV.out _).mono ?_); rintro e w' ⟨rfl, rfl⟩))
  refine (HN.out w1).mono ?_
  rintro e w2 ⟨rfl, b2, hB⟩
  have HA2 := Lib.hid b2
  have HX2 := Lib.hid (HX1.out.below hB)
  have HW2 := Lib.hid (keepw HW1.out hB)
  have s1 := HX1.out.lt
  have s2 := b2.lt
  clear b2 hB
  go_wp2_with fail
  refine (HN.out w2).mono ?_
  rintro e w3 ⟨rfl, b3, hB⟩
  have HB3 := Lib.hid b3
  have HA3 := Lib.hid (HA2.out.below hB)
  have HX3 := Lib.hid (HX2.out.below hB)
  have HW3 := Lib.hid (keepw HW2.out hB)
  obtain ⟨x0, x1, x2⟩ := HX3.out.cells
  clear b3 hB
  go_wp2_with fail
  rw [hu2]
  have x3 := HA3.out.lt
  have x4 := HB3.out.lt
  have n1 : w1.heap.size ≠ w2.heap.size := by omega
  have n2 : w.heap.size ≠ w1.heap.size := by omega
  have n3 : w.heap.size ≠ w2.heap.size := by omega
  refine (HT0.out _ _ HA3.out).mono ?_
  rintro e w4 ⟨rfl, b4, g4⟩
  have HA4 := Lib.hid b4
  have HB4 := Lib.hid (HB3.out.grown g4 (some_ne n1))
  have HX4 := Lib.hid (HX3.out.grown g4 (some_ne n2.symm))
  have HW4 := Lib.hid (below_g HW3.out g4 (by omega))
  clear b4 g4 x0 x1 x2
  go_wp2_with fail
  try rw [hu2]
  refine (HT0.out _ _ HB4.out).mono ?_
  rintro e w5 ⟨rfl, b5, g5⟩
  have HA5 := Lib.hid (HA4.out.grown g5 (some_ne n1.symm))
  have HB5 := Lib.hid b5
  have HX5 := Lib.hid (HX4.out.grown g5 (some_ne n3.symm))
  have HW5 := Lib.hid (below_g HW4.out g5 (by omega))
  obtain ⟨x0, x1, x2⟩ := HX5.out.cells
  clear b5 g5
  go_wp2_with fail
  refine (HK1.out _ _ HA5.out).mono ?_
  rintro e w6 ⟨rfl, b6, g6⟩
  have HA6 := Lib.hid b6
  have HB6 := Lib.hid (HB5.out.grown g6 (some_ne n1))
  have HX6 := Lib.hid (HX5.out.grown g6 (some_ne n2.symm))
  have HW6 := Lib.hid (below_g HW5.out g6 (by omega))
  clear b6 g6 x0 x1 x2
  obtain ⟨x0, x1, x2⟩ := HX6.out.cells
  go_wp2_with fail
  refine (HK2.out _ _ HA6.out).mono ?_
  rintro e w7 ⟨rfl, b7, g7⟩
  have HA7 := Lib.hid b7
  have HB7 := Lib.hid (HB6.out.grown g7 (some_ne n1))
  have HX7 := Lib.hid (HX6.out.grown g7 (some_ne n2.symm))
  have HW7 := Lib.hid (below_g HW6.out g7 (by omega))
  clear b7 g7 x0 x1 x2
  obtain ⟨x0, x1, x2⟩ := HX7.out.cells
  go_wp2_with fail
  refine (HK3.out _ _ HB7.out).mono ?_
  rintro e w8 ⟨rfl, b8, g8⟩
  have HB8 := Lib.hid b8
  have HA8 := Lib.hid (HA7.out.grown g8 (some_ne n1.symm))
  have HW8 := Lib.hid (below_g HW7.out g8 (by omega))
  clear b8 g8 x0 x1 x2
  go_wp2_with (first
    | (go_at_call 13; (with_reducible refine (HLv.out _ _ HA8.out).mono ?_); rintro e w9 ⟨rfl, rfl⟩)
    | (go_at_call 13; (with_reducible refine (HLv.out _ _ HB8.out).mono ?_); rintro e w9 ⟨rfl, rfl⟩))
  go_ret
  exact ⟨rfl, HW8.out⟩
