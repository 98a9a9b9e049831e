/- The walk of tegulalaw01.awake: the document's examples hold. -/
import Derived.Test.YtokmhmfghfenkaaGfMem
namespace Go.Proofs.Ytokmhmfghfenkaa
open Go.RowKit

theorem Bts.below {w w' : World} {A : Option Addr} {l : List Nat} (h : Bts w A l) (hB : Below w.heap.size w w') : Bts w' A l := fun h0 => by
  obtain ⟨b, off, rfl, hc⟩ := h h0
  exact ⟨b, off, rfl, fun j hj => (hB.cell (World.block_lt_of_cell? w _ (hc j hj))).trans (hc j hj)⟩
theorem Bts.of_blk {w : World} {g : Nat} {l : List Nat} (h : Blk w g 5 (bts l)) : Bts w (some ⟨g, 0, none⟩) l := fun _ => ⟨g, 0, rfl, fun j hj => by
  rw [cell_of_row w g (0 + j) _ _ _ h]
  simp [bts, hj]⟩
theorem Bts.of_own {w : World} {base n : Nat} {v : Value} {l : List Nat} (h : w.ownsRow base 5 1 v n (bts l)) : ∃ A c, v = .slice A l.length c ∧ Bts w A l := by
  have hl : l.length = n := by have := h.1; simp [bts] at this; exact this
  rcases h.2 with ⟨rfl, h0⟩ | ⟨g, cap, cur, rfl, _, _⟩
  · exact ⟨none, 0, by rw [hl, h0], fun h1 => by omega⟩
  · refine ⟨_, cap, by rw [hl], fun _ => ⟨g, 0, rfl, fun j hj => ?_⟩⟩
    rw [Nat.zero_add, h.cellAt j (by omega)]
    simp [bts, hj]
theorem Blk.alloc_new (w : World) (e : TypeId) (cs : List Value) : Blk (w.alloc (.cells cs.toArray e)) w.heap.size e cs := heap_alloc_new w _
theorem below_alloc1 (w : World) (o : Obj) : Below w.heap.size w (w.alloc o) := (Below.refl _ _).alloc (Nat.le_refl _) o

theorem awake_mul1 (w : World) : Calls Try.prog 19 #[.int .u8 2, .int .u8 128] w fun e w' => e = .returned (.int .u8 29) ∧ w = w' := by
  have := mul_any 2 128 (by omega) (by omega) w
  rw [show Gf.mul 2 128 = 29 by decide +kernel] at this
  exact this
theorem awake_mul2 (w : World) : Calls Try.prog 19 #[.int .u8 3, .int .u8 7] w fun e w' => e = .returned (.int .u8 9) ∧ w = w' := by
  have := mul_any 3 7 (by omega) (by omega) w
  rw [show Gf.mul 3 7 = 9 by decide +kernel] at this
  exact this
theorem awake_inv (w : World) : Calls Try.prog 21 #[.int .u8 2] w fun e w' => e = .returned (.tuple #[.int .u8 142, .int .i64 0]) ∧ w = w' := by
  have := inv_any 2 (by omega) (by omega) w
  rw [show pwr 2 254 = 142 by decide +kernel] at this
  exact this
theorem awake_log (w : World) : Calls Try.prog 14 #[.int .u8 142] w fun e w' => e = .returned (.tuple #[.int .i64 254, .int .i64 0]) ∧ w = w' := by
  have := log_any 142 (by omega) (by omega) w
  rw [show Gf.lg 142 = 254 by decide +kernel] at this
  exact this
theorem awake_exp1 (w : World) : Calls Try.prog 12 #[.int .i64 8] w fun e w' => e = .returned (.int .u8 29) ∧ w = w' := by
  have := exp_any 8 w
  rw [show Gf.ex (expo 8) = 29 by decide +kernel] at this
  exact this
theorem awake_exp2 (w : World) : Calls Try.prog 12 #[.int .i64 (-1)] w fun e w' => e = .returned (.int .u8 142) ∧ w = w' := by
  have := exp_any (-1) w
  rw [show Gf.ex (expo (-1)) = 142 by decide +kernel] at this
  exact this
theorem awake_fused (w : World) : Calls Try.prog 15 #[.slice (some ⟨w.heap.size, 0, none⟩) 2 2, .slice (some ⟨w.heap.size + 1, 0, none⟩) 2 2, .int .u8 2]
    ((w.alloc (.cells #[.int .u8 1, .int .u8 2] 5)).alloc (.cells #[.int .u8 3, .int .u8 4] 5))
    fun e w' => e = .returned (.tuple #[.slice (some ⟨w.heap.size + 2, 0, none⟩) 2 2, .int .i64 0]) ∧ Blk w' (w.heap.size + 2) 5 (bts [7, 10]) ∧ Below w.heap.size w w' := by
  have h1 : Bts ((w.alloc (.cells #[.int .u8 1, .int .u8 2] 5)).alloc (.cells #[.int .u8 3, .int .u8 4] 5)) (some ⟨w.heap.size, 0, none⟩) [1, 2] :=
    (Bts.of_blk (Blk.alloc_new w 5 (bts [1, 2]))).below (below_alloc1 _ _)
  have h2 : Bts ((w.alloc (.cells #[.int .u8 1, .int .u8 2] 5)).alloc (.cells #[.int .u8 3, .int .u8 4] 5)) (some ⟨w.heap.size + 1, 0, none⟩) [3, 4] := by
    have := Bts.of_blk (Blk.alloc_new (w.alloc (.cells #[.int .u8 1, .int .u8 2] 5)) 5 (bts [3, 4]))
    rw [show (w.alloc (.cells #[.int .u8 1, .int .u8 2] 5)).heap.size = w.heap.size + 1 by simp] at this
    exact this
  refine (fused_any [1, 2] [3, 4] 2 _ _ 2 2 _ rfl (by omega) ?_ ?_ h1 h2 (by simp)).mono ?_
  · intro j
    match j with
    | 0 => simp
    | 1 => simp
    | j + 2 => simp
  · intro j
    match j with
    | 0 => simp
    | 1 => simp
    | j + 2 => simp
  · rintro e w' ⟨rfl, hb, hB⟩
    have e1 : ((w.alloc (.cells #[.int .u8 1, .int .u8 2] 5)).alloc (.cells #[.int .u8 3, .int .u8 4] 5)).heap.size = w.heap.size + 2 := by simp
    rw [e1] at hb hB ⊢
    rw [show fz [1, 2] [3, 4] 2 [1, 2].length = [7, 10] by decide +kernel] at hb
    exact ⟨rfl, hb, ((below_alloc1 w _).alloc (by simp) _).trans (hB.mono (by omega))⟩
theorem awake_same (w : World) (g : Nat) (h : Blk w g 5 (bts [7, 10])) : Calls Try.prog 16 #[.slice (some ⟨g, 0, none⟩) 2 2, .slice (some ⟨w.heap.size, 0, none⟩) 2 2] (w.alloc (.cells #[.int .u8 7, .int .u8 10] 5))
    fun e w' => e = .returned (.bool true) ∧ w.alloc (.cells #[.int .u8 7, .int .u8 10] 5) = w' := by
  have h1 : Bts (w.alloc (.cells #[.int .u8 7, .int .u8 10] 5)) (some ⟨g, 0, none⟩) [7, 10] := (Bts.of_blk h).below (below_alloc1 _ _)
  have h2 : Bts (w.alloc (.cells #[.int .u8 7, .int .u8 10] 5)) (some ⟨w.heap.size, 0, none⟩) [7, 10] := Bts.of_blk (Blk.alloc_new w 5 (bts [7, 10]))
  have hab : AB [7, 10] := by
    intro j
    match j with
    | 0 => simp
    | 1 => simp
    | j + 2 => simp
  exact same_any [7, 10] [7, 10] _ _ 2 2 _ hab hab h1 h2
set_option maxRecDepth 100000 in
/-- tegulalaw01.awake -/
theorem awake_any (w : World) : Calls Try.prog 11 #[] w fun e w' => e = .returned (.bool true) ∧ Below w.heap.size w w' := by
  go_enter Try.func11, Try.ntmps11
  go_wp2_with (first
    | (go_at_call 21; with_reducible refine (awake_inv _).mono ?_; rintro e w' ⟨rfl, rfl⟩)
    | (go_at_call 14; with_reducible refine (awake_log _).mono ?_; rintro e w' ⟨rfl, rfl⟩)
    | (go_at_call 15; refine (awake_fused w).mono ?_; rintro e w1 ⟨rfl, hb, hB⟩)
    | (go_at_call 19; with_reducible refine (awake_mul1 _).mono ?_; rintro e w' ⟨rfl, rfl⟩)
    | (go_at_call 19; with_reducible refine (awake_mul2 _).mono ?_; rintro e w' ⟨rfl, rfl⟩)
    | (go_at_call 12; with_reducible refine (awake_exp1 _).mono ?_; rintro e w' ⟨rfl, rfl⟩)
    | (go_at_call 12; with_reducible refine (awake_exp2 _).mono ?_; rintro e w' ⟨rfl, rfl⟩)
    | (go_at_call 16; refine (awake_same _ _ hb).mono ?_; rintro e w' ⟨rfl, rfl⟩))
  go_ret
  exact ⟨rfl, hB.alloc hB.size _⟩
