/- The walk of the law Gf256Sums: it returns true. -/
import Derived.Test.YtokmhmfghfenkaaGfLaws2
import Derived.Deep.QuietTactic
import Derived.BigQuiet
import Derived.Lib.SmallJoins
namespace Go.Proofs.Ytokmhmfghfenkaa
open Go.RowKit

theorem powv_mul (a b : Nat) (n : Int) (ha : a < 256) (hb : b < 256) (h0 : a ≠ 0) (k0 : b ≠ 0) : powv (Gf.mul a b) n = Gf.mul (powv a n) (powv b n) := by
  have hm := Gf.mul_lt a b ha
  have hm0 : Gf.mul a b ≠ 0 := fun h => by rcases Gf.mul_eq_zero ha hb h with h | h <;> omega
  rw [powv_any a n ha h0, powv_any b n hb k0, Gf.ex_mul, ← Nat.add_mul]
  have h1 : Gf.ex (Gf.lg a + Gf.lg b) = Gf.mul a b := by rw [← Gf.ex_mul, Gf.ex_lg a ha h0, Gf.ex_lg b hb k0]
  rw [powv_any _ n hm hm0]
  apply Gf.ex_eq
  have h2 : Gf.lg (Gf.mul a b) % 255 = (Gf.lg a + Gf.lg b) % 255 := Gf.ex_inj (by rw [h1, Gf.ex_lg _ hm hm0])
  rw [Nat.mul_mod, h2, ← Nat.mul_mod]
theorem powv_add (a : Nat) (n m : Int) (ha : a < 256) (h0 : a ≠ 0) : powv a (n + m) = Gf.mul (powv a n) (powv a m) := by
  rw [powv_any a n ha h0, powv_any a m ha h0, powv_any a _ ha h0, Gf.ex_mul, ← Nat.mul_add]
  exact mul_mod _ _ _ (by unfold expo; omega)
theorem powv_two (a : Nat) (ha : a < 256) : powv a 2 = Gf.mul a a := by
  have h := powv_nat a 2 ha
  have h1 : Gf.npow a 2 = Gf.mul (Gf.mul 1 a) a := rfl
  rw [Gf.one_mul a ha] at h1
  rw [← h1]; exact h
theorem square_add (a b : Nat) (ha : a < 256) (hb : b < 256) : powv (a ^^^ b) 2 = powv a 2 ^^^ powv b 2 := by
  have hab := Gf.xor_lt ha hb
  rw [powv_two _ hab, powv_two a ha, powv_two b hb, Gf.mul_xor_left a b _ ha hb, Gf.mul_xor_right a a b ha ha hb, Gf.mul_xor_right b a b hb ha hb, Gf.mul_comm b a hb ha]
  rw [Nat.xor_assoc, ← Nat.xor_assoc (Gf.mul a b), Nat.xor_self, Nat.zero_xor]

theorem boxes {w w1 : World} {x y u v : Value} {t1 t2 : TypeId} (hB : Below ((w.alloc (.cells #[x, y] t1)).alloc (.cells #[u, v] t2)).heap.size ((w.alloc (.cells #[x, y] t1)).alloc (.cells #[u, v] t2)) w1) :
    w1.cell? ⟨w.heap.size, 0, none⟩ = some x ∧ w1.cell? ⟨w.heap.size, 1, none⟩ = some y ∧ w1.cell? ⟨w.heap.size + 1, 0, none⟩ = some u ∧ w1.cell? ⟨w.heap.size + 1, 1, none⟩ = some v ∧ Below w.heap.size w w1 := by
  have h1 : ((w.alloc (.cells #[x, y] t1)).alloc (.cells #[u, v] t2)).heap[w.heap.size]? = some (.cells #[x, y] t1 (0, 0)) := by
    rw [Below.heap_alloc _ _ _ (by simp)]; exact heap_alloc_new w _
  have h2 : ((w.alloc (.cells #[x, y] t1)).alloc (.cells #[u, v] t2)).heap[w.heap.size + 1]? = some (.cells #[u, v] t2 (0, 0)) := by
    have := heap_alloc_new (w.alloc (.cells #[x, y] t1)) (.cells #[u, v] t2)
    rw [show (w.alloc (.cells #[x, y] t1)).heap.size = w.heap.size + 1 by simp] at this
    exact this
  have g1 : ∀ j, w1.cell? ⟨w.heap.size, j, none⟩ = #[x, y][j]? := fun j => (hB.cell (by simp; omega)).trans (cell_of_row _ _ j _ _ _ h1)
  have g2 : ∀ j, w1.cell? ⟨w.heap.size + 1, j, none⟩ = #[u, v][j]? := fun j => (hB.cell (by simp)).trans (cell_of_row _ _ j _ _ _ h2)
  exact ⟨g1 0, g1 1, g2 0, g2 1, ((below_alloc1 w _).alloc (by simp) _).trans (hB.mono (by simp; omega))⟩
set_option maxRecDepth 100000 in
set_option maxHeartbeats 2000000 in
theorem sums_any (a b : Nat) (n m : Int) (ha : a < 256) (hb : b < 256) (hn1 : -2147483648 ≤ n) (hn2 : n ≤ 2147483647) (hm1 : -2147483648 ≤ m) (hm2 : m ≤ 2147483647) (w : World) :
    Calls Try.prog 10 #[.agg #[.int .u8 a, .int .u8 b], .agg #[.int .i32 n, .int .i32 m]] w fun e w' => e = .returned (.bool true) ∧ Below w.heap.size w w' := by
  have hab := Gf.xor_lt ha hb
  have hmab := Gf.mul_lt a b ha
  obtain ⟨x, hx⟩ : ∃ x, powv a 2 = x := ⟨_, rfl⟩
  obtain ⟨y, hy⟩ : ∃ y, powv b 2 = y := ⟨_, rfl⟩
  have xl : x < 256 := by rw [← hx]; exact powv_lt a 2 ha
  have yl : y < 256 := by rw [← hy]; exact powv_lt b 2 hb
  have P1 := pow_eq (a ^^^ b) 2 (x ^^^ y) 0 hab (by rw [square_add a b ha hb, hx, hy]) (powe_pos _ _ (.inr (by omega)))
  have P2 := pow_eq a 2 x 0 ha hx (powe_pos _ _ (.inr (by omega)))
  have P3 := pow_eq b 2 y 0 hb hy (powe_pos _ _ (.inr (by omega)))
  clear hx hy
  go_enter Try.func10, Try.ntmps10
  go_wp2_with (first
    | (go_at_call 11; refine (awake_any _).mono ?_; rintro e w1 ⟨rfl, hB⟩))
  obtain ⟨q1, q2, q3, q4, hB0⟩ := boxes hB
  have HB := Lib.hid hB0
  clear hB hB0
  go_quiet (fail)
  by_cases h0 : a = 0
  · have hz : ((a : Int) == 0) = true := by simpa using h0
    clear h0
    go_wp2_with (first
      | (go_at_call 18; (with_reducible refine (add_any a b ha hb _).mono ?_); rintro e w' ⟨rfl, rfl⟩)
      | (go_at_call 18; (with_reducible refine (add_any x y xl yl _).mono ?_); rintro e w' ⟨rfl, rfl⟩)
      | (go_at_call 24; (with_reducible refine (P1 _).mono ?_); rintro e w' ⟨rfl, rfl⟩)
      | (go_at_call 24; (with_reducible refine (P2 _).mono ?_); rintro e w' ⟨rfl, rfl⟩)
      | (go_at_call 24; (with_reducible refine (P3 _).mono ?_); rintro e w' ⟨rfl, rfl⟩))
    go_ret
    exact ⟨rfl, HB.out.trans (Go.Joins.below_draws _ _ _)⟩
  by_cases k0 : b = 0
  · have hz : ((a : Int) == 0) = false := by simpa using h0
    have hz2 : ((b : Int) == 0) = true := by simpa using k0
    clear h0 k0
    go_wp2_with (first
      | (go_at_call 18; (with_reducible refine (add_any a b ha hb _).mono ?_); rintro e w' ⟨rfl, rfl⟩)
      | (go_at_call 18; (with_reducible refine (add_any x y xl yl _).mono ?_); rintro e w' ⟨rfl, rfl⟩)
      | (go_at_call 24; (with_reducible refine (P1 _).mono ?_); rintro e w' ⟨rfl, rfl⟩)
      | (go_at_call 24; (with_reducible refine (P2 _).mono ?_); rintro e w' ⟨rfl, rfl⟩)
      | (go_at_call 24; (with_reducible refine (P3 _).mono ?_); rintro e w' ⟨rfl, rfl⟩))
    go_ret
    exact ⟨rfl, HB.out.trans (Go.Joins.below_draws _ _ _)⟩
  have hz : ((a : Int) == 0) = false := by simpa using h0
  have hz2 : ((b : Int) == 0) = false := by simpa using k0
  obtain ⟨p, hp⟩ : ∃ p, powv a n = p := ⟨_, rfl⟩
  obtain ⟨q, hq⟩ : ∃ q, powv b n = q := ⟨_, rfl⟩
  obtain ⟨t, ht⟩ : ∃ t, powv a m = t := ⟨_, rfl⟩
  have pl : p < 256 := by rw [← hp]; exact powv_lt a n ha
  have ql : q < 256 := by rw [← hq]; exact powv_lt b n hb
  have tl : t < 256 := by rw [← ht]; exact powv_lt a m ha
  have hm0 : Gf.mul a b ≠ 0 := fun h => by rcases Gf.mul_eq_zero ha hb h with h | h <;> omega
  have P4 := pow_eq a n p 0 ha hp (powe_pos _ _ (.inl h0))
  have P5 := pow_eq b n q 0 hb hq (powe_pos _ _ (.inl k0))
  have P6 := pow_eq (Gf.mul a b) n (Gf.mul p q) 0 hmab (by rw [powv_mul a b n ha hb h0 k0, hp, hq]) (powe_pos _ _ (.inl hm0))
  have P7 := pow_eq a m t 0 ha ht (powe_pos _ _ (.inl h0))
  have P8 := pow_eq a (n + m) (Gf.mul p t) 0 ha (by rw [powv_add a n m ha h0, hp, ht]) (powe_pos _ _ (.inl h0))
  clear hp hq ht h0 k0 hm0
  go_wp2_with (first
    | (go_at_call 18; (with_reducible refine (add_any a b ha hb _).mono ?_); rintro e w' ⟨rfl, rfl⟩)
    | (go_at_call 18; (with_reducible refine (add_any x y xl yl _).mono ?_); rintro e w' ⟨rfl, rfl⟩)
    | (go_at_call 24; (with_reducible refine (P1 _).mono ?_); rintro e w' ⟨rfl, rfl⟩)
    | (go_at_call 24; (with_reducible refine (P2 _).mono ?_); rintro e w' ⟨rfl, rfl⟩)
    | (go_at_call 24; (with_reducible refine (P3 _).mono ?_); rintro e w' ⟨rfl, rfl⟩)
    | (go_at_call 24; (with_reducible refine (P4 _).mono ?_); rintro e w' ⟨rfl, rfl⟩)
    | (go_at_call 24; (with_reducible refine (P5 _).mono ?_); rintro e w' ⟨rfl, rfl⟩)
    | (go_at_call 24; (with_reducible refine (P6 _).mono ?_); rintro e w' ⟨rfl, rfl⟩)
    | (go_at_call 24; (with_reducible refine (P7 _).mono ?_); rintro e w' ⟨rfl, rfl⟩)
    | (go_at_call 24; (with_reducible refine (P8 _).mono ?_); rintro e w' ⟨rfl, rfl⟩)
    | (go_at_call 19; (with_reducible refine (mul_any a b ha hb _).mono ?_); rintro e w' ⟨rfl, rfl⟩)
    | (go_at_call 19; (with_reducible refine (mul_any p q pl ql _).mono ?_); rintro e w' ⟨rfl, rfl⟩)
    | (go_at_call 19; (with_reducible refine (mul_any p t pl tl _).mono ?_); rintro e w' ⟨rfl, rfl⟩))
  go_ret
  exact ⟨rfl, HB.out.trans (Go.Joins.below_draws _ _ _)⟩
