/- The walks of the laws Gf256Products, Gf256Axioms, Gf256Logarithms, Gf256Inverses and Gf256Powers: each returns true. -/
import Derived.Test.YtokmhmfghfenkaaGfAwake
namespace Go.Proofs.Ytokmhmfghfenkaa
open Go.RowKit

theorem products_any (a b : Nat) (ha : a < 256) (hb : b < 256) (w : World) : Calls Try.prog 5 #[.int .u8 a, .int .u8 b] w fun e w' => e = .returned (.bool true) ∧ Below w.heap.size w w' := by
  have hx := u8_xor_nat a b ha hb
  go_enter Try.func5, Try.ntmps5
  go_wp2_with (first
    | (go_at_call 11; refine (awake_any _).mono ?_; rintro e w1 ⟨rfl, hB⟩)
    | (go_at_call 18; refine (add_any a b ha hb _).mono ?_; rintro e w' ⟨rfl, rfl⟩)
    | (go_at_call 19; refine (mul_any a b ha hb _).mono ?_; rintro e w' ⟨rfl, rfl⟩)
    | (go_at_call 20; refine (rmul_any a b ha hb _).mono ?_; rintro e w' ⟨rfl, rfl⟩))
  go_ret
  exact ⟨rfl, hB⟩

theorem log_diff (n : Int) : (Int.tmod (Int.tmod n 255 - (expo n : Int)) 255 == 0) = true := by
  have h := expo_cases n
  rw [beq_iff_eq]
  split at h
  · rw [show Int.tmod n 255 - (expo n : Int) = -255 by omega]; rfl
  · rw [show Int.tmod n 255 - (expo n : Int) = 0 by omega]; rfl
theorem logarithms_any (a : Nat) (n : Int) (ha : a < 256) (w : World) : Calls Try.prog 3 #[.int .u8 a, .int .i64 n] w fun e w' => e = .returned (.bool true) ∧ Below w.heap.size w w' := by
  have hxl := Gf.ex_lt (expo n)
  have hx0 := Gf.ex_ne (expo n)
  have HLg := Lib.hid (Gf.lg_ex (expo n) (expo_lt n))
  have hel := expo_lt n
  have htm := tmod_bd n
  have HC := Lib.hid (expo_cases n)
  by_cases h0 : a = 0
  · subst h0
    go_enter Try.func3, Try.ntmps3
    go_wp2_with (first
      | (go_at_call 11; refine (awake_any _).mono ?_; rintro e w1 ⟨rfl, hB⟩)
      | (go_at_call 12; refine (exp_any n _).mono ?_; rintro e w' ⟨rfl, rfl⟩)
      | (go_at_call 13; refine (rexp_any n _).mono ?_; rintro e w' ⟨rfl, rfl⟩)
      | (go_at_call 14; refine (log_zero _).mono ?_; rintro e w' ⟨rfl, rfl⟩))
    go_ret
    exact ⟨rfl, hB⟩
  · have hl := Gf.lg_lt a ha
    have hz : ((a : Int) == 0) = false := by simpa using h0
    have HX := Lib.hid (show Gf.ex (expo (Gf.lg a : Int)) = a by rw [show expo (Gf.lg a : Int) = Gf.lg a by unfold expo; omega]; exact Gf.ex_lg a ha h0)
    go_enter Try.func3, Try.ntmps3
    go_wp2_with (first
      | (go_at_call 11; refine (awake_any _).mono ?_; rintro e w1 ⟨rfl, hB⟩)
      | (go_at_call 12; with_reducible refine (exp_any n _).mono ?_; rintro e w' ⟨rfl, rfl⟩)
      | (go_at_call 12; with_reducible refine (exp_any (Gf.lg a : Int) _).mono ?_; rw [HX.out]; rintro e w' ⟨rfl, rfl⟩)
      | (go_at_call 13; refine (rexp_any n _).mono ?_; rintro e w' ⟨rfl, rfl⟩)
      | (go_at_call 14; with_reducible refine (log_any a ha h0 _).mono ?_; rintro e w' ⟨rfl, rfl⟩)
      | (go_at_call 14; with_reducible refine (log_any (Gf.ex (expo n)) hxl hx0 _).mono ?_; rw [HLg.out]; rintro e w' ⟨rfl, rfl⟩))
    go_ret
    exact ⟨ret_bool (log_diff n), hB⟩

theorem axioms_any (a b c : Nat) (ha : a < 256) (hb : b < 256) (hc : c < 256) (w : World) : Calls Try.prog 6 #[.int .u8 a, .int .u8 b, .int .u8 c] w fun e w' => e = .returned (.bool true) ∧ Below w.heap.size w w' := by
  have hab := Gf.xor_lt ha hb
  have hbc := Gf.xor_lt hb hc
  have mab := Gf.mul_lt a b ha
  have mac := Gf.mul_lt a c ha
  have mbc := Gf.mul_lt b c hb
  have A1 : ∀ W, Calls Try.prog 18 #[.int .u8 b, .int .u8 a] W fun e w' => e = .returned (.int .u8 (a ^^^ b : Nat)) ∧ W = w' := fun W => by rw [Nat.xor_comm]; exact add_any b a hb ha W
  have A2 : ∀ W, Calls Try.prog 18 #[.int .u8 a, .int .u8 (b ^^^ c : Nat)] W fun e w' => e = .returned (.int .u8 (a ^^^ b ^^^ c : Nat)) ∧ W = w' := fun W => by rw [Nat.xor_assoc]; exact add_any a (b ^^^ c) ha hbc W
  have A3 : ∀ W, Calls Try.prog 18 #[.int .u8 (Gf.mul a b : Nat), .int .u8 (Gf.mul a c : Nat)] W fun e w' => e = .returned (.int .u8 (Gf.mul a (b ^^^ c) : Nat)) ∧ W = w' := fun W => by rw [Gf.mul_xor_right a b c ha hb hc]; exact add_any _ _ mab mac W
  have A4 : ∀ W, Calls Try.prog 18 #[.int .u8 a, .int .u8 0] W fun e w' => e = .returned (.int .u8 a) ∧ W = w' := fun W => by have := add_any a 0 ha (by omega) W; rw [Nat.xor_zero] at this; exact this
  have A5 : ∀ W, Calls Try.prog 18 #[.int .u8 a, .int .u8 a] W fun e w' => e = .returned (.int .u8 0) ∧ W = w' := fun W => by have := add_any a a ha ha W; rw [Nat.xor_self] at this; exact this
  have M1 : ∀ W, Calls Try.prog 19 #[.int .u8 b, .int .u8 a] W fun e w' => e = .returned (.int .u8 (Gf.mul a b : Nat)) ∧ W = w' := fun W => by rw [Gf.mul_comm a b ha hb]; exact mul_any b a hb ha W
  have M2 : ∀ W, Calls Try.prog 19 #[.int .u8 a, .int .u8 (Gf.mul b c : Nat)] W fun e w' => e = .returned (.int .u8 (Gf.mul (Gf.mul a b) c : Nat)) ∧ W = w' := fun W => by rw [Gf.mul_assoc a b c ha hb hc]; exact mul_any a _ ha mbc W
  have M4 : ∀ W, Calls Try.prog 19 #[.int .u8 a, .int .u8 1] W fun e w' => e = .returned (.int .u8 a) ∧ W = w' := fun W => by have := mul_any a 1 ha (by omega) W; rw [Gf.mul_one a ha] at this; exact this
  have M5 : ∀ W, Calls Try.prog 19 #[.int .u8 a, .int .u8 0] W fun e w' => e = .returned (.int .u8 0) ∧ W = w' := fun W => by have := mul_any a 0 ha (by omega) W; rw [Gf.mul_zero a] at this; exact this
  go_enter Try.func6, Try.ntmps6
  go_wp2_with (first
    | (go_at_call 11; refine (awake_any _).mono ?_; rintro e w1 ⟨rfl, hB⟩)
    | (go_at_call 18; with_reducible refine (A4 _).mono ?_; rintro e w' ⟨rfl, rfl⟩)
    | (go_at_call 18; with_reducible refine (A5 _).mono ?_; rintro e w' ⟨rfl, rfl⟩)
    | (go_at_call 18; with_reducible refine (add_any a b ha hb _).mono ?_; rintro e w' ⟨rfl, rfl⟩)
    | (go_at_call 18; with_reducible refine (A1 _).mono ?_; rintro e w' ⟨rfl, rfl⟩)
    | (go_at_call 18; with_reducible refine (add_any b c hb hc _).mono ?_; rintro e w' ⟨rfl, rfl⟩)
    | (go_at_call 18; with_reducible refine (A2 _).mono ?_; rintro e w' ⟨rfl, rfl⟩)
    | (go_at_call 18; with_reducible refine (add_any (a ^^^ b) c hab hc _).mono ?_; rintro e w' ⟨rfl, rfl⟩)
    | (go_at_call 18; with_reducible refine (A3 _).mono ?_; rintro e w' ⟨rfl, rfl⟩)
    | (go_at_call 19; with_reducible refine (M4 _).mono ?_; rintro e w' ⟨rfl, rfl⟩)
    | (go_at_call 19; with_reducible refine (M5 _).mono ?_; rintro e w' ⟨rfl, rfl⟩)
    | (go_at_call 19; with_reducible refine (mul_any a b ha hb _).mono ?_; rintro e w' ⟨rfl, rfl⟩)
    | (go_at_call 19; with_reducible refine (M1 _).mono ?_; rintro e w' ⟨rfl, rfl⟩)
    | (go_at_call 19; with_reducible refine (mul_any a c ha hc _).mono ?_; rintro e w' ⟨rfl, rfl⟩)
    | (go_at_call 19; with_reducible refine (mul_any b c hb hc _).mono ?_; rintro e w' ⟨rfl, rfl⟩)
    | (go_at_call 19; with_reducible refine (M2 _).mono ?_; rintro e w' ⟨rfl, rfl⟩)
    | (go_at_call 19; with_reducible refine (mul_any (Gf.mul a b) c mab hc _).mono ?_; rintro e w' ⟨rfl, rfl⟩)
    | (go_at_call 19; with_reducible refine (mul_any a (b ^^^ c) ha hbc _).mono ?_; rintro e w' ⟨rfl, rfl⟩))
  go_ret
  exact ⟨rfl, hB⟩

theorem inverses_any (a b : Nat) (ha : a < 256) (hb : b < 256) (w : World) : Calls Try.prog 8 #[.int .u8 a, .int .u8 b] w fun e w' => e = .returned (.bool true) ∧ Below w.heap.size w w' := by
  have mab := Gf.mul_lt a b ha
  have I0 : a = 0 → ∀ W, Calls Try.prog 21 #[.int .u8 a] W fun e w' => e = .returned (.tuple #[.int .u8 0, .int .i64 3]) ∧ W = w' := by rintro rfl; exact inv_zero
  have I1 : a ≠ 0 → ∀ W, Calls Try.prog 21 #[.int .u8 a] W fun e w' => e = .returned (.tuple #[.int .u8 (ivn a), .int .i64 0]) ∧ W = w' := fun h W => by rw [← pwr_254 a ha h]; exact inv_any a ha h W
  have J0 : a = 0 → ∀ W, Calls Try.prog 22 #[.int .u8 a] W fun e w' => e = .returned (.tuple #[.int .u8 0, .bool false]) ∧ W = w' := by rintro rfl; exact rinv_zero
  have J1 := rinv_any a ha
  have D0 : b = 0 → ∀ W, Calls Try.prog 23 #[.int .u8 (Gf.mul a b : Nat), .int .u8 b] W fun e w' => e = .returned (.tuple #[.int .u8 0, .int .i64 3]) ∧ W = w' := by rintro rfl; exact div_zero _
  have D1 : b ≠ 0 → ∀ W, Calls Try.prog 23 #[.int .u8 (Gf.mul a b : Nat), .int .u8 b] W fun e w' => e = .returned (.tuple #[.int .u8 a, .int .i64 0]) ∧ W = w' := fun h W => by
    have := div_any (Gf.mul a b) b mab hb h W
    rw [Gf.mul_assoc a b _ ha hb (ivn_lt b), ivn_mul b hb h, Gf.mul_one a ha] at this
    exact this
  have hil := ivn_lt a
  have M1 : a ≠ 0 → ∀ W, Calls Try.prog 19 #[.int .u8 a, .int .u8 (ivn a)] W fun e w' => e = .returned (.int .u8 1) ∧ W = w' := fun h W => by
    have := mul_any a (ivn a) ha hil W
    rw [ivn_mul a ha h] at this
    exact this
  by_cases h0 : a = 0 <;> by_cases k0 : b = 0
  · have i0 := I0 h0; have j0 := J0 h0; have d0 := D0 k0
    have ha0 : ((a : Int) == 0) = true := by simpa using h0
    have hb0 : ((b : Int) == 0) = true := by simpa using k0
    clear I0 I1 J0 J1 D0 D1 M1 h0 k0
    go_enter Try.func8, Try.ntmps8
    go_wp2_with (first
      | (go_at_call 11; refine (awake_any _).mono ?_; rintro e w1 ⟨rfl, hB⟩)
      | (go_at_call 21; with_reducible refine (i0 _).mono ?_; rintro e w' ⟨rfl, rfl⟩)
      | (go_at_call 22; with_reducible refine (j0 _).mono ?_; rintro e w' ⟨rfl, rfl⟩)
      | (go_at_call 19; with_reducible refine (mul_any a b ha hb _).mono ?_; rintro e w' ⟨rfl, rfl⟩)
      | (go_at_call 23; with_reducible refine (d0 _).mono ?_; rintro e w' ⟨rfl, rfl⟩))
    go_ret
    exact ⟨rfl, hB⟩
  · have i0 := I0 h0; have j0 := J0 h0; have d0 := D1 k0
    have ha0 : ((a : Int) == 0) = true := by simpa using h0
    have hb0 : ((b : Int) == 0) = false := by simpa using k0
    clear I0 I1 J0 J1 D0 D1 M1 h0 k0
    go_enter Try.func8, Try.ntmps8
    go_wp2_with (first
      | (go_at_call 11; refine (awake_any _).mono ?_; rintro e w1 ⟨rfl, hB⟩)
      | (go_at_call 21; with_reducible refine (i0 _).mono ?_; rintro e w' ⟨rfl, rfl⟩)
      | (go_at_call 22; with_reducible refine (j0 _).mono ?_; rintro e w' ⟨rfl, rfl⟩)
      | (go_at_call 19; with_reducible refine (mul_any a b ha hb _).mono ?_; rintro e w' ⟨rfl, rfl⟩)
      | (go_at_call 23; with_reducible refine (d0 _).mono ?_; rintro e w' ⟨rfl, rfl⟩))
    go_ret
    exact ⟨rfl, hB⟩
  · have i0 := I1 h0; have j0 := J1 h0; have d0 := D0 k0
    have ha0 : ((a : Int) == 0) = false := by simpa using h0
    have hb0 : ((b : Int) == 0) = true := by simpa using k0
    clear I0 I1 J0 J1 D0 D1 M1 h0 k0
    go_enter Try.func8, Try.ntmps8
    go_wp2_with (first
      | (go_at_call 11; refine (awake_any _).mono ?_; rintro e w1 ⟨rfl, hB⟩)
      | (go_at_call 21; with_reducible refine (i0 _).mono ?_; rintro e w' ⟨rfl, rfl⟩)
      | (go_at_call 22; with_reducible refine (j0 _).mono ?_; rintro e w' ⟨rfl, rfl⟩)
      | (go_at_call 19; with_reducible refine (mul_any a b ha hb _).mono ?_; rintro e w' ⟨rfl, rfl⟩)
      | (go_at_call 23; with_reducible refine (d0 _).mono ?_; rintro e w' ⟨rfl, rfl⟩))
    go_ret
    exact ⟨rfl, hB⟩
  · have i0 := I1 h0; have j0 := J1 h0; have d0 := D1 k0; have m0 := M1 h0
    have ha0 : ((a : Int) == 0) = false := by simpa using h0
    have hb0 : ((b : Int) == 0) = false := by simpa using k0
    clear I0 I1 J0 J1 D0 D1 M1 h0 k0
    go_enter Try.func8, Try.ntmps8
    go_wp2_with (first
      | (go_at_call 11; refine (awake_any _).mono ?_; rintro e w1 ⟨rfl, hB⟩)
      | (go_at_call 21; with_reducible refine (i0 _).mono ?_; rintro e w' ⟨rfl, rfl⟩)
      | (go_at_call 22; with_reducible refine (j0 _).mono ?_; rintro e w' ⟨rfl, rfl⟩)
      | (go_at_call 19; with_reducible refine (mul_any a b ha hb _).mono ?_; rintro e w' ⟨rfl, rfl⟩)
      | (go_at_call 19; with_reducible refine (m0 _).mono ?_; rintro e w' ⟨rfl, rfl⟩)
      | (go_at_call 23; with_reducible refine (d0 _).mono ?_; rintro e w' ⟨rfl, rfl⟩))
    go_ret
    exact ⟨rfl, hB⟩
