/- The walk of the law Gf256Powers: it returns true. -/
import Derived.Test.YtokmhmfghfenkaaGfAwake
namespace Go.Proofs.Ytokmhmfghfenkaa
open Go.RowKit

theorem pow_eq (a : Nat) (n : Int) (p : Nat) (e : Int) (ha : a < 256) (h1 : powv a n = p) (h2 : powe a n = e) (W : World) :
    Calls Try.prog 24 #[.int .u8 a, .int .i64 n] W fun x w' => x = .returned (.tuple #[.int .u8 p, .int .i64 e]) ∧ W = w' := by
  subst h1; subst h2; exact pow_any a n ha W
theorem powv_zero (n : Int) (h : n ≠ 0) : powv 0 n = 0 := by rw [powv, if_neg h, if_pos rfl]
theorem powe_pos (a : Nat) (n : Int) (h : a ≠ 0 ∨ 0 ≤ n) : powe a n = 0 := by
  unfold powe
  split
  · rfl
  · rw [if_neg (by omega)]
theorem powe_neg (n : Int) (h : n < 0) : powe 0 n = 3 := by
  rw [powe, if_neg (by omega), if_pos ⟨rfl, h⟩]
theorem powv_any (a : Nat) (n : Int) (ha : a < 256) (h0 : a ≠ 0) : powv a n = Gf.ex (Gf.lg a * expo n) := by
  by_cases h : n = 0
  · subst h; simp [powv, expo, Gf.ex, Gf.pw]
  · rw [powv, if_neg h, if_neg h0]
    have := pwr_ex (Gf.lg a) (expo n) (by have := expo_lt n; omega)
    rwa [Gf.ex_lg a ha h0] at this
theorem expo_tmod (n : Int) : expo (Int.tmod n 255) = expo n := by
  have h1 := expo_cases n
  obtain ⟨h2, h3⟩ := tmod_bd n
  unfold expo at *
  split at h1 <;> omega
theorem powv_tmod (a : Nat) (n : Int) (ha : a < 256) (h0 : a ≠ 0) : powv a (Int.tmod n 255) = powv a n := by
  rw [powv_any a _ ha h0, powv_any a n ha h0, expo_tmod]
theorem mul_mod (i j k : Nat) (h : j % 255 = k % 255) : Gf.ex (i * j) = Gf.ex (i * k) := by
  apply Gf.ex_eq
  rw [Nat.mul_mod, h, ← Nat.mul_mod]
theorem powv_nat (a m : Nat) (ha : a < 256) : powv a (m : Int) = Gf.npow a m := by
  by_cases h0 : a = 0
  · subst h0
    by_cases hm : m = 0
    · subst hm; rfl
    · rw [powv_zero _ (by omega), Gf.npow_zero m (by omega)]
  · have := Gf.npow_ex (Gf.lg a) m
    rw [Gf.ex_lg a ha h0] at this
    rw [this, powv_any a _ ha h0]
    exact mul_mod _ _ _ (by unfold expo; omega)
theorem powv_negn (a m : Nat) (ha : a < 256) (h0 : a ≠ 0) : powv a (-(m : Int)) = ivn (Gf.npow a m) := by
  have h := Gf.npow_ex (Gf.lg a) m
  rw [Gf.ex_lg a ha h0] at h
  rw [powv_any a _ ha h0, h]
  refine ivn_only _ _ (Gf.ex_lt _) (Gf.ex_ne _) (Gf.ex_lt _) ?_
  rw [Gf.ex_mul, ← Nat.mul_add]
  have h1 := mul_mod (Gf.lg a) (m + expo (-(m : Int))) 0 (by unfold expo; omega)
  rw [h1]; rfl
theorem npow_ne (a m : Nat) (ha : a < 256) (h0 : a ≠ 0) : Gf.npow a m ≠ 0 := by
  have h := Gf.npow_ex (Gf.lg a) m
  rw [Gf.ex_lg a ha h0] at h
  rw [h]; exact Gf.ex_ne _

set_option maxRecDepth 100000 in
theorem powers_any (a : Nat) (n : Int) (ha : a < 256) (hn1 : -9223372036854775808 ≤ n) (hn2 : n ≤ 9223372036854775807) (w : World) :
    Calls Try.prog 9 #[.int .u8 a, .int .i64 n] w fun e w' => e = .returned (.bool true) ∧ Below w.heap.size w w' := by
  by_cases hneg : a = 0 ∧ n < 0
  · obtain ⟨rfl, hneg⟩ := hneg
    have P1 := pow_eq 0 n 0 3 (by omega) (powv_zero n (by omega)) (powe_neg n hneg)
    go_enter Try.func9, Try.ntmps9
    go_wp2_with (first
      | (go_at_call 11; refine (awake_any _).mono ?_; rintro e w1 ⟨rfl, hB⟩)
      | (go_at_call 24; refine (P1 _).mono ?_; rintro e w' ⟨rfl, rfl⟩))
    go_ret
    exact ⟨rfl, hB⟩
  · have he := powe_pos a n (by omega)
    have hlt := powv_lt a n ha
    by_cases h600 : n < -600 ∨ 600 < n
    · obtain ⟨p, hp⟩ : ∃ p, powv a n = p := ⟨_, rfl⟩
      have P1 := pow_eq a n p 0 ha hp he
      by_cases h0 : a = 0
      · obtain rfl : p = 0 := by rw [← hp, h0, powv_zero n (by omega)]
        obtain ⟨q, hq⟩ : ∃ q, powv a (n % 255) = q := ⟨_, rfl⟩
        have P2 := pow_eq a (n % 255) q 0 ha hq (powe_pos a _ (.inr (by omega)))
        have hz : ((a : Int) == 0) = true := by simpa using h0
        have hz2 : ((a : Int) != 0) = false := by simpa using h0
        have h6 : 600 < n := by omega
        have h7 : 0 ≤ n := by omega
        clear hneg h600 h0 hp hq he hlt
        go_enter Try.func9, Try.ntmps9
        go_wp2_with (first
          | (go_at_call 11; refine (awake_any _).mono ?_; rintro e w1 ⟨rfl, hB⟩)
          | (go_at_call 24; with_reducible refine (P1 _).mono ?_; rintro e w' ⟨rfl, rfl⟩)
          | (go_at_call 24; with_reducible refine (P2 _).mono ?_; rintro e w' ⟨rfl, rfl⟩))
        go_ret
        exact ⟨rfl, hB⟩
      · have P2 := pow_eq a (Int.tmod n 255) p 0 ha (by rw [powv_tmod a n ha h0, hp]) (powe_pos a _ (.inl h0))
        have hz : ((a : Int) == 0) = false := by simpa using h0
        have hz2 : ((a : Int) != 0) = true := by simpa using h0
        have P3 := fun h : 0 ≤ n => pow_eq a (n % 255) p 0 ha (by rw [← Int.tmod_eq_emod_of_nonneg h, powv_tmod a n ha h0, hp]) (powe_pos a _ (.inl h0))
        clear hneg h0 hp he hlt
        rcases h600 with h6 | h6
        · clear P3
          go_enter Try.func9, Try.ntmps9
          go_wp2_with (first
            | (go_at_call 11; refine (awake_any _).mono ?_; rintro e w1 ⟨rfl, hB⟩)
            | (go_at_call 24; with_reducible refine (P1 _).mono ?_; rintro e w' ⟨rfl, rfl⟩)
            | (go_at_call 24; with_reducible refine (P2 _).mono ?_; rintro e w' ⟨rfl, rfl⟩))
          go_ret
          exact ⟨rfl, hB⟩
        · clear P2
          have P2 := P3 (by omega)
          clear P3
          go_enter Try.func9, Try.ntmps9
          go_wp2_with (first
            | (go_at_call 11; refine (awake_any _).mono ?_; rintro e w1 ⟨rfl, hB⟩)
            | (go_at_call 24; with_reducible refine (P1 _).mono ?_; rintro e w' ⟨rfl, rfl⟩)
            | (go_at_call 24; with_reducible refine (P2 _).mono ?_; rintro e w' ⟨rfl, rfl⟩))
          go_ret
          exact ⟨rfl, hB⟩
    · have h6a : ¬ n < -600 := by omega
      have h6b : ¬ 600 < n := by omega
      by_cases hs : 0 ≤ n
      · obtain ⟨m, rfl⟩ : ∃ m : Nat, n = (m : Int) := ⟨n.toNat, by omega⟩
        have P1 := pow_eq a m (Gf.npow a m) 0 ha (powv_nat a m ha) he
        have hnl := Gf.npow_lt a m
        have hmx : max (m : Int) (-(m : Int)) = (m : Int) := by omega
        have hm0 : ¬ (m : Int) < 0 := by omega
        have hrp := rpower_any a m ha (by omega)
        clear hneg h600 he hlt
        by_cases h0 : a = 0
        · have hz : ((a : Int) == 0) = true := by simpa using h0
          clear h0
          go_enter Try.func9, Try.ntmps9
          go_wp2_with (first
            | (go_at_call 11; refine (awake_any _).mono ?_; rintro e w1 ⟨rfl, hB⟩)
            | (go_at_call 24; with_reducible refine (P1 _).mono ?_; rintro e w' ⟨rfl, rfl⟩)
            | (go_at_call 25; with_reducible refine (hrp _).mono ?_; rintro e w' ⟨rfl, rfl⟩))
          go_ret
          exact ⟨rfl, hB⟩
        · have hz : ((a : Int) == 0) = false := by simpa using h0
          clear h0
          go_enter Try.func9, Try.ntmps9
          go_wp2_with (first
            | (go_at_call 11; refine (awake_any _).mono ?_; rintro e w1 ⟨rfl, hB⟩)
            | (go_at_call 24; with_reducible refine (P1 _).mono ?_; rintro e w' ⟨rfl, rfl⟩)
            | (go_at_call 25; with_reducible refine (hrp _).mono ?_; rintro e w' ⟨rfl, rfl⟩))
          go_ret
          exact ⟨rfl, hB⟩
      · obtain ⟨m, rfl⟩ : ∃ m : Nat, n = -(m : Int) := ⟨(-n).toNat, by omega⟩
        have h0 : a ≠ 0 := by omega
        have P1 := pow_eq a (-(m : Int)) (ivn (Gf.npow a m)) 0 ha (powv_negn a m ha h0) he
        have hnl := Gf.npow_lt a m
        have hne := npow_ne a m ha h0
        have hz : ((a : Int) == 0) = false := by simpa using h0
        have hmx : max (-(m : Int)) (m : Int) = (m : Int) := by omega
        have hm1 : -(m : Int) < 0 := by omega
        clear hneg h600 he hlt hs h0
        go_enter Try.func9, Try.ntmps9
        go_wp2_with (first
          | (go_at_call 11; refine (awake_any _).mono ?_; rintro e w1 ⟨rfl, hB⟩)
          | (go_at_call 24; with_reducible refine (P1 _).mono ?_; rintro e w' ⟨rfl, rfl⟩)
          | (go_at_call 25; with_reducible refine (rpower_any a m ha (by omega) _).mono ?_; rintro e w' ⟨rfl, rfl⟩)
          | (go_at_call 22; with_reducible refine (rinv_any (Gf.npow a m) hnl hne _).mono ?_; rintro e w' ⟨rfl, rfl⟩))
        go_ret
        exact ⟨rfl, hB⟩
