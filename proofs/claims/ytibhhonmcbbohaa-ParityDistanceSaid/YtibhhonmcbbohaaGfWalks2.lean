/- The walks of the rest of package gf256 that touches no memory, and of the reference tegularef01. -/
import Derived.Test.YtibhhonmcbbohaaGfWalks
namespace Go.Proofs.Ytibhhonmcbbohaa
open Go.RowKit

theorem cast_div_pow (b k : Nat) : ((b : Int) / 2 ^ k) = ((b / 2 ^ k : Nat) : Int) := by simp
theorem cast_mul_pow (a k : Nat) : ((a : Int) * 2 ^ k) = ((a * 2 ^ k : Nat) : Int) := by simp
theorem bit_u8 (b k : Nat) (hb : b < 256) : (bits .and .u8 ((b : Int) / 2 ^ k) 1 == 1) = decide (b / 2 ^ k % 2 = 1) := by
  rw [cast_div_pow]
  exact u8_odd _ (Nat.lt_of_le_of_lt (Nat.div_le_self _ _) hb)
theorem bit_i64 (b k : Nat) (hb : b < 9223372036854775808) : (bits .and .i64 ((b : Int) / 2 ^ k) 1 == 1) = decide (b / 2 ^ k % 2 = 1) := by
  rw [cast_div_pow]
  exact i64_odd _ (Nat.lt_of_le_of_lt (Nat.div_le_self _ _) hb)
theorem shl_small (a k : Nat) (ha : a < 512) (hk : k ≤ 8) : wrap64 ((a : Int) * 2 ^ k) = ((a * 2 ^ k : Nat) : Int) := by
  have h1 : 2 ^ k ≤ 2 ^ 8 := Nat.pow_le_pow_right (by omega) hk
  have h2 : a * 2 ^ k ≤ 511 * 2 ^ 8 := Nat.mul_le_mul (by omega) h1
  rw [cast_mul_pow]
  unfold wrap64
  omega
theorem shl_lt (a k : Nat) (ha : a < 512) (hk : k ≤ 8) : a * 2 ^ k < 131072 := by
  have h1 : 2 ^ k ≤ 2 ^ 8 := Nat.pow_le_pow_right (by omega) hk
  have h2 : a * 2 ^ k ≤ 511 * 2 ^ 8 := Nat.mul_le_mul (by omega) h1
  omega

def RMul1 (a b : Nat) (vp vk : Value) : Prop := ∃ k p : Nat, k ≤ 8 ∧ p < 32768 ∧ vp = .int .i64 p ∧ vk = .int .i64 k ∧ Gf.red 7 (Gf.pr (8 - k) k a b p) = Gf.mul a b
theorem rmul1_odd {a b k p : Nat} (ha : a < 256) (hb : b < 256) (hp : p < 32768) (hs : Gf.red 7 (Gf.pr (8 - k) k a b p) = Gf.mul a b) (hk : (k : Int) < 8)
    (h : (bits .and .u8 ((b : Int) / 2 ^ k) 1 == 1) = true) : RMul1 a b (.int .i64 (bits .xor .i64 (p : Int) (wrap64 ((a : Int) * 2 ^ k)))) (.int .i64 ((k : Int) + 1)) := by
  rw [bit_u8 b k hb] at h
  have h1 := of_decide_eq_true h
  rw [show 8 - k = (8 - (k + 1)) + 1 by omega, Gf.pr, if_pos h1] at hs
  have hl : a * 2 ^ k < 32768 := by
    have h1 : 2 ^ k ≤ 2 ^ 7 := Nat.pow_le_pow_right (by omega) (by omega)
    have h2 : a * 2 ^ k ≤ 255 * 2 ^ 7 := Nat.mul_le_mul (by omega) h1
    omega
  refine ⟨k + 1, p ^^^ (a * 2 ^ k), by omega, Nat.xor_lt_two_pow (n := 15) hp hl, val_int ?_, by go_num, hs⟩
  rw [shl_small a k (by omega) (by omega), i64_xor_nat _ _ (by omega) (by omega)]
theorem rmul1_even {a b k p : Nat} (hb : b < 256) (hp : p < 32768) (hs : Gf.red 7 (Gf.pr (8 - k) k a b p) = Gf.mul a b) (hk : (k : Int) < 8)
    (h : (bits .and .u8 ((b : Int) / 2 ^ k) 1 == 1) = false) : RMul1 a b (.int .i64 (p : Int)) (.int .i64 ((k : Int) + 1)) := by
  rw [bit_u8 b k hb] at h
  have h1 := of_decide_eq_false h
  rw [show 8 - k = (8 - (k + 1)) + 1 by omega, Gf.pr, if_neg h1] at hs
  exact ⟨k + 1, p, by omega, hp, rfl, by go_num, hs⟩
def RMul2 (r : Nat) (vp vk : Value) : Prop := ∃ n p : Nat, n ≤ 7 ∧ p < 2 ^ (n + 8) ∧ vp = .int .i64 p ∧ vk = .int .i64 ((n : Int) + 7) ∧ Gf.red n p = r
theorem rmul2_step {r n p : Nat} {ip : Int} (hn : n ≤ 7) (hp : p < 2 ^ (n + 8)) (hs : Gf.red n p = r) (h8 : (8 : Int) ≤ (n : Int) + 7) (h : ip = ((Gf.rd1 (n + 7) p : Nat) : Int)) :
    RMul2 r (.int .i64 ip) (.int .i64 ((n : Int) + 7 - 1)) := by
  cases n with
  | zero => omega
  | succ n =>
    refine ⟨n, Gf.rd1 (n + 8) p, by omega, Gf.rd1_lt n p (by omega) hp, ?_, val_int (by omega), hs⟩
    rw [h]
theorem pow_le_15 {n p : Nat} (hn : n ≤ 7) (hp : p < 2 ^ (n + 8)) : p < 32768 := by
  have h1 : 2 ^ (n + 8) ≤ 2 ^ 15 := Nat.pow_le_pow_right (by omega) (by omega)
  omega
theorem rmul2_odd {n p : Nat} (hn : n ≤ 7) (hp : p < 2 ^ (n + 8)) (h8 : (8 : Int) ≤ (n : Int) + 7) (h : (bits .and .i64 ((p : Int) / 2 ^ (n + 7)) 1 == 1) = true) :
    bits .xor .i64 (p : Int) (wrap64 (285 * 2 ^ (n - 1))) = ((Gf.rd1 (n + 7) p : Nat) : Int) := by
  have hq := pow_le_15 hn hp
  rw [bit_i64 p (n + 7) (by omega)] at h
  have h1 := of_decide_eq_true h
  have h2 := shl_lt 285 (n - 1) (by omega) (by omega)
  have h3 := shl_small 285 (n - 1) (by omega) (by omega)
  rw [show ((285 : Nat) : Int) = 285 from rfl] at h3
  rw [h3, i64_xor_nat _ _ (by omega) (by omega), Gf.rd1, if_pos h1, show n + 7 - 8 = n - 1 by omega]
theorem rmul2_even {n p : Nat} (hn : n ≤ 7) (hp : p < 2 ^ (n + 8)) (h : (bits .and .i64 ((p : Int) / 2 ^ (n + 7)) 1 == 1) = false) :
    (p : Int) = ((Gf.rd1 (n + 7) p : Nat) : Int) := by
  have hq := pow_le_15 hn hp
  rw [bit_i64 p (n + 7) (by omega)] at h
  rw [Gf.rd1, if_neg (of_decide_eq_false h)]

/-- tegularef01.Mul -/
theorem rmul_any (a b : Nat) (ha : a < 256) (hb : b < 256) (w : World) :
    Calls Try.prog 24 #[.int .u8 a, .int .u8 b] w fun e w' => e = .returned (.int .u8 (Gf.mul a b)) ∧ w = w' := by
  have hm := Gf.mul_lt a b ha
  go_enter Try.func24, Try.ntmps24
  go_wp2
  go_loop [5, 6] (fun vp vk => RMul1 a b vp vk) (fun _ vk => 8 - (intOf vk).toNat)
  case atStart => exact ⟨0, 0, by omega, by omega, rfl, rfl, Gf.refmul a b ha⟩
  case round =>
    obtain ⟨k, p, hk, hp, rfl, rfl, hs⟩ := hrel
    have HS := Lib.hid hs
    clear hs
    go_wp2
    case roundEnd =>
      go_round
      case rel => exact rmul1_odd ha hb hp HS.out (by omega) ‹_›
      case measure => simp [intOf]; omega
    case roundEnd =>
      go_round
      case rel => exact rmul1_even hb hp HS.out (by omega) ‹_›
      case measure => simp [intOf]; omega
    obtain rfl : k = 8 := by omega
    have hl : p < 2 ^ (7 + 8) := hp
    go_loop [5, 7] (fun vp vk => RMul2 (Gf.mul a b) vp vk) (fun _ vk => (intOf vk).toNat)
    case atStart => exact ⟨7, p, by omega, hl, rfl, rfl, HS.out⟩
    case round =>
      clear HS hl hp hk
      obtain ⟨n, q, hn, hq, rfl, rfl, hs⟩ := hrel
      have HS := Lib.hid hs
      have hq2 := pow_le_15 hn hq
      clear hs
      go_wp2
      case roundEnd =>
        go_round
        case rel => exact rmul2_step hn hq HS.out (by omega) (rmul2_odd hn hq (by omega) ‹_›)
        case measure => simp [intOf]; omega
      case roundEnd =>
        go_round
        case rel => exact rmul2_step hn hq HS.out (by omega) (rmul2_even hn hq ‹_›)
        case measure => simp [intOf]; omega
      obtain rfl : n = 0 := by omega
      go_ret
      exact ⟨ret_int (by have h1 : q = Gf.mul a b := HS.out; omega), rfl⟩

/-- tegularef01.Power -/
theorem rpower_any (a n : Nat) (ha : a < 256) (hn : n < 1000000) (w : World) :
    Calls Try.prog 13 #[.int .u8 a, .int .i64 n] w fun e w' => e = .returned (.int .u8 (Gf.npow a n)) ∧ w = w' := by
  go_enter Try.func13, Try.ntmps13
  go_wp2
  go_loop [5, 6] (fun vo vi => ∃ i : Nat, i ≤ n ∧ vi = .int .i64 i ∧ vo = .int .u8 (Gf.npow a i)) (fun _ vi => n - (intOf vi).toNat)
  case atStart => exact ⟨0, by omega, rfl, rfl⟩
  case round =>
    obtain ⟨i, hi, rfl, rfl⟩ := hrel
    have hlt := Gf.npow_lt a i
    go_wp2_with (go_at_call 24; refine (rmul_any (Gf.npow a i) a hlt ha _).mono ?_; rintro e w' ⟨rfl, rfl⟩)
    case roundEnd =>
      go_round
      case rel => exact ⟨i + 1, by omega, by go_num, rfl⟩
      case measure => simp [intOf]; omega
    obtain rfl : i = n := by omega
    go_ret
    exact ⟨rfl, rfl⟩
theorem expo_cases (n : Int) : (expo n : Int) = if Int.tmod n 255 < 0 then Int.tmod n 255 + 255 else Int.tmod n 255 := by
  have h := reduce_eq n
  obtain ⟨h1, h2⟩ := tmod_bd n
  split <;> omega
/-- the inverse of a power of 2, by the logarithm -/
def ivn (a : Nat) : Nat := Gf.ex (255 - Gf.lg a)
theorem ivn_lt (a : Nat) : ivn a < 256 := Gf.ex_lt _
theorem ivn_mul (a : Nat) (ha : a < 256) (h0 : a ≠ 0) : Gf.mul a (ivn a) = 1 := by
  have h1 := Gf.lg_lt a ha
  have h2 : Gf.mul (Gf.ex (Gf.lg a)) (ivn a) = 1 := by
    rw [ivn, Gf.ex_mul, show Gf.lg a + (255 - Gf.lg a) = 255 by omega, Gf.ex_255]
  rwa [Gf.ex_lg a ha h0] at h2
theorem ivn_only (a b : Nat) (ha : a < 256) (h0 : a ≠ 0) (hb : b < 256) (h : Gf.mul a b = 1) : b = ivn a := by
  have h1 := Gf.lg_lt a ha
  rcases Gf.as_ex b hb with rfl | ⟨j, hj, rfl⟩
  · rw [Gf.mul_zero] at h; omega
  · rw [← Gf.ex_lg a ha h0, Gf.ex_mul] at h
    have h2 := Gf.ex_inj (i := Gf.lg a + j) (j := 0) h
    exact Gf.ex_eq (by omega)
theorem pwr_254 (a : Nat) (ha : a < 256) (h0 : a ≠ 0) : pwr a 254 = ivn a := by
  have h1 := Gf.lg_lt a ha
  have h2 := pwr_ex (Gf.lg a) 254 (by omega)
  rw [Gf.ex_lg a ha h0] at h2
  rw [h2]
  exact Gf.ex_eq (by omega)
theorem ivn_pos (a : Nat) : ivn a ≠ 0 := Gf.ex_ne _

/-- what gf256.Pow returns: the power and the error -/
def powv (a : Nat) (n : Int) : Nat := if n = 0 then 1 else if a = 0 then 0 else pwr a (expo n)
def powe (a : Nat) (n : Int) : Int := if n = 0 then 0 else if a = 0 ∧ n < 0 then 3 else 0
theorem powv_lt (a : Nat) (n : Int) (ha : a < 256) : powv a n < 256 := by
  unfold powv
  split
  · omega
  · split
    · omega
    · exact pwr_lt _ _ ha