/- The walks of package gf256 and of its reference: each function returns what the plain functions of the text Gf say; no memory is touched. -/
import Derived.Test.YtibhhonmcbbohaaProg
import Derived.Test.YtibhhonmcbbohaaGf
import Derived.WalkKit
import Derived.Laws.BitsAllLaws
import Derived.Lib.Hide
namespace Go.Proofs.Ytibhhonmcbbohaa
open Go.RowKit

theorem ofInt_i64 (a : Nat) (ha : a < 9223372036854775808) : (BitVec.ofInt 64 (a : Int)).toNat = a := by
  rw [BitVec.ofInt_natCast, BitVec.toNat_ofNat]; exact Nat.mod_eq_of_lt (by omega)
theorem i64_xor_nat (a b : Nat) (ha : a < 9223372036854775808) (hb : b < 9223372036854775808) : bits .xor .i64 (a : Int) (b : Int) = ((a ^^^ b : Nat) : Int) := by
  have hx : a ^^^ b < 2 ^ 63 := Nat.xor_lt_two_pow (by omega) (by omega)
  show IntKind.i64.wrap ((BitVec.ofInt 64 (a : Int) ^^^ BitVec.ofInt 64 (b : Int)).toNat : Int) = _
  rw [BitVec.toNat_xor, ofInt_i64 a ha, ofInt_i64 b hb, IntKind.wrap_i64]
  omega
theorem i64_and_nat (a b : Nat) (ha : a < 9223372036854775808) (hb : b < 9223372036854775808) : bits .and .i64 (a : Int) (b : Int) = ((a &&& b : Nat) : Int) := by
  have hx : a &&& b < 2 ^ 63 := Nat.and_lt_two_pow _ (by omega)
  show IntKind.i64.wrap ((BitVec.ofInt 64 (a : Int) &&& BitVec.ofInt 64 (b : Int)).toNat : Int) = _
  rw [BitVec.toNat_and, ofInt_i64 a ha, ofInt_i64 b hb, IntKind.wrap_i64]
  omega
theorem u8_odd (b : Nat) (h : b < 256) : (bits .and .u8 (b : Int) 1 == 1) = decide (b % 2 = 1) := by
  have := u8_and_nat b 1 h (by omega)
  rw [nat_mask1] at this
  rw [show (1 : Int) = ((1 : Nat) : Int) from rfl, this, Bool.eq_iff_iff]
  simp; omega
theorem i64_odd (b : Nat) (h : b < 9223372036854775808) : (bits .and .i64 (b : Int) 1 == 1) = decide (b % 2 = 1) := by
  have := i64_and_nat b 1 h (by omega)
  rw [nat_mask1] at this
  rw [show (1 : Int) = ((1 : Nat) : Int) from rfl, this, Bool.eq_iff_iff]
  simp; omega
theorem ret_int {k : IntKind} {a b : Int} (h : a = b) : Ending.returned (.int k a) = .returned (.int k b) := by rw [h]
theorem ret_bool {a b : Bool} (h : a = b) : Ending.returned (.bool a) = .returned (.bool b) := by rw [h]
theorem val_int {k : IntKind} {a b : Int} (h : a = b) : Value.int k a = .int k b := by rw [h]

theorem xt_big (x : Nat) (hx : x < 256) (h : 255 < (x : Int) * 2) : bits .xor .i64 ((x : Int) * 2) 285 = (Gf.xt x : Int) := by
  have := i64_xor_nat (2 * x) 285 (by omega) (by omega)
  rw [Gf.xt_if x hx, if_pos (by omega), ← this]
  congr 1; omega
theorem xt_small (x : Nat) (hx : x < 256) (h : (x : Int) * 2 ≤ 255) : (x : Int) * 2 = (Gf.xt x : Int) := by
  rw [Gf.xt_if x hx, if_neg (by omega)]; omega
theorem out_odd (b o x : Nat) (hb : b < 256) (ho : o < 256) (hx : x < 256) (h : (bits .and .u8 (b : Int) 1 == 1) = true) :
    bits .xor .i64 (o : Int) (x : Int) = ((if b % 2 = 1 then o ^^^ x else o : Nat) : Int) := by
  rw [u8_odd b hb] at h
  rw [if_pos (of_decide_eq_true h), i64_xor_nat o x (by omega) (by omega)]
theorem out_even (b o x : Nat) (hb : b < 256) (h : (bits .and .u8 (b : Int) 1 == 1) = false) :
    (o : Int) = ((if b % 2 = 1 then o ^^^ x else o : Nat) : Int) := by
  rw [u8_odd b hb] at h
  rw [if_neg (of_decide_eq_false h)]

def MulRel (a b : Nat) (vb vx vo : Value) : Prop := ∃ n b' x o : Nat, b' < 2 ^ n ∧ b' < 256 ∧ x < 256 ∧ o < 256 ∧ vb = .int .u8 b' ∧ vx = .int .i64 x ∧ vo = .int .i64 o ∧ Gf.st n b' x o = Gf.mul a b
theorem mul_next {a b n b' x o : Nat} {ix io : Int} (hn : b' < 2 ^ n) (hb : b' < 256) (hx : x < 256) (ho : o < 256) (hs : Gf.st n b' x o = Gf.mul a b) (h0 : 0 < b')
    (h1 : ix = (Gf.xt x : Int)) (h2 : io = ((if b' % 2 = 1 then o ^^^ x else o : Nat) : Int)) : MulRel a b (.int .u8 ((b' : Int) / 2)) (.int .i64 ix) (.int .i64 io) := by
  cases n with
  | zero => simp at hn; omega
  | succ n =>
    refine ⟨n, b' / 2, Gf.xt x, if b' % 2 = 1 then o ^^^ x else o, by rw [Nat.pow_succ] at hn; omega, by omega, Gf.xt_lt x hx, ?_, val_int (by omega), val_int h1, val_int h2, hs⟩
    split
    · exact Gf.xor_lt ho hx
    · exact ho
theorem mul_end {a b n x o : Nat} (hs : Gf.st n 0 x o = Gf.mul a b) : (o : Int) = (Gf.mul a b : Int) := by
  rw [Gf.st_b0] at hs
  rw [← hs]

/-- gf256.Mul returns the product. -/
theorem mul_any (a b : Nat) (ha : a < 256) (hb : b < 256) (w : World) :
    Calls Try.prog 34 #[.int .u8 a, .int .u8 b] w fun e w' => e = .returned (.int .u8 (Gf.mul a b)) ∧ w = w' := by
  go_enter Try.func34, Try.ntmps34
  go_wp2
  go_loop [1, 5, 6] (fun vb vx vo => MulRel a b vb vx vo) (fun vb _ _ => (intOf vb).toNat)
  case atStart => exact ⟨8, b, a, 0, hb, hb, ha, by omega, rfl, by go_num, rfl, rfl⟩
  case round =>
    obtain ⟨n, b', x, o, hn, hb', hx, ho, rfl, rfl, rfl, hs⟩ := hrel
    have HS := Lib.hid hs
    clear hs
    go_wp2
    case roundEnd =>
      go_round
      case rel => exact mul_next hn hb' hx ho HS.out (by omega) (xt_big x hx ‹_›) (out_odd b' o x hb' ho hx ‹_›)
      case measure => simp [intOf]; omega
    case roundEnd =>
      go_round
      case rel => exact mul_next hn hb' hx ho HS.out (by omega) (xt_small x hx ‹_›) (out_odd b' o x hb' ho hx ‹_›)
      case measure => simp [intOf]; omega
    case roundEnd =>
      go_round
      case rel => exact mul_next hn hb' hx ho HS.out (by omega) (xt_big x hx ‹_›) (out_even b' o x hb' ‹_›)
      case measure => simp [intOf]; omega
    case roundEnd =>
      go_round
      case rel => exact mul_next hn hb' hx ho HS.out (by omega) (xt_small x hx ‹_›) (out_even b' o x hb' ‹_›)
      case measure => simp [intOf]; omega
    obtain rfl : b' = 0 := by omega
    go_ret
    exact ⟨ret_int (mul_end HS.out), rfl⟩

def PowRel (r : Nat) (va ve vo : Value) : Prop := ∃ n a e o : Nat, e < 2 ^ n ∧ e < 4294967296 ∧ a < 256 ∧ o < 256 ∧ va = .int .u8 a ∧ ve = .int .i64 e ∧ vo = .int .u8 o ∧ Gf.pl n a e o = r
theorem pow_odd {r n a e o : Nat} (hn : e < 2 ^ n) (he : e < 4294967296) (ha : a < 256) (ho : o < 256) (hs : Gf.pl n a e o = r) (h0 : 0 < e) (h : (bits .and .i64 (e : Int) 1 == 1) = true) :
    PowRel r (.int .u8 (Gf.mul a a)) (.int .i64 ((e : Int) / 2)) (.int .u8 (Gf.mul o a)) := by
  rw [i64_odd e (by omega)] at h
  cases n with
  | zero => simp at hn; omega
  | succ n =>
    refine ⟨n, Gf.mul a a, e / 2, Gf.mul o a, by rw [Nat.pow_succ] at hn; omega, by omega, Gf.mul_lt a a ha, Gf.mul_lt o a ho, rfl, val_int (by omega), rfl, ?_⟩
    rw [Gf.pl, if_pos h0, if_pos (of_decide_eq_true h)] at hs
    exact hs
theorem pow_even {r n a e o : Nat} (hn : e < 2 ^ n) (he : e < 4294967296) (ha : a < 256) (ho : o < 256) (hs : Gf.pl n a e o = r) (h0 : 0 < e) (h : (bits .and .i64 (e : Int) 1 == 1) = false) :
    PowRel r (.int .u8 (Gf.mul a a)) (.int .i64 ((e : Int) / 2)) (.int .u8 o) := by
  rw [i64_odd e (by omega)] at h
  cases n with
  | zero => simp at hn; omega
  | succ n =>
    refine ⟨n, Gf.mul a a, e / 2, o, by rw [Nat.pow_succ] at hn; omega, by omega, Gf.mul_lt a a ha, ho, rfl, val_int (by omega), rfl, ?_⟩
    rw [Gf.pl, if_pos h0, if_neg (of_decide_eq_false h)] at hs
    exact hs
theorem pow_end {r n a o : Nat} (hs : Gf.pl n a 0 o = r) : (o : Int) = (r : Int) := by
  cases n with
  | zero => rw [← hs]; rfl
  | succ n => rw [Gf.pl, if_neg (by omega)] at hs; rw [hs]
/-- a power, by the steps of the code: exponents below 2^9 -/
def pwr (a e : Nat) : Nat := Gf.pl 9 a e 1
theorem pwr_lt (a e : Nat) (ha : a < 256) : pwr a e < 256 := Gf.pl_lt 9 a e 1 ha (by omega)
theorem pwr_ex (i e : Nat) (he : e < 512) : pwr (Gf.ex i) e = Gf.ex (i * e) := by
  have := Gf.pl_ex 9 i e 0 (by omega)
  rwa [Nat.zero_add] at this
theorem pwr_zero (e : Nat) (h0 : 0 < e) (he : e < 512) : pwr 0 e = 0 := Gf.pl_zero 9 e 1 h0 (by omega)

/-- gf256.power -/
theorem power_any (a e : Nat) (ha : a < 256) (he : e < 512) (w : World) :
    Calls Try.prog 31 #[.int .u8 a, .int .i64 e] w fun x w' => x = .returned (.int .u8 (pwr a e)) ∧ w = w' := by
  go_enter Try.func31, Try.ntmps31
  go_wp2
  go_loop [0, 1, 5] (fun va ve vo => PowRel (pwr a e) va ve vo) (fun _ ve _ => (intOf ve).toNat)
  case atStart => exact ⟨9, a, e, 1, by omega, by omega, ha, by omega, rfl, rfl, rfl, rfl⟩
  case round =>
    obtain ⟨n, a', e', o, hn, he', ha', ho, rfl, rfl, rfl, hs⟩ := hrel
    have HS := Lib.hid hs
    clear hs
    have hm1 := fun W => mul_any o a' ho ha' W
    have hm2 := fun W => mul_any a' a' ha' ha' W
    go_wp2_with (first | (go_at_call 34; with_reducible refine (hm1 _).mono ?_; rintro e w' ⟨rfl, rfl⟩) | (go_at_call 34; with_reducible refine (hm2 _).mono ?_; rintro e w' ⟨rfl, rfl⟩))
    case roundEnd =>
      go_round
      case rel => exact pow_odd hn he' ha' ho HS.out (by omega) ‹_›
      case measure => simp [intOf]; omega
    case roundEnd =>
      go_round
      case rel => exact pow_even hn he' ha' ho HS.out (by omega) ‹_›
      case measure => simp [intOf]; omega
    obtain rfl : e' = 0 := by omega
    go_ret
    exact ⟨ret_int (pow_end HS.out), rfl⟩

/-- the exponent from 0 to 254 -/
def expo (n : Int) : Nat := (n % 255).toNat
theorem expo_lt (n : Int) : expo n < 255 := by unfold expo; omega
theorem reduce_eq (n : Int) : (Int.tmod n 255 + 255) % 255 = (expo n : Int) := by
  unfold expo
  have h1 : Int.tmod n 255 = if 0 ≤ n then n % 255 else -((-n) % 255) := by
    split
    · exact Int.tmod_eq_emod_of_nonneg (by omega)
    · rw [← Int.tmod_eq_emod_of_nonneg (by omega), Int.neg_tmod, Int.neg_neg]
  rw [h1]
  split <;> omega
theorem tmod_bd (n : Int) : -255 < Int.tmod n 255 ∧ Int.tmod n 255 < 255 := by
  have h1 : Int.tmod n 255 = if 0 ≤ n then n % 255 else -((-n) % 255) := by
    split
    · exact Int.tmod_eq_emod_of_nonneg (by omega)
    · rw [← Int.tmod_eq_emod_of_nonneg (by omega), Int.neg_tmod, Int.neg_neg]
  rw [h1]
  split <;> omega

/-- gf256.reduce -/
theorem reduce_any (n : Int) (w : World) : Calls Try.prog 32 #[.int .i64 n] w fun x w' => x = .returned (.int .i64 (expo n : Int)) ∧ w = w' := by
  obtain ⟨h1, h2⟩ := tmod_bd n
  go_enter Try.func32, Try.ntmps32
  go_wp2
  go_ret
  exact ⟨ret_int (reduce_eq n), rfl⟩
/-- gf256.Exp -/
theorem exp_any (n : Int) (w : World) : Calls Try.prog 23 #[.int .i64 n] w fun x w' => x = .returned (.int .u8 (Gf.ex (expo n))) ∧ w = w' := by
  have he := expo_lt n
  have HP := Lib.hid (pwr_ex 1 (expo n) (by omega))
  go_enter Try.func23, Try.ntmps23
  go_wp2_with (first | (go_at_call 32; refine (reduce_any _ _).mono ?_; rintro e w' ⟨rfl, rfl⟩) | (go_at_call 31; refine (power_any 2 (expo n) (by omega) (by omega) _).mono ?_; rintro e w' ⟨rfl, rfl⟩))
  go_ret
  exact ⟨ret_int (by rw [show (2 : Nat) = Gf.ex 1 from rfl, HP.out, Nat.one_mul]), rfl⟩
def LogRel (a : Nat) (vn vx : Value) : Prop := ∃ n : Nat, n ≤ Gf.lg a ∧ vn = .int .i64 n ∧ vx = .int .u8 (Gf.ex n)