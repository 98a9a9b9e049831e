/- GF(256) over natural numbers below 256: the product by bits, its table of powers of 2, and the axioms; no program in sight. The walks of package gf256 and of its reference: each function returns what the plain functions of the text Gf say; no memory is touched. The walks of the rest of package gf256 that touches no memory, and of the reference tegularef01. Rows of bytes; the walk of parity.fused. The walks of the reference's Xor and Scale; of parity.Encode. Rows of blocks; the walk of the reference's Same. The walk of parity.Encode. The iterator of slices.Backward at blocks. From a walk outside of rounds to one within a round: regions that hold no defer. -/
import Derived.Test.YtlimlmfgeaokhaaProg
import Derived.WalkKit
import Derived.Laws.BitsAllLaws
import Derived.Lib.Hide
import Derived.StillTailTactics
import Derived.Laws.OwnMore
import Derived.Laws.Entries
import Derived.Deep.AppendLies
import Derived.Lib.SmallJoins
import Derived.Deep.QuietTactic
import Derived.BigQuiet
import Derived.Laws.StructEq
import Derived.Stop.BytesEq
import Derived.RangeFuncNested
import Derived.RangeFuncBox
import Derived.RangeFuncBound
import Derived.RangeFuncCalls
import Derived.RangeFuncLeaves
import Derived.Shelf.Abstract
import Derived.Shelf.RegionOpen
import Derived.OwnWalkIn
import Derived.TacticsInMore
import Derived.LoopNIn
import Derived.LoopIn
import Derived.Deep.RegionHeld3
namespace Go.Proofs.Ytlimlmfgeaokhaa.Gf

/-- times 2 -/
def xt (x : Nat) : Nat := (2 * x) ^^^ (285 * (x / 128))
theorem xt_lt (x : Nat) (h : x < 256) : xt x < 256 := by
  have H : ∀ x, x < 256 → xt x < 256 := by decide +kernel
  exact H x h
theorem xt_if (x : Nat) (h : x < 256) : xt x = if 2 * x > 255 then (2 * x) ^^^ 285 else 2 * x := by
  unfold xt
  split
  · rw [show x / 128 = 1 by omega]
  · rw [show x / 128 = 0 by omega]; simp
theorem two_xor (x y : Nat) : 2 * (x ^^^ y) = (2 * x) ^^^ (2 * y) := by
  have := Nat.shiftLeft_xor_distrib (a := x) (b := y) (i := 1)
  simpa [Nat.shiftLeft_eq, Nat.mul_comm] using this
theorem div128_xor (x y : Nat) : (x ^^^ y) / 128 = (x / 128) ^^^ (y / 128) := by
  have := Nat.shiftRight_xor_distrib (a := x) (b := y) (i := 7)
  simpa [Nat.shiftRight_eq_div_pow] using this
theorem xor_lt {x y : Nat} (hx : x < 256) (hy : y < 256) : x ^^^ y < 256 := Nat.xor_lt_two_pow (n := 8) hx hy
theorem xor4 (a b c d : Nat) : (a ^^^ b) ^^^ (c ^^^ d) = (a ^^^ c) ^^^ (b ^^^ d) := by
  rw [Nat.xor_assoc, Nat.xor_assoc, ← Nat.xor_assoc b c d, Nat.xor_comm b c, Nat.xor_assoc c b d]
theorem m285 (p q : Nat) (hp : p < 2) (hq : q < 2) : 285 * (p ^^^ q) = (285 * p) ^^^ (285 * q) := by
  have H : ∀ p, p < 2 → ∀ q, q < 2 → 285 * (p ^^^ q) = (285 * p) ^^^ (285 * q) := by decide +kernel
  exact H p hp q hq
theorem xt_xor (x y : Nat) (hx : x < 256) (hy : y < 256) : xt (x ^^^ y) = xt x ^^^ xt y := by
  unfold xt
  rw [two_xor, div128_xor, m285 _ _ (by omega) (by omega), xor4]
theorem xt_zero : xt 0 = 0 := rfl

/-- n bits of b: multiples of x are added to o -/
def st : Nat → Nat → Nat → Nat → Nat
  | 0, _, _, o => o
  | n + 1, b, x, o => st n (b / 2) (xt x) (if b % 2 = 1 then o ^^^ x else o)
def mul (a b : Nat) : Nat := st 8 b a 0

theorem st_lt : ∀ (n b x o : Nat), x < 256 → o < 256 → st n b x o < 256
  | 0, _, _, _, _, ho => ho
  | n + 1, b, x, o, hx, ho => by
    refine st_lt n _ _ _ (xt_lt x hx) ?_
    split
    · exact xor_lt ho hx
    · exact ho
theorem mul_lt (a b : Nat) (ha : a < 256) : mul a b < 256 := st_lt _ _ _ _ ha (by omega)
theorem st_b0 : ∀ (n x o : Nat), st n 0 x o = o
  | 0, _, _ => rfl
  | n + 1, x, o => by simp [st, st_b0 n]
theorem st_x0 : ∀ (n b o : Nat), st n b 0 o = o
  | 0, _, _ => rfl
  | n + 1, b, o => by
    unfold st
    rw [xt_zero, st_x0 n]
    split <;> simp
theorem st_xor : ∀ (n b x y o p : Nat), x < 256 → y < 256 → st n b (x ^^^ y) (o ^^^ p) = st n b x o ^^^ st n b y p
  | 0, _, _, _, _, _, _, _ => rfl
  | n + 1, b, x, y, o, p, hx, hy => by
    unfold st
    rw [xt_xor x y hx hy]
    split
    · rw [xor4, st_xor n _ _ _ _ _ (xt_lt x hx) (xt_lt y hy)]
    · rw [st_xor n _ _ _ _ _ (xt_lt x hx) (xt_lt y hy)]
theorem st_xt : ∀ (n b x o : Nat), x < 256 → o < 256 → st n b (xt x) (xt o) = xt (st n b x o)
  | 0, _, _, _, _, _ => rfl
  | n + 1, b, x, o, hx, ho => by
    unfold st
    split
    · rw [← xt_xor o x ho hx, st_xt n _ _ _ (xt_lt x hx) (xor_lt ho hx)]
    · rw [st_xt n _ _ _ (xt_lt x hx) ho]
theorem mul_xor_left (a b c : Nat) (ha : a < 256) (hb : b < 256) : mul (a ^^^ b) c = mul a c ^^^ mul b c := st_xor 8 c a b 0 0 ha hb
theorem mul_xt (a b : Nat) (ha : a < 256) : mul (xt a) b = xt (mul a b) := st_xt 8 b a 0 ha (by omega)
theorem one_mul (b : Nat) (hb : b < 256) : mul 1 b = b := by
  have H : ∀ b, b < 256 → mul 1 b = b := by decide +kernel
  exact H b hb
theorem zero_mul (b : Nat) : mul 0 b = 0 := st_x0 8 b 0
theorem mul_zero (a : Nat) : mul a 0 = 0 := st_b0 8 a 0

/-- times 2^i -/
def pw : Nat → Nat → Nat
  | 0, b => b
  | i + 1, b => xt (pw i b)
theorem pw_lt : ∀ (i b : Nat), b < 256 → pw i b < 256
  | 0, _, h => h
  | i + 1, b, h => xt_lt _ (pw_lt i b h)
theorem pw_add : ∀ (i j b : Nat), pw (i + j) b = pw i (pw j b)
  | 0, j, b => by simp [pw]
  | i + 1, j, b => by rw [Nat.add_right_comm]; show xt _ = xt _; rw [pw_add i j b]
/-- 2^i -/
def ex (i : Nat) : Nat := pw i 1
theorem ex_lt (i : Nat) : ex i < 256 := pw_lt i 1 (by omega)
theorem mul_ex (b : Nat) (hb : b < 256) : ∀ i : Nat, mul (ex i) b = pw i b
  | 0 => one_mul b hb
  | i + 1 => by
    show mul (xt (ex i)) b = xt (pw i b)
    rw [mul_xt _ _ (ex_lt i), mul_ex b hb i]
theorem ex_mul (i j : Nat) : mul (ex i) (ex j) = ex (i + j) := by rw [mul_ex _ (ex_lt j)]; exact (pw_add i j 1).symm
theorem ex_255 : ex 255 = 1 := by decide +kernel
theorem ex_period (n : Nat) : ex (n + 255) = ex n := by
  show pw (n + 255) 1 = pw n 1
  rw [pw_add]
  show pw n (ex 255) = _
  rw [ex_255]
theorem ex_add_mul (n : Nat) : ∀ m : Nat, ex (n + 255 * m) = ex n
  | 0 => rfl
  | m + 1 => by rw [show n + 255 * (m + 1) = (n + 255 * m) + 255 by omega, ex_period, ex_add_mul n m]
theorem ex_mod (n : Nat) : ex n = ex (n % 255) := by
  have := ex_add_mul (n % 255) (n / 255)
  rw [Nat.mod_add_div] at this
  exact this
theorem ex_eq {n m : Nat} (h : n % 255 = m % 255) : ex n = ex m := by rw [ex_mod n, ex_mod m, h]

/-- the logarithm, by search -/
def lgs : Nat → Nat → Nat → Nat → Nat
  | 0, _, _, _ => 0
  | f + 1, x, n, a => if x = a then n else lgs f (xt x) (n + 1) a
def lg (a : Nat) : Nat := lgs 255 1 0 a
theorem ex_lg (a : Nat) (h : a < 256) (h0 : a ≠ 0) : ex (lg a) = a := by
  have H : ∀ a, a < 256 → a ≠ 0 → ex (lg a) = a := by decide +kernel
  exact H a h h0
theorem lg_lt (a : Nat) (h : a < 256) : lg a < 255 := by
  have H : ∀ a, a < 256 → lg a < 255 := by decide +kernel
  exact H a h
theorem lg_ex (i : Nat) (h : i < 255) : lg (ex i) = i := by
  have H : ∀ i, i < 255 → lg (ex i) = i := by decide +kernel
  exact H i h
theorem ex_ne (i : Nat) : ex i ≠ 0 := by
  have H : ∀ i, i < 255 → ex i ≠ 0 := by decide +kernel
  rw [ex_mod]
  exact H _ (Nat.mod_lt _ (by omega))
theorem ex_inj {i j : Nat} (h : ex i = ex j) : i % 255 = j % 255 := by
  rw [ex_mod i, ex_mod j] at h
  have := congrArg lg h
  rwa [lg_ex _ (Nat.mod_lt _ (by omega)), lg_ex _ (Nat.mod_lt _ (by omega))] at this
/-- every element is 0 or a power -/
theorem as_ex (a : Nat) (h : a < 256) : a = 0 ∨ ∃ i, i < 255 ∧ a = ex i := by
  by_cases h0 : a = 0
  · exact .inl h0
  · exact .inr ⟨lg a, lg_lt a h, (ex_lg a h h0).symm⟩

theorem mul_comm (a b : Nat) (ha : a < 256) (hb : b < 256) : mul a b = mul b a := by
  rcases as_ex a ha with rfl | ⟨i, _, rfl⟩
  · rw [zero_mul, mul_zero]
  · rcases as_ex b hb with rfl | ⟨j, _, rfl⟩
    · rw [zero_mul, mul_zero]
    · rw [ex_mul, ex_mul, Nat.add_comm]
theorem mul_assoc (a b c : Nat) (ha : a < 256) (hb : b < 256) (hc : c < 256) : mul (mul a b) c = mul a (mul b c) := by
  rcases as_ex a ha with rfl | ⟨i, _, rfl⟩
  · simp only [zero_mul]
  · rcases as_ex b hb with rfl | ⟨j, _, rfl⟩
    · simp only [zero_mul, mul_zero]
    · rcases as_ex c hc with rfl | ⟨k, _, rfl⟩
      · simp only [mul_zero]
      · simp only [ex_mul, Nat.add_assoc]
theorem mul_xor_right (a b c : Nat) (ha : a < 256) (hb : b < 256) (hc : c < 256) : mul a (b ^^^ c) = mul a b ^^^ mul a c := by
  rw [mul_comm a _ ha (xor_lt hb hc), mul_xor_left b c a hb hc, mul_comm b a hb ha, mul_comm c a hc ha]
theorem mul_one (a : Nat) (ha : a < 256) : mul a 1 = a := by rw [mul_comm a 1 ha (by omega), one_mul a ha]
theorem mul_eq_zero {a b : Nat} (ha : a < 256) (hb : b < 256) (h : mul a b = 0) : a = 0 ∨ b = 0 := by
  rcases as_ex a ha with rfl | ⟨i, _, rfl⟩
  · exact .inl rfl
  · rcases as_ex b hb with rfl | ⟨j, _, rfl⟩
    · exact .inr rfl
    · exact absurd (by rwa [ex_mul] at h) (ex_ne (i + j))

/-- powers by squaring: e below 2^n -/
def pl : Nat → Nat → Nat → Nat → Nat
  | 0, _, _, o => o
  | n + 1, a, e, o => if 0 < e then pl n (mul a a) (e / 2) (if e % 2 = 1 then mul o a else o) else o
theorem pl_lt : ∀ (n a e o : Nat), a < 256 → o < 256 → pl n a e o < 256
  | 0, _, _, _, _, h => h
  | n + 1, a, e, o, ha, ho => by
    unfold pl
    split
    · refine pl_lt n _ _ _ (mul_lt a a ha) ?_
      split
      · exact mul_lt o a ho
      · exact ho
    · exact ho
theorem pl_ex : ∀ (n i e o : Nat), e < 2 ^ n → pl n (ex i) e (ex o) = ex (o + i * e)
  | 0, i, e, o, h => by
    obtain rfl : e = 0 := by simp at h; exact h
    simp [pl]
  | n + 1, i, e, o, h => by
    unfold pl
    by_cases h0 : 0 < e
    · rw [if_pos h0, ex_mul]
      have hd : e = 2 * (e / 2) + e % 2 := by omega
      have hlt : e / 2 < 2 ^ n := by rw [Nat.pow_succ] at h; omega
      by_cases h1 : e % 2 = 1
      · rw [if_pos h1, ex_mul, pl_ex n _ _ _ hlt]
        congr 1
        rw [Nat.add_assoc]
        congr 1
        conv => rhs; rw [hd, h1, Nat.mul_add, ← Nat.mul_assoc, Nat.mul_one, Nat.mul_two]
        omega
      · rw [if_neg h1, pl_ex n _ _ _ hlt]
        congr 1
        have h2 : e % 2 = 0 := by omega
        conv => rhs; rw [hd, h2, Nat.add_zero, ← Nat.mul_assoc, Nat.mul_two]
    · obtain rfl : e = 0 := by omega
      simp
theorem pl_zero : ∀ (n e o : Nat), 0 < e → e < 2 ^ n → pl n 0 e o = 0
  | 0, e, o, h0, h => by simp at h; omega
  | n + 1, e, o, h0, h => by
    unfold pl
    rw [if_pos h0, zero_mul, mul_zero]
    have hlt : e / 2 < 2 ^ n := by rw [Nat.pow_succ] at h; omega
    by_cases he : 0 < e / 2
    · exact pl_zero n _ _ he hlt
    · have h1 : e = 1 := by omega
      subst h1
      cases n <;> simp [pl]

/-- powers by definition -/
def npow (a : Nat) : Nat → Nat
  | 0 => 1
  | n + 1 => mul (npow a n) a
theorem npow_ex (i : Nat) : ∀ n, npow (ex i) n = ex (i * n)
  | 0 => rfl
  | n + 1 => by
    show mul (npow (ex i) n) (ex i) = _
    rw [npow_ex i n, ex_mul, Nat.mul_succ]
theorem npow_lt (a : Nat) : ∀ n, npow a n < 256
  | 0 => by show 1 < 256; omega
  | n + 1 => mul_lt _ _ (npow_lt a n)
theorem npow_zero (n : Nat) (h : 0 < n) : npow 0 n = 0 := by
  cases n with
  | zero => omega
  | succ n => exact mul_zero _

/-- the product of polynomials and its remainder, as the reference has it -/
def pr : Nat → Nat → Nat → Nat → Nat → Nat
  | 0, _, _, _, p => p
  | n + 1, k, a, b, p => pr n (k + 1) a b (if b / 2 ^ k % 2 = 1 then p ^^^ (a * 2 ^ k) else p)
def rd1 (k p : Nat) : Nat := if p / 2 ^ k % 2 = 1 then p ^^^ (285 * 2 ^ (k - 8)) else p
def red : Nat → Nat → Nat
  | 0, p => p
  | n + 1, p => red n (rd1 (n + 8) p)
theorem div_pow_xor (k x y : Nat) : (x ^^^ y) / 2 ^ k = (x / 2 ^ k) ^^^ (y / 2 ^ k) := by
  have := Nat.shiftRight_xor_distrib (a := x) (b := y) (i := k)
  simpa [Nat.shiftRight_eq_div_pow] using this
theorem mod2_xor (x y : Nat) : (x ^^^ y) % 2 = (x % 2 + y % 2) % 2 := by
  have h := Nat.xor_mod_two_pow (a := x) (b := y) (n := 1)
  rw [Nat.pow_one] at h
  rw [h]
  rcases Nat.mod_two_eq_zero_or_one x with hx | hx <;> rcases Nat.mod_two_eq_zero_or_one y with hy | hy <;> rw [hx, hy] <;> rfl
theorem one_of {q : Nat} (h : q < 2) (h1 : q % 2 = 1) : q = 1 := by omega
theorem zero_of {q : Nat} (h : q < 2) (h1 : ¬ q % 2 = 1) : q = 0 := by omega
theorem rd1_xor (k x y : Nat) : rd1 k (x ^^^ y) = rd1 k x ^^^ rd1 k y := by
  unfold rd1
  rw [div_pow_xor, mod2_xor]
  generalize 285 * 2 ^ (k - 8) = c
  by_cases h1 : x / 2 ^ k % 2 = 1 <;> by_cases h2 : y / 2 ^ k % 2 = 1
  · rw [h1, h2, if_neg (by omega), if_pos rfl, if_pos rfl, xor4, Nat.xor_self, Nat.xor_zero]
  · rw [h1, if_pos (by omega), if_pos rfl, if_neg h2, Nat.xor_assoc, Nat.xor_assoc, Nat.xor_comm y c]
  · rw [h2, if_pos (by omega), if_neg h1, if_pos rfl, Nat.xor_assoc]
  · rw [if_neg (by omega), if_neg h1, if_neg h2]
theorem red_xor : ∀ (n x y : Nat), red n (x ^^^ y) = red n x ^^^ red n y
  | 0, _, _ => rfl
  | n + 1, x, y => by
    unfold red
    rw [rd1_xor, red_xor n]
theorem red_shift (k a : Nat) (hk : k < 8) (ha : a < 256) : red 7 (a * 2 ^ k) = pw k a := by
  have H : ∀ k, k < 8 → ∀ a, a < 256 → red 7 (a * 2 ^ k) = pw k a := by decide +kernel
  exact H k hk a ha
theorem pr_red : ∀ (n k a b p o : Nat), n + k = 8 → a < 256 → red 7 p = o → red 7 (pr n k a b p) = st n (b / 2 ^ k) (pw k a) o
  | 0, _, _, _, _, _, _, _, h => h
  | n + 1, k, a, b, p, o, hk, ha, h => by
    unfold pr st
    have hp : b / 2 ^ k / 2 = b / 2 ^ (k + 1) := by rw [Nat.div_div_eq_div_mul, Nat.pow_succ]
    rw [hp]
    refine pr_red n (k + 1) a b _ _ (by omega) ha ?_
    split
    · rw [red_xor, h, red_shift k a (by omega) ha]
    · exact h
theorem refmul (a b : Nat) (ha : a < 256) : red 7 (pr 8 0 a b 0) = mul a b := by
  have := pr_red 8 0 a b 0 0 rfl ha (by decide +kernel)
  simpa [mul, pw] using this
theorem pr_lt : ∀ (n k a b p : Nat), n + k = 8 → a < 256 → p < 2 ^ 15 → pr n k a b p < 2 ^ 15
  | 0, _, _, _, _, _, _, h => h
  | n + 1, k, a, b, p, hk, ha, h => by
    unfold pr
    refine pr_lt n (k + 1) a b _ (by omega) ha ?_
    split
    · refine Nat.xor_lt_two_pow h ?_
      have : 2 ^ k ≤ 2 ^ 7 := Nat.pow_le_pow_right (by omega) (by omega)
      have : a * 2 ^ k ≤ 255 * 2 ^ 7 := Nat.mul_le_mul (by omega) this
      omega
    · exact h
theorem rd1_lt (n p : Nat) (hn : n < 7) (h : p < 2 ^ (n + 9)) : rd1 (n + 8) p < 2 ^ (n + 8) := by
  have hp : 0 < 2 ^ (n + 8) := Nat.pow_pos (by omega)
  have h9 : p < 2 ^ (n + 8) * 2 := by rw [← Nat.pow_succ]; exact h
  unfold rd1
  have hdiv : p / 2 ^ (n + 8) < 2 := Nat.div_lt_of_lt_mul h9
  split
  · rename_i h1
    have hd1 : p / 2 ^ (n + 8) = 1 := one_of hdiv h1
    have hx : p ^^^ (285 * 2 ^ (n + 8 - 8)) < 2 ^ (n + 9) := by
      refine Nat.xor_lt_two_pow h ?_
      have H : ∀ n, n < 7 → 285 * 2 ^ (n + 8 - 8) < 2 ^ (n + 9) := by decide +kernel
      exact H n hn
    have hz : (p ^^^ (285 * 2 ^ (n + 8 - 8))) / 2 ^ (n + 8) = 0 := by
      rw [div_pow_xor, hd1]
      have H : ∀ n, n < 7 → 1 ^^^ 285 * 2 ^ (n + 8 - 8) / 2 ^ (n + 8) = 0 := by decide +kernel
      exact H n hn
    exact (Nat.div_eq_zero_iff.1 hz).resolve_left (by omega)
  · rename_i h1
    have hz : p / 2 ^ (n + 8) = 0 := zero_of hdiv h1
    exact (Nat.div_eq_zero_iff.1 hz).resolve_left (by omega)
end Go.Proofs.Ytlimlmfgeaokhaa.Gf
namespace Go.Proofs.Ytlimlmfgeaokhaa
open Go.RowKit

theorem ofInt_i64 (a : Nat) (ha : a < 9223372036854775808) : (BitVec.ofInt 64 (a : Int)).toNat = a := by
  rw [BitVec.ofInt_natCast, BitVec.toNat_ofNat]; exact Nat.mod_eq_of_lt (by omega)
theorem i64_xor_nat (a b : Nat) (ha : a < 9223372036854775808) (hb : b < 9223372036854775808) : bits .xor .i64 (a : Int) (b : Int) = ((a ^^^ b : Nat) : Int) := by
  have hx : a ^^^ b < 2 ^ 63 := Nat.xor_lt_two_pow (by omega) (by omega)
  show IntKind.i64.wrap ((BitVec.ofInt 64 (a : Int) ^^^ BitVec.ofInt 64 (b : Int)).toNat : Int) = _
  rw [BitVec.toNat_xor, ofInt_i64 a ha, ofInt_i64 b hb, IntKind.wrap_i64]
  omega
theorem i64_and_nat (a b : Nat) (ha : a < 9223372036854775808) (hb : b < 9223372036854775808) : bits .and .i64 (a : Int) (b : Int) = ((a &&& b : Nat) : Int) := by
  have hx : a &&& b < 2 ^ 63 := Nat.and_lt_two_pow _ (by omega)
  show IntKind.i64.wrap ((BitVec.ofInt 64 (a : Int) &&& BitVec.ofInt 64 (b : Int)).toNat : Int) = _
  rw [BitVec.toNat_and, ofInt_i64 a ha, ofInt_i64 b hb, IntKind.wrap_i64]
  omega
theorem u8_odd (b : Nat) (h : b < 256) : (bits .and .u8 (b : Int) 1 == 1) = decide (b % 2 = 1) := by
  have := u8_and_nat b 1 h (by omega)
  rw [nat_mask1] at this
  rw [show (1 : Int) = ((1 : Nat) : Int) from rfl, this, Bool.eq_iff_iff]
  simp; omega
theorem i64_odd (b : Nat) (h : b < 9223372036854775808) : (bits .and .i64 (b : Int) 1 == 1) = decide (b % 2 = 1) := by
  have := i64_and_nat b 1 h (by omega)
  rw [nat_mask1] at this
  rw [show (1 : Int) = ((1 : Nat) : Int) from rfl, this, Bool.eq_iff_iff]
  simp; omega
theorem ret_int {k : IntKind} {a b : Int} (h : a = b) : Ending.returned (.int k a) = .returned (.int k b) := by rw [h]
theorem ret_bool {a b : Bool} (h : a = b) : Ending.returned (.bool a) = .returned (.bool b) := by rw [h]
theorem val_int {k : IntKind} {a b : Int} (h : a = b) : Value.int k a = .int k b := by rw [h]

theorem xt_big (x : Nat) (hx : x < 256) (h : 255 < (x : Int) * 2) : bits .xor .i64 ((x : Int) * 2) 285 = (Gf.xt x : Int) := by
  have := i64_xor_nat (2 * x) 285 (by omega) (by omega)
  rw [Gf.xt_if x hx, if_pos (by omega), ← this]
  congr 1; omega
theorem xt_small (x : Nat) (hx : x < 256) (h : (x : Int) * 2 ≤ 255) : (x : Int) * 2 = (Gf.xt x : Int) := by
  rw [Gf.xt_if x hx, if_neg (by omega)]; omega
theorem out_odd (b o x : Nat) (hb : b < 256) (ho : o < 256) (hx : x < 256) (h : (bits .and .u8 (b : Int) 1 == 1) = true) :
    bits .xor .i64 (o : Int) (x : Int) = ((if b % 2 = 1 then o ^^^ x else o : Nat) : Int) := by
  rw [u8_odd b hb] at h
  rw [if_pos (of_decide_eq_true h), i64_xor_nat o x (by omega) (by omega)]
theorem out_even (b o x : Nat) (hb : b < 256) (h : (bits .and .u8 (b : Int) 1 == 1) = false) :
    (o : Int) = ((if b % 2 = 1 then o ^^^ x else o : Nat) : Int) := by
  rw [u8_odd b hb] at h
  rw [if_neg (of_decide_eq_false h)]

def MulRel (a b : Nat) (vb vx vo : Value) : Prop := ∃ n b' x o : Nat, b' < 2 ^ n ∧ b' < 256 ∧ x < 256 ∧ o < 256 ∧ vb = .int .u8 b' ∧ vx = .int .i64 x ∧ vo = .int .i64 o ∧ Gf.st n b' x o = Gf.mul a b
theorem mul_next {a b n b' x o : Nat} {ix io : Int} (hn : b' < 2 ^ n) (hb : b' < 256) (hx : x < 256) (ho : o < 256) (hs : Gf.st n b' x o = Gf.mul a b) (h0 : 0 < b')
    (h1 : ix = (Gf.xt x : Int)) (h2 : io = ((if b' % 2 = 1 then o ^^^ x else o : Nat) : Int)) : MulRel a b (.int .u8 ((b' : Int) / 2)) (.int .i64 ix) (.int .i64 io) := by
  cases n with
  | zero => simp at hn; omega
  | succ n =>
    refine ⟨n, b' / 2, Gf.xt x, if b' % 2 = 1 then o ^^^ x else o, by rw [Nat.pow_succ] at hn; omega, by omega, Gf.xt_lt x hx, ?_, val_int (by omega), val_int h1, val_int h2, hs⟩
    split
    · exact Gf.xor_lt ho hx
    · exact ho
theorem mul_end {a b n x o : Nat} (hs : Gf.st n 0 x o = Gf.mul a b) : (o : Int) = (Gf.mul a b : Int) := by
  rw [Gf.st_b0] at hs
  rw [← hs]

/-- gf256.Mul returns the product. -/
theorem mul_any (a b : Nat) (ha : a < 256) (hb : b < 256) (w : World) :
    Calls Try.prog 32 #[.int .u8 a, .int .u8 b] w fun e w' => e = .returned (.int .u8 (Gf.mul a b)) ∧ w = w' := by
  go_enter Try.func32, Try.ntmps32
  go_wp2
  go_loop [1, 5, 6] (fun vb vx vo => MulRel a b vb vx vo) (fun vb _ _ => (intOf vb).toNat)
  case atStart => exact ⟨8, b, a, 0, hb, hb, ha, by omega, rfl, by go_num, rfl, rfl⟩
  case round =>
    obtain ⟨n, b', x, o, hn, hb', hx, ho, rfl, rfl, rfl, hs⟩ := hrel
    have HS := Lib.hid hs
    clear hs
    go_wp2
    case roundEnd =>
      go_round
      case rel => exact mul_next hn hb' hx ho HS.out (by omega) (xt_big x hx ‹_›) (out_odd b' o x hb' ho hx ‹_›)
      case measure => simp [intOf]; omega
    case roundEnd =>
      go_round
      case rel => exact mul_next hn hb' hx ho HS.out (by omega) (xt_small x hx ‹_›) (out_odd b' o x hb' ho hx ‹_›)
      case measure => simp [intOf]; omega
    case roundEnd =>
      go_round
      case rel => exact mul_next hn hb' hx ho HS.out (by omega) (xt_big x hx ‹_›) (out_even b' o x hb' ‹_›)
      case measure => simp [intOf]; omega
    case roundEnd =>
      go_round
      case rel => exact mul_next hn hb' hx ho HS.out (by omega) (xt_small x hx ‹_›) (out_even b' o x hb' ‹_›)
      case measure => simp [intOf]; omega
    obtain rfl : b' = 0 := by omega
    go_ret
    exact ⟨ret_int (mul_end HS.out), rfl⟩

def PowRel (r : Nat) (va ve vo : Value) : Prop := ∃ n a e o : Nat, e < 2 ^ n ∧ e < 4294967296 ∧ a < 256 ∧ o < 256 ∧ va = .int .u8 a ∧ ve = .int .i64 e ∧ vo = .int .u8 o ∧ Gf.pl n a e o = r
theorem pow_odd {r n a e o : Nat} (hn : e < 2 ^ n) (he : e < 4294967296) (ha : a < 256) (ho : o < 256) (hs : Gf.pl n a e o = r) (h0 : 0 < e) (h : (bits .and .i64 (e : Int) 1 == 1) = true) :
    PowRel r (.int .u8 (Gf.mul a a)) (.int .i64 ((e : Int) / 2)) (.int .u8 (Gf.mul o a)) := by
  rw [i64_odd e (by omega)] at h
  cases n with
  | zero => simp at hn; omega
  | succ n =>
    refine ⟨n, Gf.mul a a, e / 2, Gf.mul o a, by rw [Nat.pow_succ] at hn; omega, by omega, Gf.mul_lt a a ha, Gf.mul_lt o a ho, rfl, val_int (by omega), rfl, ?_⟩
    rw [Gf.pl, if_pos h0, if_pos (of_decide_eq_true h)] at hs
    exact hs
theorem pow_even {r n a e o : Nat} (hn : e < 2 ^ n) (he : e < 4294967296) (ha : a < 256) (ho : o < 256) (hs : Gf.pl n a e o = r) (h0 : 0 < e) (h : (bits .and .i64 (e : Int) 1 == 1) = false) :
    PowRel r (.int .u8 (Gf.mul a a)) (.int .i64 ((e : Int) / 2)) (.int .u8 o) := by
  rw [i64_odd e (by omega)] at h
  cases n with
  | zero => simp at hn; omega
  | succ n =>
    refine ⟨n, Gf.mul a a, e / 2, o, by rw [Nat.pow_succ] at hn; omega, by omega, Gf.mul_lt a a ha, ho, rfl, val_int (by omega), rfl, ?_⟩
    rw [Gf.pl, if_pos h0, if_neg (of_decide_eq_false h)] at hs
    exact hs
theorem pow_end {r n a o : Nat} (hs : Gf.pl n a 0 o = r) : (o : Int) = (r : Int) := by
  cases n with
  | zero => rw [← hs]; rfl
  | succ n => rw [Gf.pl, if_neg (by omega)] at hs; rw [hs]
/-- a power, by the steps of the code: exponents below 2^9 -/
def pwr (a e : Nat) : Nat := Gf.pl 9 a e 1
theorem pwr_lt (a e : Nat) (ha : a < 256) : pwr a e < 256 := Gf.pl_lt 9 a e 1 ha (by omega)
theorem pwr_ex (i e : Nat) (he : e < 512) : pwr (Gf.ex i) e = Gf.ex (i * e) := by
  have := Gf.pl_ex 9 i e 0 (by omega)
  rwa [Nat.zero_add] at this
theorem pwr_zero (e : Nat) (h0 : 0 < e) (he : e < 512) : pwr 0 e = 0 := Gf.pl_zero 9 e 1 h0 (by omega)

/-- gf256.power -/
theorem power_any (a e : Nat) (ha : a < 256) (he : e < 512) (w : World) :
    Calls Try.prog 45 #[.int .u8 a, .int .i64 e] w fun x w' => x = .returned (.int .u8 (pwr a e)) ∧ w = w' := by
  go_enter Try.func45, Try.ntmps45
  go_wp2
  go_loop [0, 1, 5] (fun va ve vo => PowRel (pwr a e) va ve vo) (fun _ ve _ => (intOf ve).toNat)
  case atStart => exact ⟨9, a, e, 1, by omega, by omega, ha, by omega, rfl, rfl, rfl, rfl⟩
  case round =>
    obtain ⟨n, a', e', o, hn, he', ha', ho, rfl, rfl, rfl, hs⟩ := hrel
    have HS := Lib.hid hs
    clear hs
    have hm1 := fun W => mul_any o a' ho ha' W
    have hm2 := fun W => mul_any a' a' ha' ha' W
    go_wp2_with (first | (go_at_call 32; with_reducible refine (hm1 _).mono ?_; rintro e w' ⟨rfl, rfl⟩) | (go_at_call 32; with_reducible refine (hm2 _).mono ?_; rintro e w' ⟨rfl, rfl⟩))
    case roundEnd =>
      go_round
      case rel => exact pow_odd hn he' ha' ho HS.out (by omega) ‹_›
      case measure => simp [intOf]; omega
    case roundEnd =>
      go_round
      case rel => exact pow_even hn he' ha' ho HS.out (by omega) ‹_›
      case measure => simp [intOf]; omega
    obtain rfl : e' = 0 := by omega
    go_ret
    exact ⟨ret_int (pow_end HS.out), rfl⟩

/-- the exponent from 0 to 254 -/
def expo (n : Int) : Nat := (n % 255).toNat
theorem expo_lt (n : Int) : expo n < 255 := by unfold expo; omega
theorem reduce_eq (n : Int) : (Int.tmod n 255 + 255) % 255 = (expo n : Int) := by
  unfold expo
  have h1 : Int.tmod n 255 = if 0 ≤ n then n % 255 else -((-n) % 255) := by
    split
    · exact Int.tmod_eq_emod_of_nonneg (by omega)
    · rw [← Int.tmod_eq_emod_of_nonneg (by omega), Int.neg_tmod, Int.neg_neg]
  rw [h1]
  split <;> omega
theorem tmod_bd (n : Int) : -255 < Int.tmod n 255 ∧ Int.tmod n 255 < 255 := by
  have h1 : Int.tmod n 255 = if 0 ≤ n then n % 255 else -((-n) % 255) := by
    split
    · exact Int.tmod_eq_emod_of_nonneg (by omega)
    · rw [← Int.tmod_eq_emod_of_nonneg (by omega), Int.neg_tmod, Int.neg_neg]
  rw [h1]
  split <;> omega

/-- gf256.reduce -/
theorem reduce_any (n : Int) (w : World) : Calls Try.prog 46 #[.int .i64 n] w fun x w' => x = .returned (.int .i64 (expo n : Int)) ∧ w = w' := by
  obtain ⟨h1, h2⟩ := tmod_bd n
  go_enter Try.func46, Try.ntmps46
  go_wp2
  go_ret
  exact ⟨ret_int (reduce_eq n), rfl⟩
/-- gf256.Exp -/
theorem exp_any (n : Int) (w : World) : Calls Try.prog 25 #[.int .i64 n] w fun x w' => x = .returned (.int .u8 (Gf.ex (expo n))) ∧ w = w' := by
  have he := expo_lt n
  have HP := Lib.hid (pwr_ex 1 (expo n) (by omega))
  go_enter Try.func25, Try.ntmps25
  go_wp2_with (first | (go_at_call 46; refine (reduce_any _ _).mono ?_; rintro e w' ⟨rfl, rfl⟩) | (go_at_call 45; refine (power_any 2 (expo n) (by omega) (by omega) _).mono ?_; rintro e w' ⟨rfl, rfl⟩))
  go_ret
  exact ⟨ret_int (by rw [show (2 : Nat) = Gf.ex 1 from rfl, HP.out, Nat.one_mul]), rfl⟩
def LogRel (a : Nat) (vn vx : Value) : Prop := ∃ n : Nat, n ≤ Gf.lg a ∧ vn = .int .i64 n ∧ vx = .int .u8 (Gf.ex n)
/-- gf256.Inv -/
theorem inv_zero (w : World) : Calls Try.prog 53 #[.int .u8 0] w fun x w' => x = .returned (.tuple #[.int .u8 0, .int .i64 3]) ∧ w = w' := by
  go_enter Try.func53, Try.ntmps53
  go_wp2
  go_ret2
  exact ⟨rfl, rfl⟩
theorem inv_any (a : Nat) (ha : a < 256) (h0 : a ≠ 0) (w : World) : Calls Try.prog 53 #[.int .u8 a] w fun x w' => x = .returned (.tuple #[.int .u8 (pwr a 254), .int .i64 0]) ∧ w = w' := by
  have hz : ((a : Int) == 0) = false := by simpa using h0
  go_enter Try.func53, Try.ntmps53
  go_wp2_with (go_at_call 45; refine (power_any a 254 ha (by omega) _).mono ?_; rintro e w' ⟨rfl, rfl⟩)
  go_ret2
  exact ⟨rfl, rfl⟩

end Go.Proofs.Ytlimlmfgeaokhaa
namespace Go.Proofs.Ytlimlmfgeaokhaa
open Go.RowKit

theorem cast_div_pow (b k : Nat) : ((b : Int) / 2 ^ k) = ((b / 2 ^ k : Nat) : Int) := by simp
theorem cast_mul_pow (a k : Nat) : ((a : Int) * 2 ^ k) = ((a * 2 ^ k : Nat) : Int) := by simp
theorem bit_u8 (b k : Nat) (hb : b < 256) : (bits .and .u8 ((b : Int) / 2 ^ k) 1 == 1) = decide (b / 2 ^ k % 2 = 1) := by
  rw [cast_div_pow]
  exact u8_odd _ (Nat.lt_of_le_of_lt (Nat.div_le_self _ _) hb)
theorem bit_i64 (b k : Nat) (hb : b < 9223372036854775808) : (bits .and .i64 ((b : Int) / 2 ^ k) 1 == 1) = decide (b / 2 ^ k % 2 = 1) := by
  rw [cast_div_pow]
  exact i64_odd _ (Nat.lt_of_le_of_lt (Nat.div_le_self _ _) hb)
theorem shl_small (a k : Nat) (ha : a < 512) (hk : k ≤ 8) : wrap64 ((a : Int) * 2 ^ k) = ((a * 2 ^ k : Nat) : Int) := by
  have h1 : 2 ^ k ≤ 2 ^ 8 := Nat.pow_le_pow_right (by omega) hk
  have h2 : a * 2 ^ k ≤ 511 * 2 ^ 8 := Nat.mul_le_mul (by omega) h1
  rw [cast_mul_pow]
  unfold wrap64
  omega
theorem shl_lt (a k : Nat) (ha : a < 512) (hk : k ≤ 8) : a * 2 ^ k < 131072 := by
  have h1 : 2 ^ k ≤ 2 ^ 8 := Nat.pow_le_pow_right (by omega) hk
  have h2 : a * 2 ^ k ≤ 511 * 2 ^ 8 := Nat.mul_le_mul (by omega) h1
  omega

def RMul1 (a b : Nat) (vp vk : Value) : Prop := ∃ k p : Nat, k ≤ 8 ∧ p < 32768 ∧ vp = .int .i64 p ∧ vk = .int .i64 k ∧ Gf.red 7 (Gf.pr (8 - k) k a b p) = Gf.mul a b
theorem rmul1_odd {a b k p : Nat} (ha : a < 256) (hb : b < 256) (hp : p < 32768) (hs : Gf.red 7 (Gf.pr (8 - k) k a b p) = Gf.mul a b) (hk : (k : Int) < 8)
    (h : (bits .and .u8 ((b : Int) / 2 ^ k) 1 == 1) = true) : RMul1 a b (.int .i64 (bits .xor .i64 (p : Int) (wrap64 ((a : Int) * 2 ^ k)))) (.int .i64 ((k : Int) + 1)) := by
  rw [bit_u8 b k hb] at h
  have h1 := of_decide_eq_true h
  rw [show 8 - k = (8 - (k + 1)) + 1 by omega, Gf.pr, if_pos h1] at hs
  have hl : a * 2 ^ k < 32768 := by
    have h1 : 2 ^ k ≤ 2 ^ 7 := Nat.pow_le_pow_right (by omega) (by omega)
    have h2 : a * 2 ^ k ≤ 255 * 2 ^ 7 := Nat.mul_le_mul (by omega) h1
    omega
  refine ⟨k + 1, p ^^^ (a * 2 ^ k), by omega, Nat.xor_lt_two_pow (n := 15) hp hl, val_int ?_, by go_num, hs⟩
  rw [shl_small a k (by omega) (by omega), i64_xor_nat _ _ (by omega) (by omega)]
theorem rmul1_even {a b k p : Nat} (hb : b < 256) (hp : p < 32768) (hs : Gf.red 7 (Gf.pr (8 - k) k a b p) = Gf.mul a b) (hk : (k : Int) < 8)
    (h : (bits .and .u8 ((b : Int) / 2 ^ k) 1 == 1) = false) : RMul1 a b (.int .i64 (p : Int)) (.int .i64 ((k : Int) + 1)) := by
  rw [bit_u8 b k hb] at h
  have h1 := of_decide_eq_false h
  rw [show 8 - k = (8 - (k + 1)) + 1 by omega, Gf.pr, if_neg h1] at hs
  exact ⟨k + 1, p, by omega, hp, rfl, by go_num, hs⟩
def RMul2 (r : Nat) (vp vk : Value) : Prop := ∃ n p : Nat, n ≤ 7 ∧ p < 2 ^ (n + 8) ∧ vp = .int .i64 p ∧ vk = .int .i64 ((n : Int) + 7) ∧ Gf.red n p = r
theorem rmul2_step {r n p : Nat} {ip : Int} (hn : n ≤ 7) (hp : p < 2 ^ (n + 8)) (hs : Gf.red n p = r) (h8 : (8 : Int) ≤ (n : Int) + 7) (h : ip = ((Gf.rd1 (n + 7) p : Nat) : Int)) :
    RMul2 r (.int .i64 ip) (.int .i64 ((n : Int) + 7 - 1)) := by
  cases n with
  | zero => omega
  | succ n =>
    refine ⟨n, Gf.rd1 (n + 8) p, by omega, Gf.rd1_lt n p (by omega) hp, ?_, val_int (by omega), hs⟩
    rw [h]
theorem pow_le_15 {n p : Nat} (hn : n ≤ 7) (hp : p < 2 ^ (n + 8)) : p < 32768 := by
  have h1 : 2 ^ (n + 8) ≤ 2 ^ 15 := Nat.pow_le_pow_right (by omega) (by omega)
  omega
theorem rmul2_odd {n p : Nat} (hn : n ≤ 7) (hp : p < 2 ^ (n + 8)) (h8 : (8 : Int) ≤ (n : Int) + 7) (h : (bits .and .i64 ((p : Int) / 2 ^ (n + 7)) 1 == 1) = true) :
    bits .xor .i64 (p : Int) (wrap64 (285 * 2 ^ (n - 1))) = ((Gf.rd1 (n + 7) p : Nat) : Int) := by
  have hq := pow_le_15 hn hp
  rw [bit_i64 p (n + 7) (by omega)] at h
  have h1 := of_decide_eq_true h
  have h2 := shl_lt 285 (n - 1) (by omega) (by omega)
  have h3 := shl_small 285 (n - 1) (by omega) (by omega)
  rw [show ((285 : Nat) : Int) = 285 from rfl] at h3
  rw [h3, i64_xor_nat _ _ (by omega) (by omega), Gf.rd1, if_pos h1, show n + 7 - 8 = n - 1 by omega]
theorem rmul2_even {n p : Nat} (hn : n ≤ 7) (hp : p < 2 ^ (n + 8)) (h : (bits .and .i64 ((p : Int) / 2 ^ (n + 7)) 1 == 1) = false) :
    (p : Int) = ((Gf.rd1 (n + 7) p : Nat) : Int) := by
  have hq := pow_le_15 hn hp
  rw [bit_i64 p (n + 7) (by omega)] at h
  rw [Gf.rd1, if_neg (of_decide_eq_false h)]

theorem expo_cases (n : Int) : (expo n : Int) = if Int.tmod n 255 < 0 then Int.tmod n 255 + 255 else Int.tmod n 255 := by
  have h := reduce_eq n
  obtain ⟨h1, h2⟩ := tmod_bd n
  split <;> omega
/-- the inverse of a power of 2, by the logarithm -/
def ivn (a : Nat) : Nat := Gf.ex (255 - Gf.lg a)
theorem ivn_lt (a : Nat) : ivn a < 256 := Gf.ex_lt _
theorem ivn_mul (a : Nat) (ha : a < 256) (h0 : a ≠ 0) : Gf.mul a (ivn a) = 1 := by
  have h1 := Gf.lg_lt a ha
  have h2 : Gf.mul (Gf.ex (Gf.lg a)) (ivn a) = 1 := by
    rw [ivn, Gf.ex_mul, show Gf.lg a + (255 - Gf.lg a) = 255 by omega, Gf.ex_255]
  rwa [Gf.ex_lg a ha h0] at h2
theorem ivn_only (a b : Nat) (ha : a < 256) (h0 : a ≠ 0) (hb : b < 256) (h : Gf.mul a b = 1) : b = ivn a := by
  have h1 := Gf.lg_lt a ha
  rcases Gf.as_ex b hb with rfl | ⟨j, hj, rfl⟩
  · rw [Gf.mul_zero] at h; omega
  · rw [← Gf.ex_lg a ha h0, Gf.ex_mul] at h
    have h2 := Gf.ex_inj (i := Gf.lg a + j) (j := 0) h
    exact Gf.ex_eq (by omega)
theorem pwr_254 (a : Nat) (ha : a < 256) (h0 : a ≠ 0) : pwr a 254 = ivn a := by
  have h1 := Gf.lg_lt a ha
  have h2 := pwr_ex (Gf.lg a) 254 (by omega)
  rw [Gf.ex_lg a ha h0] at h2
  rw [h2]
  exact Gf.ex_eq (by omega)
theorem ivn_pos (a : Nat) : ivn a ≠ 0 := Gf.ex_ne _

/-- what gf256.Pow returns: the power and the error -/
def powv (a : Nat) (n : Int) : Nat := if n = 0 then 1 else if a = 0 then 0 else pwr a (expo n)
def powe (a : Nat) (n : Int) : Int := if n = 0 then 0 else if a = 0 ∧ n < 0 then 3 else 0
theorem powv_lt (a : Nat) (n : Int) (ha : a < 256) : powv a n < 256 := by
  unfold powv
  split
  · omega
  · split
    · omega
    · exact pwr_lt _ _ ha
end Go.Proofs.Ytlimlmfgeaokhaa
namespace Go.Proofs.Ytlimlmfgeaokhaa
open Go.RowKit

/-- a row of n bytes -/
def brow (n : Nat) (f : Nat → Nat) : Array Value := ((List.range n).map fun j => Value.int .u8 (f j : Nat)).toArray
def RB (w : World) (g n : Nat) (t : TypeId) (f : Nat → Nat) : Prop := w.heap[g]? = some (.cells (brow n f) t (0, 0))
theorem brow_get (n : Nat) (f : Nat → Nat) (j : Nat) (h : j < n) : (brow n f)[j]? = some (.int .u8 (f j : Nat)) := by simp [brow, h]
theorem brow_congr {n : Nat} {f f' : Nat → Nat} (he : ∀ j, j < n → f j = f' j) : brow n f = brow n f' := by
  unfold brow
  congr 1
  exact List.map_congr_left (fun j hj => by rw [he j (by simpa using hj)])
theorem RB.cell {w : World} {g n : Nat} {t : TypeId} {f : Nat → Nat} (h : RB w g n t f) (j : Nat) (hj : j < n) : w.cell? ⟨g, j, none⟩ = some (.int .u8 (f j : Nat)) := (cell_of_row w _ j _ _ _ h).trans (brow_get n f j hj)
theorem RB.frozen {w : World} {g n : Nat} {t : TypeId} {f : Nat → Nat} (h : RB w g n t f) (j : Nat) : w.frozen? ⟨g, j, none⟩ = false := frozen_of_row w _ j _ _ h
theorem RB.lt {w : World} {g n : Nat} {t : TypeId} {f : Nat → Nat} (h : RB w g n t f) : g < w.heap.size := by
  rcases Nat.lt_or_ge g w.heap.size with h1 | h1
  · exact h1
  · rw [RB, Array.getElem?_eq_none (by omega)] at h; cases h
theorem RB.below {w w' : World} {g n : Nat} {t : TypeId} {f : Nat → Nat} (h : RB w g n t f) (hB : Below w.heap.size w w') : RB w' g n t f := (hB.block g h.lt).trans h
theorem RB.congr {w : World} {g n : Nat} {t : TypeId} {f f' : Nat → Nat} (h : RB w g n t f) (he : ∀ j, j < n → f j = f' j) : RB w g n t f' := by
  rw [RB, ← brow_congr he]; exact h
theorem RB.far {w : World} {g n g' i : Nat} {t : TypeId} {f : Nat → Nat} (h : RB w g n t f) (v : Value) (hne : g' ≠ g) : RB (w.setCell ⟨g', i, none⟩ v) g n t f := by
  exact (Below.heap_setCell w _ v g (fun e => hne e.symm)).trans h
theorem RB.set {w : World} {g n : Nat} {t : TypeId} {f f' : Nat → Nat} {i v : Nat} (h : RB w g n t f) (hv : f' i = v) (he : ∀ j, j < n → j ≠ i → f j = f' j) : RB (w.setCell ⟨g, i, none⟩ (.int .u8 (v : Int))) g n t f' := by
  have : (brow n f).setIfInBounds i (.int .u8 (v : Int)) = brow n f' := by
    apply Array.ext_getElem?
    intro j
    rw [Array.getElem?_setIfInBounds]
    by_cases hj : j < n
    · by_cases e : i = j
      · subst e; subst hv; simp [brow, hj]
      · rw [if_neg e, brow_get n f j hj, brow_get n f' j hj, he j hj (fun h => e h.symm)]
    · by_cases e : i = j
      · subst e; simp [brow, hj]
      · simp [brow, hj, e]
  rw [RB, ← this]
  exact heap_setCell_same w g i _ _ _ h
theorem RB.new {w : World} {n : Nat} {t : TypeId} {f : Nat → Nat} : RB (w.alloc (.cells (brow n f) t)) w.heap.size n t f := heap_alloc_new w _
theorem RB.alloc {w : World} {g n : Nat} {t : TypeId} {f : Nat → Nat} (h : RB w g n t f) (o : Obj) : RB (w.alloc o) g n t f := (Below.heap_alloc w o g h.lt).trans h

theorem brow8 (f : Nat → Nat) : brow 8 f = #[.int .u8 (f 0 : Nat), .int .u8 (f 1 : Nat), .int .u8 (f 2 : Nat), .int .u8 (f 3 : Nat), .int .u8 (f 4 : Nat), .int .u8 (f 5 : Nat), .int .u8 (f 6 : Nat), .int .u8 (f 7 : Nat)] := rfl
theorem cells8 {w : World} {g : Nat} {t : TypeId} {f : Nat → Nat} (h : RB w g 8 t f) : w.cell? ⟨g, 0, none⟩ = some (.int .u8 (f 0 : Nat)) ∧ w.cell? ⟨g, 1, none⟩ = some (.int .u8 (f 1 : Nat)) ∧ w.cell? ⟨g, 2, none⟩ = some (.int .u8 (f 2 : Nat)) ∧ w.cell? ⟨g, 3, none⟩ = some (.int .u8 (f 3 : Nat)) ∧
    w.cell? ⟨g, 4, none⟩ = some (.int .u8 (f 4 : Nat)) ∧ w.cell? ⟨g, 5, none⟩ = some (.int .u8 (f 5 : Nat)) ∧ w.cell? ⟨g, 6, none⟩ = some (.int .u8 (f 6 : Nat)) ∧ w.cell? ⟨g, 7, none⟩ = some (.int .u8 (f 7 : Nat)) :=
  ⟨h.cell 0 (by omega), h.cell 1 (by omega), h.cell 2 (by omega), h.cell 3 (by omega), h.cell 4 (by omega), h.cell 5 (by omega), h.cell 6 (by omega), h.cell 7 (by omega)⟩
def fus (f g : Nat → Nat) (c : Nat) (j : Nat) : Nat := f j ^^^ Gf.mul c (g j)
def fuz (f g : Nat → Nat) (c i : Nat) (j : Nat) : Nat := if j < i then fus f g c j else f j
set_option maxRecDepth 100000 in
theorem fusedB_any (f g : Nat → Nat) (c : Nat) (w : World) (hc : c < 256) (hf : ∀ j, f j < 256) (hg : ∀ j, g j < 256) :
    Calls Try.prog 24 #[.agg (brow 8 f), .agg (brow 8 g), .int .u8 c] w fun e w' => e = .returned (.agg (brow 8 (fus f g c))) ∧ Below w.heap.size w w' := by
  go_enter Try.func24, Try.ntmps24
  go_wp2_with fail
  go_loopw [8] (fun vi wr => ∃ i : Nat, i ≤ 8 ∧ vi = .int .i64 i ∧ RB wr w.heap.size 8 25 (fuz f g c i) ∧ RB wr (w.heap.size + 1) 8 25 g ∧ RB wr (w.heap.size + 1 + 1) 8 25 (fun _ => 0) ∧ Below w.heap.size w wr) (fun vi _ => 8 - (intOf vi).toNat)
  case atStart =>
    have h0 : RB (w.alloc (.cells (brow 8 f) 25)) w.heap.size 8 25 (fuz f g c 0) := RB.new.congr (fun j _ => by simp [fuz])
    have h1 : RB ((w.alloc (.cells (brow 8 f) 25)).alloc (.cells (brow 8 g) 25)) (w.heap.size + 1) 8 25 g := by
      have := RB.new (w := w.alloc (.cells (brow 8 f) 25)) (n := 8) (t := 25) (f := g)
      simpa using this
    have h2 : RB (((w.alloc (.cells (brow 8 f) 25)).alloc (.cells (brow 8 g) 25)).alloc (.cells (brow 8 fun _ => 0) 25)) (w.heap.size + 1 + 1) 8 25 (fun _ => 0) := by
      have := RB.new (w := (w.alloc (.cells (brow 8 f) 25)).alloc (.cells (brow 8 g) 25)) (n := 8) (t := 25) (f := fun _ => 0)
      simpa using this
    exact ⟨0, by omega, rfl, (h0.alloc _).alloc _, h1.alloc _, h2, ((Go.Joins.below_alloc1 _ _).alloc (by simp) _).alloc (by simp; omega) _⟩
  case round =>
    obtain ⟨i, hi, rfl, ha, hb, hd, hB⟩ := hrel
    have HA := Lib.hid ha
    have HB := Lib.hid hb
    have HD := Lib.hid hd
    have HW := Lib.hid hB
    clear ha hb hd hB
    by_cases hlt : i < 8
    · have ca : wr.cell? ⟨w.heap.size, i, none⟩ = some (.int .u8 (f i : Nat)) := by
        have := HA.out.cell i hlt
        simpa [fuz] using this
      have cb := HB.out.cell i hlt
      have fa := HA.out.frozen i
      obtain ⟨x, hX⟩ : ∃ x, x = f i := ⟨_, rfl⟩
      obtain ⟨y, hY⟩ : ∃ y, y = g i := ⟨_, rfl⟩
      have hx : x < 256 := by rw [hX]; exact hf i
      have hy : y < 256 := by rw [hY]; exact hg i
      rw [← hX] at ca
      rw [← hY] at cb
      have HX := Lib.hid hX
      have HY := Lib.hid hY
      clear hX hY
      go_wp2
      go_still_tail 10, (by kernel_rfl)
      still_call ((mul_any c y hc hy _).mono fun _ _ h => ⟨h.1, h.2.symm⟩)
      repeat still_step
      refine wpStill_nil ?_
      change wpList _ _ _ _ _ wr.drew
      obtain ⟨w2, hw2⟩ : ∃ w2, w2 = wr.drew := ⟨_, rfl⟩
      rw [← hw2]
      have HA2 := Lib.hid (show RB w2 w.heap.size 8 25 (fuz f g c i) by rw [hw2]; exact HA.out)
      have HB2 := Lib.hid (show RB w2 (w.heap.size + 1) 8 25 g by rw [hw2]; exact HB.out)
      have HD2 := Lib.hid (show RB w2 (w.heap.size + 1 + 1) 8 25 (fun _ => 0) by rw [hw2]; exact HD.out)
      have HW2 := Lib.hid (show Below w.heap.size w w2 by rw [hw2]; exact HW.out.drew)
      have ca2 : w2.cell? ⟨w.heap.size, i, none⟩ = some (.int .u8 (x : Nat)) := by rw [hw2]; exact ca
      have fa2 : w2.frozen? ⟨w.heap.size, i, none⟩ = false := by rw [hw2]; exact fa
      clear ca cb fa hw2 HA HB HD HW
      go_wp2
      go_roundw
      case rel =>
        refine ⟨i + 1, by omega, by go_num, ?_, HB2.out.far _ (by omega), HD2.out.far _ (by omega), HW2.out.setCell (Nat.le_refl _) _⟩
        rw [u8_xor_nat x (Gf.mul c y) hx (Gf.mul_lt c y hc)]
        refine HA2.out.set (by simp [fuz, fus, HX.out, HY.out]) (fun j _ e => ?_)
        unfold fuz
        by_cases h1 : j < i
        · rw [if_pos h1, if_pos (by omega)]
        · rw [if_neg h1, if_neg (by omega)]
      case measure => simp [intOf]; omega
    · obtain rfl : i = 8 := by omega
      have HA8 := Lib.hid (HA.out.congr (f' := fus f g c) (fun j hj => by simp [fuz, hj]))
      clear HA
      obtain ⟨c0, c1, c2, c3, c4, c5, c6, c7⟩ := cells8 HA8.out
      obtain ⟨d0, d1, d2, d3, d4, d5, d6, d7⟩ := cells8 HD.out
      have fd := HD.out.frozen
      go_wp2
      refine bodyPost_ret (v := .agg (brow 8 (fus f g c))) (by simp [results, Try.results24, go_sem, brow8, d0, d1, d2, d3, d4, d5, d6, d7]) rfl ⟨rfl, ?_⟩
      have hz : w.heap.size ≤ w.heap.size + 1 + 1 := by omega
      exact (((((((HW.out.setCell hz _).setCell hz _).setCell hz _).setCell hz _).setCell hz _).setCell hz _).setCell hz _).setCell hz _
end Go.Proofs.Ytlimlmfgeaokhaa
namespace Go.Proofs.Ytlimlmfgeaokhaa
open Go.RowKit

def xoz (f g : Nat → Nat) (i : Nat) (j : Nat) : Nat := if j < i then f j ^^^ g j else f j
theorem three_new {w : World} {f g : Nat → Nat} {t : TypeId} : RB (((w.alloc (.cells (brow 8 f) t)).alloc (.cells (brow 8 g) t)).alloc (.cells (brow 8 fun _ => 0) t)) w.heap.size 8 t f ∧
    RB (((w.alloc (.cells (brow 8 f) t)).alloc (.cells (brow 8 g) t)).alloc (.cells (brow 8 fun _ => 0) t)) (w.heap.size + 1) 8 t g ∧
    RB (((w.alloc (.cells (brow 8 f) t)).alloc (.cells (brow 8 g) t)).alloc (.cells (brow 8 fun _ => 0) t)) (w.heap.size + 1 + 1) 8 t (fun _ => 0) ∧
    Below w.heap.size w (((w.alloc (.cells (brow 8 f) t)).alloc (.cells (brow 8 g) t)).alloc (.cells (brow 8 fun _ => 0) t)) := by
  refine ⟨(RB.new.alloc _).alloc _, ?_, ?_, ((Go.Joins.below_alloc1 _ _).alloc (by simp) _).alloc (by simp; omega) _⟩
  · have := (RB.new (w := w.alloc (.cells (brow 8 f) t)) (n := 8) (t := t) (f := g)).alloc (.cells (brow 8 fun _ => 0) t)
    simpa using this
  · have := RB.new (w := (w.alloc (.cells (brow 8 f) t)).alloc (.cells (brow 8 g) t)) (n := 8) (t := t) (f := fun _ => 0)
    simpa using this
theorem two_newB {w : World} {f : Nat → Nat} {t : TypeId} : RB ((w.alloc (.cells (brow 8 f) t)).alloc (.cells (brow 8 fun _ => 0) t)) w.heap.size 8 t f ∧
    RB ((w.alloc (.cells (brow 8 f) t)).alloc (.cells (brow 8 fun _ => 0) t)) (w.heap.size + 1) 8 t (fun _ => 0) ∧
    Below w.heap.size w ((w.alloc (.cells (brow 8 f) t)).alloc (.cells (brow 8 fun _ => 0) t)) := by
  refine ⟨RB.new.alloc _, ?_, (Go.Joins.below_alloc1 _ _).alloc (by simp) _⟩
  have := RB.new (w := w.alloc (.cells (brow 8 f) t)) (n := 8) (t := t) (f := fun _ => 0)
  simpa using this
def scz (f : Nat → Nat) (c i : Nat) (j : Nat) : Nat := if j < i then Gf.mul c (f j) else f j
end Go.Proofs.Ytlimlmfgeaokhaa
namespace Go.Proofs.Ytlimlmfgeaokhaa
open Go.RowKit

/-- a slice of n blocks whose 8 n bytes are F -/
def Bks (w : World) (A : Option Addr) (n : Nat) (F : Nat → Nat) : Prop := 0 < n → ∃ b off : Nat, A = some ⟨b, off, none⟩ ∧ ∀ j : Nat, j < n * 8 → w.cell? ⟨b, off + j, none⟩ = some (.int .u8 (F j : Nat))
theorem Bks.below {w w' : World} {A : Option Addr} {n : Nat} {F : Nat → Nat} (h : Bks w A n F) (hB : Below w.heap.size w w') : Bks w' A n F := fun h0 => by
  obtain ⟨b, off, rfl, hc⟩ := h h0
  exact ⟨b, off, rfl, fun j hj => (hB.cell (World.block_lt_of_cell? w _ (hc j hj))).trans (hc j hj)⟩
theorem cellsAt {w : World} {b off i n : Nat} {F : Nat → Nat} (h : ∀ j : Nat, j < n * 8 → w.cell? ⟨b, off + j, none⟩ = some (.int .u8 (F j : Nat))) (hi : i < n) :
    w.cell? ⟨b, off + i * 8, none⟩ = some (.int .u8 (F (i * 8) : Nat)) ∧ w.cell? ⟨b, off + i * 8 + 1, none⟩ = some (.int .u8 (F (i * 8 + 1) : Nat)) ∧ w.cell? ⟨b, off + i * 8 + 2, none⟩ = some (.int .u8 (F (i * 8 + 2) : Nat)) ∧
    w.cell? ⟨b, off + i * 8 + 3, none⟩ = some (.int .u8 (F (i * 8 + 3) : Nat)) ∧ w.cell? ⟨b, off + i * 8 + 4, none⟩ = some (.int .u8 (F (i * 8 + 4) : Nat)) ∧ w.cell? ⟨b, off + i * 8 + 5, none⟩ = some (.int .u8 (F (i * 8 + 5) : Nat)) ∧
    w.cell? ⟨b, off + i * 8 + 6, none⟩ = some (.int .u8 (F (i * 8 + 6) : Nat)) ∧ w.cell? ⟨b, off + i * 8 + 7, none⟩ = some (.int .u8 (F (i * 8 + 7) : Nat)) := by
  refine ⟨h _ (by omega), ?_, ?_, ?_, ?_, ?_, ?_, ?_⟩
  all_goals (rw [Nat.add_assoc]; exact h _ (by omega))

/-- the first n bytes are equal -/
def eqB (n : Nat) (f g : Nat → Nat) : Bool := (List.range n).all fun j => f j == g j
theorem eqB_iff {n : Nat} {f g : Nat → Nat} : eqB n f g = true ↔ ∀ j, j < n → f j = g j := by simp [eqB]
theorem eqB_yes {n : Nat} {f g : Nat → Nat} (h : ∀ j, j < n → f j = g j) : eqB n f g = true := eqB_iff.2 h
theorem eqB_no {n : Nat} {f g : Nat → Nat} (h : ¬ ∀ j, j < n → f j = g j) : eqB n f g = false := by
  cases e : eqB n f g
  · rfl
  · exact absurd (eqB_iff.1 e) h
theorem brow_cells (f : Nat → Nat) (hf : ∀ j, f j < 256) (n : Nat) : brow n f = (((List.range n).map fun j => UInt8.ofNat (f j)).map Extern.Stop.cell).toArray := by
  unfold brow
  congr 1
  rw [List.map_map]
  refine List.map_congr_left (fun j _ => ?_)
  have := hf j
  simp [Extern.Stop.cell, Nat.mod_eq_of_lt this]
set_option maxRecDepth 100000 in
theorem run_eqB (f g : Nat → Nat) (hf : ∀ j, f j < 256) (hg : ∀ j, g j < 256) (W : World) :
    (Op.equalIn 10000 25 (.agg (brow 8 f)) (.agg (brow 8 g))).run Try.prog W = .ok (eqB 8 f g) W := by
  rw [brow_cells f hf, brow_cells g hg, run_equalIn_bytes W 9998 25 5 8 Try.underlying25 Try.underlying5 (fun _ => rfl) _ _ (by simp) (by simp)]
  congr 1
  rw [Bool.eq_iff_iff, beq_iff_eq, eqB_iff]
  constructor
  · intro h j hj
    have h1 := congrArg (fun l => l[j]?) h
    have h2 := hf j
    have h3 := hg j
    simp [hj] at h1
    have h4 := congrArg UInt8.toNat h1
    simpa [Nat.mod_eq_of_lt h2, Nat.mod_eq_of_lt h3] using h4
  · intro h
    exact List.map_congr_left (fun j hj => by rw [h j (by simpa using hj)])
theorem run_neqB (f g : Nat → Nat) (hf : ∀ j, f j < 256) (hg : ∀ j, g j < 256) (W : World) :
    (binOp .neq 25 (.agg (brow 8 f)) (.agg (brow 8 g))).run Try.prog W = .ok (.bool (!(eqB 8 f g))) W := by
  rw [run_neq_struct, run_eqB f g hf hg]; rfl
end Go.Proofs.Ytlimlmfgeaokhaa
namespace Go.Proofs.Ytlimlmfgeaokhaa
open Go.RowKit

theorem run_make_rowN {P : Program} (t e : TypeId) (i : TypeInfo) (z : Value) (ht : P.underlying t = some (.slice e)) (hi : P.info? e = some i) (hz : i.zero = some z)
    (kl kc : IntKind) (n c : Nat) (hnc : n ≤ c) (hbytes : i.bytes * c ≤ 281474976710656) (h63 : c ≤ 9223372036854775807) (w : World) :
    (Instr.makeSlice t (.int kl (n : Int)) (.int kc (c : Int))).run P w = .ok (.slice (some ⟨w.heap.size, 0, none⟩) n c) (w.alloc (.cells (madeCells z.cells (c * i.size)) e)) := by
  have hb : (i.bytes : Int) * (c : Int) ≤ 281474976710656 := by
    have h : ((i.bytes * c : Nat) : Int) ≤ 281474976710656 := by omega
    rwa [Int.natCast_mul] at h
  have hr := run_make (P := P) w t e i z ht hi hz kl kc n c (by omega) (by omega) hb (by omega)
  simp only [Int.toNat_natCast] at hr
  exact hr
theorem Try.infoBlock : (Try.prog.info? 25).map (fun i => (i.zero, i.size, i.bytes)) = some (some (.agg (brow 8 fun _ => 0)), 8, 8) := by kernel_rfl
theorem run_make_3 (W : World) : (Instr.makeSlice 22 (.int .i64 3) (.int .i64 3)).run Try.prog W = .ok (.slice (some ⟨W.heap.size, 0, none⟩) 3 3) (W.alloc (.cells (brow 24 fun _ => 0) 25)) := by
  obtain ⟨i0, hi, hz0, hz1, hz2⟩ := info_parts Try.infoBlock
  have h := run_make_rowN (P := Try.prog) 22 25 i0 _ Try.underlying22 hi hz0 .i64 .i64 3 3 (Nat.le_refl _) (by rw [hz2]; omega) (by omega) W
  have e : madeCells (Value.agg (brow 8 fun _ => 0)).cells (3 * i0.size) = brow 24 fun _ => 0 := by rw [hz1]; kernel_rfl
  rw [e] at h
  exact h

theorem backward_any (A : Option Addr) (n c : Nat) (w : World) :
    Calls Try.prog 23 #[.slice A n c] w fun e w' => e = .returned (.func (.func 44) #[] #[.pointer (some ⟨w.heap.size, 0, none⟩)]) ∧ w' = w.alloc (.cells #[.slice A n c] 22) := by
  go_enter Try.func23, Try.ntmps23
  go_wp2_with fail
  go_ret
  exact ⟨rfl, rfl⟩
end Go.Proofs.Ytlimlmfgeaokhaa
namespace Go.Proofs.Ytlimlmfgeaokhaa
open Go.RowKit Go.Shelf
attribute [local go_sem] Oper.semAt_some

/-- what has come when k rounds are over -/
def upto {α : Type} (f : Nat → α) (k : Nat) : List α := (List.range k).map f
theorem upto_succ {α : Type} (f : Nat → α) (k : Nat) : upto f (k + 1) = upto f k ++ [f k] := by simp [upto, List.range_succ]
theorem upto_length {α : Type} (f : Nat → α) (k : Nat) : (upto f k).length = k := by simp [upto]
/-- the bytes of block x -/
def bkAt (F : Nat → Nat) (x : Nat) : Array Value := #[.int .u8 (F (x * 8) : Nat), .int .u8 (F (x * 8 + 1) : Nat), .int .u8 (F (x * 8 + 2) : Nat), .int .u8 (F (x * 8 + 3) : Nat), .int .u8 (F (x * 8 + 4) : Nat), .int .u8 (F (x * 8 + 5) : Nat), .int .u8 (F (x * 8 + 6) : Nat), .int .u8 (F (x * 8 + 7) : Nat)]
theorem bkAt_eq (F : Nat → Nat) (x : Nat) : bkAt F x = brow 8 fun k => F (x * 8 + k) := rfl
/-- what the iterator reads between two rounds lies as it lay: all below n₀, and the block Bs -/
def KpB (n₀ Bs : Nat) (A B : World) : Prop := Below n₀ A B ∧ B.heap[Bs]? = A.heap[Bs]?
theorem KpB.trans {n₀ Bs : Nat} {A B C : World} (h : KpB n₀ Bs A B) (k : KpB n₀ Bs B C) : KpB n₀ Bs A C := ⟨h.1.trans k.1, k.2.trans h.2⟩
theorem KpB.refl (n₀ Bs : Nat) (A : World) : KpB n₀ Bs A A := ⟨Below.refl _ _, rfl⟩
theorem kpB_b {n₀ Bs : Nat} {w : World} (hn : n₀ ≤ w.heap.size) (hB : Bs < w.heap.size) (W : World) (l : Nat) (o o' : Obj) (hl : w.heap.size ≤ l) (h : W.heap[l]? = some o) (h1 : o.isCells = false) (h2 : o.isWalk = false) : KpB n₀ Bs W (W.putObj l o') :=
  ⟨belowK_b hn W l o o' hl h h1 h2, World.putObj_heap_other (by omega)⟩
def bwd (n j : Nat) : Nat := n - 1 - j

set_option maxRecDepth 100000 in
set_option maxHeartbeats 4000000 in
theorem back1_in (Fe : Fence) (m : Nat) (h33 : Fe.fn 44) (hro : Fe.round = none) (hm : 1 ≤ m) (l Bs n₀ b off n cap : Nat) (F : Nat → Nat) (hn : n ≤ 1000) (hb : b < n₀)
    (J Jx : List Nat → World → Prop)
    (hY : ∀ pre x W, J pre W → pre.length < n → YieldAt Fe (m - 1) Try.prog l #[.int .i64 (x : Nat), .agg (bkAt F x)] W fun e W' =>
      (e = .returned (.bool true) ∧ J (pre ++ [x]) W' ∧ KpB n₀ Bs W W') ∨ (e = .returned (.bool false) ∧ Jx (pre ++ [x]) W'))
    (W : World) (hBs : Boxed W Bs 22 (.slice (some ⟨b, off, none⟩) n cap))
    (hc : ∀ j : Nat, j < n * 8 → W.cell? ⟨b, off + j, none⟩ = some (.int .u8 (F j : Nat))) (h0 : J [] W) :
    CallsIn Fe m Try.prog 44 #[.func (.yield l) #[] #[], .pointer (some ⟨Bs, 0, none⟩)] W fun e W' => (∃ v, e = .returned v) ∧
      ((∃ ys, ys = upto (bwd n) n ∧ J ys W') ∨ (∃ pre, (∃ k, k ≤ n ∧ pre = upto (bwd n) k) ∧ Jx pre W')) := by
  have hBs1 := hBs.cell
  have HY := Lib.hid hY
  have HC := Lib.hid hc
  clear hY hc
  refine callsIn_of_wp Try.func44 rfl h33 ?_ hro
  simp only [Try.ntmps44, List.size_toArray, List.length_cons, List.length_nil, Nat.reduceAdd, Nat.reduceSub, Array.replicate_succ, Array.replicate_zero, List.push_toArray, List.append_toArray, List.nil_append, List.cons_append]
  gi_wp2
  gi_loopw [3] (fun vi wr => ∃ k : Nat, k ≤ n ∧ vi = .int .i64 ((n : Int) - 1 - k) ∧ J (upto (bwd n) k) wr ∧ KpB n₀ Bs W wr) (fun vi _ => (intOf vi + 1).toNat)
  case atStart => exact ⟨0, Nat.zero_le _, by simp, h0, KpB.refl _ _ _⟩
  case round =>
    obtain ⟨k, hk, rfl, hJs, hnx⟩ := hrel
    have HNX := Lib.hid hnx
    clear hnx
    by_cases hlt : k < n
    · obtain ⟨r, hr⟩ : ∃ r : Nat, (n : Int) - 1 - k = r := ⟨n - 1 - k, by omega⟩
      have hbw : bwd n k = r := by unfold bwd; omega
      have hrn : r < n := by omega
      rw [hr]
      obtain ⟨fn, tmps, assign, body, hy, hR⟩ := HY.out _ r wr hJs (by rw [upto_length]; exact hlt)
      have hBr := Boxed.cell (show Boxed wr Bs 22 (.slice (some ⟨b, off, none⟩) n cap) from HNX.out.2.trans hBs)
      obtain ⟨c0, c1, c2, c3, c4, c5, c6, c7⟩ := cellsAt (w := wr) (b := b) (off := off) (F := F) (n := n) (fun j hj => (HNX.out.1.cell (p := ⟨b, off + j, none⟩) hb).trans (HC.out j hj)) hrn
      unfold bkAt at hy
      gi_wp2
      refine hR.mono ?_
      rintro e W3 (⟨rfl, hJ3, hk3⟩ | ⟨rfl, hJx3⟩)
      · gi_wp2
        go_roundw
        case rel => exact ⟨k + 1, by omega, by simp; omega, by rw [upto_succ, hbw]; exact hJ3, HNX.out.trans hk3⟩
        case measure => (simp [intOf] <;> omega)
      · gi_wp2
        refine bodyPost_ret (results_none rfl _ _ _) rfl ?_
        exact ⟨⟨_, rfl⟩, .inr ⟨_, ⟨k + 1, by omega, by rw [upto_succ, hbw]⟩, hJx3⟩⟩
    · obtain rfl : k = n := by omega
      rw [show (k : Int) - 1 - k = -1 by omega]
      gi_wp2
      go_end0
      exact ⟨⟨_, rfl⟩, .inl ⟨_, rfl, hJs⟩⟩
theorem back_stops (Fe : Fence) (m : Nat) (h33 : Fe.fn 44) (hro : Fe.round = none) (hm : 1 ≤ m) (Bs n₀ b off n cap : Nat) (F : Nat → Nat) (hn : n ≤ 1000) (w : World) (hb : b < n₀) (hn₀ : n₀ ≤ w.heap.size)
    (hc : Boxed w Bs 22 (.slice (some ⟨b, off, none⟩) n cap)) (hI : ∀ j : Nat, j < n * 8 → w.cell? ⟨b, off + j, none⟩ = some (.int .u8 (F j : Nat))) :
    SeqStopsK Fe m Try.prog 44 #[.pointer (some ⟨Bs, 0, none⟩)] (fun x : Nat => #[Value.int .i64 (x : Nat), Value.agg (bkAt F x)]) (KpB n₀ Bs) (fun ys => ys = upto (bwd n) n)
      (fun pre => ∃ k, k ≤ n ∧ pre = upto (bwd n) k) n w := fun l J Jx W hW _ _ hY h0 =>
  back1_in Fe m h33 hro hm l Bs n₀ b off n cap F hn hb J Jx hY W ((hW.block Bs hc.lt).trans hc) (fun j hj => (hW.cell (p := ⟨b, off + j, none⟩) (Nat.lt_of_lt_of_le hb hn₀)).trans (hI j hj)) h0
end Go.Proofs.Ytlimlmfgeaokhaa
namespace Go.Proofs.Ytlimlmfgeaokhaa
open Go.RowKit Go.Shelf

theorem op_round {P : Program} {n l : Nat} {o : Oper} {a : Act} {w : World} {K : Act → World → Prop} {Q : Exit → Act → World → Prop} (hd : ∀ c, o.op ≠ .defer c) (h : o.wp P a w K Q) : o.wpIn (Fence.wide.inRound l) n P a w K Q := by
  refine ⟨fun f _ => trivial, ?_⟩
  rw [show Oper.semAt (Fence.wide.inRound l).round a.eval o = execOp a.eval o from Oper.semAt_some l a.eval o hd]
  unfold Oper.wp at h
  generalize (execOp a.eval o).run P w = r at *
  cases r with
  | ok x w' =>
    cases x
    all_goals (first
      | exact h
      | exact h.elim
      | (rw [Oper.uponIn_enter]; rw [Oper.upon_enter] at h; exact ⟨fun h0 => (by simp [Fence.wide] at h0), (CallsIn.inRound l (callsIn_wide.2 h)).mono (fun e w'' hh => (by cases e <;> exact hh))⟩)
      | (rw [Oper.uponIn_row]; rw [Oper.upon_row] at h; exact ⟨fun h0 => (by simp [Fence.wide] at h0), fun c cs _ => let ⟨v, w'', r, s⟩ := h c cs; ⟨v, w'', r, stepsIn_wide.2 s⟩⟩)
      | skip)
  | halt x w' =>
    cases x <;> first | exact h | exact h.elim
theorem any_round {P : Program} {n l : Nat} {md : Region.Mode} {ops : Array Oper} {Q : Exit → Act → World → Prop} (hQ : ¬ LetsOut Q) (hd : ∀ (j : Nat) (o : Oper), ops[j]? = some o → ∀ c, o.op ≠ .defer c) :
    ∀ (fuel : Nat) (listed : Array Bool) (a : Act) (w : World), wpAny P md ops Q fuel listed a w → wpAnyIn (Fence.wide.inRound l) n P md ops Q fuel listed a w
  | 0, _, _, _, h => h
  | fuel + 1, listed, a, w, h => by
    refine ⟨h.1, fun i hi => ?_⟩
    have h2 := h.2 i hi
    unfold wpOp at h2
    unfold wpOpIn
    cases ho : ops[i]? with
    | none => rw [ho] at h2; exact any_round hQ hd fuel _ a w h2
    | some o =>
      rw [ho] at h2
      simp only at h2 ⊢
      split
      · rename_i hw
        rw [if_pos hw] at h2
        rcases h2 with h2 | h2
        · exact Oper.wpIn_mono (fun a' w' => any_round hQ hd fuel _ a' w') (op_round (hd i o ho) h2)
        · exact absurd h2.2 hQ
      · rename_i hw
        rw [if_neg hw] at h2
        exact ⟨fun f _ => trivial, any_round hQ hd fuel _ _ w h2⟩
theorem nodef {ops : Array Oper} (h : ops.all (fun o => match o.op with | .defer _ => false | _ => true) = true) : ∀ (j : Nat) (o : Oper), ops[j]? = some o → ∀ c, o.op ≠ .defer c := by
  intro j o hj c e
  obtain ⟨hlt, hk⟩ := Array.getElem?_eq_some_iff.1 hj
  have := (Array.all_eq_true.1 h) j hlt
  rw [hk, e] at this
  cases this
theorem region_round {P : Program} {n l id : Nat} {ops : Array Oper} {Q : Exit → Act → World → Prop} {S : World → Prop} {a : Act} {w : World} (hm : P.follows .mixedOrders = true) (hQ : ¬ LetsOut Q) (hd : ∀ (j : Nat) (o : Oper), ops[j]? = some o → ∀ c, o.op ≠ .defer c)
    (h : wpAnyH P .any ops Q S ops.size (Array.replicate ops.size false) a w.drew) : (Code.region id ops true).wpIn (Fence.wide.inRound l) n P Q a w :=
  wpIn_region_any hm (any_round hQ hd _ _ _ _ (wpAny_of_held _ _ _ _ h))
end Go.Proofs.Ytlimlmfgeaokhaa
