/- GF(256) over natural numbers below 256: the product by bits, its table of powers of 2, and the axioms; no program in sight. -/
namespace Go.Proofs.Ytibhhonmcbbohaa.Gf

/-- times 2 -/
def xt (x : Nat) : Nat := (2 * x) ^^^ (285 * (x / 128))
theorem xt_lt (x : Nat) (h : x < 256) : xt x < 256 := by
  have H : ∀ x, x < 256 → xt x < 256 := by decide +kernel
  exact H x h
theorem xt_if (x : Nat) (h : x < 256) : xt x = if 2 * x > 255 then (2 * x) ^^^ 285 else 2 * x := by
  unfold xt
  split
  · rw [show x / 128 = 1 by omega]
  · rw [show x / 128 = 0 by omega]; simp
theorem two_xor (x y : Nat) : 2 * (x ^^^ y) = (2 * x) ^^^ (2 * y) := by
  have := Nat.shiftLeft_xor_distrib (a := x) (b := y) (i := 1)
  simpa [Nat.shiftLeft_eq, Nat.mul_comm] using this
theorem div128_xor (x y : Nat) : (x ^^^ y) / 128 = (x / 128) ^^^ (y / 128) := by
  have := Nat.shiftRight_xor_distrib (a := x) (b := y) (i := 7)
  simpa [Nat.shiftRight_eq_div_pow] using this
theorem xor_lt {x y : Nat} (hx : x < 256) (hy : y < 256) : x ^^^ y < 256 := Nat.xor_lt_two_pow (n := 8) hx hy
theorem xor4 (a b c d : Nat) : (a ^^^ b) ^^^ (c ^^^ d) = (a ^^^ c) ^^^ (b ^^^ d) := by
  rw [Nat.xor_assoc, Nat.xor_assoc, ← Nat.xor_assoc b c d, Nat.xor_comm b c, Nat.xor_assoc c b d]
theorem m285 (p q : Nat) (hp : p < 2) (hq : q < 2) : 285 * (p ^^^ q) = (285 * p) ^^^ (285 * q) := by
  have H : ∀ p, p < 2 → ∀ q, q < 2 → 285 * (p ^^^ q) = (285 * p) ^^^ (285 * q) := by decide +kernel
  exact H p hp q hq
theorem xt_xor (x y : Nat) (hx : x < 256) (hy : y < 256) : xt (x ^^^ y) = xt x ^^^ xt y := by
  unfold xt
  rw [two_xor, div128_xor, m285 _ _ (by omega) (by omega), xor4]
theorem xt_zero : xt 0 = 0 := rfl

/-- n bits of b: multiples of x are added to o -/
def st : Nat → Nat → Nat → Nat → Nat
  | 0, _, _, o => o
  | n + 1, b, x, o => st n (b / 2) (xt x) (if b % 2 = 1 then o ^^^ x else o)
def mul (a b : Nat) : Nat := st 8 b a 0

theorem st_lt : ∀ (n b x o : Nat), x < 256 → o < 256 → st n b x o < 256
  | 0, _, _, _, _, ho => ho
  | n + 1, b, x, o, hx, ho => by
    refine st_lt n _ _ _ (xt_lt x hx) ?_
    split
    · exact xor_lt ho hx
    · exact ho
theorem mul_lt (a b : Nat) (ha : a < 256) : mul a b < 256 := st_lt _ _ _ _ ha (by omega)
theorem st_b0 : ∀ (n x o : Nat), st n 0 x o = o
  | 0, _, _ => rfl
  | n + 1, x, o => by simp [st, st_b0 n]
theorem st_x0 : ∀ (n b o : Nat), st n b 0 o = o
  | 0, _, _ => rfl
  | n + 1, b, o => by
    unfold st
    rw [xt_zero, st_x0 n]
    split <;> simp
theorem st_xor : ∀ (n b x y o p : Nat), x < 256 → y < 256 → st n b (x ^^^ y) (o ^^^ p) = st n b x o ^^^ st n b y p
  | 0, _, _, _, _, _, _, _ => rfl
  | n + 1, b, x, y, o, p, hx, hy => by
    unfold st
    rw [xt_xor x y hx hy]
    split
    · rw [xor4, st_xor n _ _ _ _ _ (xt_lt x hx) (xt_lt y hy)]
    · rw [st_xor n _ _ _ _ _ (xt_lt x hx) (xt_lt y hy)]
theorem st_xt : ∀ (n b x o : Nat), x < 256 → o < 256 → st n b (xt x) (xt o) = xt (st n b x o)
  | 0, _, _, _, _, _ => rfl
  | n + 1, b, x, o, hx, ho => by
    unfold st
    split
    · rw [← xt_xor o x ho hx, st_xt n _ _ _ (xt_lt x hx) (xor_lt ho hx)]
    · rw [st_xt n _ _ _ (xt_lt x hx) ho]
theorem mul_xor_left (a b c : Nat) (ha : a < 256) (hb : b < 256) : mul (a ^^^ b) c = mul a c ^^^ mul b c := st_xor 8 c a b 0 0 ha hb
theorem mul_xt (a b : Nat) (ha : a < 256) : mul (xt a) b = xt (mul a b) := st_xt 8 b a 0 ha (by omega)
theorem one_mul (b : Nat) (hb : b < 256) : mul 1 b = b := by
  have H : ∀ b, b < 256 → mul 1 b = b := by decide +kernel
  exact H b hb
theorem zero_mul (b : Nat) : mul 0 b = 0 := st_x0 8 b 0
theorem mul_zero (a : Nat) : mul a 0 = 0 := st_b0 8 a 0

/-- times 2^i -/
def pw : Nat → Nat → Nat
  | 0, b => b
  | i + 1, b => xt (pw i b)
theorem pw_lt : ∀ (i b : Nat), b < 256 → pw i b < 256
  | 0, _, h => h
  | i + 1, b, h => xt_lt _ (pw_lt i b h)
theorem pw_add : ∀ (i j b : Nat), pw (i + j) b = pw i (pw j b)
  | 0, j, b => by simp [pw]
  | i + 1, j, b => by rw [Nat.add_right_comm]; show xt _ = xt _; rw [pw_add i j b]
/-- 2^i -/
def ex (i : Nat) : Nat := pw i 1
theorem ex_lt (i : Nat) : ex i < 256 := pw_lt i 1 (by omega)
theorem mul_ex (b : Nat) (hb : b < 256) : ∀ i : Nat, mul (ex i) b = pw i b
  | 0 => one_mul b hb
  | i + 1 => by
    show mul (xt (ex i)) b = xt (pw i b)
    rw [mul_xt _ _ (ex_lt i), mul_ex b hb i]
theorem ex_mul (i j : Nat) : mul (ex i) (ex j) = ex (i + j) := by rw [mul_ex _ (ex_lt j)]; exact (pw_add i j 1).symm
theorem ex_255 : ex 255 = 1 := by decide +kernel
theorem ex_period (n : Nat) : ex (n + 255) = ex n := by
  show pw (n + 255) 1 = pw n 1
  rw [pw_add]
  show pw n (ex 255) = _
  rw [ex_255]
theorem ex_add_mul (n : Nat) : ∀ m : Nat, ex (n + 255 * m) = ex n
  | 0 => rfl
  | m + 1 => by rw [show n + 255 * (m + 1) = (n + 255 * m) + 255 by omega, ex_period, ex_add_mul n m]
theorem ex_mod (n : Nat) : ex n = ex (n % 255) := by
  have := ex_add_mul (n % 255) (n / 255)
  rw [Nat.mod_add_div] at this
  exact this
theorem ex_eq {n m : Nat} (h : n % 255 = m % 255) : ex n = ex m := by rw [ex_mod n, ex_mod m, h]

/-- the logarithm, by search -/
def lgs : Nat → Nat → Nat → Nat → Nat
  | 0, _, _, _ => 0
  | f + 1, x, n, a => if x = a then n else lgs f (xt x) (n + 1) a
def lg (a : Nat) : Nat := lgs 255 1 0 a
theorem ex_lg (a : Nat) (h : a < 256) (h0 : a ≠ 0) : ex (lg a) = a := by
  have H : ∀ a, a < 256 → a ≠ 0 → ex (lg a) = a := by decide +kernel
  exact H a h h0
theorem lg_lt (a : Nat) (h : a < 256) : lg a < 255 := by
  have H : ∀ a, a < 256 → lg a < 255 := by decide +kernel
  exact H a h
theorem lg_ex (i : Nat) (h : i < 255) : lg (ex i) = i := by
  have H : ∀ i, i < 255 → lg (ex i) = i := by decide +kernel
  exact H i h
theorem ex_ne (i : Nat) : ex i ≠ 0 := by
  have H : ∀ i, i < 255 → ex i ≠ 0 := by decide +kernel
  rw [ex_mod]
  exact H _ (Nat.mod_lt _ (by omega))
theorem ex_inj {i j : Nat} (h : ex i = ex j) : i % 255 = j % 255 := by
  rw [ex_mod i, ex_mod j] at h
  have := congrArg lg h
  rwa [lg_ex _ (Nat.mod_lt _ (by omega)), lg_ex _ (Nat.mod_lt _ (by omega))] at this
/-- every element is 0 or a power -/
theorem as_ex (a : Nat) (h : a < 256) : a = 0 ∨ ∃ i, i < 255 ∧ a = ex i := by
  by_cases h0 : a = 0
  · exact .inl h0
  · exact .inr ⟨lg a, lg_lt a h, (ex_lg a h h0).symm⟩

theorem mul_comm (a b : Nat) (ha : a < 256) (hb : b < 256) : mul a b = mul b a := by
  rcases as_ex a ha with rfl | ⟨i, _, rfl⟩
  · rw [zero_mul, mul_zero]
  · rcases as_ex b hb with rfl | ⟨j, _, rfl⟩
    · rw [zero_mul, mul_zero]
    · rw [ex_mul, ex_mul, Nat.add_comm]
theorem mul_assoc (a b c : Nat) (ha : a < 256) (hb : b < 256) (hc : c < 256) : mul (mul a b) c = mul a (mul b c) := by
  rcases as_ex a ha with rfl | ⟨i, _, rfl⟩
  · simp only [zero_mul]
  · rcases as_ex b hb with rfl | ⟨j, _, rfl⟩
    · simp only [zero_mul, mul_zero]
    · rcases as_ex c hc with rfl | ⟨k, _, rfl⟩
      · simp only [mul_zero]
      · simp only [ex_mul, Nat.add_assoc]
theorem mul_xor_right (a b c : Nat) (ha : a < 256) (hb : b < 256) (hc : c < 256) : mul a (b ^^^ c) = mul a b ^^^ mul a c := by
  rw [mul_comm a _ ha (xor_lt hb hc), mul_xor_left b c a hb hc, mul_comm b a hb ha, mul_comm c a hc ha]
theorem mul_one (a : Nat) (ha : a < 256) : mul a 1 = a := by rw [mul_comm a 1 ha (by omega), one_mul a ha]
theorem mul_eq_zero {a b : Nat} (ha : a < 256) (hb : b < 256) (h : mul a b = 0) : a = 0 ∨ b = 0 := by
  rcases as_ex a ha with rfl | ⟨i, _, rfl⟩
  · exact .inl rfl
  · rcases as_ex b hb with rfl | ⟨j, _, rfl⟩
    · exact .inr rfl
    · exact absurd (by rwa [ex_mul] at h) (ex_ne (i + j))

/-- powers by squaring: e below 2^n -/
def pl : Nat → Nat → Nat → Nat → Nat
  | 0, _, _, o => o
  | n + 1, a, e, o => if 0 < e then pl n (mul a a) (e / 2) (if e % 2 = 1 then mul o a else o) else o
theorem pl_lt : ∀ (n a e o : Nat), a < 256 → o < 256 → pl n a e o < 256
  | 0, _, _, _, _, h => h
  | n + 1, a, e, o, ha, ho => by
    unfold pl
    split
    · refine pl_lt n _ _ _ (mul_lt a a ha) ?_
      split
      · exact mul_lt o a ho
      · exact ho
    · exact ho
theorem pl_ex : ∀ (n i e o : Nat), e < 2 ^ n → pl n (ex i) e (ex o) = ex (o + i * e)
  | 0, i, e, o, h => by
    obtain rfl : e = 0 := by simp at h; exact h
    simp [pl]
  | n + 1, i, e, o, h => by
    unfold pl
    by_cases h0 : 0 < e
    · rw [if_pos h0, ex_mul]
      have hd : e = 2 * (e / 2) + e % 2 := by omega
      have hlt : e / 2 < 2 ^ n := by rw [Nat.pow_succ] at h; omega
      by_cases h1 : e % 2 = 1
      · rw [if_pos h1, ex_mul, pl_ex n _ _ _ hlt]
        congr 1
        rw [Nat.add_assoc]
        congr 1
        conv => rhs; rw [hd, h1, Nat.mul_add, ← Nat.mul_assoc, Nat.mul_one, Nat.mul_two]
        omega
      · rw [if_neg h1, pl_ex n _ _ _ hlt]
        congr 1
        have h2 : e % 2 = 0 := by omega
        conv => rhs; rw [hd, h2, Nat.add_zero, ← Nat.mul_assoc, Nat.mul_two]
    · obtain rfl : e = 0 := by omega
      simp
theorem pl_zero : ∀ (n e o : Nat), 0 < e → e < 2 ^ n → pl n 0 e o = 0
  | 0, e, o, h0, h => by simp at h; omega
  | n + 1, e, o, h0, h => by
    unfold pl
    rw [if_pos h0, zero_mul, mul_zero]
    have hlt : e / 2 < 2 ^ n := by rw [Nat.pow_succ] at h; omega
    by_cases he : 0 < e / 2
    · exact pl_zero n _ _ he hlt
    · have h1 : e = 1 := by omega
      subst h1
      cases n <;> simp [pl]

/-- powers by definition -/
def npow (a : Nat) : Nat → Nat
  | 0 => 1
  | n + 1 => mul (npow a n) a
theorem npow_ex (i : Nat) : ∀ n, npow (ex i) n = ex (i * n)
  | 0 => rfl
  | n + 1 => by
    show mul (npow (ex i) n) (ex i) = _
    rw [npow_ex i n, ex_mul, Nat.mul_succ]
theorem npow_lt (a : Nat) : ∀ n, npow a n < 256
  | 0 => by show 1 < 256; omega
  | n + 1 => mul_lt _ _ (npow_lt a n)
theorem npow_zero (n : Nat) (h : 0 < n) : npow 0 n = 0 := by
  cases n with
  | zero => omega
  | succ n => exact mul_zero _

/-- the product of polynomials and its remainder, as the reference has it -/
def pr : Nat → Nat → Nat → Nat → Nat → Nat
  | 0, _, _, _, p => p
  | n + 1, k, a, b, p => pr n (k + 1) a b (if b / 2 ^ k % 2 = 1 then p ^^^ (a * 2 ^ k) else p)
def rd1 (k p : Nat) : Nat := if p / 2 ^ k % 2 = 1 then p ^^^ (285 * 2 ^ (k - 8)) else p
def red : Nat → Nat → Nat
  | 0, p => p
  | n + 1, p => red n (rd1 (n + 8) p)
theorem div_pow_xor (k x y : Nat) : (x ^^^ y) / 2 ^ k = (x / 2 ^ k) ^^^ (y / 2 ^ k) := by
  have := Nat.shiftRight_xor_distrib (a := x) (b := y) (i := k)
  simpa [Nat.shiftRight_eq_div_pow] using this
theorem mod2_xor (x y : Nat) : (x ^^^ y) % 2 = (x % 2 + y % 2) % 2 := by
  have h := Nat.xor_mod_two_pow (a := x) (b := y) (n := 1)
  rw [Nat.pow_one] at h
  rw [h]
  rcases Nat.mod_two_eq_zero_or_one x with hx | hx <;> rcases Nat.mod_two_eq_zero_or_one y with hy | hy <;> rw [hx, hy] <;> rfl
theorem one_of {q : Nat} (h : q < 2) (h1 : q % 2 = 1) : q = 1 := by omega
theorem zero_of {q : Nat} (h : q < 2) (h1 : ¬ q % 2 = 1) : q = 0 := by omega
theorem rd1_xor (k x y : Nat) : rd1 k (x ^^^ y) = rd1 k x ^^^ rd1 k y := by
  unfold rd1
  rw [div_pow_xor, mod2_xor]
  generalize 285 * 2 ^ (k - 8) = c
  by_cases h1 : x / 2 ^ k % 2 = 1 <;> by_cases h2 : y / 2 ^ k % 2 = 1
  · rw [h1, h2, if_neg (by omega), if_pos rfl, if_pos rfl, xor4, Nat.xor_self, Nat.xor_zero]
  · rw [h1, if_pos (by omega), if_pos rfl, if_neg h2, Nat.xor_assoc, Nat.xor_assoc, Nat.xor_comm y c]
  · rw [h2, if_pos (by omega), if_neg h1, if_pos rfl, Nat.xor_assoc]
  · rw [if_neg (by omega), if_neg h1, if_neg h2]
theorem red_xor : ∀ (n x y : Nat), red n (x ^^^ y) = red n x ^^^ red n y
  | 0, _, _ => rfl
  | n + 1, x, y => by
    unfold red
    rw [rd1_xor, red_xor n]
theorem red_shift (k a : Nat) (hk : k < 8) (ha : a < 256) : red 7 (a * 2 ^ k) = pw k a := by
  have H : ∀ k, k < 8 → ∀ a, a < 256 → red 7 (a * 2 ^ k) = pw k a := by decide +kernel
  exact H k hk a ha
theorem pr_red : ∀ (n k a b p o : Nat), n + k = 8 → a < 256 → red 7 p = o → red 7 (pr n k a b p) = st n (b / 2 ^ k) (pw k a) o
  | 0, _, _, _, _, _, _, _, h => h
  | n + 1, k, a, b, p, o, hk, ha, h => by
    unfold pr st
    have hp : b / 2 ^ k / 2 = b / 2 ^ (k + 1) := by rw [Nat.div_div_eq_div_mul, Nat.pow_succ]
    rw [hp]
    refine pr_red n (k + 1) a b _ _ (by omega) ha ?_
    split
    · rw [red_xor, h, red_shift k a (by omega) ha]
    · exact h
theorem refmul (a b : Nat) (ha : a < 256) : red 7 (pr 8 0 a b 0) = mul a b := by
  have := pr_red 8 0 a b 0 0 rfl ha (by decide +kernel)
  simpa [mul, pw] using this
theorem pr_lt : ∀ (n k a b p : Nat), n + k = 8 → a < 256 → p < 2 ^ 15 → pr n k a b p < 2 ^ 15
  | 0, _, _, _, _, _, _, h => h
  | n + 1, k, a, b, p, hk, ha, h => by
    unfold pr
    refine pr_lt n (k + 1) a b _ (by omega) ha ?_
    split
    · refine Nat.xor_lt_two_pow h ?_
      have : 2 ^ k ≤ 2 ^ 7 := Nat.pow_le_pow_right (by omega) (by omega)
      have : a * 2 ^ k ≤ 255 * 2 ^ 7 := Nat.mul_le_mul (by omega) this
      omega
    · exact h
theorem rd1_lt (n p : Nat) (hn : n < 7) (h : p < 2 ^ (n + 9)) : rd1 (n + 8) p < 2 ^ (n + 8) := by
  have hp : 0 < 2 ^ (n + 8) := Nat.pow_pos (by omega)
  have h9 : p < 2 ^ (n + 8) * 2 := by rw [← Nat.pow_succ]; exact h
  unfold rd1
  have hdiv : p / 2 ^ (n + 8) < 2 := Nat.div_lt_of_lt_mul h9
  split
  · rename_i h1
    have hd1 : p / 2 ^ (n + 8) = 1 := one_of hdiv h1
    have hx : p ^^^ (285 * 2 ^ (n + 8 - 8)) < 2 ^ (n + 9) := by
      refine Nat.xor_lt_two_pow h ?_
      have H : ∀ n, n < 7 → 285 * 2 ^ (n + 8 - 8) < 2 ^ (n + 9) := by decide +kernel
      exact H n hn
    have hz : (p ^^^ (285 * 2 ^ (n + 8 - 8))) / 2 ^ (n + 8) = 0 := by
      rw [div_pow_xor, hd1]
      have H : ∀ n, n < 7 → 1 ^^^ 285 * 2 ^ (n + 8 - 8) / 2 ^ (n + 8) = 0 := by decide +kernel
      exact H n hn
    exact (Nat.div_eq_zero_iff.1 hz).resolve_left (by omega)
  · rename_i h1
    have hz : p / 2 ^ (n + 8) = 0 := zero_of hdiv h1
    exact (Nat.div_eq_zero_iff.1 hz).resolve_left (by omega)
end Go.Proofs.Ytibhhonmcbbohaa.Gf
