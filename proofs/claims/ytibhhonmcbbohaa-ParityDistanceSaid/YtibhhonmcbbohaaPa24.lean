/- The distance of the code, in plain arithmetic: a word that differs from a consistent group in at most three pieces is consistent only where it is the group. -/
import Derived.Test.YtibhhonmcbbohaaPa23
namespace Go.Proofs.Ytibhhonmcbbohaa
open Go.RowKit

/-- the sum of f 0, .., f (n - 1) -/
def xs (f : Nat → Nat) : Nat → Nat
  | 0 => 0
  | n + 1 => xs f n ^^^ f n
theorem xs_lt {f : Nat → Nat} (h : ∀ i, f i < 256) : ∀ n, xs f n < 256
  | 0 => Nat.zero_lt_succ _
  | n + 1 => Gf.xor_lt (xs_lt h n) (h n)
theorem xs_congr {f g : Nat → Nat} : ∀ n, (∀ i, i < n → f i = g i) → xs f n = xs g n
  | 0, _ => rfl
  | n + 1, h => by rw [xs, xs, xs_congr n (fun i hi => h i (by omega)), h n (by omega)]
theorem xs_xor (f g : Nat → Nat) : ∀ n, xs (fun i => f i ^^^ g i) n = xs f n ^^^ xs g n
  | 0 => (Nat.xor_self 0).symm
  | n + 1 => by rw [xs, xs_xor f g n]; exact Gf.xor4 _ _ _ _
theorem xs_mul (c : Nat) (f : Nat → Nat) (hc : c < 256) (hf : ∀ i, f i < 256) : ∀ n, Gf.mul c (xs f n) = xs (fun i => Gf.mul c (f i)) n
  | 0 => Gf.mul_zero c
  | n + 1 => by rw [xs, Gf.mul_xor_right _ _ _ hc (xs_lt hf n) (hf n), xs_mul c f hc hf n]; rfl
theorem xs_zero {f : Nat → Nat} : ∀ n, (∀ i, i < n → f i = 0) → xs f n = 0
  | 0, _ => rfl
  | n + 1, h => by rw [xs, xs_zero n (fun i hi => h i (by omega)), h n (by omega)]; rfl
theorem xs_one {f : Nat → Nat} (a : Nat) : ∀ n, a < n → (∀ i, i < n → i ≠ a → f i = 0) → xs f n = f a
  | 0, h, _ => by omega
  | n + 1, h, h0 => by
    by_cases e : a = n
    · subst e
      rw [xs, xs_zero a (fun i hi => h0 i (by omega) (by omega)), Nat.zero_xor]
    · rw [xs, xs_one a n (by omega) (fun i hi => h0 i (by omega)), h0 n (by omega) (by omega), Nat.xor_zero]
theorem sp_xs (F : Nat → Nat) (j k : Nat) : ∀ n, sp F j n k = xs (fun i => Gf.mul (Gf.ex (j * i)) (F (i * 8 + k))) n
  | 0 => rfl
  | n + 1 => by rw [sp_ex, sp_xs F j k n]; rfl
/-- the coefficient of piece i in check j, among n data pieces -/
def hc (n j i : Nat) : Nat := if i < n then Gf.ex (j * i) else if i = n + j then 1 else 0
theorem hc_lt (n j i : Nat) : hc n j i < 256 := by
  unfold hc
  split
  · exact Gf.ex_lt _
  · split <;> omega
theorem hc_par (n j q : Nat) : hc n j (n + q) = if q = j then 1 else 0 := by
  unfold hc
  rw [if_neg (by omega)]
  by_cases e : q = j
  · rw [if_pos e, if_pos (by omega)]
  · rw [if_neg e, if_neg (by omega)]
/-- check j of the column e -/
def syn (n : Nat) (e : Nat → Nat) (j : Nat) : Nat := xs (fun i => Gf.mul (hc n j i) (e i)) (n + 3)
theorem syn_sp (F : Nat → Nat) (hF : ∀ p, F p < 256) (n j k : Nat) (hj : j < 3) : syn n (fun i => F (i * 8 + k)) j = sp F j n k ^^^ F ((n + j) * 8 + k) := by
  unfold syn
  rw [xs, xs, xs, sp_xs]
  have e1 : xs (fun i => Gf.mul (hc n j i) (F (i * 8 + k))) n = xs (fun i => Gf.mul (Gf.ex (j * i)) (F (i * 8 + k))) n := xs_congr n (fun i hi => by rw [hc, if_pos hi])
  rw [e1]
  generalize xs (fun i => Gf.mul (Gf.ex (j * i)) (F (i * 8 + k))) n = s
  have h0 := hc_par n j 0
  rw [Nat.add_zero] at h0
  have h1 := hc_par n j 1
  have h2 := hc_par n j 2
  rw [h0, h1, h2]
  match j, hj with
  | 0, _ => rw [if_pos rfl, if_neg (by omega), if_neg (by omega), Gf.zero_mul, Gf.zero_mul, Gf.one_mul _ (hF _), Nat.xor_zero, Nat.xor_zero]; rfl
  | 1, _ => rw [if_neg (by omega), if_pos rfl, if_neg (by omega), Gf.zero_mul, Gf.zero_mul, Gf.one_mul _ (hF _), Nat.xor_zero, Nat.xor_zero]
  | 2, _ => rw [if_neg (by omega), if_neg (by omega), if_pos rfl, Gf.zero_mul, Gf.zero_mul, Gf.one_mul _ (hF _), Nat.xor_zero, Nat.xor_zero]
theorem syn_xor (n : Nat) (e f : Nat → Nat) (he : ∀ i, e i < 256) (hf : ∀ i, f i < 256) (j : Nat) : syn n (fun i => e i ^^^ f i) j = syn n e j ^^^ syn n f j := by
  unfold syn
  rw [← xs_xor]
  exact xs_congr _ (fun i _ => Gf.mul_xor_right _ _ _ (hc_lt n j i) (he i) (hf i))
/-- the coefficients by the piece's place among 13 data pieces and 3 parity pieces -/
def tb (j q : Nat) : Nat := ([[1, 1, 1, 1, 1, 1, 1, 1, 1, 1, 1, 1, 1, 1, 0, 0], [1, 2, 4, 8, 16, 32, 64, 128, 29, 58, 116, 232, 205, 0, 1, 0], [1, 4, 16, 64, 29, 116, 205, 19, 76, 45, 180, 234, 143, 0, 0, 1]].getD j []).getD q 0
def pos (n i : Nat) : Nat := if i < n then i else i - n + 13
theorem tb_ex : ∀ j, j < 3 → ∀ q, q < 13 → tb j q = Gf.ex (j * q) := by decide +kernel
theorem tb_one : ∀ j, j < 3 → ∀ q, q < 3 → tb j (13 + q) = if q = j then 1 else 0 := by decide +kernel
theorem hc_tb (n j i : Nat) (hn : n ≤ 13) (hj : j < 3) (hi : i < n + 3) : hc n j i = tb j (pos n i) := by
  unfold hc pos
  by_cases h : i < n
  · rw [if_pos h, if_pos h, tb_ex j hj i (by omega)]
  · rw [if_neg h, if_neg h, show i - n + 13 = 13 + (i - n) by omega, tb_one j hj (i - n) (by omega)]
    by_cases e : i = n + j
    · rw [if_pos e, if_pos (by omega)]
    · rw [if_neg e, if_neg (by omega)]
/-- the cross product of two columns -/
def crs (b c j : Nat) : Nat := match j with
  | 0 => Gf.mul (tb 1 b) (tb 2 c) ^^^ Gf.mul (tb 2 b) (tb 1 c)
  | 1 => Gf.mul (tb 2 b) (tb 0 c) ^^^ Gf.mul (tb 0 b) (tb 2 c)
  | _ => Gf.mul (tb 0 b) (tb 1 c) ^^^ Gf.mul (tb 1 b) (tb 0 c)
def dotc (b c a : Nat) : Nat := (Gf.mul (crs b c 0) (tb 0 a) ^^^ Gf.mul (crs b c 1) (tb 1 a)) ^^^ Gf.mul (crs b c 2) (tb 2 a)
def mds : Bool := (List.range 16).all fun b => (List.range 16).all fun c => b == c || (dotc b c b == 0 && (dotc b c c == 0 && (List.range 16).all fun a => a == b || (a == c || dotc b c a != 0)))
set_option maxRecDepth 100000 in
theorem mds_true : mds = true := by decide +kernel
theorem mds_at {a b c : Nat} (ha : a < 16) (hb : b < 16) (hcc : c < 16) (hbc : b ≠ c) : dotc b c b = 0 ∧ dotc b c c = 0 ∧ (a ≠ b → a ≠ c → dotc b c a ≠ 0) := by
  have h := mds_true
  unfold mds at h
  rw [List.all_eq_true] at h
  have h := h b (by simpa using hb)
  rw [List.all_eq_true] at h
  have h := h c (by simpa using hcc)
  have e1 : (b == c) = false := by simpa using hbc
  rw [e1, Bool.false_or, Bool.and_eq_true, Bool.and_eq_true, List.all_eq_true] at h
  refine ⟨by simpa using h.1, by simpa using h.2.1, fun x1 x2 => ?_⟩
  have h3 := h.2.2 a (by simpa using ha)
  have e2 : (a == b) = false := by simpa using x1
  have e3 : (a == c) = false := by simpa using x2
  rw [e2, e3, Bool.false_or, Bool.false_or] at h3
  simpa using h3
theorem tb_lt (j q : Nat) (hj : j < 3) (hq : q < 16) : tb j q < 256 := by
  have : ∀ j, j < 3 → ∀ q, q < 16 → tb j q < 256 := by decide +kernel
  exact this j hj q hq
theorem crs_lt (b c j : Nat) (hb : b < 16) : crs b c j < 256 := by
  have t0 := tb_lt 0 b (by omega) hb
  have t1 := tb_lt 1 b (by omega) hb
  have t2 := tb_lt 2 b (by omega) hb
  unfold crs
  split
  · exact Gf.xor_lt (Gf.mul_lt _ _ t1) (Gf.mul_lt _ _ t2)
  · exact Gf.xor_lt (Gf.mul_lt _ _ t2) (Gf.mul_lt _ _ t0)
  · exact Gf.xor_lt (Gf.mul_lt _ _ t0) (Gf.mul_lt _ _ t1)
theorem pos_lt (n i : Nat) (hn : n ≤ 13) (hi : i < n + 3) : pos n i < 16 := by unfold pos; split <;> omega
theorem pos_inj (n i j : Nat) (hn : n ≤ 13) (h : pos n i = pos n j) : i = j := by
  unfold pos at h
  split at h <;> split at h <;> omega
/-- checks that hold of a column with at most three entries: the entries are 0 -/
theorem col_zero (n : Nat) (hn : n ≤ 13) (e : Nat → Nat) (he : ∀ i, e i < 256) (a b c : Nat) (ha : a < n + 3) (hb : b < n + 3) (hcc : c < n + 3) (hab : a ≠ b) (hac : a ≠ c) (hbc : b ≠ c)
    (hs : ∀ i, i < n + 3 → i ≠ a → i ≠ b → i ≠ c → e i = 0) (hy : ∀ j, j < 3 → syn n e j = 0) : e a = 0 := by
  have pa := pos_lt n a hn ha
  have pb := pos_lt n b hn hb
  have pc := pos_lt n c hn hcc
  have hm := mds_at pa pb pc (fun h => hbc (pos_inj n b c hn h))
  obtain ⟨m, hmd⟩ : ∃ m, m = crs (pos n b) (pos n c) := ⟨_, rfl⟩
  have ml : ∀ j, m j < 256 := fun j => by rw [hmd]; exact crs_lt _ _ j pb
  have tl : ∀ j, (∀ i, Gf.mul (hc n j i) (e i) < 256) := fun j i => Gf.mul_lt _ _ (hc_lt n j i)
  have key : (Gf.mul (m 0) (syn n e 0) ^^^ Gf.mul (m 1) (syn n e 1)) ^^^ Gf.mul (m 2) (syn n e 2) = xs (fun i => Gf.mul ((Gf.mul (m 0) (hc n 0 i) ^^^ Gf.mul (m 1) (hc n 1 i)) ^^^ Gf.mul (m 2) (hc n 2 i)) (e i)) (n + 3) := by
    unfold syn
    rw [xs_mul _ _ (ml 0) (tl 0), xs_mul _ _ (ml 1) (tl 1), xs_mul _ _ (ml 2) (tl 2), ← xs_xor, ← xs_xor]
    refine xs_congr _ (fun i _ => ?_)
    have l0 := Gf.mul_lt (m 0) (hc n 0 i) (ml 0)
    have l1 := Gf.mul_lt (m 1) (hc n 1 i) (ml 1)
    have l2 := Gf.mul_lt (m 2) (hc n 2 i) (ml 2)
    rw [Gf.mul_xor_left _ _ _ (Gf.xor_lt l0 l1) l2, Gf.mul_xor_left _ _ _ l0 l1, Gf.mul_assoc _ _ _ (ml 0) (hc_lt n 0 i) (he i), Gf.mul_assoc _ _ _ (ml 1) (hc_lt n 1 i) (he i), Gf.mul_assoc _ _ _ (ml 2) (hc_lt n 2 i) (he i)]
  rw [hy 0 (by omega), hy 1 (by omega), hy 2 (by omega), Gf.mul_zero, Gf.mul_zero, Gf.mul_zero] at key
  have dot : ∀ i, i < n + 3 → (Gf.mul (m 0) (hc n 0 i) ^^^ Gf.mul (m 1) (hc n 1 i)) ^^^ Gf.mul (m 2) (hc n 2 i) = dotc (pos n b) (pos n c) (pos n i) := fun i hi => by
    rw [hmd, hc_tb n 0 i hn (by omega) hi, hc_tb n 1 i hn (by omega) hi, hc_tb n 2 i hn (by omega) hi]
    rfl
  rw [xs_one a (n + 3) ha (fun i hi hia => by
    show Gf.mul _ (e i) = 0
    by_cases e1 : i = b
    · rw [dot i hi, e1, hm.1, Gf.zero_mul]
    · by_cases e2 : i = c
      · rw [dot i hi, e2, hm.2.1, Gf.zero_mul]
      · rw [hs i hi hia e1 e2, Gf.mul_zero]), dot a ha] at key
  have hd := hm.2.2 (fun h => hab (pos_inj n a b hn h)) (fun h => hac (pos_inj n a c hn h))
  have dl : dotc (pos n b) (pos n c) (pos n a) < 256 := by
    rw [← dot a ha]
    exact Gf.xor_lt (Gf.xor_lt (Gf.mul_lt _ _ (ml 0)) (Gf.mul_lt _ _ (ml 1))) (Gf.mul_lt _ _ (ml 2))
  rcases Gf.mul_eq_zero dl (he a) key.symm with h | h
  · exact absurd h hd
  · exact h
/-- two others beside a among at least three, which hold u and v where these are not a -/
theorem two_others (N a u v : Nat) (hN : 3 ≤ N) (hu : u < N) (hv : v < N) : ∃ b c, b < N ∧ c < N ∧ a ≠ b ∧ a ≠ c ∧ b ≠ c ∧ (u = a ∨ u = b ∨ u = c) ∧ (v = a ∨ v = b ∨ v = c) := by
  have fill : ∀ x y : Nat, ∃ z, z < 3 ∧ z ≠ x ∧ z ≠ y := fun x y => by
    by_cases h0 : 0 ≠ x ∧ 0 ≠ y
    · exact ⟨0, by omega, h0⟩
    · by_cases h1 : 1 ≠ x ∧ 1 ≠ y
      · exact ⟨1, by omega, h1⟩
      · exact ⟨2, by omega, by omega⟩
  by_cases hua : u = a
  · by_cases hva : v = a
    · obtain ⟨z, z1, z2, _⟩ := fill a a
      obtain ⟨y, y1, y2, y3⟩ := fill a z
      exact ⟨z, y, by omega, by omega, by omega, by omega, by omega, .inl hua, .inl hva⟩
    · obtain ⟨y, y1, y2, y3⟩ := fill a v
      exact ⟨v, y, by omega, by omega, by omega, by omega, by omega, .inl hua, .inr (.inl rfl)⟩
  · by_cases hva : v = a ∨ v = u
    · obtain ⟨y, y1, y2, y3⟩ := fill a u
      exact ⟨u, y, by omega, by omega, by omega, by omega, by omega, .inr (.inl rfl), by omega⟩
    · exact ⟨u, v, by omega, by omega, by omega, by omega, by omega, .inr (.inl rfl), .inr (.inr rfl)⟩
theorem xor_zero_eq {x y : Nat} (h : x ^^^ y = 0) : x = y := by
  have h1 : x ^^^ (x ^^^ y) = x ^^^ 0 := by rw [h]
  rw [← Nat.xor_assoc, Nat.xor_self, Nat.zero_xor, Nat.xor_zero] at h1
  exact h1.symm
/-- a word that differs from a consistent group in at most three pieces -/
theorem dist_yes (F O : Nat → Nat) (n : Nat) (ks : List Nat) (hn : n ≤ 13) (hF : ∀ p, F p < 256) (hO : ∀ p, O p < 256) (hl : ks.length ≤ 3) (hk : ∀ k ∈ ks, k < n + 3)
    (hs : ∀ p, p < (n + 3) * 8 → p / 8 ∉ ks → O p = cat n F (par F n) p) :
    eqB 24 (par O n) (fun q => O (n * 8 + q)) = eqB ((n + 3) * 8) O (cat n F (par F n)) := by
  obtain ⟨G, hG⟩ : ∃ G, G = cat n F (par F n) := ⟨_, rfl⟩
  rw [← hG] at hs ⊢
  have hGl : ∀ p, G p < 256 := by rw [hG]; exact cat_lt hF (par_lt n)
  -- the group is consistent
  have gs : ∀ j k, j < 3 → k < 8 → sp G j n k = G ((n + j) * 8 + k) := fun j k hj hk8 => by
    have e1 : sp G j n k = sp F j n k := sp_congr j k n (fun p hp hm => by rw [hG, cat, if_pos (by omega)]) hk8
    rw [e1, hG, cat, if_neg (by omega), show (n + j) * 8 + k - n * 8 = j * 8 + k by omega, par, show (j * 8 + k) / 8 = j by omega, show (j * 8 + k) % 8 = k by omega]
  rw [Bool.eq_iff_iff, eqB_iff, eqB_iff]
  constructor
  · intro h p hp
    by_cases hin : p / 8 ∈ ks
    · -- the column
      have hk8 : p % 8 < 8 := Nat.mod_lt _ (by omega)
      have ha := hk _ hin
      obtain ⟨u, v, hu, hv, huv⟩ : ∃ u v, u < n + 3 ∧ v < n + 3 ∧ ∀ k ∈ ks, k = p / 8 ∨ k = u ∨ k = v := by
        match ks, hl, hin, hk with
        | [x], _, hin, _ => exact ⟨p / 8, p / 8, ha, ha, fun k hk => by simp at hk hin; omega⟩
        | [x, y], _, hin, hk =>
          simp only [List.mem_cons, List.not_mem_nil, or_false] at hin hk
          rcases hin with hin | hin
          · exact ⟨y, y, hk y (.inr rfl), hk y (.inr rfl), fun k hk => by simp at hk; omega⟩
          · exact ⟨x, x, hk x (.inl rfl), hk x (.inl rfl), fun k hk => by simp at hk; omega⟩
        | [x, y, z], _, hin, hk =>
          simp only [List.mem_cons, List.not_mem_nil, or_false] at hin hk
          rcases hin with hin | hin | hin
          · exact ⟨y, z, hk y (.inr (.inl rfl)), hk z (.inr (.inr rfl)), fun k hk => by simp at hk; omega⟩
          · exact ⟨x, z, hk x (.inl rfl), hk z (.inr (.inr rfl)), fun k hk => by simp at hk; omega⟩
          · exact ⟨x, y, hk x (.inl rfl), hk y (.inr (.inl rfl)), fun k hk => by simp at hk; omega⟩
      obtain ⟨b, c, hb, hcc, hab, hac, hbc, hub, hvb⟩ := two_others (n + 3) (p / 8) u v (by omega) hu hv
      have z := col_zero n hn (fun i => O (i * 8 + p % 8) ^^^ G (i * 8 + p % 8)) (fun i => Gf.xor_lt (hO _) (hGl _)) (p / 8) b c ha hb hcc hab hac hbc
        (fun i hi h1 h2 h3 => by
          show O (i * 8 + p % 8) ^^^ G (i * 8 + p % 8) = 0
          rw [hs (i * 8 + p % 8) (by omega) (fun hm => by
            rw [show (i * 8 + p % 8) / 8 = i by omega] at hm
            have := huv i hm
            omega), Nat.xor_self])
        (fun j hj => by
          rw [syn_xor n _ _ (fun i => hO _) (fun i => hGl _) j, syn_sp O hO n j (p % 8) hj, syn_sp G hGl n j (p % 8) hj, gs j _ hj hk8, Nat.xor_self, Nat.xor_zero]
          have h4 := h (j * 8 + p % 8) (by omega)
          rw [par, show (j * 8 + p % 8) / 8 = j by omega, show (j * 8 + p % 8) % 8 = p % 8 by omega, show n * 8 + (j * 8 + p % 8) = (n + j) * 8 + p % 8 by omega] at h4
          rw [h4, Nat.xor_self])
      have z : O (p / 8 * 8 + p % 8) ^^^ G (p / 8 * 8 + p % 8) = 0 := z
      rw [show p / 8 * 8 + p % 8 = p by omega] at z
      exact xor_zero_eq z
    · exact hs p hp hin
  · intro h p hp
    have e1 : par O n p = par G n p := sp_congr _ _ n (fun q hq _ => h q (by omega)) (Nat.mod_lt _ (by omega))
    rw [e1, par, gs (p / 8) (p % 8) (by omega) (Nat.mod_lt _ (by omega))]
    show G ((n + p / 8) * 8 + p % 8) = O (n * 8 + p)
    rw [h (n * 8 + p) (by omega), show (n + p / 8) * 8 + p % 8 = n * 8 + p by omega]
end Go.Proofs.Ytibhhonmcbbohaa
