/- The plain law of the parity: Horner's rule over the pieces from the last to the first gives the sum of the powers of the base times the pieces. -/
import Derived.Test.YtibhhonmcbbohaaPa10
namespace Go.Proofs.Ytibhhonmcbbohaa
open Go.RowKit

theorem npow_2_2 (m : Nat) : Gf.npow 2 m = Gf.ex m := by
  have h := Gf.npow_ex 1 m
  rw [show Gf.ex 1 = 2 by decide +kernel, Nat.one_mul] at h
  exact h
theorem upto_bwd (n : Nat) : upto (bwd (n + 1)) (n + 1) = n :: upto (bwd n) n := by
  unfold upto bwd
  rw [List.range_succ_eq_map, List.map_cons, List.map_map]
  congr 1
  refine List.map_congr_left (fun j _ => ?_)
  simp only [Function.comp]
  omega
theorem horn_fold (F : Nat → Nat) (j : Nat) (hF : ∀ p, F p < 256) : ∀ (n : Nat) (h : Nat → Nat), (∀ k, h k < 256) → ∀ k,
    (upto (bwd n) n).foldl (fun (h : Nat → Nat) x k => F (x * 8 + k) ^^^ Gf.mul (Gf.ex j) (h k)) h k = sp F j n k ^^^ Gf.mul (Gf.ex (j * n)) (h k)
  | 0, h, hh, k => by
    show h k = 0 ^^^ Gf.mul (Gf.ex 0) (h k)
    rw [show Gf.ex 0 = 1 from rfl, Gf.one_mul _ (hh k), Nat.zero_xor]
  | n + 1, h, hh, k => by
    rw [upto_bwd, List.foldl_cons, horn_fold F j hF n _ (fun k => Nat.xor_lt_two_pow (n := 8) (hF _) (Gf.mul_lt _ _ (Gf.ex_lt j))) k]
    show sp F j n k ^^^ _ = (sp F j n k ^^^ Gf.mul (Gf.npow 2 (j * n)) (F (n * 8 + k))) ^^^ _
    rw [Gf.mul_xor_right _ _ _ (Gf.ex_lt _) (hF _) (Gf.mul_lt _ _ (Gf.ex_lt j)), ← Gf.mul_assoc _ _ _ (Gf.ex_lt _) (Gf.ex_lt _) (hh k), Gf.ex_mul, npow_2_2, ← Nat.xor_assoc]
    rfl
theorem horn_sp (F : Nat → Nat) (j n k : Nat) (hF : ∀ p, F p < 256) : horn F (Gf.ex j) (upto (bwd n) n) k = sp F j n k := by
  unfold horn
  rw [horn_fold F j hF n _ (fun _ => by omega) k, Gf.mul_zero, Nat.xor_zero]
/-- the three parity blocks, flat: block j is the sum of npow 2 (j*i) times the pieces -/
def par (F : Nat → Nat) (n : Nat) (p : Nat) : Nat := sp F (p / 8) n (p % 8)
theorem par_lt {F : Nat → Nat} (n p : Nat) : par F n p < 256 := sp_lt _ _ _
theorem parS_par (F : Nat → Nat) (n p : Nat) (h : p < 24) : parS F n 3 0 0 p = par F n p := by
  unfold parS par
  rw [if_pos (by omega)]
theorem enc3_par (F : Nat → Nat) (n p : Nat) (hF : ∀ p, F p < 256) (h : p < 24) : enc3 F n p = par F n p := by
  unfold enc3 outc par
  by_cases h2 : p / 8 = 2
  · rw [if_pos h2, h2, horn_sp _ _ _ _ hF]
  · rw [if_neg h2]
    by_cases h1 : p / 8 = 1
    · rw [if_pos h1, h1, horn_sp _ _ _ _ hF]
    · rw [if_neg h1, if_pos (by omega), horn_sp _ _ _ _ hF, show p / 8 = 0 by omega]
/-- Encode, with the result of the definition -/
theorem encode_par (F : Nat → Nat) (b off n c : Nat) (w : World) (h1 : 1 ≤ n) (h2 : n ≤ 13) (hF : ∀ j, F j < 256) (hI : ∀ j : Nat, j < n * 8 → w.cell? ⟨b, off + j, none⟩ = some (.int .u8 (F j : Nat))) :
    Calls Try.prog 14 #[.slice (some ⟨b, off, none⟩) n c] w fun e w' => e = .returned (.tuple #[.slice (some ⟨w.heap.size, 0, none⟩) 3 3, .int .i64 0]) ∧ RB w' w.heap.size 24 37 (par F n) ∧ Below w.heap.size w w' :=
  (encode_any F b off n c w h1 h2 hF hI).mono fun _ _ h => ⟨h.1, h.2.1.congr fun p hp => enc3_par F n p hF hp, h.2.2⟩
theorem ref_par (F : Nat → Nat) (A : Option Addr) (n c : Nat) (w : World) (h2 : n ≤ 40) (hF : ∀ j, F j < 256) (hI : Bks w A n F) :
    Calls Try.prog 16 #[.slice A n c] w fun e w' => e = .returned (.slice (some ⟨w.heap.size, 0, none⟩) 3 3) ∧ RB w' w.heap.size 24 37 (par F n) ∧ Below w.heap.size w w' :=
  (rparity_any F A n c w h2 hF hI).mono fun _ _ h => ⟨h.1, h.2.1.congr fun p hp => parS_par F n p hp, h.2.2⟩
theorem check_par (F : Nat → Nat) (b off n c : Nat) (w : World) (h1 : 4 ≤ n) (h2 : n ≤ 16) (hc : n ≤ c) (hF : ∀ j, F j < 256) (hI : ∀ j : Nat, j < n * 8 → w.cell? ⟨b, off + j, none⟩ = some (.int .u8 (F j : Nat))) :
    Calls Try.prog 17 #[.slice (some ⟨b, off, none⟩) n c] w fun e w' => e = .returned (.bool (eqB 24 (par F (n - 3)) (fun k => F ((n - 3) * 8 + k)))) ∧ Below w.heap.size w w' :=
  (check_any F b off n c w h1 h2 hc hF hI).mono fun _ _ h => ⟨by
    rw [h.1]
    congr 2
    rw [Bool.eq_iff_iff, eqB_iff, eqB_iff]
    exact forall_congr' fun p => forall_congr' fun hp => by rw [enc3_par F _ p hF hp], h.2⟩
end Go.Proofs.Ytibhhonmcbbohaa
