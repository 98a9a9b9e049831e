/- The arithmetic of a token bucket; no program in sight. -/
import Derived.Test.YtogdabfmfabjkaaTh2
namespace Go.Proofs.Ytogdabfmfabjkaa

theorem ceil_lo {d R : Int} (hR : 1 ≤ R) : d ≤ ((d + R - 1) / R) * R := by
  have h1 := Int.emod_add_mul_ediv (d + R - 1) R
  have h2 := Int.emod_lt_of_pos (d + R - 1) (show 0 < R by omega)
  rw [Int.mul_comm] at h1
  omega
theorem ceil_hi {d R : Int} (hR : 1 ≤ R) : ((d + R - 1) / R) * R ≤ d + R - 1 := Int.ediv_mul_le _ (by omega)
theorem ceil_le {d R m : Int} (hR : 1 ≤ R) (h : d ≤ m * R) : (d + R - 1) / R ≤ m := by
  have h1 := ceil_hi (d := d) hR
  have h2 : ((d + R - 1) / R) * R < (m + 1) * R := by rw [Int.add_mul]; omega
  have := Int.lt_of_mul_lt_mul_right h2 (by omega)
  omega
theorem ceil_gt {d R m : Int} (hR : 1 ≤ R) (h : m * R < d) : m < (d + R - 1) / R := by
  have h1 := ceil_lo (d := d) hR
  have h2 : m * R < ((d + R - 1) / R) * R := by omega
  exact Int.lt_of_mul_lt_mul_right h2 (by omega)
/-- ticks by the rule 'the least of the burst and what has flowed in' -/
theorem tickL_min {R B L n : Int} (hR : 0 ≤ R) (h2 : L ≤ B) (hn : 0 ≤ n) : tickL R B L n = min B (L + n * R) := by
  unfold tickL
  by_cases h0 : n ≤ 0 ∨ R = 0
  · rw [if_pos h0]
    have : n * R = 0 := by
      rcases h0 with h0 | h0
      · rw [show n = 0 by omega, Int.zero_mul]
      · rw [h0, Int.mul_zero]
    omega
  · rw [if_neg h0]
    have hR1 : 1 ≤ R := by omega
    by_cases hf : (B - L + R - 1) / R ≤ n
    · rw [if_pos hf]
      have h1 := ceil_lo (d := B - L) hR1
      have h3 := Int.mul_le_mul_of_nonneg_right hf hR
      omega
    · rw [if_neg hf]
      have h1 : ¬ B - L ≤ n * R := fun h => hf (ceil_le hR1 h)
      omega
theorem tickL_bd {R B L n : Int} (hR : 0 ≤ R) (h2 : L ≤ B) : L ≤ tickL R B L n ∧ tickL R B L n ≤ B := by
  by_cases hn : 0 ≤ n
  · rw [tickL_min hR h2 hn]
    have := Int.mul_nonneg hn hR
    omega
  · unfold tickL
    rw [if_pos (.inl (by omega))]
    omega
theorem takeL_bd {L n : Int} (h : 0 ≤ L) : 0 ≤ takeL L n ∧ takeL L n ≤ L := by unfold takeL; split <;> omega
theorem wait_spec {R B L n k : Int} (hR : 1 ≤ R) (h3 : L < n) (h4 : n ≤ B) (hk : k = (n - L + R - 1) / R) :
    1 ≤ k ∧ k ≤ n - L ∧ tickL R B L (k - 1) < n ∧ n ≤ tickL R B (tickL R B L (k - 1)) 1 := by
  have a1 : 1 ≤ k := by
    have := ceil_gt (d := n - L) (m := 0) hR (by omega)
    omega
  have a2 : k ≤ n - L := by
    rw [hk]
    refine ceil_le hR ?_
    have := Int.mul_le_mul_of_nonneg_left hR (show 0 ≤ n - L by omega)
    omega
  have a3 : (k - 1) * R < n - L := by
    have := ceil_hi (d := n - L) hR
    rw [← hk] at this
    rw [Int.sub_mul]
    omega
  have a4 : n - L ≤ k * R := by rw [hk]; exact ceil_lo hR
  have b1 := tickL_min (R := R) (B := B) (L := L) (n := k - 1) (by omega) (by omega) (by omega)
  have b2 : tickL R B L (k - 1) = L + (k - 1) * R := by omega
  refine ⟨a1, a2, by omega, ?_⟩
  rw [tickL_min (by omega) (by omega) (by omega), b2]
  rw [Int.sub_mul] at *
  omega
theorem tickL_add {R B L n m : Int} (hR : 0 ≤ R) (h2 : L ≤ B) (hn : 0 ≤ n) (hm : 0 ≤ m) : tickL R B (tickL R B L n) m = tickL R B L (n + m) := by
  have h := tickL_bd (n := n) hR h2
  rw [tickL_min hR h.2 hm, tickL_min hR h2 hn, tickL_min hR h2 (by omega)]
  rw [Int.add_mul]
  have := Int.mul_nonneg hn hR
  have := Int.mul_nonneg hm hR
  omega
end Go.Proofs.Ytogdabfmfabjkaa
