/- The walk of the law ThrottleFair: it returns true. -/
import Derived.Test.YtogdabfmfabjkaaTh5
namespace Go.Proofs.Ytogdabfmfabjkaa
open Go.RowKit

set_option maxRecDepth 100000 in
set_option maxHeartbeats 4000000 in
theorem lawFair_any (r b a : Nat) (w : World) (hr : r < 256) (hb : b < 256) (ha : a < 256) :
    Calls Try.prog 9 #[.int .u8 r, .int .u8 b, .int .u8 a] w fun e w' => e = .returned (.bool true) ∧ Below w.heap.size w w' := by
  obtain ⟨R, hR⟩ : ∃ R : Int, R = 1 + (r : Int) % 50 := ⟨_, rfl⟩
  obtain ⟨U, hU⟩ : ∃ U : Int, U = 1 + (b : Int) := ⟨_, rfl⟩
  obtain ⟨N, hN⟩ : ∃ N : Int, N = 1 + (a : Int) % U := ⟨_, rfl⟩
  have hR1 : 1 ≤ R := by omega
  have hR2 : R ≤ 50 := by omega
  have hU1 : 1 ≤ U := by omega
  have hU2 : U ≤ 256 := by omega
  have hN1 : 1 ≤ N := by have := Int.emod_nonneg (a : Int) (show U ≠ 0 by omega); omega
  have hN2 : N ≤ U := by have := Int.emod_lt_of_pos (a : Int) (show 0 < U by omega); omega
  have hR3 := hR.symm
  have hU3 := hU.symm
  have hN3 := hN.symm
  have hUz : ¬ U = 0 := by omega
  have HN := Lib.hid (fun W => new_any R U W (by unfold okRB; omega))
  clear hR hU hN
  go_enter Try.func9, Try.ntmps9
  go_wp2_with (go_at_call 10; refine (awake_any _).mono ?_; rintro e w1 ⟨rfl, hB⟩; have HW1 := Lib.hid hB; clear hB)
  refine (HN.out w1).mono ?_
  rintro e w2 ⟨rfl, b2, hB⟩
  have HB2 := Lib.hid b2
  have HW2 := Lib.hid (keepw HW1.out hB)
  have hs := HW1.out.size
  clear b2 hB
  have htk : ∀ L : Int, 0 ≤ L → L ≤ U → tickL R U L 1 = min U (L + R) := fun L _ h => by rw [tickL_min (by omega) h (by omega), Int.one_mul]
  go_wp2_with fail
  go_loopw [12, 13] (fun vt vk wr => ∃ k t L : Int, 0 ≤ k ∧ k ≤ 10 ∧ 0 ≤ t ∧ 0 ≤ L ∧ L ≤ U ∧ vt = .int .i64 t ∧ vk = .int .i64 k ∧ U + t ≤ k * N + L ∧ k * N + L ≤ U + t * R ∧
      Buk wr w1.heap.size R U L ∧ Below w.heap.size w wr) (fun vt vk _ => 3010 - (intOf vt + intOf vk).toNat)
  case atStart => exact ⟨0, 0, U, by omega, by omega, by omega, by omega, by omega, rfl, rfl, by omega, by omega, HB2.out, HW2.out⟩
  case round =>
    clear HB2 HW2
    obtain ⟨k, t, L, hk0, hk1, ht0, hL0, hL1, rfl, rfl, i1, i2, hb2, hw2⟩ := hrel
    have HB2 := Lib.hid hb2
    have HW2 := Lib.hid hw2
    clear hb2 hw2
    by_cases hk : k < 10
    · have q1 : k * N ≤ 9 * N := Int.mul_le_mul_of_nonneg_right (by omega) (by omega)
      have ht3 : t < 3000 := by omega
      have HT := Lib.hid (fun (W : World) (h : Buk W w1.heap.size R U L) => take_any w1.heap.size R U L N W h (by omega) (by omega) (by omega))
      by_cases hN : N ≤ L
      · rw [show takeL L N = L - N by rw [takeL, if_pos (by omega)], show took L N = true from decide_eq_true (by omega)] at HT
        go_wp2_with (go_at_call 16; (with_reducible refine (HT.out _ HB2.out).mono ?_); rintro e w3 ⟨rfl, b3, g3⟩; have HB3 := Lib.hid b3; have HW3 := Lib.hid (below_g HW2.out g3 hs); clear b3 g3)
        go_roundw
        case rel => exact ⟨k + 1, t, L - N, by omega, by omega, by omega, by omega, by omega, rfl, by go_num, by rw [Int.add_mul]; omega, by rw [Int.add_mul]; omega, HB3.out, HW3.out⟩
        case measure => simp [intOf]; omega
      · rw [show takeL L N = L by rw [takeL, if_neg (by omega)], show took L N = false from decide_eq_false (by omega)] at HT
        have HK := Lib.hid (fun (W : World) (h : Buk W w1.heap.size R U L) => tick_any w1.heap.size R U L 1 W h (by omega) (by omega) (by omega) (by omega) (by omega))
        rw [htk L hL0 hL1] at HK
        go_wp2_with (first
          | (go_at_call 16; (with_reducible refine (HT.out _ HB2.out).mono ?_); rintro e w3 ⟨rfl, b3, g3⟩; have HB3 := Lib.hid b3; have HW3 := Lib.hid (below_g HW2.out g3 hs); clear b3 g3)
          | (go_at_call 18; (with_reducible refine (HK.out _ HB3.out).mono ?_); rintro e w4 ⟨rfl, b3, g3⟩; have HB4 := Lib.hid b3; have HW4 := Lib.hid (below_g HW3.out g3 hs); clear b3 g3))
        go_roundw
        case rel => exact ⟨k, t + 1, min U (L + R), by omega, by omega, by omega, by omega, by omega, by go_num, rfl, by omega, by rw [Int.add_mul]; omega, HB4.out, HW4.out⟩
        case measure => simp [intOf]; omega
    · obtain rfl : k = 10 := by omega
      clear HN
      have j1 : t ≤ 10 * N := by omega
      have j2 : 10 * N ≤ U + t * R := by omega
      clear i1 i2 hk htk
      go_wp2_with fail
      go_loopw [14] (fun vm wq => ∃ m : Int, 0 ≤ m ∧ m ≤ t ∧ vm = .int .i64 m ∧ wq = wr) (fun vm _ => 3000 - (intOf vm).toNat)
      case atStart => exact ⟨0, by omega, by omega, rfl, rfl⟩
      case round =>
        obtain ⟨m, hm0, hm1, rfl, rfl⟩ := hrel
        have p1 : 0 ≤ m * R := Int.mul_nonneg hm0 (by omega)
        have p2 : m * R ≤ m * 50 := Int.mul_le_mul_of_nonneg_left (by omega) hm0
        by_cases hc : U + m * R < 10 * N
        · have hlt : m < t := by
            have : m * R < t * R := by omega
            exact Int.lt_of_mul_lt_mul_right this (by omega)
          go_wp2_with fail
          go_roundw
          case rel => exact ⟨m + 1, by omega, by omega, by go_num, trivial⟩
          case measure => simp [intOf]; omega
        · have hd : decide (t ≤ m + 10 * N) = true := decide_eq_true (by omega)
          go_wp2_with fail
          go_ret
          exact ⟨rfl, HW2.out⟩

end Go.Proofs.Ytogdabfmfabjkaa
