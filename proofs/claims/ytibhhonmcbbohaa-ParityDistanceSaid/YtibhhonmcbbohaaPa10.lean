/- The walk of the reference's Parity. -/
import Derived.Test.YtibhhonmcbbohaaPa9
namespace Go.Proofs.Ytibhhonmcbbohaa
open Go.RowKit

/-- the sum of the first i multiples -/
def sp (F : Nat → Nat) (j : Nat) : Nat → Nat → Nat
  | 0, _ => 0
  | i + 1, k => sp F j i k ^^^ Gf.mul (Gf.npow 2 (j * i)) (F (i * 8 + k))
def parS (F : Nat → Nat) (n j i k p : Nat) : Nat := if p / 8 < j then sp F (p / 8) n (p % 8) else if p / 8 = j then (if p % 8 < k then sp F j (i + 1) (p % 8) else sp F j i (p % 8)) else 0
theorem sp_lt {F : Nat → Nat} (j i k : Nat) : sp F j i k < 256 := by
  induction i with
  | zero => show (0 : Nat) < 256; omega
  | succ i ih => exact Nat.xor_lt_two_pow (n := 8) ih (Gf.mul_lt _ _ (Gf.npow_lt 2 _))
theorem parS_at (F : Nat → Nat) (n j i k : Nat) (h : k < 8) : parS F n j i k (j * 8 + k) = sp F j i k := by
  have e1 : (j * 8 + k) / 8 = j := by omega
  have e2 : (j * 8 + k) % 8 = k := by omega
  simp [parS, e1, e2]
theorem parS_at1 (F : Nat → Nat) (n j i k : Nat) (h : k < 8) : parS F n j i (k + 1) (j * 8 + k) = sp F j (i + 1) k := by
  have e1 : (j * 8 + k) / 8 = j := by omega
  have e2 : (j * 8 + k) % 8 = k := by omega
  simp [parS, e1, e2]
theorem parS_ne (F : Nat → Nat) (n j i k p : Nat) (h : p ≠ j * 8 + k) : parS F n j i k p = parS F n j i (k + 1) p := by
  unfold parS
  by_cases e : p / 8 < j
  · rw [if_pos e, if_pos e]
  · rw [if_neg e, if_neg e]
    by_cases e1 : p / 8 = j
    · rw [if_pos e1, if_pos e1]
      by_cases e2 : p % 8 < k
      · rw [if_pos e2, if_pos (by omega)]
      · rw [if_neg e2, if_neg (by omega)]
    · rw [if_neg e1, if_neg e1]
theorem parS_k (F : Nat → Nat) (n j i p : Nat) : parS F n j i 8 p = parS F n j (i + 1) 0 p := by
  unfold parS
  have h : p % 8 < 8 := by omega
  rw [if_pos h, if_neg (Nat.not_lt_zero _)]
theorem parS_i (F : Nat → Nat) (n j p : Nat) : parS F n j n 0 p = parS F n (j + 1) 0 0 p := by
  unfold parS
  rw [if_neg (Nat.not_lt_zero _), if_neg (Nat.not_lt_zero _)]
  by_cases e : p / 8 < j
  · rw [if_pos e, if_pos (by omega)]
  · rw [if_neg e]
    by_cases e1 : p / 8 = j
    · rw [if_pos e1, if_pos (by omega), e1]
    · rw [if_neg e1, if_neg (by omega)]
      simp [sp]
set_option maxRecDepth 100000 in
set_option maxHeartbeats 1000000 in
theorem rparity_any (F : Nat → Nat) (A : Option Addr) (n c : Nat) (w : World) (h2 : n ≤ 40) (hF : ∀ j, F j < 256) (hI : Bks w A n F) :
    Calls Try.prog 16 #[.slice A n c] w fun e w' => e = .returned (.slice (some ⟨w.heap.size, 0, none⟩) 3 3) ∧ RB w' w.heap.size 24 37 (parS F n 3 0 0) ∧ Below w.heap.size w w' := by
  have hmk := run_make_3
  have HI := Lib.hid hI
  clear hI
  go_enter Try.func16, Try.ntmps16
  go_wp2_with fail
  go_loopw [4] (fun vj wr => ∃ j : Nat, j ≤ 3 ∧ vj = .int .i64 j ∧ RB wr w.heap.size 24 37 (parS F n j 0 0) ∧ Below w.heap.size w wr) (fun vj _ => 3 - (intOf vj).toNat)
  case atStart => exact ⟨0, by omega, rfl, RB.new.congr (fun p _ => by simp [parS, sp]), (Below.refl _ _).alloc (Nat.le_refl _) _⟩
  case round =>
    obtain ⟨j, hj, rfl, hr, hB⟩ := hrel
    by_cases hj3 : j < 3
    · have hjd : decide ((j : Int) < 3) = true := decide_eq_true (by omega)
      go_wp2_with fail
      go_loopw [5] (fun vi wq => ∃ i : Nat, i ≤ n ∧ vi = .int .i64 i ∧ RB wq w.heap.size 24 37 (parS F n j i 0) ∧ Below w.heap.size w wq) (fun vi _ => n - (intOf vi).toNat)
      case atStart => exact ⟨0, by omega, rfl, hr, hB⟩
      case round =>
        clear hr hB
        obtain ⟨i, hi, rfl, hr, hB⟩ := hrel
        by_cases hin : i < n
        · have hji : j * i < 1000000 := by have := Nat.mul_le_mul (show j ≤ 3 by omega) (show i ≤ 40 by omega); omega
          have HP := Lib.hid (fun W => rpower_any 2 (j * i) (by omega) hji W)
          have hmul : ((j : Int) * (i : Int)) = ((j * i : Nat) : Int) := by simp
          obtain ⟨cc, hcc⟩ : ∃ cc, cc = Gf.npow 2 (j * i) := ⟨_, rfl⟩
          have hc : cc < 256 := by rw [hcc]; exact Gf.npow_lt 2 _
          rw [← hcc] at HP
          have HCC := Lib.hid hcc
          clear hcc
          have hlt63 : (j : Int) * (i : Int) < 1000000 := by rw [hmul]; omega
          have hge : 0 ≤ (j : Int) * (i : Int) := by rw [hmul]; omega
          rw [← hmul] at HP
          clear hmul
          go_wp2_with fail
          refine (HP.out _).mono ?_
          rintro e w' ⟨rfl, rfl⟩
          go_wp2_with fail
          go_loopw [7] (fun vk wq => ∃ k : Nat, k ≤ 8 ∧ vk = .int .i64 k ∧ RB wq w.heap.size 24 37 (parS F n j i k) ∧ Below w.heap.size w wq) (fun vk _ => 8 - (intOf vk).toNat)
          case atStart => exact ⟨0, by omega, rfl, hr, hB⟩
          case round =>
            clear hr hB
            obtain ⟨k, hk, rfl, hr, hB⟩ := hrel
            by_cases hk8 : k < 8
            · obtain ⟨b1, o1, rfl, hcs⟩ := HI.out.below hB (by omega)
              have cd : _ := hcs (i * 8 + k) (by omega)
              rw [← Nat.add_assoc] at cd
              clear hcs
              have co : _ := hr.cell (j * 8 + k) (by omega)
              rw [parS_at F n j i k hk8] at co
              have fo : _ := hr.frozen (j * 8 + k)
              obtain ⟨x, hX⟩ : ∃ x, x = sp F j i k := ⟨_, rfl⟩
              obtain ⟨y, hY⟩ : ∃ y, y = F (i * 8 + k) := ⟨_, rfl⟩
              have hx : x < 256 := by rw [hX]; exact sp_lt j i k
              have hy : y < 256 := by rw [hY]; exact hF _
              rw [← hX] at co
              rw [← hY] at cd
              have HX := Lib.hid hX
              have HY := Lib.hid hY
              have HR := Lib.hid hr
              have HW := Lib.hid hB
              clear hX hY hr hB HP hge hlt63
              have hj3i : (j : Int) < 3 := by omega
              go_wp2_with fail
              go_still_tail 17, (by kernel_rfl)
              still_call ((rmul_any cc y hc hy _).mono fun _ _ h => ⟨h.1, h.2.symm⟩)
              repeat still_step
              refine wpStill_nil ?_
              change wpList _ _ _ _ _ wr.drew
              obtain ⟨w2, hw2⟩ : ∃ w2, w2 = wr.drew := ⟨_, rfl⟩
              rw [← hw2]
              have HR2 := Lib.hid (show RB w2 w.heap.size 24 37 (parS F n j i k) by rw [hw2]; exact HR.out)
              have HW2 := Lib.hid (show Below w.heap.size w w2 by rw [hw2]; exact HW.out.drew)
              have co2 : w2.cell? ⟨w.heap.size, j * 8 + k, none⟩ = some (.int .u8 (x : Nat)) := by rw [hw2]; exact co
              have fo2 : w2.frozen? ⟨w.heap.size, j * 8 + k, none⟩ = false := by rw [hw2]; exact fo
              clear co cd fo hw2 HR HW
              go_wp2
              go_roundw
              case rel =>
                refine ⟨k + 1, by omega, by go_num, ?_, HW2.out.setCell (Nat.le_refl _) _⟩
                rw [u8_xor_nat x (Gf.mul cc y) hx (Gf.mul_lt cc y hc)]
                refine HR2.out.set ((parS_at1 F n j i k hk8).trans ?_) (fun p _ e => parS_ne F n j i k p e)
                rw [sp, HX.out, HY.out, HCC.out]
              case measure => simp [intOf]; omega
            · obtain rfl : k = 8 := by omega
              have hr' := hr.congr (fun p _ => parS_k F n j i p)
              go_wp2_with fail
              go_roundw
              case rel => exact ⟨i + 1, by omega, by go_num, hr', hB⟩
              case measure => simp [intOf]; omega
        · obtain rfl : i = n := by omega
          go_wp2_with fail
          go_roundw
          case rel => exact ⟨j + 1, by omega, by go_num, hr.congr (fun p _ => parS_i F _ j p), hB⟩
          case measure => simp [intOf]; omega
    · obtain rfl : j = 3 := by omega
      go_wp2_with fail
      go_ret
      exact ⟨rfl, hr, hB⟩
end Go.Proofs.Ytibhhonmcbbohaa
