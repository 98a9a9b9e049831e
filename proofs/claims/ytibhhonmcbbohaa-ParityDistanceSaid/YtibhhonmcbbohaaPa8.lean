/- The walks of slices.Equal at blocks and of parity.Check. -/
import Derived.Test.YtibhhonmcbbohaaPa6
namespace Go.Proofs.Ytibhhonmcbbohaa
open Go.RowKit

theorem encode_any (F : Nat → Nat) (b off n c : Nat) (w : World) (h1 : 1 ≤ n) (h2 : n ≤ 13) (hF : ∀ j, F j < 256) (hI : ∀ j : Nat, j < n * 8 → w.cell? ⟨b, off + j, none⟩ = some (.int .u8 (F j : Nat))) :
    Calls Try.prog 14 #[.slice (some ⟨b, off, none⟩) n c] w fun e w' => e = .returned (.tuple #[.slice (some ⟨w.heap.size, 0, none⟩) 3 3, .int .i64 0]) ∧ RB w' w.heap.size 24 37 (enc3 F n) ∧ Below w.heap.size w w' :=
  callsIn_wide.1 (encode_in F b off n c w h1 h2 hF hI)
theorem encode_bad (A : Option Addr) (n c : Nat) (w : World) (h : n < 1 ∨ 13 < n) (hn : n ≤ 1000000) :
    Calls Try.prog 14 #[.slice A n c] w fun e w' => e = .returned (.tuple #[.slice none 0 0, .int .i64 1]) ∧ Below w.heap.size w w' := by
  rcases h with h | h
  · obtain rfl : n = 0 := by omega
    go_enter Try.func14, Try.ntmps14
    go_wp2_with fail
    go_ret2
    exact ⟨rfl, Below.refl _ _⟩
  · go_enter Try.func14, Try.ntmps14
    go_wp2_with fail
    go_ret2
    exact ⟨rfl, Below.refl _ _⟩

theorem keepw {w W w1 : World} (h : Below w.heap.size w W) (hB : Below W.heap.size W w1) : Below w.heap.size w w1 := h.trans (hB.mono h.size)
theorem enc3_lt {F : Nat → Nat} (hF : ∀ j, F j < 256) (n : Nat) (k : Nat) : enc3 F n k < 256 := by
  unfold enc3 outc
  split
  · exact horn_lt hF (Gf.ex_lt _) _ _
  · split
    · exact horn_lt hF (Gf.ex_lt _) _ _
    · split
      · exact horn_lt hF (Gf.ex_lt _) _ _
      · show (0 : Nat) < 256; omega
set_option maxRecDepth 100000 in
theorem equal_any (F G : Nat → Nat) (A A' : Option Addr) (n ca cb : Nat) (w : World) (hn : n ≤ 1000) (hF : ∀ j, F j < 256) (hG : ∀ j, G j < 256) (hA : Bks w A n F) (hA' : Bks w A' n G) :
    Calls Try.prog 27 #[.slice A n ca, .slice A' n cb] w fun e w' => e = .returned (.bool (eqB (n * 8) F G)) ∧ Below w.heap.size w w' := by
  have HA := Lib.hid hA
  have HB := Lib.hid hA'
  clear hA hA'
  go_enter Try.func27, Try.ntmps27
  go_wp2_with fail
  go_loopw [13] (fun vi wr => ∃ i : Nat, i ≤ n ∧ vi = .int .i64 i ∧ (∀ j, j < i * 8 → F j = G j) ∧ Below w.heap.size w wr) (fun vi _ => n - (intOf vi).toNat)
  case atStart => exact ⟨0, by omega, rfl, fun j hj => by omega, Below.refl _ _⟩
  case round =>
    obtain ⟨i, hi, rfl, hq, hB⟩ := hrel
    have HQ := Lib.hid hq
    have HW := Lib.hid hB
    clear hq hB
    by_cases hlt : i < n
    · obtain ⟨b1, o1, rfl, h1⟩ := HA.out.below HW.out (by omega)
      obtain ⟨b2, o2, rfl, h2⟩ := HB.out.below HW.out (by omega)
      obtain ⟨c0, c1, c2, c3, c4, c5, c6, c7⟩ := cellsAt h1 hlt
      obtain ⟨d0, d1, d2, d3, d4, d5, d6, d7⟩ := cellsAt h2 hlt
      clear h1 h2
      have hne := run_neqB (fun j => F (i * 8 + j)) (fun j => G (i * 8 + j)) (fun j => hF _) (fun j => hG _)
      simp only [brow8, Nat.add_zero] at hne
      by_cases he : ∀ j, j < 8 → F (i * 8 + j) = G (i * 8 + j)
      · rw [eqB_yes he] at hne
        have HE := Lib.hid he
        clear he
        go_wp2_with fail
        go_quiet (fail)
        go_wp2_with fail
        go_roundw
        case rel =>
          refine ⟨i + 1, by omega, by go_num, fun j hj => ?_, HW.out.trans (Go.Joins.below_draws _ _ _)⟩
          by_cases h1 : j < i * 8
          · exact HQ.out j h1
          · have := HE.out (j - i * 8) (by omega)
            rwa [show i * 8 + (j - i * 8) = j by omega] at this
        case measure => simp [intOf]; omega
      · rw [eqB_no he] at hne
        have HE := Lib.hid he
        clear he
        go_wp2_with fail
        go_quiet (fail)
        go_wp2_with fail
        go_ret
        refine ⟨?_, HW.out.trans (Go.Joins.below_draws _ _ _)⟩
        rw [eqB_no (fun h => HE.out (fun j hj => h _ (by omega)))]; rfl
    · obtain rfl : i = n := by omega
      go_wp2_with fail
      go_ret
      exact ⟨by rw [eqB_yes HQ.out]; rfl, HW.out⟩
set_option maxRecDepth 100000 in
set_option maxHeartbeats 1000000 in
theorem check_any (F : Nat → Nat) (b off n c : Nat) (w : World) (h1 : 4 ≤ n) (h2 : n ≤ 16) (hc : n ≤ c) (hF : ∀ j, F j < 256) (hI : ∀ j : Nat, j < n * 8 → w.cell? ⟨b, off + j, none⟩ = some (.int .u8 (F j : Nat))) :
    Calls Try.prog 17 #[.slice (some ⟨b, off, none⟩) n c] w fun e w' => e = .returned (.bool (eqB 24 (enc3 F (n - 3)) (fun k => F ((n - 3) * 8 + k)))) ∧ Below w.heap.size w w' := by
  have hbw : b < w.heap.size := World.block_lt_of_cell? w ⟨b, off + 0, none⟩ (hI 0 (by omega))
  have HI := Lib.hid hI
  clear hI
  go_enter Try.func17, Try.ntmps17
  go_wp2_with fail
  refine (encode_any F b off (n - 3) c w (by omega) (by omega) hF (fun j hj => HI.out j (by omega))).mono ?_
  rintro e w1 ⟨rfl, hR, hB⟩
  have HE := Lib.hid (equal_any (enc3 F (n - 3)) (fun k => F ((n - 3) * 8 + k)) (some ⟨w.heap.size, 0, none⟩) (some ⟨b, off + (n - 3) * 8, none⟩) 3 3 (c - (n - 3)) w1 (by omega) (enc3_lt hF _) (fun k => hF _)
    (fun _ => ⟨_, _, rfl, fun j hj => by rw [Nat.zero_add]; exact hR.cell j (by omega)⟩) (fun _ => ⟨_, _, rfl, fun j hj => by rw [Nat.add_assoc]; exact (hB.cell (p := ⟨b, off + ((n - 3) * 8 + j), none⟩) hbw).trans (HI.out _ (by omega))⟩))
  have HB := Lib.hid hB
  clear hB hR
  go_wp2_with fail
  rw [show n - (n - 3) = 3 by omega]
  with_reducible refine HE.out.mono ?_
  rintro e w2 ⟨rfl, hB2⟩
  have HB2 := Lib.hid (keepw HB.out hB2)
  clear hB2
  go_wp2_with fail
  go_ret
  exact ⟨rfl, HB2.out⟩
end Go.Proofs.Ytibhhonmcbbohaa
