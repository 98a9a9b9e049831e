/- parity.Check at other lengths; the reference's Same at unequal lengths; parity.Matrix. -/
import Derived.Test.YtibhhonmcbbohaaPa8
namespace Go.Proofs.Ytibhhonmcbbohaa
open Go.RowKit

theorem check_bad (A : Option Addr) (n c : Nat) (w : World) (h : n < 4 ∨ 16 < n) (hn : n ≤ 1000000) :
    Calls Try.prog 17 #[.slice A n c] w fun e w' => e = .returned (.bool false) ∧ Below w.heap.size w w' := by
  rcases h with h | h
  · go_enter Try.func17, Try.ntmps17
    go_wp2_with fail
    go_ret
    exact ⟨rfl, Below.refl _ _⟩
  · go_enter Try.func17, Try.ntmps17
    go_wp2_with fail
    go_ret
    exact ⟨rfl, Below.refl _ _⟩
theorem rsame_len (A A' : Option Addr) (n m ca cb : Nat) (w : World) (h : n ≠ m) :
    Calls Try.prog 15 #[.slice A n ca, .slice A' m cb] w fun e w' => e = .returned (.bool false) ∧ Below w.heap.size w w' := by
  have hne : ((n : Int) == (m : Int)) = false := by rw [beq_eq_false_iff_ne]; omega
  go_enter Try.func15, Try.ntmps15
  go_wp2_with fail
  go_ret
  exact ⟨rfl, Below.refl _ _⟩
theorem matrix_bad (n : Int) (w : World) (h : n < 1 ∨ 13 < n) :
    Calls Try.prog 12 #[.int .i64 n] w fun e w' => e = .returned (.tuple #[.slice none 0 0, .int .i64 1]) ∧ Below w.heap.size w w' := by
  rcases h with h | h
  · go_enter Try.func12, Try.ntmps12
    go_wp2_with fail
    go_ret2
    exact ⟨rfl, Below.refl _ _⟩
  · go_enter Try.func12, Try.ntmps12
    go_wp2_with fail
    go_ret2
    exact ⟨rfl, Below.refl _ _⟩
end Go.Proofs.Ytibhhonmcbbohaa
