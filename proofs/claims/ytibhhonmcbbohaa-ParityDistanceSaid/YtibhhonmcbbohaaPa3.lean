/- Rows of blocks; the walk of the reference's Same. -/
import Derived.Test.YtibhhonmcbbohaaPa2
import Derived.Deep.QuietTactic
import Derived.BigQuiet
import Derived.Laws.StructEq
import Derived.Stop.BytesEq
namespace Go.Proofs.Ytibhhonmcbbohaa
open Go.RowKit

/-- a slice of n blocks whose 8 n bytes are F -/
def Bks (w : World) (A : Option Addr) (n : Nat) (F : Nat → Nat) : Prop := 0 < n → ∃ b off : Nat, A = some ⟨b, off, none⟩ ∧ ∀ j : Nat, j < n * 8 → w.cell? ⟨b, off + j, none⟩ = some (.int .u8 (F j : Nat))
theorem Bks.below {w w' : World} {A : Option Addr} {n : Nat} {F : Nat → Nat} (h : Bks w A n F) (hB : Below w.heap.size w w') : Bks w' A n F := fun h0 => by
  obtain ⟨b, off, rfl, hc⟩ := h h0
  exact ⟨b, off, rfl, fun j hj => (hB.cell (World.block_lt_of_cell? w _ (hc j hj))).trans (hc j hj)⟩
theorem cellsAt {w : World} {b off i n : Nat} {F : Nat → Nat} (h : ∀ j : Nat, j < n * 8 → w.cell? ⟨b, off + j, none⟩ = some (.int .u8 (F j : Nat))) (hi : i < n) :
    w.cell? ⟨b, off + i * 8, none⟩ = some (.int .u8 (F (i * 8) : Nat)) ∧ w.cell? ⟨b, off + i * 8 + 1, none⟩ = some (.int .u8 (F (i * 8 + 1) : Nat)) ∧ w.cell? ⟨b, off + i * 8 + 2, none⟩ = some (.int .u8 (F (i * 8 + 2) : Nat)) ∧
    w.cell? ⟨b, off + i * 8 + 3, none⟩ = some (.int .u8 (F (i * 8 + 3) : Nat)) ∧ w.cell? ⟨b, off + i * 8 + 4, none⟩ = some (.int .u8 (F (i * 8 + 4) : Nat)) ∧ w.cell? ⟨b, off + i * 8 + 5, none⟩ = some (.int .u8 (F (i * 8 + 5) : Nat)) ∧
    w.cell? ⟨b, off + i * 8 + 6, none⟩ = some (.int .u8 (F (i * 8 + 6) : Nat)) ∧ w.cell? ⟨b, off + i * 8 + 7, none⟩ = some (.int .u8 (F (i * 8 + 7) : Nat)) := by
  refine ⟨h _ (by omega), ?_, ?_, ?_, ?_, ?_, ?_, ?_⟩
  all_goals (rw [Nat.add_assoc]; exact h _ (by omega))

/-- the first n bytes are equal -/
def eqB (n : Nat) (f g : Nat → Nat) : Bool := (List.range n).all fun j => f j == g j
theorem eqB_iff {n : Nat} {f g : Nat → Nat} : eqB n f g = true ↔ ∀ j, j < n → f j = g j := by simp [eqB]
theorem eqB_yes {n : Nat} {f g : Nat → Nat} (h : ∀ j, j < n → f j = g j) : eqB n f g = true := eqB_iff.2 h
theorem eqB_no {n : Nat} {f g : Nat → Nat} (h : ¬ ∀ j, j < n → f j = g j) : eqB n f g = false := by
  cases e : eqB n f g
  · rfl
  · exact absurd (eqB_iff.1 e) h
theorem brow_cells (f : Nat → Nat) (hf : ∀ j, f j < 256) (n : Nat) : brow n f = (((List.range n).map fun j => UInt8.ofNat (f j)).map Extern.Stop.cell).toArray := by
  unfold brow
  congr 1
  rw [List.map_map]
  refine List.map_congr_left (fun j _ => ?_)
  have := hf j
  simp [Extern.Stop.cell, Nat.mod_eq_of_lt this]
theorem run_eqB (f g : Nat → Nat) (hf : ∀ j, f j < 256) (hg : ∀ j, g j < 256) (W : World) :
    (Op.equalIn 10000 37 (.agg (brow 8 f)) (.agg (brow 8 g))).run Try.prog W = .ok (eqB 8 f g) W := by
  rw [brow_cells f hf, brow_cells g hg, run_equalIn_bytes W 9998 37 5 8 Try.underlying37 Try.underlying5 (fun _ => rfl) _ _ (by simp) (by simp)]
  congr 1
  rw [Bool.eq_iff_iff, beq_iff_eq, eqB_iff]
  constructor
  · intro h j hj
    have h1 := congrArg (fun l => l[j]?) h
    have h2 := hf j
    have h3 := hg j
    simp [hj] at h1
    have h4 := congrArg UInt8.toNat h1
    simpa [Nat.mod_eq_of_lt h2, Nat.mod_eq_of_lt h3] using h4
  · intro h
    exact List.map_congr_left (fun j hj => by rw [h j (by simpa using hj)])
theorem run_neqB (f g : Nat → Nat) (hf : ∀ j, f j < 256) (hg : ∀ j, g j < 256) (W : World) :
    (binOp .neq 37 (.agg (brow 8 f)) (.agg (brow 8 g))).run Try.prog W = .ok (.bool (!(eqB 8 f g))) W := by
  rw [run_neq_struct, run_eqB f g hf hg]; rfl
set_option maxRecDepth 100000 in
theorem rsame_any (F G : Nat → Nat) (A A' : Option Addr) (n ca cb : Nat) (w : World) (hn : n ≤ 1000) (hF : ∀ j, F j < 256) (hG : ∀ j, G j < 256) (hA : Bks w A n F) (hA' : Bks w A' n G) :
    Calls Try.prog 15 #[.slice A n ca, .slice A' n cb] w fun e w' => e = .returned (.bool (eqB (n * 8) F G)) ∧ Below w.heap.size w w' := by
  have HA := Lib.hid hA
  have HB := Lib.hid hA'
  clear hA hA'
  go_enter Try.func15, Try.ntmps15
  go_wp2_with fail
  go_loopw [5] (fun vi wr => ∃ i : Nat, i ≤ n ∧ vi = .int .i64 i ∧ (∀ j, j < i * 8 → F j = G j) ∧ Below w.heap.size w wr) (fun vi _ => n - (intOf vi).toNat)
  case atStart => exact ⟨0, by omega, rfl, fun j hj => by omega, Below.refl _ _⟩
  case round =>
    obtain ⟨i, hi, rfl, hq, hB⟩ := hrel
    have HQ := Lib.hid hq
    have HW := Lib.hid hB
    clear hq hB
    by_cases hlt : i < n
    · obtain ⟨b1, o1, rfl, h1⟩ := HA.out.below HW.out (by omega)
      obtain ⟨b2, o2, rfl, h2⟩ := HB.out.below HW.out (by omega)
      obtain ⟨c0, c1, c2, c3, c4, c5, c6, c7⟩ := cellsAt h1 hlt
      obtain ⟨d0, d1, d2, d3, d4, d5, d6, d7⟩ := cellsAt h2 hlt
      clear h1 h2
      have hne := run_neqB (fun j => F (i * 8 + j)) (fun j => G (i * 8 + j)) (fun j => hF _) (fun j => hG _)
      simp only [brow8, Nat.add_zero] at hne
      by_cases he : ∀ j, j < 8 → F (i * 8 + j) = G (i * 8 + j)
      · rw [eqB_yes he] at hne
        have HE := Lib.hid he
        clear he
        go_wp2_with fail
        go_quiet (fail)
        go_wp2_with fail
        go_roundw
        case rel =>
          refine ⟨i + 1, by omega, by go_num, fun j hj => ?_, HW.out.trans (Go.Joins.below_draws _ _ _)⟩
          by_cases h1 : j < i * 8
          · exact HQ.out j h1
          · have := HE.out (j - i * 8) (by omega)
            rwa [show i * 8 + (j - i * 8) = j by omega] at this
        case measure => simp [intOf]; omega
      · rw [eqB_no he] at hne
        have HE := Lib.hid he
        clear he
        go_wp2_with fail
        go_quiet (fail)
        go_wp2_with fail
        go_ret
        refine ⟨?_, HW.out.trans (Go.Joins.below_draws _ _ _)⟩
        rw [eqB_no (fun h => HE.out (fun j hj => h _ (by omega)))]; rfl
    · obtain rfl : i = n := by omega
      go_wp2_with fail
      go_ret
      exact ⟨by rw [eqB_yes HQ.out]; rfl, HW.out⟩
end Go.Proofs.Ytibhhonmcbbohaa
