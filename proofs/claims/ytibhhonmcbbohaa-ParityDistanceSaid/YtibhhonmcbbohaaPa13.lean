/- The comparison of equal byte slices and of equal matrices by the references. -/
import Derived.Test.YtibhhonmcbbohaaPa12
import Derived.Lib.Bytes
import Derived.Deep.QuietTactic
namespace Go.Proofs.Ytibhhonmcbbohaa
open Go.RowKit

def nums (f : Nat → Nat) (n : Nat) : List Int := (List.range n).map fun j => (f j : Int)
theorem nums_getD (f : Nat → Nat) (n j : Nat) (h : j < n) : (nums f n).getD j 0 = ((f j : Nat) : Int) := by
  simp [nums, List.getD_eq_getElem?_getD, h]
theorem conv_by (f : Nat → Nat) (b off n c : Nat) (w : World) (hd : ∀ j : Nat, j < n → w.cell? ⟨b, off + j, none⟩ = some (.int .u8 (f j : Nat))) :
    (convert 27 9 (.slice (some ⟨b, off, none⟩) n c)).run Try.prog w = .ok (.string (strOfNums (nums f n))) w := by
  have h := run_convert_bytes_arg (P := Try.prog) w 27 5 Try.underlying27 Try.underlying5 b off n c (nums f n) (by simp [nums]) (fun i hi => by rw [nums_getD f n i hi]; exact hd i hi) 9 Try.underlying9
  exact h
theorem rsame01_yes (f : Nat → Nat) (b off b' off' n ca cb : Nat) (w : World) (hd : ∀ j : Nat, j < n → w.cell? ⟨b, off + j, none⟩ = some (.int .u8 (f j : Nat))) (hs : ∀ j : Nat, j < n → w.cell? ⟨b', off' + j, none⟩ = some (.int .u8 (f j : Nat))) :
    Calls Try.prog 30 #[.slice (some ⟨b, off, none⟩) n ca, .slice (some ⟨b', off', none⟩) n cb] w fun e w' => e = .returned (.bool true) ∧ w = w' := by
  have h1 := conv_by f b off n ca w hd
  have h2 := conv_by f b' off' n cb w hs
  clear hd hs
  go_enter Try.func30, Try.ntmps30
  go_wp2
  go_ret
  exact ⟨by simp, rfl⟩
/-- a matrix of n rows of d bytes -/
def Mat (w : World) (A : Option Addr) (n d : Nat) (f : Nat → Nat → Nat) : Prop := ∃ b off : Nat, A = some ⟨b, off, none⟩ ∧ ∀ q, q < n → ∃ rb ro rc : Nat, w.cell? ⟨b, off + q, none⟩ = some (.slice (some ⟨rb, ro, none⟩) d rc) ∧
  ∀ i : Nat, i < d → w.cell? ⟨rb, ro + i, none⟩ = some (.int .u8 (f q i : Nat))
theorem Mat.below {w w' : World} {A : Option Addr} {n d : Nat} {f : Nat → Nat → Nat} (h : Mat w A n d f) (hB : Below w.heap.size w w') : Mat w' A n d f := by
  obtain ⟨b, off, rfl, hc⟩ := h
  refine ⟨b, off, rfl, fun q hq => ?_⟩
  obtain ⟨rb, ro, rc, h1, h2⟩ := hc q hq
  exact ⟨rb, ro, rc, (hB.cell (World.block_lt_of_cell? w _ h1)).trans h1, fun i hi => (hB.cell (World.block_lt_of_cell? w _ (h2 i hi))).trans (h2 i hi)⟩
/-- the rows appended to a row of the call's own -/
theorem Mat.of_own {w : World} {base n d : Nat} {v : Value} {gs : List Nat} {f : Nat → Nat → Nat} (h : w.ownsRow base 27 1 v n (hdr d gs)) (hl : gs.length = n) (hn : 0 < n) (hr : ∀ q, q < n → RB w (gs.getD q 0) d 5 (f q)) :
    ∃ A c, v = .slice A n c ∧ Mat w A n d f := by
  obtain ⟨g, cap, rfl, _, _⟩ := h.form hn
  refine ⟨_, cap, rfl, g, 0, rfl, fun q hq => ⟨gs.getD q 0, 0, d, ?_, fun i hi => by rw [Nat.zero_add]; exact (hr q hq).cell i hi⟩⟩
  rw [Nat.zero_add, h.cellAt q (by omega)]
  simp [hdr, show q < gs.length by omega]
set_option maxRecDepth 100000 in
theorem rsame02_yes (f : Nat → Nat → Nat) (A A' : Option Addr) (n d ca cb : Nat) (w : World) (hn : n ≤ 1000) (hA : Mat w A n d f) (hA' : Mat w A' n d f) :
    Calls Try.prog 22 #[.slice A n ca, .slice A' n cb] w fun e w' => e = .returned (.bool true) ∧ Below w.heap.size w w' := by
  have HA := Lib.hid hA
  have HB := Lib.hid hA'
  clear hA hA'
  go_enter Try.func22, Try.ntmps22
  go_wp2_with fail
  go_loopw [5] (fun vi wr => ∃ i : Nat, i ≤ n ∧ vi = .int .i64 i ∧ Below w.heap.size w wr) (fun vi _ => n - (intOf vi).toNat)
  case atStart => exact ⟨0, by omega, rfl, Below.refl _ _⟩
  case round =>
    obtain ⟨i, hi, rfl, hB⟩ := hrel
    have HW := Lib.hid hB
    clear hB
    by_cases hlt : i < n
    · obtain ⟨b1, o1, rfl, h1⟩ := HA.out.below HW.out
      obtain ⟨b2, o2, rfl, h2⟩ := HB.out.below HW.out
      obtain ⟨rb1, ro1, rc1, h1, k1⟩ := h1 i hlt
      obtain ⟨rb2, ro2, rc2, h2, k2⟩ := h2 i hlt
      have HS := Lib.hid (fun m => rsame01_yes (f i) rb1 ro1 rb2 ro2 d rc1 rc2 (wr.drewN m) k1 k2)
      clear k1 k2
      go_wp2_with fail
      go_quiet ((go_at_call 30; exact Calls.quiet_of_same ((HS.out _).mono fun _ _ h => ⟨h.1, h.2.symm⟩)))
      go_wp2_with fail
      go_roundw
      case rel => exact ⟨i + 1, by omega, by go_num, HW.out.trans (Go.Joins.below_draws _ _ _)⟩
      case measure => simp [intOf]; omega
    · obtain rfl : i = n := by omega
      go_wp2_with fail
      go_ret
      exact ⟨rfl, HW.out⟩
end Go.Proofs.Ytibhhonmcbbohaa
