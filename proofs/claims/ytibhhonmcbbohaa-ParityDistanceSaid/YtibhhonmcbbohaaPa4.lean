/- The walk of parity.Encode. -/
import Derived.Test.YtibhhonmcbbohaaPa3
namespace Go.Proofs.Ytibhhonmcbbohaa
open Go.RowKit

theorem run_make_rowN {P : Program} (t e : TypeId) (i : TypeInfo) (z : Value) (ht : P.underlying t = some (.slice e)) (hi : P.info? e = some i) (hz : i.zero = some z)
    (kl kc : IntKind) (n c : Nat) (hnc : n ≤ c) (hbytes : i.bytes * c ≤ 281474976710656) (h63 : c ≤ 9223372036854775807) (w : World) :
    (Instr.makeSlice t (.int kl (n : Int)) (.int kc (c : Int))).run P w = .ok (.slice (some ⟨w.heap.size, 0, none⟩) n c) (w.alloc (.cells (madeCells z.cells (c * i.size)) e)) := by
  have hb : (i.bytes : Int) * (c : Int) ≤ 281474976710656 := by
    have h : ((i.bytes * c : Nat) : Int) ≤ 281474976710656 := by omega
    rwa [Int.natCast_mul] at h
  have hr := run_make (P := P) w t e i z ht hi hz kl kc n c (by omega) (by omega) hb (by omega)
  simp only [Int.toNat_natCast] at hr
  exact hr
theorem Try.infoBlock : (Try.prog.info? 37).map (fun i => (i.zero, i.size, i.bytes)) = some (some (.agg (brow 8 fun _ => 0)), 8, 8) := by kernel_rfl
theorem run_make_3 (W : World) : (Instr.makeSlice 30 (.int .i64 3) (.int .i64 3)).run Try.prog W = .ok (.slice (some ⟨W.heap.size, 0, none⟩) 3 3) (W.alloc (.cells (brow 24 fun _ => 0) 37)) := by
  obtain ⟨i0, hi, hz0, hz1, hz2⟩ := info_parts Try.infoBlock
  have h := run_make_rowN (P := Try.prog) 30 37 i0 _ Try.underlying30 hi hz0 .i64 .i64 3 3 (Nat.le_refl _) (by rw [hz2]; omega) (by omega) W
  have e : madeCells (Value.agg (brow 8 fun _ => 0)).cells (3 * i0.size) = brow 24 fun _ => 0 := by rw [hz1]; kernel_rfl
  rw [e] at h
  exact h

theorem backward_any (A : Option Addr) (n c : Nat) (w : World) :
    Calls Try.prog 25 #[.slice A n c] w fun e w' => e = .returned (.func (.func 33) #[] #[.pointer (some ⟨w.heap.size, 0, none⟩)]) ∧ w' = w.alloc (.cells #[.slice A n c] 30) := by
  go_enter Try.func25, Try.ntmps25
  go_wp2_with fail
  go_ret
  exact ⟨rfl, rfl⟩
end Go.Proofs.Ytibhhonmcbbohaa
