/- The iterator of slices.Backward at blocks. -/
import Derived.Test.YtibhhonmcbbohaaPa4
import Derived.RangeFuncNested
import Derived.RangeFuncBox
import Derived.RangeFuncBound
import Derived.RangeFuncCalls
import Derived.RangeFuncLeaves
import Derived.Shelf.Abstract
import Derived.Shelf.RegionOpen
import Derived.OwnWalkIn
import Derived.TacticsInMore
import Derived.LoopNIn
import Derived.LoopIn
namespace Go.Proofs.Ytibhhonmcbbohaa
open Go.RowKit Go.Shelf
attribute [local go_sem] Oper.semAt_some

/-- what has come when k rounds are over -/
def upto {α : Type} (f : Nat → α) (k : Nat) : List α := (List.range k).map f
theorem upto_succ {α : Type} (f : Nat → α) (k : Nat) : upto f (k + 1) = upto f k ++ [f k] := by simp [upto, List.range_succ]
theorem upto_length {α : Type} (f : Nat → α) (k : Nat) : (upto f k).length = k := by simp [upto]
/-- the bytes of block x -/
def bkAt (F : Nat → Nat) (x : Nat) : Array Value := #[.int .u8 (F (x * 8) : Nat), .int .u8 (F (x * 8 + 1) : Nat), .int .u8 (F (x * 8 + 2) : Nat), .int .u8 (F (x * 8 + 3) : Nat), .int .u8 (F (x * 8 + 4) : Nat), .int .u8 (F (x * 8 + 5) : Nat), .int .u8 (F (x * 8 + 6) : Nat), .int .u8 (F (x * 8 + 7) : Nat)]
theorem bkAt_eq (F : Nat → Nat) (x : Nat) : bkAt F x = brow 8 fun k => F (x * 8 + k) := rfl
/-- what the iterator reads between two rounds lies as it lay: all below n₀, and the block Bs -/
def KpB (n₀ Bs : Nat) (A B : World) : Prop := Below n₀ A B ∧ B.heap[Bs]? = A.heap[Bs]?
theorem KpB.trans {n₀ Bs : Nat} {A B C : World} (h : KpB n₀ Bs A B) (k : KpB n₀ Bs B C) : KpB n₀ Bs A C := ⟨h.1.trans k.1, k.2.trans h.2⟩
theorem KpB.refl (n₀ Bs : Nat) (A : World) : KpB n₀ Bs A A := ⟨Below.refl _ _, rfl⟩
theorem kpB_b {n₀ Bs : Nat} {w : World} (hn : n₀ ≤ w.heap.size) (hB : Bs < w.heap.size) (W : World) (l : Nat) (o o' : Obj) (hl : w.heap.size ≤ l) (h : W.heap[l]? = some o) (h1 : o.isCells = false) (h2 : o.isWalk = false) : KpB n₀ Bs W (W.putObj l o') :=
  ⟨belowK_b hn W l o o' hl h h1 h2, World.putObj_heap_other (by omega)⟩
def bwd (n j : Nat) : Nat := n - 1 - j

set_option maxRecDepth 100000 in
set_option maxHeartbeats 4000000 in
theorem back1_in (Fe : Fence) (m : Nat) (h33 : Fe.fn 33) (hro : Fe.round = none) (hm : 1 ≤ m) (l Bs n₀ b off n cap : Nat) (F : Nat → Nat) (hn : n ≤ 1000) (hb : b < n₀)
    (J Jx : List Nat → World → Prop)
    (hY : ∀ pre x W, J pre W → pre.length < n → YieldAt Fe (m - 1) Try.prog l #[.int .i64 (x : Nat), .agg (bkAt F x)] W fun e W' =>
      (e = .returned (.bool true) ∧ J (pre ++ [x]) W' ∧ KpB n₀ Bs W W') ∨ (e = .returned (.bool false) ∧ Jx (pre ++ [x]) W'))
    (W : World) (hBs : Boxed W Bs 30 (.slice (some ⟨b, off, none⟩) n cap))
    (hc : ∀ j : Nat, j < n * 8 → W.cell? ⟨b, off + j, none⟩ = some (.int .u8 (F j : Nat))) (h0 : J [] W) :
    CallsIn Fe m Try.prog 33 #[.func (.yield l) #[] #[], .pointer (some ⟨Bs, 0, none⟩)] W fun e W' => (∃ v, e = .returned v) ∧
      ((∃ ys, ys = upto (bwd n) n ∧ J ys W') ∨ (∃ pre, (∃ k, k ≤ n ∧ pre = upto (bwd n) k) ∧ Jx pre W')) := by
  have hBs1 := hBs.cell
  have HY := Lib.hid hY
  have HC := Lib.hid hc
  clear hY hc
  refine callsIn_of_wp Try.func33 rfl h33 ?_ hro
  simp only [Try.ntmps33, List.size_toArray, List.length_cons, List.length_nil, Nat.reduceAdd, Nat.reduceSub, Array.replicate_succ, Array.replicate_zero, List.push_toArray, List.append_toArray, List.nil_append, List.cons_append]
  gi_wp2
  gi_loopw [3] (fun vi wr => ∃ k : Nat, k ≤ n ∧ vi = .int .i64 ((n : Int) - 1 - k) ∧ J (upto (bwd n) k) wr ∧ KpB n₀ Bs W wr) (fun vi _ => (intOf vi + 1).toNat)
  case atStart => exact ⟨0, Nat.zero_le _, by simp, h0, KpB.refl _ _ _⟩
  case round =>
    obtain ⟨k, hk, rfl, hJs, hnx⟩ := hrel
    have HNX := Lib.hid hnx
    clear hnx
    by_cases hlt : k < n
    · obtain ⟨r, hr⟩ : ∃ r : Nat, (n : Int) - 1 - k = r := ⟨n - 1 - k, by omega⟩
      have hbw : bwd n k = r := by unfold bwd; omega
      have hrn : r < n := by omega
      rw [hr]
      obtain ⟨fn, tmps, assign, body, hy, hR⟩ := HY.out _ r wr hJs (by rw [upto_length]; exact hlt)
      have hBr := Boxed.cell (show Boxed wr Bs 30 (.slice (some ⟨b, off, none⟩) n cap) from HNX.out.2.trans hBs)
      obtain ⟨c0, c1, c2, c3, c4, c5, c6, c7⟩ := cellsAt (w := wr) (b := b) (off := off) (F := F) (n := n) (fun j hj => (HNX.out.1.cell (p := ⟨b, off + j, none⟩) hb).trans (HC.out j hj)) hrn
      unfold bkAt at hy
      gi_wp2
      refine hR.mono ?_
      rintro e W3 (⟨rfl, hJ3, hk3⟩ | ⟨rfl, hJx3⟩)
      · gi_wp2
        go_roundw
        case rel => exact ⟨k + 1, by omega, by simp; omega, by rw [upto_succ, hbw]; exact hJ3, HNX.out.trans hk3⟩
        case measure => (simp [intOf] <;> omega)
      · gi_wp2
        refine bodyPost_ret (results_none rfl _ _ _) rfl ?_
        exact ⟨⟨_, rfl⟩, .inr ⟨_, ⟨k + 1, by omega, by rw [upto_succ, hbw]⟩, hJx3⟩⟩
    · obtain rfl : k = n := by omega
      rw [show (k : Int) - 1 - k = -1 by omega]
      gi_wp2
      go_end0
      exact ⟨⟨_, rfl⟩, .inl ⟨_, rfl, hJs⟩⟩
theorem back_stops (Fe : Fence) (m : Nat) (h33 : Fe.fn 33) (hro : Fe.round = none) (hm : 1 ≤ m) (Bs n₀ b off n cap : Nat) (F : Nat → Nat) (hn : n ≤ 1000) (w : World) (hb : b < n₀) (hn₀ : n₀ ≤ w.heap.size)
    (hc : Boxed w Bs 30 (.slice (some ⟨b, off, none⟩) n cap)) (hI : ∀ j : Nat, j < n * 8 → w.cell? ⟨b, off + j, none⟩ = some (.int .u8 (F j : Nat))) :
    SeqStopsK Fe m Try.prog 33 #[.pointer (some ⟨Bs, 0, none⟩)] (fun x : Nat => #[Value.int .i64 (x : Nat), Value.agg (bkAt F x)]) (KpB n₀ Bs) (fun ys => ys = upto (bwd n) n)
      (fun pre => ∃ k, k ≤ n ∧ pre = upto (bwd n) k) n w := fun l J Jx W hW _ _ hY h0 =>
  back1_in Fe m h33 hro hm l Bs n₀ b off n cap F hn hb J Jx hY W ((hW.block Bs hc.lt).trans hc) (fun j hj => (hW.cell (p := ⟨b, off + j, none⟩) (Nat.lt_of_lt_of_le hb hn₀)).trans (hI j hj)) h0
end Go.Proofs.Ytibhhonmcbbohaa
