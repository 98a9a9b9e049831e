/- Rows of bytes; the walk of parity.fused. -/
import Derived.Test.YtibhhonmcbbohaaGfWalks2
import Derived.StillTailTactics
import Derived.Laws.OwnMore
import Derived.Laws.Entries
import Derived.Deep.AppendLies
import Derived.Lib.SmallJoins
namespace Go.Proofs.Ytibhhonmcbbohaa
open Go.RowKit

/-- a row of n bytes -/
def brow (n : Nat) (f : Nat → Nat) : Array Value := ((List.range n).map fun j => Value.int .u8 (f j : Nat)).toArray
def RB (w : World) (g n : Nat) (t : TypeId) (f : Nat → Nat) : Prop := w.heap[g]? = some (.cells (brow n f) t (0, 0))
theorem brow_get (n : Nat) (f : Nat → Nat) (j : Nat) (h : j < n) : (brow n f)[j]? = some (.int .u8 (f j : Nat)) := by simp [brow, h]
theorem brow_congr {n : Nat} {f f' : Nat → Nat} (he : ∀ j, j < n → f j = f' j) : brow n f = brow n f' := by
  unfold brow
  congr 1
  exact List.map_congr_left (fun j hj => by rw [he j (by simpa using hj)])
theorem RB.cell {w : World} {g n : Nat} {t : TypeId} {f : Nat → Nat} (h : RB w g n t f) (j : Nat) (hj : j < n) : w.cell? ⟨g, j, none⟩ = some (.int .u8 (f j : Nat)) := (cell_of_row w _ j _ _ _ h).trans (brow_get n f j hj)
theorem RB.frozen {w : World} {g n : Nat} {t : TypeId} {f : Nat → Nat} (h : RB w g n t f) (j : Nat) : w.frozen? ⟨g, j, none⟩ = false := frozen_of_row w _ j _ _ h
theorem RB.lt {w : World} {g n : Nat} {t : TypeId} {f : Nat → Nat} (h : RB w g n t f) : g < w.heap.size := by
  rcases Nat.lt_or_ge g w.heap.size with h1 | h1
  · exact h1
  · rw [RB, Array.getElem?_eq_none (by omega)] at h; cases h
theorem RB.below {w w' : World} {g n : Nat} {t : TypeId} {f : Nat → Nat} (h : RB w g n t f) (hB : Below w.heap.size w w') : RB w' g n t f := (hB.block g h.lt).trans h
theorem RB.congr {w : World} {g n : Nat} {t : TypeId} {f f' : Nat → Nat} (h : RB w g n t f) (he : ∀ j, j < n → f j = f' j) : RB w g n t f' := by
  rw [RB, ← brow_congr he]; exact h
theorem RB.far {w : World} {g n g' i : Nat} {t : TypeId} {f : Nat → Nat} (h : RB w g n t f) (v : Value) (hne : g' ≠ g) : RB (w.setCell ⟨g', i, none⟩ v) g n t f := by
  exact (Below.heap_setCell w _ v g (fun e => hne e.symm)).trans h
theorem RB.set {w : World} {g n : Nat} {t : TypeId} {f f' : Nat → Nat} {i v : Nat} (h : RB w g n t f) (hv : f' i = v) (he : ∀ j, j < n → j ≠ i → f j = f' j) : RB (w.setCell ⟨g, i, none⟩ (.int .u8 (v : Int))) g n t f' := by
  have : (brow n f).setIfInBounds i (.int .u8 (v : Int)) = brow n f' := by
    apply Array.ext_getElem?
    intro j
    rw [Array.getElem?_setIfInBounds]
    by_cases hj : j < n
    · by_cases e : i = j
      · subst e; subst hv; simp [brow, hj]
      · rw [if_neg e, brow_get n f j hj, brow_get n f' j hj, he j hj (fun h => e h.symm)]
    · by_cases e : i = j
      · subst e; simp [brow, hj]
      · simp [brow, hj, e]
  rw [RB, ← this]
  exact heap_setCell_same w g i _ _ _ h
theorem RB.new {w : World} {n : Nat} {t : TypeId} {f : Nat → Nat} : RB (w.alloc (.cells (brow n f) t)) w.heap.size n t f := heap_alloc_new w _
theorem RB.alloc {w : World} {g n : Nat} {t : TypeId} {f : Nat → Nat} (h : RB w g n t f) (o : Obj) : RB (w.alloc o) g n t f := (Below.heap_alloc w o g h.lt).trans h

theorem brow8 (f : Nat → Nat) : brow 8 f = #[.int .u8 (f 0 : Nat), .int .u8 (f 1 : Nat), .int .u8 (f 2 : Nat), .int .u8 (f 3 : Nat), .int .u8 (f 4 : Nat), .int .u8 (f 5 : Nat), .int .u8 (f 6 : Nat), .int .u8 (f 7 : Nat)] := rfl
theorem cells8 {w : World} {g : Nat} {t : TypeId} {f : Nat → Nat} (h : RB w g 8 t f) : w.cell? ⟨g, 0, none⟩ = some (.int .u8 (f 0 : Nat)) ∧ w.cell? ⟨g, 1, none⟩ = some (.int .u8 (f 1 : Nat)) ∧ w.cell? ⟨g, 2, none⟩ = some (.int .u8 (f 2 : Nat)) ∧ w.cell? ⟨g, 3, none⟩ = some (.int .u8 (f 3 : Nat)) ∧
    w.cell? ⟨g, 4, none⟩ = some (.int .u8 (f 4 : Nat)) ∧ w.cell? ⟨g, 5, none⟩ = some (.int .u8 (f 5 : Nat)) ∧ w.cell? ⟨g, 6, none⟩ = some (.int .u8 (f 6 : Nat)) ∧ w.cell? ⟨g, 7, none⟩ = some (.int .u8 (f 7 : Nat)) :=
  ⟨h.cell 0 (by omega), h.cell 1 (by omega), h.cell 2 (by omega), h.cell 3 (by omega), h.cell 4 (by omega), h.cell 5 (by omega), h.cell 6 (by omega), h.cell 7 (by omega)⟩
def fus (f g : Nat → Nat) (c : Nat) (j : Nat) : Nat := f j ^^^ Gf.mul c (g j)
def fuz (f g : Nat → Nat) (c i : Nat) (j : Nat) : Nat := if j < i then fus f g c j else f j
set_option maxRecDepth 100000 in
theorem fusedB_any (f g : Nat → Nat) (c : Nat) (w : World) (hc : c < 256) (hf : ∀ j, f j < 256) (hg : ∀ j, g j < 256) :
    Calls Try.prog 26 #[.agg (brow 8 f), .agg (brow 8 g), .int .u8 c] w fun e w' => e = .returned (.agg (brow 8 (fus f g c))) ∧ Below w.heap.size w w' := by
  go_enter Try.func26, Try.ntmps26
  go_wp2_with fail
  go_loopw [8] (fun vi wr => ∃ i : Nat, i ≤ 8 ∧ vi = .int .i64 i ∧ RB wr w.heap.size 8 37 (fuz f g c i) ∧ RB wr (w.heap.size + 1) 8 37 g ∧ RB wr (w.heap.size + 1 + 1) 8 37 (fun _ => 0) ∧ Below w.heap.size w wr) (fun vi _ => 8 - (intOf vi).toNat)
  case atStart =>
    have h0 : RB (w.alloc (.cells (brow 8 f) 37)) w.heap.size 8 37 (fuz f g c 0) := RB.new.congr (fun j _ => by simp [fuz])
    have h1 : RB ((w.alloc (.cells (brow 8 f) 37)).alloc (.cells (brow 8 g) 37)) (w.heap.size + 1) 8 37 g := by
      have := RB.new (w := w.alloc (.cells (brow 8 f) 37)) (n := 8) (t := 37) (f := g)
      simpa using this
    have h2 : RB (((w.alloc (.cells (brow 8 f) 37)).alloc (.cells (brow 8 g) 37)).alloc (.cells (brow 8 fun _ => 0) 37)) (w.heap.size + 1 + 1) 8 37 (fun _ => 0) := by
      have := RB.new (w := (w.alloc (.cells (brow 8 f) 37)).alloc (.cells (brow 8 g) 37)) (n := 8) (t := 37) (f := fun _ => 0)
      simpa using this
    exact ⟨0, by omega, rfl, (h0.alloc _).alloc _, h1.alloc _, h2, ((Go.Joins.below_alloc1 _ _).alloc (by simp) _).alloc (by simp; omega) _⟩
  case round =>
    obtain ⟨i, hi, rfl, ha, hb, hd, hB⟩ := hrel
    have HA := Lib.hid ha
    have HB := Lib.hid hb
    have HD := Lib.hid hd
    have HW := Lib.hid hB
    clear ha hb hd hB
    by_cases hlt : i < 8
    · have ca : wr.cell? ⟨w.heap.size, i, none⟩ = some (.int .u8 (f i : Nat)) := by
        have := HA.out.cell i hlt
        simpa [fuz] using this
      have cb := HB.out.cell i hlt
      have fa := HA.out.frozen i
      obtain ⟨x, hX⟩ : ∃ x, x = f i := ⟨_, rfl⟩
      obtain ⟨y, hY⟩ : ∃ y, y = g i := ⟨_, rfl⟩
      have hx : x < 256 := by rw [hX]; exact hf i
      have hy : y < 256 := by rw [hY]; exact hg i
      rw [← hX] at ca
      rw [← hY] at cb
      have HX := Lib.hid hX
      have HY := Lib.hid hY
      clear hX hY
      go_wp2
      go_still_tail 10, (by kernel_rfl)
      still_call ((mul_any c y hc hy _).mono fun _ _ h => ⟨h.1, h.2.symm⟩)
      repeat still_step
      refine wpStill_nil ?_
      change wpList _ _ _ _ _ wr.drew
      obtain ⟨w2, hw2⟩ : ∃ w2, w2 = wr.drew := ⟨_, rfl⟩
      rw [← hw2]
      have HA2 := Lib.hid (show RB w2 w.heap.size 8 37 (fuz f g c i) by rw [hw2]; exact HA.out)
      have HB2 := Lib.hid (show RB w2 (w.heap.size + 1) 8 37 g by rw [hw2]; exact HB.out)
      have HD2 := Lib.hid (show RB w2 (w.heap.size + 1 + 1) 8 37 (fun _ => 0) by rw [hw2]; exact HD.out)
      have HW2 := Lib.hid (show Below w.heap.size w w2 by rw [hw2]; exact HW.out.drew)
      have ca2 : w2.cell? ⟨w.heap.size, i, none⟩ = some (.int .u8 (x : Nat)) := by rw [hw2]; exact ca
      have fa2 : w2.frozen? ⟨w.heap.size, i, none⟩ = false := by rw [hw2]; exact fa
      clear ca cb fa hw2 HA HB HD HW
      go_wp2
      go_roundw
      case rel =>
        refine ⟨i + 1, by omega, by go_num, ?_, HB2.out.far _ (by omega), HD2.out.far _ (by omega), HW2.out.setCell (Nat.le_refl _) _⟩
        rw [u8_xor_nat x (Gf.mul c y) hx (Gf.mul_lt c y hc)]
        refine HA2.out.set (by simp [fuz, fus, HX.out, HY.out]) (fun j _ e => ?_)
        unfold fuz
        by_cases h1 : j < i
        · rw [if_pos h1, if_pos (by omega)]
        · rw [if_neg h1, if_neg (by omega)]
      case measure => simp [intOf]; omega
    · obtain rfl : i = 8 := by omega
      have HA8 := Lib.hid (HA.out.congr (f' := fus f g c) (fun j hj => by simp [fuz, hj]))
      clear HA
      obtain ⟨c0, c1, c2, c3, c4, c5, c6, c7⟩ := cells8 HA8.out
      obtain ⟨d0, d1, d2, d3, d4, d5, d6, d7⟩ := cells8 HD.out
      have fd := HD.out.frozen
      go_wp2
      refine bodyPost_ret (v := .agg (brow 8 (fus f g c))) (by simp [results, Try.results26, go_sem, brow8, d0, d1, d2, d3, d4, d5, d6, d7]) rfl ⟨rfl, ?_⟩
      have hz : w.heap.size ≤ w.heap.size + 1 + 1 := by omega
      exact (((((((HW.out.setCell hz _).setCell hz _).setCell hz _).setCell hz _).setCell hz _).setCell hz _).setCell hz _).setCell hz _
end Go.Proofs.Ytibhhonmcbbohaa
