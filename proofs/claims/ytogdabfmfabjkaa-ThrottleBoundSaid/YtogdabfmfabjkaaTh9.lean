/- Rows of numbers; the books of a script; the walk of the law ThrottleBound. -/
import Derived.Test.YtogdabfmfabjkaaTh8
import Derived.Laws.OwnMore
import Derived.Laws.Entries
namespace Go.Proofs.Ytogdabfmfabjkaa
open Go.RowKit

/-- a block of n numbers -/
def rowv (n : Nat) (f : Nat → Int) : Array Value := ((List.range n).map fun j => Value.int .i64 (f j)).toArray
def Rowi (w : World) (g n : Nat) (f : Nat → Int) : Prop := w.heap[g]? = some (.cells (rowv n f) 3 (0, 0))
theorem rowv_get (n : Nat) (f : Nat → Int) (j : Nat) (h : j < n) : (rowv n f)[j]? = some (.int .i64 (f j)) := by simp [rowv, h]
theorem Rowi.cell {w : World} {g n : Nat} {f : Nat → Int} (h : Rowi w g n f) (j : Nat) (hj : j < n) : w.cell? ⟨g, j, none⟩ = some (.int .i64 (f j)) := (cell_of_row w _ j _ _ _ h).trans (rowv_get n f j hj)
theorem Rowi.frozen {w : World} {g n : Nat} {f : Nat → Int} (h : Rowi w g n f) (j : Nat) : w.frozen? ⟨g, j, none⟩ = false := frozen_of_row w _ j _ _ h
theorem Rowi.lt {w : World} {g n : Nat} {f : Nat → Int} (h : Rowi w g n f) : g < w.heap.size := by
  rcases Nat.lt_or_ge g w.heap.size with h1 | h1
  · exact h1
  · rw [Rowi, Array.getElem?_eq_none (by omega)] at h; cases h
theorem Rowi.grown {w w' : World} {g n : Nat} {f : Nat → Int} {row : Option Nat} (h : Rowi w g n f) (hg : w.grownBy w' row) (hne : row ≠ some g) : Rowi w' g n f := (hg.block g h.lt (fun e => hne e.symm)).trans h
theorem Rowi.below {w w' : World} {g n : Nat} {f : Nat → Int} (h : Rowi w g n f) (hB : Below w.heap.size w w') : Rowi w' g n f := (hB.block g h.lt).trans h
theorem Rowi.congr {w : World} {g n : Nat} {f f' : Nat → Int} (h : Rowi w g n f) (he : ∀ j, j < n → f j = f' j) : Rowi w g n f' := by
  have : rowv n f = rowv n f' := by
    unfold rowv
    congr 1
    exact List.map_congr_left (fun j hj => by rw [he j (by simpa using hj)])
  rw [Rowi, ← this]; exact h
theorem Rowi.set {w : World} {g n : Nat} {f f' : Nat → Int} {i : Nat} {v : Int} (h : Rowi w g n f) (hv : f' i = v) (he : ∀ j, j < n → j ≠ i → f j = f' j) : Rowi (w.setCell ⟨g, i, none⟩ (.int .i64 v)) g n f' := by
  have : (rowv n f).setIfInBounds i (.int .i64 v) = rowv n f' := by
    apply Array.ext_getElem?
    intro j
    rw [Array.getElem?_setIfInBounds]
    by_cases hj : j < n
    · by_cases e : i = j
      · subst e; subst hv; simp [rowv, hj]
      · rw [if_neg e, rowv_get n f j hj, rowv_get n f' j hj, he j hj (fun h => e h.symm)]
    · by_cases e : i = j
      · subst e; simp [rowv, hj]
      · simp [rowv, hj, e]
  rw [Rowi, ← this]
  exact heap_setCell_same w g i _ _ _ h
theorem Rowi.new {w : World} {n : Nat} : Rowi (w.alloc (.cells (rowv n fun _ => 0) 3)) w.heap.size n fun _ => 0 := heap_alloc_new w _

theorem run_make_rowN {P : Program} (t e : TypeId) (i : TypeInfo) (z : Value) (ht : P.underlying t = some (.slice e)) (hi : P.info? e = some i) (hz : i.zero = some z)
    (kl kc : IntKind) (n c : Nat) (hnc : n ≤ c) (hbytes : i.bytes * c ≤ 281474976710656) (h63 : c ≤ 9223372036854775807) (w : World) :
    (Instr.makeSlice t (.int kl (n : Int)) (.int kc (c : Int))).run P w = .ok (.slice (some ⟨w.heap.size, 0, none⟩) n c) (w.alloc (.cells (madeCells z.cells (c * i.size)) e)) := by
  have hb : (i.bytes : Int) * (c : Int) ≤ 281474976710656 := by
    have h : ((i.bytes * c : Nat) : Int) ≤ 281474976710656 := by omega
    rwa [Int.natCast_mul] at h
  have hr := run_make (P := P) w t e i z ht hi hz kl kc n c (by omega) (by omega) hb (by omega)
  simp only [Int.toNat_natCast] at hr
  exact hr
theorem Try.infoInt : (Try.prog.info? 3).map (fun i => (i.zero, i.size, i.bytes)) = some (some (.int .i64 0), 1, 8) := by kernel_rfl
theorem run_make_ints (kl kc : IntKind) (n : Nat) (hn : n ≤ 1000) (w : World) :
    (Instr.makeSlice 42 (.int kl (n : Int)) (.int kc (n : Int))).run Try.prog w = .ok (.slice (some ⟨w.heap.size, 0, none⟩) n n) (w.alloc (.cells (rowv n fun _ => 0) 3)) := by
  obtain ⟨i0, hi, hz0, hz1, hz2⟩ := info_parts Try.infoInt
  have h := run_make_rowN (P := Try.prog) 42 3 i0 (.int .i64 0) Try.underlying42 hi hz0 kl kc n n (Nat.le_refl _) (by rw [hz2]; omega) (by omega) w
  have e : madeCells (Value.int .i64 0).cells (n * i0.size) = rowv n fun _ => 0 := by
    rw [hz1, Nat.mul_one]
    apply Array.toList_inj.1
    have := toList_madeCells_one (.int .i64 0) n
    rw [show (Value.int .i64 0).cells = #[.int .i64 0] from rfl, this]
    simp [rowv, List.map_const']
  rw [e] at h
  exact h

/-- the books of a script -/
def stT (q : Bool × Int) (L : Int) : Int := if q.1 && took L q.2 then q.2 else 0
def stK (q : Bool × Int) : Int := if q.1 then 0 else max 0 q.2
def stL (R B L : Int) (q : Bool × Int) : Int := if q.1 then takeL L q.2 else tickL R B L q.2
def lv (R B : Int) (l : List (Bool × Int)) : Nat → Int
  | 0 => B
  | i + 1 => stL R B (lv R B l i) (l.getD i (false, 0))
def bT (R B : Int) (l : List (Bool × Int)) (i : Nat) : Int := stT (l.getD i (false, 0)) (lv R B l i)
def bK (l : List (Bool × Int)) (i : Nat) : Int := stK (l.getD i (false, 0))
def part (f : Nat → Int) (i j : Nat) : Int := if j < i then f j else 0
def sm (f : Nat → Int) (i : Nat) : Nat → Int
  | 0 => 0
  | n + 1 => sm f i n + f (i + n)
theorem lv_bd {R B : Int} (l : List (Bool × Int)) (hR : 0 ≤ R) (hB : 0 ≤ B) (i : Nat) : 0 ≤ lv R B l i ∧ lv R B l i ≤ B := by
  induction i with
  | zero => exact ⟨hB, Int.le_refl _⟩
  | succ i ih =>
    simp only [lv, stL]
    split
    · have := takeL_bd (n := (l.getD i (false, 0)).2) ih.1; omega
    · have := tickL_bd (n := (l.getD i (false, 0)).2) hR ih.2; omega
theorem step_le {R B L : Int} (q : Bool × Int) (hR : 0 ≤ R) (h2 : L ≤ B) : stT q L + stL R B L q ≤ L + R * stK q := by
  obtain ⟨tk, n⟩ := q
  cases tk
  · simp only [stT, stL, stK, Bool.false_and, Bool.false_eq_true, if_false]
    by_cases hn : 0 ≤ n
    · have h := tickL_min hR h2 hn
      rw [Int.mul_comm] at h
      have e : max 0 n = n := by omega
      rw [e]
      omega
    · have e : max 0 n = 0 := by omega
      rw [e, tickL, if_pos (by omega)]
      simp
  · simp only [stT, stL, stK, Bool.true_and]
    unfold took takeL
    by_cases h : 0 ≤ n ∧ n ≤ L <;> simp [h]
    omega
theorem sum_le {R B : Int} (l : List (Bool × Int)) (hR : 0 ≤ R) (hB : 0 ≤ B) (i n : Nat) : sm (bT R B l) i n + lv R B l (i + n) ≤ lv R B l i + R * sm (bK l) i n := by
  induction n with
  | zero => simp [sm]
  | succ n ih =>
    have h := step_le (R := R) (B := B) (L := lv R B l (i + n)) (l.getD (i + n) (false, 0)) hR (lv_bd l hR hB (i + n)).2
    have e : lv R B l (i + (n + 1)) = stL R B (lv R B l (i + n)) (l.getD (i + n) (false, 0)) := rfl
    rw [e]
    simp only [sm]
    rw [Int.mul_add]
    have e1 : bT R B l (i + n) = stT (l.getD (i + n) (false, 0)) (lv R B l (i + n)) := rfl
    have e2 : bK l (i + n) = stK (l.getD (i + n) (false, 0)) := rfl
    rw [e1, e2]
    omega
theorem sm_bd (f : Nat → Int) (m : Nat) (M : Int) (h : ∀ j, j < m → 0 ≤ f j ∧ f j ≤ M) (i n : Nat) (hn : i + n ≤ m) : 0 ≤ sm f i n ∧ sm f i n ≤ n * M := by
  induction n with
  | zero => simp [sm]
  | succ n ih =>
    have a := ih (by omega)
    have b := h (i + n) (by omega)
    simp only [sm]
    have e : ((n + 1 : Nat) : Int) * M = n * M + M := by rw [show ((n + 1 : Nat) : Int) = n + 1 by omega, Int.add_mul, Int.one_mul]
    rw [e]
    omega
end Go.Proofs.Ytogdabfmfabjkaa
