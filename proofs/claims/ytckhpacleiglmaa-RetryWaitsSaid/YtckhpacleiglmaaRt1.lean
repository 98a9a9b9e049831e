/- The walks of package retry: validity of a state. -/
import Derived.Test.YtckhpacleiglmaaProg
import Derived.WalkKit
import Derived.Lib.Hide
import Derived.Deep.QuietTactic
import Derived.BigQuiet
import Derived.Deep.RegionHeld3
import Derived.Lib.SmallJoins
namespace Go.Proofs.Ytckhpacleiglmaa
open Go.RowKit

theorem ret_int {k : IntKind} {a b : Int} (h : a = b) : Ending.returned (.int k a) = .returned (.int k b) := by rw [h]
theorem ret_bool {a b : Bool} (h : a = b) : Ending.returned (.bool a) = .returned (.bool b) := by rw [h]
theorem bcell {W w1 : World} (hb : Below W.heap.size W w1) : (∀ b o, b < W.heap.size → w1.cell? ⟨b, o, none⟩ = W.cell? ⟨b, o, none⟩) ∧ (∀ b o, b < W.heap.size → w1.frozen? ⟨b, o, none⟩ = W.frozen? ⟨b, o, none⟩) :=
  ⟨fun b o h => hb.cell (p := ⟨b, o, none⟩) h, fun b o h => hb.frozen (p := ⟨b, o, none⟩) h⟩

theorem two_boxes {w w1 : World} {o1 o2 : Obj} (hB : Below ((w.alloc o1).alloc o2).heap.size ((w.alloc o1).alloc o2) w1) : Below w.heap.size w w1 :=
  (Go.Joins.below_alloc2 w o1 o2).trans (hB.mono (by simp; omega))
theorem one_box {w w1 : World} {o1 : Obj} (hB : Below (w.alloc o1).heap.size (w.alloc o1) w1) : Below w.heap.size w w1 :=
  (Go.Joins.below_alloc1 w o1).trans (hB.mono (by simp))
/-- two new blocks of two cells behind a call that writes nothing old -/
structure Boxes (w w1 : World) (x y u v : Value) : Prop where
  c0 : w1.cell? ⟨w.heap.size, 0, none⟩ = some x
  c1 : w1.cell? ⟨w.heap.size, 1, none⟩ = some y
  d0 : w1.cell? ⟨w.heap.size + 1, 0, none⟩ = some u
  d1 : w1.cell? ⟨w.heap.size + 1, 1, none⟩ = some v
  f : ∀ o, w1.frozen? ⟨w.heap.size, o, none⟩ = false
  g : ∀ o, w1.frozen? ⟨w.heap.size + 1, o, none⟩ = false
theorem boxes2 {w w1 : World} {x y u v : Value} {t1 t2 : TypeId} (hB : Below ((w.alloc (.cells #[x, y] t1)).alloc (.cells #[u, v] t2)).heap.size ((w.alloc (.cells #[x, y] t1)).alloc (.cells #[u, v] t2)) w1) :
    Boxes w w1 x y u v := by
  have h1 : ((w.alloc (.cells #[x, y] t1)).alloc (.cells #[u, v] t2)).heap[w.heap.size]? = some (.cells #[x, y] t1 (0, 0)) := by
    rw [Below.heap_alloc _ _ _ (by simp)]; exact heap_alloc_new w _
  have h2 : ((w.alloc (.cells #[x, y] t1)).alloc (.cells #[u, v] t2)).heap[w.heap.size + 1]? = some (.cells #[u, v] t2 (0, 0)) := by
    have := heap_alloc_new (w.alloc (.cells #[x, y] t1)) (.cells #[u, v] t2)
    rw [show (w.alloc (.cells #[x, y] t1)).heap.size = w.heap.size + 1 by simp] at this
    exact this
  have g1 : ∀ j, w1.cell? ⟨w.heap.size, j, none⟩ = #[x, y][j]? := fun j => (hB.cell (by simp; omega)).trans (cell_of_row _ _ j _ _ _ h1)
  have g2 : ∀ j, w1.cell? ⟨w.heap.size + 1, j, none⟩ = #[u, v][j]? := fun j => (hB.cell (by simp)).trans (cell_of_row _ _ j _ _ _ h2)
  exact ⟨g1 0, g1 1, g2 0, g2 1, fun o => (hB.frozen (by simp; omega)).trans (frozen_of_row _ _ o _ _ h1), fun o => (hB.frozen (by simp)).trans (frozen_of_row _ _ o _ _ h2)⟩
/-- one new block of two cells behind a call that writes nothing old -/
theorem box1 {w w1 : World} {x y : Value} {t1 : TypeId} (hB : Below (w.alloc (.cells #[x, y] t1)).heap.size (w.alloc (.cells #[x, y] t1)) w1) :
    w1.cell? ⟨w.heap.size, 0, none⟩ = some x ∧ w1.cell? ⟨w.heap.size, 1, none⟩ = some y ∧ ∀ o, w1.frozen? ⟨w.heap.size, o, none⟩ = false := by
  have h1 : (w.alloc (.cells #[x, y] t1)).heap[w.heap.size]? = some (.cells #[x, y] t1 (0, 0)) := heap_alloc_new w _
  have g1 : ∀ j, w1.cell? ⟨w.heap.size, j, none⟩ = #[x, y][j]? := fun j => (hB.cell (by simp)).trans (cell_of_row _ _ j _ _ _ h1)
  exact ⟨g1 0, g1 1, fun o => (hB.frozen (by simp)).trans (frozen_of_row _ _ o _ _ h1)⟩
/-- retry.waits -/
theorem waits_any (w : World) : Calls Try.prog 21 #[] w fun e w' => e = .returned (.agg #[.int .i64 0, .int .i64 1, .int .i64 2, .int .i64 4, .int .i64 8, .int .i64 16]) ∧ Below w.heap.size w w' := by
  go_enter Try.func21, Try.ntmps21
  go_wp2
  exact bodyPost_ret (v := .agg #[.int .i64 0, .int .i64 1, .int .i64 2, .int .i64 4, .int .i64 8, .int .i64 16]) (by simp [results, Try.results21, go_sem]) rfl ⟨rfl, (Below.refl _ _).alloc (Nat.le_refl _) _⟩

/-- the greatest wait of a state with t tries -/
def wt (t : Int) : Int := if t = 0 then 0 else if t = 1 then 1 else if t = 2 then 2 else if t = 3 then 4 else if t = 4 then 8 else 16
/-- is a state valid? -/
def vld (t x : Int) : Bool := decide (0 ≤ t ∧ t ≤ 5 ∧ 0 ≤ x ∧ x ≤ wt t)
theorem vld_neg {t x : Int} (h : t < 0 ∨ 5 < t ∨ x < 0) : vld t x = false := by unfold vld; exact decide_eq_false (by omega)

theorem valid_low (t x : Int) (w : World) (h : t < 0) : Calls Try.prog 12 #[.agg #[.int .i64 t, .int .i64 x]] w fun e w' => e = .returned (.bool (vld t x)) ∧ Below w.heap.size w w' := by
  have HV := Lib.hid (vld_neg (x := x) (.inl h))
  have h1 : ¬ 0 ≤ t := by omega
  have h2 : decide (0 ≤ t) = false := by simpa using h1
  go_enter Try.func12, Try.ntmps12
  go_wp2_with fail
  go_quiet (fail)
  go_wp2
  go_ret
  exact ⟨ret_bool HV.out.symm, (Go.Joins.below_alloc1 _ _).trans (Go.Joins.below_draws _ _ _)⟩
theorem valid_big (t x : Int) (w : World) (h : 5 < t) : Calls Try.prog 12 #[.agg #[.int .i64 t, .int .i64 x]] w fun e w' => e = .returned (.bool (vld t x)) ∧ Below w.heap.size w w' := by
  have HV := Lib.hid (vld_neg (x := x) (.inr (.inl h)))
  have h1 : 0 ≤ t := by omega
  have h2 : decide (0 ≤ t) = true := by simpa using h1
  have h3 : decide (t ≤ 5) = false := decide_eq_false (by omega)
  go_enter Try.func12, Try.ntmps12
  go_wp2_with fail
  go_quiet (fail)
  go_wp2
  go_ret
  exact ⟨ret_bool HV.out.symm, (Go.Joins.below_alloc1 _ _).trans (Go.Joins.below_draws _ _ _)⟩
theorem valid_minus (t x : Int) (w : World) (h0 : 0 ≤ t) (h : t ≤ 5) (hx : x < 0) : Calls Try.prog 12 #[.agg #[.int .i64 t, .int .i64 x]] w fun e w' => e = .returned (.bool (vld t x)) ∧ Below w.heap.size w w' := by
  have HV := Lib.hid (vld_neg (t := t) (.inr (.inr hx)))
  have h2 : decide (0 ≤ t) = true := decide_eq_true h0
  have h3 : decide (t ≤ 5) = true := decide_eq_true h
  have h4 : decide (0 ≤ x) = false := decide_eq_false (by omega)
  go_enter Try.func12, Try.ntmps12
  go_wp2_with fail
  go_quiet (fail)
  go_wp2
  go_ret
  exact ⟨ret_bool HV.out.symm, (Go.Joins.below_alloc1 _ _).trans (Go.Joins.below_draws _ _ _)⟩
theorem valid_rest (t x m : Int) (w : World) (h0 : 0 ≤ t) (h : t ≤ 5) (hx : 0 ≤ x)
    (hix : ∀ W : World, (Instr.index 41 (.agg #[.int .i64 0, .int .i64 1, .int .i64 2, .int .i64 4, .int .i64 8, .int .i64 16]) (.int .i64 t)).run Try.prog W = .ok (.int .i64 m) W) :
    Calls Try.prog 12 #[.agg #[.int .i64 t, .int .i64 x]] w fun e w' => e = .returned (.bool (decide (x ≤ m))) ∧ Below w.heap.size w w' := by
  have h2 : decide (0 ≤ t) = true := decide_eq_true h0
  have h3 : decide (t ≤ 5) = true := decide_eq_true h
  have h4 : decide (0 ≤ x) = true := decide_eq_true hx
  go_enter Try.func12, Try.ntmps12
  go_wp2_with fail
  go_region_held3 (fun w' => w'.cell? ⟨w.heap.size, 0, none⟩ = some (.int .i64 t) ∧ w'.cell? ⟨w.heap.size, 1, none⟩ = some (.int .i64 x))
    (first
      | go_keep
      | (go_split_ands; refine ⟨?_, ?_⟩ <;> (rw [hb1 _ _ (by simp)]; assumption)))
    (first
      | (go_simp; go_at_call 21; refine (waits_any _).mono ?_; rintro e w' ⟨rfl, hB⟩; obtain ⟨hb1, hb2⟩ := bcell hB))
  go_wp2
  go_ret
  refine ⟨rfl, ?_⟩
  have h1 : Below w.heap.size w (w.alloc (Obj.cells #[Value.int IntKind.i64 t, Value.int IntKind.i64 x] 23)).drew := (Go.Joins.below_alloc1 _ _).drew
  exact h1.trans (hB.mono h1.size)
theorem valid_any (t x : Int) (w : World) : Calls Try.prog 12 #[.agg #[.int .i64 t, .int .i64 x]] w fun e w' => e = .returned (.bool (vld t x)) ∧ Below w.heap.size w w' := by
  by_cases h1 : t < 0
  · exact valid_low t x w h1
  by_cases h2 : 5 < t
  · exact valid_big t x w h2
  by_cases h3 : x < 0
  · exact valid_minus t x w (by omega) (by omega) h3
  have key : ∀ m, wt t = m → (∀ W : World, (Instr.index 41 (.agg #[.int .i64 0, .int .i64 1, .int .i64 2, .int .i64 4, .int .i64 8, .int .i64 16]) (.int .i64 t)).run Try.prog W = .ok (.int .i64 m) W) →
      Calls Try.prog 12 #[.agg #[.int .i64 t, .int .i64 x]] w fun e w' => e = .returned (.bool (vld t x)) ∧ Below w.heap.size w w' := by
    intro m hm hix
    have e : vld t x = decide (x ≤ m) := by
      unfold vld
      rw [hm]
      exact decide_eq_decide.mpr (by omega)
    rw [e]
    exact valid_rest t x m w (by omega) (by omega) (by omega) hix
  obtain rfl | rfl | rfl | rfl | rfl | rfl : t = 0 ∨ t = 1 ∨ t = 2 ∨ t = 3 ∨ t = 4 ∨ t = 5 := by omega
  · exact key 0 rfl (fun W => by kernel_rfl)
  · exact key 1 rfl (fun W => by kernel_rfl)
  · exact key 2 rfl (fun W => by kernel_rfl)
  · exact key 4 rfl (fun W => by kernel_rfl)
  · exact key 8 rfl (fun W => by kernel_rfl)
  · exact key 16 rfl (fun W => by kernel_rfl)

/-- the valid state that stands for a state -/
def nt (t x : Int) : Int := if vld t x = true then t else 5
def nx (t x : Int) : Int := if vld t x = true then x else 0
/-- retry.normal -/
theorem normal_any (t x : Int) (w : World) : Calls Try.prog 20 #[.agg #[.int .i64 t, .int .i64 x]] w fun e w' => e = .returned (.agg #[.int .i64 (nt t x), .int .i64 (nx t x)]) ∧ Below w.heap.size w w' := by
  cases hv : vld t x with
  | true =>
    have e1 := Lib.hid (show nt t x = t by rw [nt, if_pos hv])
    have e2 := Lib.hid (show nx t x = x by rw [nx, if_pos hv])
    have HC := Lib.hid (valid_any t x)
    rw [hv] at HC
    clear hv
    go_enter Try.func20, Try.ntmps20
    go_wp2_with (go_at_call 12; refine (HC.out _).mono ?_; rintro e w1 ⟨rfl, hB⟩; obtain ⟨hb1, hb2⟩ := bcell hB)
    refine bodyPost_ret (v := .agg #[.int .i64 t, .int .i64 x]) (by simp [results, Try.results20, go_sem, hb1]) rfl ⟨by rw [e1.out, e2.out], ?_⟩
    exact (two_boxes hB).setCell (by simp) _ |>.setCell (by simp) _
  | false =>
    have e1 := Lib.hid (show nt t x = 5 by rw [nt, if_neg (by rw [hv]; simp)])
    have e2 := Lib.hid (show nx t x = 0 by rw [nx, if_neg (by rw [hv]; simp)])
    have HC := Lib.hid (valid_any t x)
    rw [hv] at HC
    clear hv
    go_enter Try.func20, Try.ntmps20
    go_wp2_with (go_at_call 12; refine (HC.out _).mono ?_; rintro e w1 ⟨rfl, hB⟩; obtain ⟨hb1, hb2⟩ := bcell hB)
    refine bodyPost_ret (v := .agg #[.int .i64 5, .int .i64 0]) (by simp [results, Try.results20, go_sem, hb1]) rfl ⟨by rw [e1.out, e2.out], ?_⟩
    exact (two_boxes hB).setCell (by simp) _ |>.setCell (by simp) _
