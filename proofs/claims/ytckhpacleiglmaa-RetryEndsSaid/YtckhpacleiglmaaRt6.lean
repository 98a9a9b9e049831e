/- The walk of the law RetryWaits: it returns true. -/
import Derived.Test.YtckhpacleiglmaaRt5
namespace Go.Proofs.Ytckhpacleiglmaa
open Go.RowKit

def sT (i : Nat) : Int := if i < 5 then i else 5
def sX (i : Nat) : Int := wt (sT i)
def sD (i : Nat) : Int := if i = 6 then 3 else 2
theorem busy_step (i : Nat) (h : i < 6) (W : World) : Calls Try.prog 10 #[.agg #[.int .i64 (sT i), .int .i64 (sX i)], .int .i64 16] W
    fun r w' => r = .returned (.tuple #[.agg #[.int .i64 (sT (i + 1)), .int .i64 (sX (i + 1))], .int .i64 (sD (i + 1))]) ∧ Below W.heap.size W w' := by
  have := result_any (sT i) (sX i) 16 W
  match i, h with
  | 0, _ => exact this
  | 1, _ => exact this
  | 2, _ => exact this
  | 3, _ => exact this
  | 4, _ => exact this
  | 5, _ => exact this
theorem box_store {wr : World} {g : Nat} {x y u v : Value} (h0 : wr.cell? ⟨g, 0, none⟩ = some x) (h1 : wr.cell? ⟨g, 1, none⟩ = some y) :
    ((wr.setCell ⟨g, 0, none⟩ u).setCell ⟨g, 1, none⟩ v).cell? ⟨g, 0, none⟩ = some u ∧ ((wr.setCell ⟨g, 0, none⟩ u).setCell ⟨g, 1, none⟩ v).cell? ⟨g, 1, none⟩ = some v := by
  refine ⟨?_, ?_⟩ <;> simp [go_sem, h0, h1]
theorem keepf {W w1 : World} {g : Nat} {x : Value} (h0 : W.cell? ⟨g, 0, none⟩ = some x) (f0 : ∀ o, W.frozen? ⟨g, o, none⟩ = false) (hB : Below W.heap.size W w1) : ∀ o, w1.frozen? ⟨g, o, none⟩ = false := fun o => by
  have hl : g < W.heap.size := World.block_lt_of_cell? W _ h0
  exact (hB.frozen (p := ⟨g, o, none⟩) hl).trans (f0 o)
set_option maxRecDepth 100000 in
set_option maxHeartbeats 2000000 in
theorem waits_law (n m : Nat) (hn : n < 256) (hm : (n : Int) % 7 = (m : Int)) (hm6 : m < 7) (w : World) : Calls Try.prog 5 #[.int .u8 n] w fun r w' => r = .returned (.bool true) ∧ Below w.heap.size w w' := by
  go_enter Try.func5, Try.ntmps5
  go_wp2_with (go_at_call 9; refine (awake_any _).mono ?_; rintro e w1 ⟨rfl, hB⟩)
  go_loopw [4, 5] (fun vd vi wr => ∃ i : Nat, i ≤ m ∧ vi = .int .i64 i ∧ vd = .int .i64 (sD i) ∧ wr.cell? ⟨w1.heap.size, 0, none⟩ = some (.int .i64 (sT i)) ∧ wr.cell? ⟨w1.heap.size, 1, none⟩ = some (.int .i64 (sX i)) ∧
      (∀ o, wr.frozen? ⟨w1.heap.size, o, none⟩ = false) ∧ Below w.heap.size w wr ∧ w.heap.size ≤ w1.heap.size) (fun _ vi _ => m - (intOf vi).toNat)
  case atStart => exact ⟨0, by omega, rfl, rfl, cell_of_row _ _ 0 _ _ _ (heap_alloc_new w1 _), cell_of_row _ _ 1 _ _ _ (heap_alloc_new w1 _), fun o => frozen_of_row _ _ o _ _ (heap_alloc_new w1 _), hB.alloc hB.size _, hB.size⟩
  case round =>
    obtain ⟨i, hi, rfl, rfl, c0, c1, f0, hBr, hsz⟩ := hrel
    have HB1 := Lib.hid hBr
    clear hBr hB
    by_cases hlt : i < m
    · have HS := Lib.hid (busy_step i (by omega))
      have HM := Lib.hid hm
      go_wp2_with (go_at_call 10; (with_reducible refine (HS.out _).mono ?_); rintro e w2 ⟨rfl, hB⟩; have HB2 := Lib.hid (keepw HB1.out hB); obtain ⟨d0, d1⟩ := keepB c0 c1 hB; have g0 := keepf c0 f0 hB; clear hB)
      go_roundw
      case rel =>
        obtain ⟨k0, k1⟩ := box_store (u := .int .i64 (sT (i + 1))) (v := .int .i64 (sX (i + 1))) d0 d1
        exact ⟨i + 1, by omega, by go_num, rfl, k0, k1, fun o => by simpa using g0 o, HB2.out.setCell hsz _ |>.setCell hsz _, hsz⟩
      case measure => simp [intOf]; omega
    · obtain rfl : i = m := by omega
      have hcs : i = 0 ∨ i = 1 ∨ i = 2 ∨ i = 3 ∨ i = 4 ∨ i = 5 ∨ i = 6 := by omega
      clear hi hlt hn
      rcases hcs with rfl | rfl | rfl | rfl | rfl | rfl | rfl
      · have HR := Lib.hid (ready_any 0 0)
        rw [show (nx 0 0 == 0) = true by decide] at HR
        rw [show sT 0 = 0 from rfl] at c0
        rw [show sX 0 = 0 from rfl] at c1
        rw [show sD 0 = 2 from rfl]
        go_wp2_with (go_at_call 14; (with_reducible refine (HR.out _).mono ?_); rintro e w2 ⟨rfl, hB⟩; have HB2 := Lib.hid (keepw HB1.out hB); clear hB)
        go_ret
        exact ⟨rfl, HB2.out⟩
      · have HR := Lib.hid (longest_any 1 1)
        rw [show nt 1 1 = 1 by decide, show nx 1 1 = 1 by decide, show (1 : Int) + lsum 1 = 31 by decide] at HR
        rw [show sT 1 = 1 from rfl] at c0
        rw [show sX 1 = 1 from rfl] at c1
        rw [show sD 1 = 2 from rfl]
        have hv1 : IntKind.i64.wrap 1 = 1 := rfl
        have hv31 : IntKind.i64.wrap 31 = 31 := rfl
        have hu : IntKind.u8.wrap 0 = 0 := rfl
        have ht : (n : Int).tmod 7 = 1 := by rw [Int.tmod_eq_emod_of_nonneg (by omega)]; exact hm
        go_wp2_with fail
        have HBd := Lib.hid HB1.out.drew
        go_region_held3 (fun w' => w'.cell? ⟨w1.heap.size, 0, none⟩ = some (.int .i64 1) ∧ w'.cell? ⟨w1.heap.size, 1, none⟩ = some (.int .i64 1) ∧ Below w.heap.size w w')
          (first
            | (refine ⟨c0, c1, HBd.out⟩)
            | (go_split_ands; refine ⟨?_, ?_, ?_⟩ <;> (first | exact keepc (by assumption) hB | exact keepw (by assumption) hB)))
          (first
            | (go_simp; go_at_call 15; (with_reducible refine (HR.out _).mono ?_); rintro e w4 ⟨rfl, hB⟩))
        rename_i hHeld
        obtain ⟨_, _, hBf⟩ := hHeld
        go_wp2
        go_ret
        exact ⟨rfl, hBf⟩
      · have HR := Lib.hid (longest_any 2 2)
        rw [show nt 2 2 = 2 by decide, show nx 2 2 = 2 by decide, show (2 : Int) + lsum 2 = 30 by decide] at HR
        rw [show sT 2 = 2 from rfl] at c0
        rw [show sX 2 = 2 from rfl] at c1
        rw [show sD 2 = 2 from rfl]
        have hv2 : IntKind.i64.wrap 2 = 2 := rfl
        have hv30 : IntKind.i64.wrap 30 = 30 := rfl
        have hu : IntKind.u8.wrap 1 = 1 := rfl
        have ht : (n : Int).tmod 7 = 2 := by rw [Int.tmod_eq_emod_of_nonneg (by omega)]; exact hm
        go_wp2_with fail
        have HBd := Lib.hid HB1.out.drew
        go_region_held3 (fun w' => w'.cell? ⟨w1.heap.size, 0, none⟩ = some (.int .i64 2) ∧ w'.cell? ⟨w1.heap.size, 1, none⟩ = some (.int .i64 2) ∧ Below w.heap.size w w')
          (first
            | (refine ⟨c0, c1, HBd.out⟩)
            | (go_split_ands; refine ⟨?_, ?_, ?_⟩ <;> (first | exact keepc (by assumption) hB | exact keepw (by assumption) hB)))
          (first
            | (go_simp; go_at_call 15; (with_reducible refine (HR.out _).mono ?_); rintro e w4 ⟨rfl, hB⟩))
        rename_i hHeld
        obtain ⟨_, _, hBf⟩ := hHeld
        go_wp2
        go_ret
        exact ⟨rfl, hBf⟩
      · have HR := Lib.hid (longest_any 3 4)
        rw [show nt 3 4 = 3 by decide, show nx 3 4 = 4 by decide, show (4 : Int) + lsum 3 = 28 by decide] at HR
        rw [show sT 3 = 3 from rfl] at c0
        rw [show sX 3 = 4 from rfl] at c1
        rw [show sD 3 = 2 from rfl]
        have hv3 : IntKind.i64.wrap 3 = 3 := rfl
        have hv4 : IntKind.i64.wrap 4 = 4 := rfl
        have hv28 : IntKind.i64.wrap 28 = 28 := rfl
        have hu : IntKind.u8.wrap 2 = 2 := rfl
        have ht : (n : Int).tmod 7 = 3 := by rw [Int.tmod_eq_emod_of_nonneg (by omega)]; exact hm
        go_wp2_with fail
        have HBd := Lib.hid HB1.out.drew
        go_region_held3 (fun w' => w'.cell? ⟨w1.heap.size, 0, none⟩ = some (.int .i64 3) ∧ w'.cell? ⟨w1.heap.size, 1, none⟩ = some (.int .i64 4) ∧ Below w.heap.size w w')
          (first
            | (refine ⟨c0, c1, HBd.out⟩)
            | (go_split_ands; refine ⟨?_, ?_, ?_⟩ <;> (first | exact keepc (by assumption) hB | exact keepw (by assumption) hB)))
          (first
            | (go_simp; go_at_call 15; (with_reducible refine (HR.out _).mono ?_); rintro e w4 ⟨rfl, hB⟩))
        rename_i hHeld
        obtain ⟨_, _, hBf⟩ := hHeld
        go_wp2
        go_ret
        exact ⟨rfl, hBf⟩
      · have HR := Lib.hid (longest_any 4 8)
        rw [show nt 4 8 = 4 by decide, show nx 4 8 = 8 by decide, show (8 : Int) + lsum 4 = 24 by decide] at HR
        rw [show sT 4 = 4 from rfl] at c0
        rw [show sX 4 = 8 from rfl] at c1
        rw [show sD 4 = 2 from rfl]
        have hv4 : IntKind.i64.wrap 4 = 4 := rfl
        have hv8 : IntKind.i64.wrap 8 = 8 := rfl
        have hv24 : IntKind.i64.wrap 24 = 24 := rfl
        have hu : IntKind.u8.wrap 3 = 3 := rfl
        have ht : (n : Int).tmod 7 = 4 := by rw [Int.tmod_eq_emod_of_nonneg (by omega)]; exact hm
        go_wp2_with fail
        have HBd := Lib.hid HB1.out.drew
        go_region_held3 (fun w' => w'.cell? ⟨w1.heap.size, 0, none⟩ = some (.int .i64 4) ∧ w'.cell? ⟨w1.heap.size, 1, none⟩ = some (.int .i64 8) ∧ Below w.heap.size w w')
          (first
            | (refine ⟨c0, c1, HBd.out⟩)
            | (go_split_ands; refine ⟨?_, ?_, ?_⟩ <;> (first | exact keepc (by assumption) hB | exact keepw (by assumption) hB)))
          (first
            | (go_simp; go_at_call 15; (with_reducible refine (HR.out _).mono ?_); rintro e w4 ⟨rfl, hB⟩))
        rename_i hHeld
        obtain ⟨_, _, hBf⟩ := hHeld
        go_wp2
        go_ret
        exact ⟨rfl, hBf⟩
      · have HR := Lib.hid (longest_any 5 16)
        rw [show nt 5 16 = 5 by decide, show nx 5 16 = 16 by decide, show (16 : Int) + lsum 5 = 16 by decide] at HR
        rw [show sT 5 = 5 from rfl] at c0
        rw [show sX 5 = 16 from rfl] at c1
        rw [show sD 5 = 2 from rfl]
        have hv5 : IntKind.i64.wrap 5 = 5 := rfl
        have hv16 : IntKind.i64.wrap 16 = 16 := rfl
        have hu : IntKind.u8.wrap 4 = 4 := rfl
        have ht : (n : Int).tmod 7 = 5 := by rw [Int.tmod_eq_emod_of_nonneg (by omega)]; exact hm
        go_wp2_with fail
        have HBd := Lib.hid HB1.out.drew
        go_region_held3 (fun w' => w'.cell? ⟨w1.heap.size, 0, none⟩ = some (.int .i64 5) ∧ w'.cell? ⟨w1.heap.size, 1, none⟩ = some (.int .i64 16) ∧ Below w.heap.size w w')
          (first
            | (refine ⟨c0, c1, HBd.out⟩)
            | (go_split_ands; refine ⟨?_, ?_, ?_⟩ <;> (first | exact keepc (by assumption) hB | exact keepw (by assumption) hB)))
          (first
            | (go_simp; go_at_call 15; (with_reducible refine (HR.out _).mono ?_); rintro e w4 ⟨rfl, hB⟩))
        rename_i hHeld
        obtain ⟨_, _, hBf⟩ := hHeld
        go_wp2
        go_ret
        exact ⟨rfl, hBf⟩
      · rw [show sT 6 = 5 from rfl] at c0
        rw [show sX 6 = 16 from rfl] at c1
        rw [show sD 6 = 3 from rfl]
        go_wp2
        go_ret
        exact ⟨rfl, HB1.out⟩
theorem retryWaits_any (n : Nat) (hn : n < 256) (w : World) : Calls Try.prog 5 #[.int .u8 n] w fun r w' => r = .returned (.bool true) ∧ Below w.heap.size w w' :=
  waits_law n (n % 7) hn (by omega) (by omega) w
