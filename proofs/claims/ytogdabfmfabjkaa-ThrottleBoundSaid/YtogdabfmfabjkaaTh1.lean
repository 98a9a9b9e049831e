/- The walks of package throttle: the bucket's methods. -/
import Derived.Test.YtogdabfmfabjkaaProg
import Derived.WalkKit
import Derived.Lib.Hide
import Derived.Deep.QuietTactic
import Derived.BigQuiet
import Derived.Deep.RegionHeld3
import Derived.Laws.LoneSync
import Derived.Lib.SmallJoins
import Derived.Maps.AppendAt
namespace Go.Proofs.Ytogdabfmfabjkaa
open Go.RowKit

theorem ret_int {k : IntKind} {a b : Int} (h : a = b) : Ending.returned (.int k a) = .returned (.int k b) := by rw [h]
theorem ret_bool {a b : Bool} (h : a = b) : Ending.returned (.bool a) = .returned (.bool b) := by rw [h]

/-- block g is a bucket: rate, burst, level -/
def Buk (w : World) (g : Nat) (R B L : Int) : Prop := w.heap[g]? = some (.cells #[.int .i64 R, .int .i64 B, .int .i64 L] 58 (0, 0))
theorem Buk.c0 {w : World} {g : Nat} {R B L : Int} (h : Buk w g R B L) : w.cell? ⟨g, 0, none⟩ = some (.int .i64 R) := cell_of_row _ _ 0 _ _ _ h
theorem Buk.c1 {w : World} {g : Nat} {R B L : Int} (h : Buk w g R B L) : w.cell? ⟨g, 1, none⟩ = some (.int .i64 B) := cell_of_row _ _ 1 _ _ _ h
theorem Buk.c2 {w : World} {g : Nat} {R B L : Int} (h : Buk w g R B L) : w.cell? ⟨g, 2, none⟩ = some (.int .i64 L) := cell_of_row _ _ 2 _ _ _ h
theorem Buk.f {w : World} {g : Nat} {R B L : Int} (h : Buk w g R B L) (o : Nat) : w.frozen? ⟨g, o, none⟩ = false := frozen_of_row _ _ o _ _ h
theorem Buk.lt {w : World} {g : Nat} {R B L : Int} (h : Buk w g R B L) : g < w.heap.size := World.block_lt_of_cell? w _ h.c0
theorem Buk.set {w : World} {g : Nat} {R B L : Int} (h : Buk w g R B L) (L' : Int) : Buk (w.setCell ⟨g, 2, none⟩ (.int .i64 L')) g R B L' := heap_setCell_same w g 2 _ _ _ h
theorem Buk.drewN {w : World} {g : Nat} {R B L : Int} (h : Buk w g R B L) (n : Nat) : Buk (w.drewN n) g R B L := h
theorem Buk.alloc {w : World} {g : Nat} {R B L : Int} (h : Buk w g R B L) (o : Obj) : Buk (w.alloc o) g R B L := (Below.heap_alloc w o g h.lt).trans h
theorem Buk.grown {w w' : World} {g : Nat} {row : Option Nat} {R B L : Int} (h : Buk w g R B L) (hg : w.grownBy w' row) (hne : row ≠ some g) : Buk w' g R B L := (hg.block g h.lt (fun e => hne e.symm)).trans h
theorem grown_drewN (w : World) (n : Nat) (row : Option Nat) : w.grownBy (w.drewN n) row := ⟨rfl, rfl, rfl, Nat.le_refl _, fun _ _ _ => rfl⟩
theorem grown_set (w : World) (g o : Nat) (v : Value) : w.grownBy (w.setCell ⟨g, o, none⟩ v) (some g) :=
  ⟨rfl, rfl, rfl, by simp, fun k _ hk => Below.heap_setCell w ⟨g, o, none⟩ v k (fun e => hk (by rw [e]))⟩

/-- atomic Load of a bucket's level -/
theorem load_any (g : Nat) (R B L : Int) (w : World) (h : Buk w g R B L) : Calls Try.prog 21 #[.pointer (some ⟨g, 2, none⟩)] w fun e w' => e = .returned (.int .i64 L) ∧ w = w' := by
  have c2 := h.c2
  have hld := run_call_load (P := Try.prog) (w := w) Try.func27 (by kernel_rfl) (by kernel_rfl) (by kernel_rfl) .i64 (by kernel_rfl) c2
  clear h
  go_enter Try.func21, Try.ntmps21
  go_wp2
  go_ret
  exact ⟨rfl, rfl⟩
/-- atomic Store of a bucket's level -/
theorem store_any (g : Nat) (R B L L' : Int) (w : World) (h : Buk w g R B L) : Calls Try.prog 20 #[.pointer (some ⟨g, 2, none⟩), .int .i64 L'] w fun e w' => e = .returned (.tuple #[]) ∧ w.setCell ⟨g, 2, none⟩ (.int .i64 L') = w' := by
  have c2 := h.c2
  have f2 := h.f 2
  have hst := run_call_store (P := Try.prog) (w := w) (k := .i64) (y := L') Try.func26 (by kernel_rfl) (by kernel_rfl) (by kernel_rfl) (by kernel_rfl) c2 f2
  clear h
  go_enter Try.func20, Try.ntmps20
  go_wp2
  go_end0
  exact ⟨rfl, rfl⟩
/-- atomic CompareAndSwap of a bucket's level with the level that it has -/
theorem cas_any (g : Nat) (R B L L' : Int) (w : World) (h : Buk w g R B L) : Calls Try.prog 28 #[.pointer (some ⟨g, 2, none⟩), .int .i64 L, .int .i64 L'] w fun e w' => e = .returned (.bool true) ∧ w.setCell ⟨g, 2, none⟩ (.int .i64 L') = w' := by
  have c2 := h.c2
  have f2 := h.f 2
  have hcs := run_call_cas_hit (P := Try.prog) (w := w) (y := L') Try.func29 (by kernel_rfl) (by kernel_rfl) (by kernel_rfl) .i64 (by kernel_rfl) c2 f2
  clear h
  go_enter Try.func28, Try.ntmps28
  go_wp2
  go_ret
  exact ⟨rfl, rfl⟩
/-- Bucket.ticks -/
theorem ticks_any (g : Nat) (R B L u v : Int) (w : World) (h : Buk w g R B L) (hR : 1 ≤ R) (hR2 : R ≤ 1048576) (h1 : 0 ≤ u) (h2 : u ≤ v) (h3 : v ≤ 1073741824) :
    Calls Try.prog 25 #[.pointer (some ⟨g, 0, none⟩), .int .i64 u, .int .i64 v] w fun e w' => e = .returned (.int .i64 ((v - u + R - 1) / R)) ∧ ∃ n, w' = w.drewN n := by
  have c0 := h.c0
  have hw1 : IntKind.i64.wrap (v - u) = v - u := IntWalk.i64_in _ (by omega)
  have hw2 : IntKind.i64.wrap (v - u + R) = v - u + R := IntWalk.i64_in _ (by omega)
  have hw3 : IntKind.i64.wrap (v - u + R - 1) = v - u + R - 1 := IntWalk.i64_in _ (by omega)
  have hR0 : ¬ R = 0 := by omega
  have hq : (v - u + R - 1).tdiv R = (v - u + R - 1) / R := Int.tdiv_eq_ediv_of_nonneg (by omega)
  have hq1 : 0 ≤ (v - u + R - 1) / R := Int.ediv_nonneg (by omega) (by omega)
  have hq2 : (v - u + R - 1) / R ≤ v - u + R - 1 := Int.ediv_le_self _ (by omega)
  have hw4 : IntKind.i64.wrap ((v - u + R - 1) / R) = (v - u + R - 1) / R := IntWalk.i64_in _ (by omega)
  clear h
  go_enter Try.func25, Try.ntmps25
  go_wp2
  go_quiet (fail)
  go_wp2
  go_ret
  exact ⟨rfl, _, rfl⟩

/-- the closure of Take -/
theorem take1_any (L n : Int) (x : Nat) (w : World) (hc : w.cell? ⟨x, 0, none⟩ = some (.int .i64 n)) (h0 : 0 ≤ n) (hn : n ≤ 9223372036854775807) (hL : 0 ≤ L) (hL2 : L ≤ 1073741824) :
    Calls Try.prog 23 #[.int .i64 L, .pointer (some ⟨x, 0, none⟩)] w fun e w' => e = .returned (.tuple #[.int .i64 (L - n), .bool (decide (n ≤ L))]) ∧ ∃ m, w' = w.drewN m := by
  have hw1 : IntKind.i64.wrap (L - n) = L - n := IntWalk.i64_in _ (by omega)
  go_enter Try.func23, Try.ntmps23
  go_wp2
  go_quiet (fail)
  go_wp2
  go_ret2
  exact ⟨rfl, _, rfl⟩

/-- a bucket's level after n ticks -/
def tickL (R B L n : Int) : Int := if n ≤ 0 ∨ R = 0 then L else if (B - L + R - 1) / R ≤ n then B else L + n * R
/-- the closure of Tick -/
theorem tick1_full (g x y : Nat) (R B L n : Int) (w : World) (h : Buk w g R B L) (hc : w.cell? ⟨x, 0, none⟩ = some (.int .i64 n)) (hd : w.cell? ⟨y, 0, none⟩ = some (.pointer (some ⟨g, 0, none⟩)))
    (hR : 1 ≤ R) (hR2 : R ≤ 1048576) (h1 : 0 ≤ L) (h2 : L ≤ B) (h3 : B ≤ 1073741824) (hf : (B - L + R - 1) / R ≤ n) :
    Calls Try.prog 24 #[.int .i64 L, .pointer (some ⟨x, 0, none⟩), .pointer (some ⟨y, 0, none⟩)] w fun e w' => e = .returned (.tuple #[.int .i64 B, .bool true]) ∧ ∃ m, w' = w.drewN m := by
  have c1 := h.c1
  have HT := Lib.hid (fun m => ticks_any g R B L L B (w.drewN m) (h.drewN m) hR hR2 h1 h2 h3)
  have hdd : decide ((B - L + R - 1) / R ≤ n) = true := decide_eq_true hf
  clear h hf
  generalize (B - L + R - 1) / R = q at *
  go_enter Try.func24, Try.ntmps24
  go_wp2
  go_quiet ((go_at_call 25; exact Calls.quiet_of (HT.out _)))
  go_wp2
  go_ret2
  exact ⟨rfl, _, rfl⟩
theorem mul_bd {R B L n : Int} (hR : 1 ≤ R) (hn : 0 ≤ n) (hf : n < (B - L + R - 1) / R) : 0 ≤ n * R ∧ n * R ≤ B - L - 1 := by
  have h1 : n * R + R ≤ B - L + R - 1 := by
    have := Int.mul_le_mul_of_nonneg_right (show n + 1 ≤ (B - L + R - 1) / R by omega) (show (0 : Int) ≤ R by omega)
    have h3 := Int.ediv_mul_le (B - L + R - 1) (show R ≠ 0 by omega)
    rw [Int.add_mul, Int.one_mul] at this
    omega
  exact ⟨Int.mul_nonneg hn (by omega), by omega⟩
theorem tick1_part (g x y : Nat) (R B L n : Int) (w : World) (h : Buk w g R B L) (hc : w.cell? ⟨x, 0, none⟩ = some (.int .i64 n)) (hd : w.cell? ⟨y, 0, none⟩ = some (.pointer (some ⟨g, 0, none⟩)))
    (hR : 1 ≤ R) (hR2 : R ≤ 1048576) (h1 : 0 ≤ L) (h2 : L ≤ B) (h3 : B ≤ 1073741824) (hn : 0 ≤ n) (hf : n < (B - L + R - 1) / R) :
    Calls Try.prog 24 #[.int .i64 L, .pointer (some ⟨x, 0, none⟩), .pointer (some ⟨y, 0, none⟩)] w fun e w' => e = .returned (.tuple #[.int .i64 (L + n * R), .bool true]) ∧ ∃ m, w' = w.drewN m := by
  obtain ⟨hm1, hm2⟩ := mul_bd hR hn hf
  have c0 := h.c0
  have c1 := h.c1
  have HT := Lib.hid (fun m => ticks_any g R B L L B (w.drewN m) (h.drewN m) hR hR2 h1 h2 h3)
  have hdd : decide ((B - L + R - 1) / R ≤ n) = false := decide_eq_false (by omega)
  have hnn : ¬ (B - L + R - 1) / R ≤ n := by omega
  have hw1 : IntKind.i64.wrap (n * R) = n * R := IntWalk.i64_in _ (by omega)
  have hw2 : IntKind.i64.wrap (L + n * R) = L + n * R := IntWalk.i64_in _ (by omega)
  clear h hf
  generalize (B - L + R - 1) / R = q at *
  go_enter Try.func24, Try.ntmps24
  go_wp2
  go_quiet ((go_at_call 25; exact Calls.quiet_of (HT.out _)))
  go_wp2
  go_quiet (fail)
  go_wp2
  go_ret2
  exact ⟨rfl, _, World.drewN_drewN _ _ _⟩

/-- Bucket.change, by the contract of the function that it is handed -/
theorem change_take (g x : Nat) (R B L n : Int) (w : World) (h : Buk w g R B L) (hc : w.cell? ⟨x, 0, none⟩ = some (.int .i64 n)) (h0 : 0 ≤ n) (hn : n ≤ 9223372036854775807) (hL : 0 ≤ L) (hL2 : L ≤ 1073741824) :
    Calls Try.prog 22 #[.pointer (some ⟨g, 0, none⟩), .func (.func 23) #[] #[.pointer (some ⟨x, 0, none⟩)]] w
      fun e w' => e = .returned (.bool (decide (n ≤ L))) ∧ Buk w' g R B (if n ≤ L then L - n else L) ∧ w.grownBy w' (some g) := by
  have HL := Lib.hid (load_any g R B L w h)
  have HT := Lib.hid (take1_any L n x w hc h0 hn hL hL2)
  have HB := Lib.hid h
  clear h
  by_cases hnl : n ≤ L
  · rw [if_pos hnl]
    have hd : decide (n ≤ L) = true := decide_eq_true hnl
    go_enter Try.func22, Try.ntmps22
    go_wp2
    refine wp_loop_rounds 1 ?_
    rw [rounds_succ]
    go_wp2_with (first
      | (go_at_call 21; (with_reducible refine HL.out.mono ?_); rintro e w' ⟨rfl, rfl⟩)
      | (go_at_call 23; (with_reducible refine HT.out.mono ?_); rintro e w' ⟨rfl, m, rfl⟩)
      | (go_at_call 28; (with_reducible refine (cas_any g R B L (L - n) (w.drewN m) (HB.out.drewN m)).mono ?_); rintro e w' ⟨rfl, rfl⟩))
    go_ret
    exact ⟨ret_bool hd.symm, (HB.out.drewN m).set _, (grown_drewN w m _).trans (grown_set _ _ _ _)⟩
  · rw [if_neg hnl]
    have hd : decide (n ≤ L) = false := decide_eq_false hnl
    go_enter Try.func22, Try.ntmps22
    go_wp2
    refine wp_loop_rounds 1 ?_
    rw [rounds_succ]
    go_wp2_with (first
      | (go_at_call 21; (with_reducible refine HL.out.mono ?_); rintro e w' ⟨rfl, rfl⟩)
      | (go_at_call 23; (with_reducible refine HT.out.mono ?_); rintro e w' ⟨rfl, m, rfl⟩))
    go_ret
    exact ⟨ret_bool hd.symm, HB.out.drewN m, grown_drewN w m _⟩
/-- the same, of Tick -/
theorem change_tick (g x y : Nat) (R B L n : Int) (w : World) (h : Buk w g R B L) (hc : w.cell? ⟨x, 0, none⟩ = some (.int .i64 n)) (hd : w.cell? ⟨y, 0, none⟩ = some (.pointer (some ⟨g, 0, none⟩)))
    (hR : 1 ≤ R) (hR2 : R ≤ 1048576) (h1 : 0 ≤ L) (h2 : L ≤ B) (h3 : B ≤ 1073741824) (hn : 0 < n) :
    Calls Try.prog 22 #[.pointer (some ⟨g, 0, none⟩), .func (.func 24) #[] #[.pointer (some ⟨x, 0, none⟩), .pointer (some ⟨y, 0, none⟩)]] w
      fun e w' => (∃ b : Bool, e = .returned (.bool b)) ∧ Buk w' g R B (tickL R B L n) ∧ w.grownBy w' (some g) := by
  have HL := Lib.hid (load_any g R B L w h)
  have hT : Calls Try.prog 24 #[.int .i64 L, .pointer (some ⟨x, 0, none⟩), .pointer (some ⟨y, 0, none⟩)] w fun e w' => e = .returned (.tuple #[.int .i64 (tickL R B L n), .bool true]) ∧ ∃ m, w' = w.drewN m := by
    unfold tickL
    rw [if_neg (by omega)]
    by_cases hf : (B - L + R - 1) / R ≤ n
    · rw [if_pos hf]; exact tick1_full g x y R B L n w h hc hd hR hR2 h1 h2 h3 hf
    · rw [if_neg hf]; exact tick1_part g x y R B L n w h hc hd hR hR2 h1 h2 h3 (by omega) (by omega)
  have HT := Lib.hid hT
  have HB := Lib.hid h
  clear h hT
  generalize tickL R B L n = T at *
  go_enter Try.func22, Try.ntmps22
  go_wp2
  refine wp_loop_rounds 1 ?_
  rw [rounds_succ]
  go_wp2_with (first
    | (go_at_call 21; (with_reducible refine HL.out.mono ?_); rintro e w' ⟨rfl, rfl⟩)
    | (go_at_call 24; (with_reducible refine HT.out.mono ?_); rintro e w' ⟨rfl, m, rfl⟩)
    | (go_at_call 28; (with_reducible refine (cas_any g R B L T (w.drewN m) (HB.out.drewN m)).mono ?_); rintro e w' ⟨rfl, rfl⟩))
  go_ret
  exact ⟨⟨_, rfl⟩, (HB.out.drewN m).set _, (grown_drewN w m _).trans (grown_set _ _ _ _)⟩
