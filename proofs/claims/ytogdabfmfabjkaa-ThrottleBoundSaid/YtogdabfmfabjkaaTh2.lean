/- The walks of package throttle: New, Take, Tick, Level, Wait. -/
import Derived.Test.YtogdabfmfabjkaaTh1
namespace Go.Proofs.Ytogdabfmfabjkaa
open Go.RowKit

/-- a bucket's level behind Take -/
def takeL (L n : Int) : Int := if 0 ≤ n ∧ n ≤ L then L - n else L
def took (L n : Int) : Bool := decide (0 ≤ n ∧ n ≤ L)
theorem ptr_nn (g : Nat) (W : World) : (binOp .eql 23 (.pointer (some ⟨g, 0, none⟩)) (.pointer none)).run Try.prog W = .ok (.bool false) W := by
  rw [run_eql_pointer_nil W 23 (some ⟨g, 0, none⟩) (by kernel_rfl)]
  rfl
theorem take_any (g : Nat) (R B L n : Int) (w : World) (h : Buk w g R B L) (hn : n ≤ 9223372036854775807) (hL : 0 ≤ L) (hL2 : L ≤ 1073741824) :
    Calls Try.prog 16 #[.pointer (some ⟨g, 0, none⟩), .int .i64 n] w fun e w' => e = .returned (.bool (took L n)) ∧ Buk w' g R B (takeL L n) ∧ w.grownBy w' (some g) := by
  have hp := ptr_nn g
  have hmf : ∀ (fn : Fn) (first cap : Array Value) (w : World), (Instr.makeFunc fn first cap).run Try.prog w = .ok (.func fn first cap) w := fun _ _ _ _ => rfl
  by_cases h0 : n < 0
  · have e1 := Lib.hid (show took L n = false from decide_eq_false (by omega))
    have e2 := Lib.hid (show takeL L n = L by rw [takeL, if_neg (by omega)])
    have HB := Lib.hid h
    clear h
    go_enter Try.func16, Try.ntmps16
    go_wp2
    go_ret
    exact ⟨ret_bool e1.out.symm, by rw [e2.out]; exact HB.out.alloc _, World.grownBy_alloc _ _ _⟩
  · have e1 := Lib.hid (show took L n = decide (n ≤ L) by unfold took; exact decide_eq_decide.mpr (by omega))
    have e2 := Lib.hid (show takeL L n = if n ≤ L then L - n else L by
      unfold takeL
      by_cases hh : n ≤ L
      · rw [if_pos hh, if_pos (by omega)]
      · rw [if_neg hh, if_neg (by omega)])
    have hlt := h.lt
    have HB := Lib.hid h
    clear h
    have HC := Lib.hid (change_take g w.heap.size R B L n (w.alloc (.cells #[.int .i64 n] 3)) (HB.out.alloc _) (cell_of_row _ _ 0 _ _ _ (heap_alloc_new w _)) (by omega) hn hL hL2)
    go_enter Try.func16, Try.ntmps16
    go_wp2_with (go_at_call 22; (with_reducible refine HC.out.mono ?_); rintro e w1 ⟨rfl, b1, g1⟩; have HB1 := Lib.hid b1; have HG1 := Lib.hid g1; clear b1 g1)
    go_ret
    exact ⟨ret_bool e1.out.symm, by rw [e2.out]; exact HB1.out, (World.grownBy_alloc w _ _).trans HG1.out⟩

theorem tick_any (g : Nat) (R B L n : Int) (w : World) (h : Buk w g R B L) (hR : 0 ≤ R) (hR2 : R ≤ 1048576) (h1 : 0 ≤ L) (h2 : L ≤ B) (h3 : B ≤ 1073741824) :
    Calls Try.prog 18 #[.pointer (some ⟨g, 0, none⟩), .int .i64 n] w fun e w' => e = .returned (.tuple #[]) ∧ Buk w' g R B (tickL R B L n) ∧ w.grownBy w' (some g) := by
  have hp := ptr_nn g
  have hmf : ∀ (fn : Fn) (first cap : Array Value) (w : World), (Instr.makeFunc fn first cap).run Try.prog w = .ok (.func fn first cap) w := fun _ _ _ _ => rfl
  have HB := Lib.hid h
  have b2 := (HB.out.alloc (.cells #[.pointer (some ⟨g, 0, none⟩)] 23)).alloc (.cells #[.int .i64 n] 3)
  have c0 := b2.c0
  have HB2 := Lib.hid b2
  clear h b2
  by_cases h0 : n ≤ 0
  · have e2 := Lib.hid (show tickL R B L n = L by rw [tickL, if_pos (.inl h0)])
    go_enter Try.func18, Try.ntmps18
    go_wp2
    refine bodyPost_ret (results_none rfl _ _ _) rfl ?_
    exact ⟨rfl, by rw [e2.out]; exact HB2.out, (World.grownBy_alloc _ _ _).trans (World.grownBy_alloc _ _ _)⟩
  by_cases hz : R = 0
  · have e2 := Lib.hid (show tickL R B L n = L by rw [tickL, if_pos (.inr hz)])
    have hzb : (R == 0) = true := by simpa using hz
    clear hz
    go_enter Try.func18, Try.ntmps18
    go_wp2
    refine bodyPost_ret (results_none rfl _ _ _) rfl ?_
    exact ⟨rfl, by rw [e2.out]; exact HB2.out, (World.grownBy_alloc _ _ _).trans (World.grownBy_alloc _ _ _)⟩
  have hzb : (R == 0) = false := by simpa using hz
  have q1 : ((w.alloc (.cells #[.pointer (some ⟨g, 0, none⟩)] 23)).alloc (.cells #[.int .i64 n] 3)).cell? ⟨w.heap.size + 1, 0, none⟩ = some (.int .i64 n) := by
    have := cell_of_row _ _ 0 _ _ _ (heap_alloc_new (w.alloc (.cells #[.pointer (some ⟨g, 0, none⟩)] 23)) (.cells #[.int .i64 n] 3))
    rw [show (w.alloc (.cells #[.pointer (some ⟨g, 0, none⟩)] 23)).heap.size = w.heap.size + 1 by simp] at this
    exact this
  have q2 : ((w.alloc (.cells #[.pointer (some ⟨g, 0, none⟩)] 23)).alloc (.cells #[.int .i64 n] 3)).cell? ⟨w.heap.size, 0, none⟩ = some (.pointer (some ⟨g, 0, none⟩)) :=
    ((Go.Joins.below_alloc1 _ _).cell (by simp)).trans (cell_of_row _ _ 0 _ _ _ (heap_alloc_new w _))
  have HC := Lib.hid (change_tick g (w.heap.size + 1) w.heap.size R B L n _ HB2.out q1 q2 (by omega) hR2 h1 h2 h3 (by omega))
  clear hz q1 q2
  go_enter Try.func18, Try.ntmps18
  go_wp2_with (go_at_call 22; (with_reducible refine HC.out.mono ?_); rintro e w1 ⟨⟨b, rfl⟩, b1, g1⟩; have HB1 := Lib.hid b1; have HG1 := Lib.hid g1; clear b1 g1)
  go_end0
  exact ⟨rfl, HB1.out, (World.grownBy_alloc w _ _).trans ((World.grownBy_alloc _ _ _).trans HG1.out)⟩

theorem level_any (g : Nat) (R B L : Int) (w : World) (h : Buk w g R B L) : Calls Try.prog 13 #[.pointer (some ⟨g, 0, none⟩)] w fun e w' => e = .returned (.int .i64 L) ∧ w = w' := by
  have hp := ptr_nn g
  have HL := Lib.hid (load_any g R B L w h)
  clear h
  go_enter Try.func13, Try.ntmps13
  go_wp2_with (go_at_call 21; (with_reducible refine HL.out.mono ?_); rintro e w' ⟨rfl, rfl⟩)
  go_ret
  exact ⟨rfl, rfl⟩

/-- what Wait returns: the ticks and the error -/
def waitK (R B L n : Int) : Int := if n < 0 ∨ B < n then 0 else if n ≤ L then 0 else if R = 0 then 0 else (n - L + R - 1) / R
def waitE (R B L n : Int) : Int := if n < 0 ∨ B < n then 1 else if n ≤ L then 0 else if R = 0 then 9 else 0
theorem wait_any (g : Nat) (R B L n : Int) (w : World) (h : Buk w g R B L) (hR : 0 ≤ R) (hR2 : R ≤ 1048576) (h1 : 0 ≤ L) (h2 : L ≤ B) (h3 : B ≤ 1073741824) :
    Calls Try.prog 19 #[.pointer (some ⟨g, 0, none⟩), .int .i64 n] w fun e w' => e = .returned (.tuple #[.int .i64 (waitK R B L n), .int .i64 (waitE R B L n)]) ∧ ∃ m, w' = w.drewN m := by
  have hp := ptr_nn g
  have HL := Lib.hid (load_any g R B L w h)
  have c0 := h.c0
  have c1 := h.c1
  have HB := Lib.hid h
  clear h
  by_cases ha : n < 0 ∨ B < n
  · have e1 := Lib.hid (show waitK R B L n = 0 by rw [waitK, if_pos ha])
    have e2 := Lib.hid (show waitE R B L n = 1 by rw [waitE, if_pos ha])
    rcases ha with ha | ha
    · go_enter Try.func19, Try.ntmps19
      go_wp2_with (go_at_call 21; (with_reducible refine HL.out.mono ?_); rintro e w' ⟨rfl, rfl⟩)
      go_ret2
      exact ⟨by rw [e1.out, e2.out]; rfl, 0, rfl⟩
    · have ha2 : ¬ n < 0 := by omega
      go_enter Try.func19, Try.ntmps19
      go_wp2_with (go_at_call 21; (with_reducible refine HL.out.mono ?_); rintro e w' ⟨rfl, rfl⟩)
      go_ret2
      exact ⟨by rw [e1.out, e2.out]; rfl, 0, rfl⟩
  have ha1 : ¬ n < 0 := by omega
  have ha2 : ¬ B < n := by omega
  by_cases hb : n ≤ L
  · have e1 := Lib.hid (show waitK R B L n = 0 by rw [waitK, if_neg ha, if_pos hb])
    have e2 := Lib.hid (show waitE R B L n = 0 by rw [waitE, if_neg ha, if_pos hb])
    clear ha
    go_enter Try.func19, Try.ntmps19
    go_wp2_with (go_at_call 21; (with_reducible refine HL.out.mono ?_); rintro e w' ⟨rfl, rfl⟩)
    go_ret2
    exact ⟨by rw [e1.out, e2.out]; rfl, 0, rfl⟩
  by_cases hz : R = 0
  · have e1 := Lib.hid (show waitK R B L n = 0 by rw [waitK, if_neg ha, if_neg hb, if_pos hz])
    have e2 := Lib.hid (show waitE R B L n = 9 by rw [waitE, if_neg ha, if_neg hb, if_pos hz])
    have hzb : (R == 0) = true := by simpa using hz
    clear ha hz
    go_enter Try.func19, Try.ntmps19
    go_wp2_with (go_at_call 21; (with_reducible refine HL.out.mono ?_); rintro e w' ⟨rfl, rfl⟩)
    go_ret2
    exact ⟨by rw [e1.out, e2.out]; rfl, 0, rfl⟩
  have e1 := Lib.hid (show waitK R B L n = (n - L + R - 1) / R by rw [waitK, if_neg ha, if_neg hb, if_neg hz])
  have e2 := Lib.hid (show waitE R B L n = 0 by rw [waitE, if_neg ha, if_neg hb, if_neg hz])
  have hzb : (R == 0) = false := by simpa using hz
  have HT := Lib.hid (ticks_any g R B L L n w HB.out (by omega) hR2 h1 (by omega) (by omega))
  clear ha hz
  go_enter Try.func19, Try.ntmps19
  go_wp2_with (first
    | (go_at_call 21; (with_reducible refine HL.out.mono ?_); rintro e w' ⟨rfl, rfl⟩)
    | (go_at_call 25; (with_reducible refine HT.out.mono ?_); rintro e w' ⟨rfl, m, rfl⟩))
  go_ret2
  exact ⟨by rw [e1.out, e2.out]; rfl, m, rfl⟩

def okRB (R B : Int) : Prop := 0 ≤ R ∧ R ≤ 1048576 ∧ 1 ≤ B ∧ B ≤ 1073741824
theorem new_bad (R B : Int) (w : World) (h : ¬ okRB R B) : Calls Try.prog 11 #[.int .i64 R, .int .i64 B] w fun e w' => e = .returned (.tuple #[.pointer none, .int .i64 1]) ∧ w = w' := by
  unfold okRB at h
  by_cases h1 : R < 0
  · clear h
    go_enter Try.func11, Try.ntmps11
    go_wp2
    go_ret2
    exact ⟨rfl, rfl⟩
  by_cases h2 : 1048576 < R
  · clear h
    go_enter Try.func11, Try.ntmps11
    go_wp2
    go_ret2
    exact ⟨rfl, rfl⟩
  by_cases h3 : B < 1
  · clear h
    go_enter Try.func11, Try.ntmps11
    go_wp2
    go_ret2
    exact ⟨rfl, rfl⟩
  have h4 : 1073741824 < B := by omega
  clear h
  go_enter Try.func11, Try.ntmps11
  go_wp2
  go_ret2
  exact ⟨rfl, rfl⟩
theorem new_any (R B : Int) (w : World) (h : okRB R B) : Calls Try.prog 11 #[.int .i64 R, .int .i64 B] w
    fun e w' => e = .returned (.tuple #[.pointer (some ⟨w.heap.size, 0, none⟩), .int .i64 0]) ∧ Buk w' w.heap.size R B B ∧ Below w.heap.size w w' := by
  unfold okRB at h
  obtain ⟨h1, h2, h3, h4⟩ := h
  have HS := Lib.hid (store_any w.heap.size R B 0 B (w.alloc (.cells #[.int .i64 R, .int .i64 B, .int .i64 0] 58)) (heap_alloc_new w _))
  go_enter Try.func11, Try.ntmps11
  go_wp2_with (go_at_call 20; (with_reducible refine HS.out.mono ?_); rintro e w' ⟨rfl, rfl⟩)
  go_ret2
  exact ⟨rfl, heap_alloc_new w _, Go.Joins.below_alloc1 w _⟩

/-- nil pointers -/
theorem ptr_nil (W : World) : (binOp .eql 23 (.pointer none) (.pointer none)).run Try.prog W = .ok (.bool true) W := by
  rw [run_eql_pointer_nil W 23 none (by kernel_rfl)]
  rfl
theorem take_nil (n : Int) (w : World) : Calls Try.prog 16 #[.pointer none, .int .i64 n] w fun e w' => e = .returned (.bool false) ∧ Below w.heap.size w w' := by
  have hp := ptr_nil
  go_enter Try.func16, Try.ntmps16
  go_wp2
  go_ret
  exact ⟨rfl, Go.Joins.below_alloc1 _ _⟩
theorem tick_nil (n : Int) (w : World) : Calls Try.prog 18 #[.pointer none, .int .i64 n] w fun e w' => e = .returned (.tuple #[]) ∧ Below w.heap.size w w' := by
  have hp := ptr_nil
  go_enter Try.func18, Try.ntmps18
  go_wp2
  refine bodyPost_ret (results_none rfl _ _ _) rfl ?_
  exact ⟨rfl, Go.Joins.below_alloc2 _ _ _⟩
theorem level_nil (w : World) : Calls Try.prog 13 #[.pointer none] w fun e w' => e = .returned (.int .i64 0) ∧ w = w' := by
  have hp := ptr_nil
  go_enter Try.func13, Try.ntmps13
  go_wp2
  go_ret
  exact ⟨rfl, rfl⟩
theorem wait_nil (n : Int) (w : World) : Calls Try.prog 19 #[.pointer none, .int .i64 n] w fun e w' => e = .returned (.tuple #[.int .i64 0, .int .i64 8]) ∧ w = w' := by
  have hp := ptr_nil
  go_enter Try.func19, Try.ntmps19
  go_wp2
  go_ret2
  exact ⟨rfl, rfl⟩
