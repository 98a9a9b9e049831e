/- The walk of the law RetryEnds: it returns true. -/
import Derived.Test.YtckhpacleiglmaaRt6
import Derived.OpenShut
namespace Go.Proofs.Ytckhpacleiglmaa
open Go.RowKit

/-- a slice that reads as the numbers l -/
def Errs (w : World) (A : Option Addr) (l : List Int) : Prop := 0 < l.length → ∃ b off : Nat, A = some ⟨b, off, none⟩ ∧ ∀ j : Nat, j < l.length → w.cell? ⟨b, off + j, none⟩ = some (.int .i64 (l.getD j 0))
theorem Errs.below {w w' : World} {A : Option Addr} {l : List Int} (h : Errs w A l) (hB : Below w.heap.size w w') : Errs w' A l := fun h0 => by
  obtain ⟨b, off, rfl, hc⟩ := h h0
  exact ⟨b, off, rfl, fun j hj => (hB.cell (World.block_lt_of_cell? w _ (hc j hj))).trans (hc j hj)⟩

def sW : Nat → Int
  | 0 => 0
  | i + 1 => sW i + sX i
def sL (i : Nat) : Int := if i = 0 then 0 else sX (i - 1)
theorem ready_at (t y : Int) (h : vld t y = true) (W : World) : Calls Try.prog 14 #[.agg #[.int .i64 t, .int .i64 y]] W fun e w' => e = .returned (.bool (y == 0)) ∧ Below W.heap.size W w' := by
  have := ready_any t y W
  rwa [nx_ok h] at this
theorem tick_at (t y : Int) (h : vld t y = true) (hy : 0 < y) (W : World) : Calls Try.prog 16 #[.agg #[.int .i64 t, .int .i64 y]] W fun e w' => e = .returned (.agg #[.int .i64 t, .int .i64 (y - 1)]) ∧ Below W.heap.size W w' := by
  have := tick_any t y W
  rw [nx_ok h, nt_ok h, show tickX y = y - 1 by rw [tickX, if_pos hy]] at this
  exact this
theorem st_facts (i : Nat) (h : i ≤ 5) : 0 ≤ sX i ∧ sX i ≤ 16 ∧ sX i = wt (sT i) ∧ sT i = i ∧ 0 ≤ sW i ∧ sW i + sX i ≤ 31 ∧ (2 ≤ i → sX i = 2 * sL i) ∧ (i = 1 → sX i = 1) ∧ 0 ≤ sL i ∧ sL i ≤ 16 := by
  obtain rfl | rfl | rfl | rfl | rfl | rfl : i = 0 ∨ i = 1 ∨ i = 2 ∨ i = 3 ∨ i = 4 ∨ i = 5 := by omega
  all_goals decide
theorem st_next (i : Nat) (h : i < 5) : resT (sT i) 16 = sT (i + 1) ∧ resX (sT i) 0 16 = sX (i + 1) ∧ resD (sT i) 16 = 2 ∧ sL (i + 1) = sX i := by
  obtain rfl | rfl | rfl | rfl | rfl : i = 0 ∨ i = 1 ∨ i = 2 ∨ i = 3 ∨ i = 4 := by omega
  all_goals decide
theorem vld_at (t y X : Int) (h0 : 0 ≤ t) (h5 : t ≤ 5) (hX : X = wt t) (h1 : 0 ≤ y) (h2 : y ≤ X) : vld t y = true := by
  unfold vld
  exact decide_eq_true (by omega)
/-- the result behind the waits: again -/
theorem res_again (i : Nat) (h : i < 5) (W : World) : Calls Try.prog 10 #[.agg #[.int .i64 (sT i), .int .i64 0], .int .i64 16] W
    fun r w' => r = .returned (.tuple #[.agg #[.int .i64 (sT (i + 1)), .int .i64 (sX (i + 1))], .int .i64 2]) ∧ Below W.heap.size W w' := by
  have h1 := st_facts i (by omega)
  have hv : vld (sT i) 0 = true := vld_at _ _ _ (by omega) (by omega) h1.2.2.1 (by omega) (by omega)
  have := result_any (sT i) 0 16 W
  obtain ⟨e1, e2, e3, _⟩ := st_next i h
  rw [nt_ok hv, nx_ok hv, e1, e2, e3] at this
  exact this
/-- the result behind the waits: the last one -/
theorem res_last (i : Nat) (e : Int) (h : i ≤ 5) (he : e ≠ 16 ∨ i = 5) (W : World) : Calls Try.prog 10 #[.agg #[.int .i64 (sT i), .int .i64 0], .int .i64 e] W
    fun r w' => r = .returned (.tuple #[.agg #[.int .i64 (sT i), .int .i64 0], .int .i64 (if e = 0 then 1 else 3)]) ∧ Below W.heap.size W w' := by
  have h1 := st_facts i h
  have hv : vld (sT i) 0 = true := vld_at _ _ _ (by omega) (by omega) h1.2.2.1 (by omega) (by omega)
  have := result_any (sT i) 0 e W
  have hn : ¬ (e = 16 ∧ sT i < 5) := by omega
  rw [nt_ok hv, nx_ok hv] at this
  have e1 : resT (sT i) e = sT i := by unfold resT; split <;> simp
  have e2 : resX (sT i) 0 e = 0 := by simp [resX, hn]
  have e3 : resD (sT i) e = if e = 0 then 1 else 3 := by unfold resD; rw [if_neg hn]
  rw [e2, e3] at this
  unfold resT at this
  rw [if_neg hn] at this
  simpa using this
theorem keepf2 {w : World} {g : Nat} {x : Value} (h0 : w.cell? ⟨g, 0, none⟩ = some x) (f0 : ∀ o, w.frozen? ⟨g, o, none⟩ = false) (b : Obj) : ∀ o, (w.alloc b).frozen? ⟨g, o, none⟩ = false :=
  keepf h0 f0 (Go.Joins.below_alloc1 w b)
set_option maxRecDepth 100000 in
set_option maxHeartbeats 4000000 in
theorem ends_any (l : List Int) (A : Option Addr) (c : Nat) (w : World) (hl : Errs w A l) :
    Calls Try.prog 8 #[.slice A l.length c] w fun r w' => r = .returned (.bool true) ∧ Below w.heap.size w w' := by
  have HL := Lib.hid hl
  clear hl
  go_enter Try.func8, Try.ntmps8
  go_wp2_with (go_at_call 9; refine (awake_any _).mono ?_; rintro e w1 ⟨rfl, hB⟩)
  go_loopw [4, 5, 6, 17] (fun va vw vl vi wr => ∃ i : Nat, i ≤ l.length ∧ i ≤ 5 ∧ vi = .int .i64 i ∧ va = .int .i64 i ∧ vw = .int .i64 (sW i) ∧ vl = .int .i64 (sL i) ∧
      wr.cell? ⟨w1.heap.size, 0, none⟩ = some (.int .i64 (sT i)) ∧ wr.cell? ⟨w1.heap.size, 1, none⟩ = some (.int .i64 (sX i)) ∧
      (∀ o, wr.frozen? ⟨w1.heap.size, o, none⟩ = false) ∧ Below w.heap.size w wr ∧ w.heap.size ≤ w1.heap.size) (fun _ _ _ vi _ => l.length - (intOf vi).toNat)
  case atStart => exact ⟨0, by omega, by omega, rfl, rfl, rfl, rfl, cell_of_row _ _ 0 _ _ _ (heap_alloc_new w1 _), cell_of_row _ _ 1 _ _ _ (heap_alloc_new w1 _), fun o => frozen_of_row _ _ o _ _ (heap_alloc_new w1 _), hB.alloc hB.size _, hB.size⟩
  case round =>
    obtain ⟨i, hi, hi5, rfl, rfl, rfl, rfl, c0, c1, f0, hBr, hsz⟩ := hrel
    have HB1 := Lib.hid hBr
    have HF := Lib.hid (st_facts i hi5)
    have hx0 := HF.out.1
    have hx1 := HF.out.2.1
    clear hBr hB
    by_cases hlt : i < l.length
    · obtain ⟨b, off, rfl, hcs⟩ := (HL.out.below HB1.out) (by omega)
      have hce := hcs i hlt
      clear hcs
      generalize l.getD i 0 = e at *
      go_wp2
      go_loopw [9] (fun vj wq => ∃ j : Nat, (j : Int) ≤ sX i ∧ vj = .int .i64 j ∧ wq.cell? ⟨w1.heap.size, 0, none⟩ = some (.int .i64 (sT i)) ∧ wq.cell? ⟨w1.heap.size, 1, none⟩ = some (.int .i64 (sX i - j)) ∧
        (∀ o, wq.frozen? ⟨w1.heap.size, o, none⟩ = false) ∧ Below w.heap.size w wq) (fun vj _ => 16 - (intOf vj).toNat)
      case atStart => exact ⟨0, by omega, rfl, c0, by simpa using c1, f0, HB1.out⟩
      case round =>
        clear c0 c1 f0 HB1
        obtain ⟨j, hj, rfl, c0, c1, f0, hBr⟩ := hrel
        have HB1 := Lib.hid hBr
        clear hBr
        have hv : vld (sT i) (sX i - j) = true := vld_at _ _ _ (by have := HF.out; omega) (by have := HF.out; omega) HF.out.2.2.1 (by omega) (by omega)
        have HR := Lib.hid (ready_at _ _ hv)
        by_cases hj2 : (j : Int) < sX i
        · have HT := Lib.hid (tick_at _ _ hv (by omega))
          have hz : (sX i - (j : Int) == 0) = false := beq_eq_false_iff_ne.mpr (by omega)
          clear hv
          go_wp2_with (first
            | (go_at_call 14; (with_reducible refine (HR.out _).mono ?_); rintro e w2 ⟨rfl, hB⟩; have HB2 := Lib.hid (keepw HB1.out hB); obtain ⟨d0, d1⟩ := keepB c0 c1 hB; have g0 := keepf c0 f0 hB; clear hB)
            | (go_at_call 16; (with_reducible refine (HT.out _).mono ?_); rintro e w3 ⟨rfl, hB⟩; have HB3 := Lib.hid (keepw HB2.out hB); obtain ⟨e0, e1⟩ := keepB d0 d1 hB; have h0 := keepf d0 g0 hB; clear hB))
          go_roundw
          case rel =>
            obtain ⟨k0, k1⟩ := box_store (u := .int .i64 (sT i)) (v := .int .i64 (sX i - j - 1)) e0 e1
            exact ⟨j + 1, by omega, by go_num, k0, by rw [show sX i - ((j + 1 : Nat) : Int) = sX i - j - 1 by omega]; exact k1, fun o => by simpa using h0 o, HB3.out.setCell hsz _ |>.setCell hsz _⟩
          case measure => simp [intOf]; omega
        · have hjx : (j : Int) = sX i := by omega
          rw [show sX i - (j : Int) = 0 by omega] at c1 HR
          have HJ := Lib.hid hjx
          have hw0 := HF.out.2.2.2.2.1
          have hw1 : sW i + (j : Int) ≤ 31 := by have := HF.out.2.2.2.2.2.1; omega
          have hl0 := HF.out.2.2.2.2.2.2.2.2.1
          have hl1 := HF.out.2.2.2.2.2.2.2.2.2
          have hd : 2 ≤ i → ((j : Int) != 2 * sL i) = false := fun h => by rw [hjx]; simpa using HF.out.2.2.2.2.2.2.1 h
          have hd1 : i = 1 → ((j : Int) != 1) = false := fun h => by rw [hjx]; simpa using HF.out.2.2.2.2.2.2.2.1 h
          have hjb : (j : Int) ≤ 16 := by omega
          clear hj hj2 hv hjx hx0 hx1
          have heq := eql_state (sT i) 0
          by_cases ha : e = 16 ∧ i < 5
          · obtain ⟨rfl, ha⟩ := ha
            have HS := Lib.hid (res_again i ha)
            have HN := Lib.hid (st_next i ha)
            clear heq
            obtain h2 | h2 | h2 : 2 ≤ i ∨ i = 1 ∨ i = 0 := by omega
            · have g1 : 1 < (i : Int) := by omega
              have g2 := hd h2
              have HI := Lib.hid h2
              clear hd hd1 h2
              go_wp2_with (first
                | (go_at_call 14; (with_reducible refine (HR.out _).mono ?_); rintro e w2 ⟨rfl, hB⟩; have HB2 := Lib.hid (keepw HB1.out hB); obtain ⟨d0, d1⟩ := keepB c0 c1 hB; have g0 := keepf c0 f0 hB; clear hB)
                | (go_at_call 10; (with_reducible refine (HS.out _).mono ?_); rintro e w3 ⟨rfl, hB⟩; have HB3 := Lib.hid (keepw HB2.out hB); obtain ⟨e0, e1⟩ := keepB d0 d1 hB; have h0 := keepf d0 g0 hB; obtain ⟨k0, k1⟩ := keep2 e0 e1 (.cells #[.int .i64 (sT (i + 1)), .int .i64 (sX (i + 1))] 23); have p0 := keepf2 e0 h0 (.cells #[.int .i64 (sT (i + 1)), .int .i64 (sX (i + 1))] 23); clear hB))
              go_roundw
              case rel =>
                obtain ⟨m0, m1⟩ := box_store (u := .int .i64 (sT (i + 1))) (v := .int .i64 (sX (i + 1))) k0 k1
                exact ⟨i + 1, by omega, by omega, by go_num, by go_num, by rw [sW, ← HJ.out], by rw [HN.out.2.2.2, ← HJ.out], m0, m1, fun o => by simpa using p0 o, (HB3.out.alloc HB3.out.size _).setCell hsz _ |>.setCell hsz _, hsz⟩
              case measure => simp [intOf]; omega
            · have g1 : ¬ 1 < (i : Int) := by omega
              have g2 : ((i : Int) == 1) = true := by rw [beq_iff_eq]; omega
              have g3 := hd1 h2
              have HI := Lib.hid h2
              clear hd hd1 h2
              go_wp2_with (first
                | (go_at_call 14; (with_reducible refine (HR.out _).mono ?_); rintro e w2 ⟨rfl, hB⟩; have HB2 := Lib.hid (keepw HB1.out hB); obtain ⟨d0, d1⟩ := keepB c0 c1 hB; have g0 := keepf c0 f0 hB; clear hB)
                | (go_at_call 10; (with_reducible refine (HS.out _).mono ?_); rintro e w3 ⟨rfl, hB⟩; have HB3 := Lib.hid (keepw HB2.out hB); obtain ⟨e0, e1⟩ := keepB d0 d1 hB; have h0 := keepf d0 g0 hB; obtain ⟨k0, k1⟩ := keep2 e0 e1 (.cells #[.int .i64 (sT (i + 1)), .int .i64 (sX (i + 1))] 23); have p0 := keepf2 e0 h0 (.cells #[.int .i64 (sT (i + 1)), .int .i64 (sX (i + 1))] 23); clear hB))
              go_roundw
              case rel =>
                obtain ⟨m0, m1⟩ := box_store (u := .int .i64 (sT (i + 1))) (v := .int .i64 (sX (i + 1))) k0 k1
                exact ⟨i + 1, by omega, by omega, by go_num, by go_num, by rw [sW, ← HJ.out], by rw [HN.out.2.2.2, ← HJ.out], m0, m1, fun o => by simpa using p0 o, (HB3.out.alloc HB3.out.size _).setCell hsz _ |>.setCell hsz _, hsz⟩
              case measure => simp [intOf]; omega
            · have g1 : ¬ 1 < (i : Int) := by omega
              have g2 : ((i : Int) == 1) = false := beq_eq_false_iff_ne.mpr (by omega)
              have HI := Lib.hid h2
              clear hd hd1 h2
              go_wp2_with (first
                | (go_at_call 14; (with_reducible refine (HR.out _).mono ?_); rintro e w2 ⟨rfl, hB⟩; have HB2 := Lib.hid (keepw HB1.out hB); obtain ⟨d0, d1⟩ := keepB c0 c1 hB; have g0 := keepf c0 f0 hB; clear hB)
                | (go_at_call 10; (with_reducible refine (HS.out _).mono ?_); rintro e w3 ⟨rfl, hB⟩; have HB3 := Lib.hid (keepw HB2.out hB); obtain ⟨e0, e1⟩ := keepB d0 d1 hB; have h0 := keepf d0 g0 hB; obtain ⟨k0, k1⟩ := keep2 e0 e1 (.cells #[.int .i64 (sT (i + 1)), .int .i64 (sX (i + 1))] 23); have p0 := keepf2 e0 h0 (.cells #[.int .i64 (sT (i + 1)), .int .i64 (sX (i + 1))] 23); clear hB))
              go_roundw
              case rel =>
                obtain ⟨m0, m1⟩ := box_store (u := .int .i64 (sT (i + 1))) (v := .int .i64 (sX (i + 1))) k0 k1
                exact ⟨i + 1, by omega, by omega, by go_num, by go_num, by rw [sW, ← HJ.out], by rw [HN.out.2.2.2, ← HJ.out], m0, m1, fun o => by simpa using p0 o, (HB3.out.alloc HB3.out.size _).setCell hsz _ |>.setCell hsz _, hsz⟩
              case measure => simp [intOf]; omega
          · by_cases h0 : e = 0
            · subst h0
              have HS := Lib.hid (res_last i 0 hi5 (by omega))
              rw [if_pos rfl] at HS
              clear ha
              obtain h2 | h2 | h2 : 2 ≤ i ∨ i = 1 ∨ i = 0 := by omega
              · have g1 : 1 < (i : Int) := by omega
                have g2 := hd h2
                have HI := Lib.hid h2
                clear hd hd1 h2
                go_wp2_with (first
                  | (go_at_call 14; (with_reducible refine (HR.out _).mono ?_); rintro e w2 ⟨rfl, hB⟩; have HB2 := Lib.hid (keepw HB1.out hB); obtain ⟨d0, d1⟩ := keepB c0 c1 hB; have g0 := keepf c0 f0 hB; clear hB)
                  | (go_at_call 10; (with_reducible refine (HS.out _).mono ?_); rintro e w3 ⟨rfl, hB⟩; have HB3 := Lib.hid (keepw HB2.out hB); obtain ⟨e0, e1⟩ := keepB d0 d1 hB; obtain ⟨k0, k1⟩ := keep2 e0 e1 (.cells #[.int .i64 (sT i), .int .i64 0] 23); clear hB))
                go_ret
                exact ⟨rfl, HB3.out.alloc HB3.out.size _⟩
              · have g1 : ¬ 1 < (i : Int) := by omega
                have g2 : ((i : Int) == 1) = true := by rw [beq_iff_eq]; omega
                have g3 := hd1 h2
                have HI := Lib.hid h2
                clear hd hd1 h2
                go_wp2_with (first
                  | (go_at_call 14; (with_reducible refine (HR.out _).mono ?_); rintro e w2 ⟨rfl, hB⟩; have HB2 := Lib.hid (keepw HB1.out hB); obtain ⟨d0, d1⟩ := keepB c0 c1 hB; have g0 := keepf c0 f0 hB; clear hB)
                  | (go_at_call 10; (with_reducible refine (HS.out _).mono ?_); rintro e w3 ⟨rfl, hB⟩; have HB3 := Lib.hid (keepw HB2.out hB); obtain ⟨e0, e1⟩ := keepB d0 d1 hB; obtain ⟨k0, k1⟩ := keep2 e0 e1 (.cells #[.int .i64 (sT i), .int .i64 0] 23); clear hB))
                go_ret
                exact ⟨rfl, HB3.out.alloc HB3.out.size _⟩
              · have g1 : ¬ 1 < (i : Int) := by omega
                have g2 : ((i : Int) == 1) = false := beq_eq_false_iff_ne.mpr (by omega)
                have HI := Lib.hid h2
                clear hd hd1 h2
                go_wp2_with (first
                  | (go_at_call 14; (with_reducible refine (HR.out _).mono ?_); rintro e w2 ⟨rfl, hB⟩; have HB2 := Lib.hid (keepw HB1.out hB); obtain ⟨d0, d1⟩ := keepB c0 c1 hB; have g0 := keepf c0 f0 hB; clear hB)
                  | (go_at_call 10; (with_reducible refine (HS.out _).mono ?_); rintro e w3 ⟨rfl, hB⟩; have HB3 := Lib.hid (keepw HB2.out hB); obtain ⟨e0, e1⟩ := keepB d0 d1 hB; obtain ⟨k0, k1⟩ := keep2 e0 e1 (.cells #[.int .i64 (sT i), .int .i64 0] 23); clear hB))
                go_ret
                exact ⟨rfl, HB3.out.alloc HB3.out.size _⟩
            · have HS := Lib.hid (res_last i e hi5 (by omega))
              rw [if_neg h0] at HS
              have he0 : (e == 0) = false := by simpa using h0
              clear ha h0
              obtain h2 | h2 | h2 : 2 ≤ i ∨ i = 1 ∨ i = 0 := by omega
              · have g1 : 1 < (i : Int) := by omega
                have g2 := hd h2
                have HI := Lib.hid h2
                clear hd hd1 h2
                go_wp2_with (first
                  | (go_at_call 14; (with_reducible refine (HR.out _).mono ?_); rintro e w2 ⟨rfl, hB⟩; have HB2 := Lib.hid (keepw HB1.out hB); obtain ⟨d0, d1⟩ := keepB c0 c1 hB; have g0 := keepf c0 f0 hB; clear hB)
                  | (go_at_call 10; (with_reducible refine (HS.out _).mono ?_); rintro e w3 ⟨rfl, hB⟩; have HB3 := Lib.hid (keepw HB2.out hB); obtain ⟨e0, e1⟩ := keepB d0 d1 hB; obtain ⟨k0, k1⟩ := keep2 e0 e1 (.cells #[.int .i64 (sT i), .int .i64 0] 23); clear hB))
                go_ret
                exact ⟨rfl, HB3.out.alloc HB3.out.size _⟩
              · have g1 : ¬ 1 < (i : Int) := by omega
                have g2 : ((i : Int) == 1) = true := by rw [beq_iff_eq]; omega
                have g3 := hd1 h2
                have HI := Lib.hid h2
                clear hd hd1 h2
                go_wp2_with (first
                  | (go_at_call 14; (with_reducible refine (HR.out _).mono ?_); rintro e w2 ⟨rfl, hB⟩; have HB2 := Lib.hid (keepw HB1.out hB); obtain ⟨d0, d1⟩ := keepB c0 c1 hB; have g0 := keepf c0 f0 hB; clear hB)
                  | (go_at_call 10; (with_reducible refine (HS.out _).mono ?_); rintro e w3 ⟨rfl, hB⟩; have HB3 := Lib.hid (keepw HB2.out hB); obtain ⟨e0, e1⟩ := keepB d0 d1 hB; obtain ⟨k0, k1⟩ := keep2 e0 e1 (.cells #[.int .i64 (sT i), .int .i64 0] 23); clear hB))
                go_ret
                exact ⟨rfl, HB3.out.alloc HB3.out.size _⟩
              · have g1 : ¬ 1 < (i : Int) := by omega
                have g2 : ((i : Int) == 1) = false := beq_eq_false_iff_ne.mpr (by omega)
                have HI := Lib.hid h2
                clear hd hd1 h2
                go_wp2_with (first
                  | (go_at_call 14; (with_reducible refine (HR.out _).mono ?_); rintro e w2 ⟨rfl, hB⟩; have HB2 := Lib.hid (keepw HB1.out hB); obtain ⟨d0, d1⟩ := keepB c0 c1 hB; have g0 := keepf c0 f0 hB; clear hB)
                  | (go_at_call 10; (with_reducible refine (HS.out _).mono ?_); rintro e w3 ⟨rfl, hB⟩; have HB3 := Lib.hid (keepw HB2.out hB); obtain ⟨e0, e1⟩ := keepB d0 d1 hB; obtain ⟨k0, k1⟩ := keep2 e0 e1 (.cells #[.int .i64 (sT i), .int .i64 0] 23); clear hB))
                go_ret
                exact ⟨rfl, HB3.out.alloc HB3.out.size _⟩
    · obtain rfl : i = l.length := by omega
      have hw0 := HF.out.2.2.2.2.1
      have hw1 : sW l.length ≤ 31 := by have := HF.out; omega
      go_wp2
      go_ret
      exact ⟨rfl, HB1.out⟩

/-- a slice of numbers that came in -/
theorem errs_of_row {W : World} {x : Addr} {len cap : Nat} {zs : List Int} (hz : zs.length = cap) (hl : len ≤ cap) (hcell : ∀ i, i < zs.length → W.cell? (x.add i) = some (.int .i64 (zs.getD i 0))) :
    ∃ l : List Int, len = l.length ∧ Errs W (some x) l := by
  refine ⟨zs.take len, by simp; omega, fun h0 => ?_⟩
  have hlen : (zs.take len).length = len := by simp; omega
  rw [hlen] at h0 ⊢
  obtain ⟨b, off, rfl, hc⟩ := ints_at hcell (by omega)
  refine ⟨b, off, rfl, fun j hj => ?_⟩
  rw [hc j (by omega)]
  simp [hj]
