/- The walk of the law ThrottleScript: it returns true. -/
import Derived.Test.YtogdabfmfabjkaaTh7
import Derived.Deep.AppendLies
namespace Go.Proofs.Ytogdabfmfabjkaa
open Go.RowKit

theorem keepc {W w1 : World} {a : Addr} {v : Value} (h : W.cell? a = some v) (hB : Below W.heap.size W w1) : w1.cell? a = some v := (hB.cell (World.block_lt_of_cell? W _ h)).trans h
theorem keepf {W w1 : World} {g : Nat} {v : Value} (h : W.cell? ⟨g, 0, none⟩ = some v) (hf : ∀ o, W.frozen? ⟨g, o, none⟩ = false) (hB : Below W.heap.size W w1) (o : Nat) : w1.frozen? ⟨g, o, none⟩ = false := by
  have hg : g < W.heap.size := World.block_lt_of_cell? W ⟨g, 0, none⟩ h
  exact (hB.frozen hg).trans (hf o)
theorem quiet_same {P : Program} {f : FuncId} {args : Array Value} {w : World} {v : Value} (h : Calls P f args w fun e w' => e = .returned v ∧ w = w') : Calls P f args w fun e w' => e = .returned v ∧ ∃ m, w' = w.drewN m :=
  h.mono fun _ _ ⟨he, hm⟩ => ⟨he, 0, hm.symm⟩
set_option linter.unusedSimpArgs false in
set_option maxRecDepth 100000 in
set_option maxHeartbeats 4000000 in
theorem lawScript_any (R B : Int) (l : List (Bool × Int)) (A : Option Addr) (c : Nat) (w : World) (hl : Steps w A l) :
    Calls Try.prog 4 #[.int .i64 R, .int .i64 B, .slice A l.length c] w fun e w' => e = .returned (.bool true) ∧ Below w.heap.size w w' := by
  have HL := Lib.hid hl
  clear hl
  by_cases hv : okRB R B
  rotate_left
  · have HV := Lib.hid (fun W => rvalid_no R B W hv)
    have HS := Lib.hid (fun W => start_bad R B W hv)
    clear hv
    go_enter Try.func4, Try.ntmps4
    go_wp2_with (first
      | (go_at_call 10; refine (awake_any _).mono ?_; rintro e w1 ⟨rfl, hB⟩; have HW1 := Lib.hid hB; clear hB)
      | (go_at_call 14; (with_reducible refine (HS.out _).mono ?_); rintro e w2 ⟨rfl, hB⟩; have HW2 := Lib.hid (keepw HW1.out hB); clear hB)
      | (go_at_call 12; (with_reducible refine (HV.out _).mono ?_); rintro e w' ⟨rfl, rfl⟩))
    go_ret
    exact ⟨rfl, HW2.out.alloc HW2.out.size _⟩
  have HV := Lib.hid (fun W => rvalid_yes R B W hv)
  have HS := Lib.hid (fun W => start_any R B W hv)
  unfold okRB at hv
  obtain ⟨hR, hR2, hb1, hb2⟩ := hv
  by_cases hlen : 60 < l.length
  · go_enter Try.func4, Try.ntmps4
    go_wp2_with (first
      | (go_at_call 10; refine (awake_any _).mono ?_; rintro e w1 ⟨rfl, hB⟩; have HW1 := Lib.hid hB; clear hB)
      | (go_at_call 14; (with_reducible refine (HS.out _).mono ?_); rintro e w2 ⟨rfl, b2, hB⟩; have HW2 := Lib.hid (keepw HW1.out hB); clear hB)
      | (go_at_call 12; (with_reducible refine (HV.out _).mono ?_); rintro e w' ⟨rfl, rfl⟩))
    go_ret
    exact ⟨rfl, HW2.out.alloc HW2.out.size _⟩
  go_enter Try.func4, Try.ntmps4
  go_wp2_with (first
    | (go_at_call 10; refine (awake_any _).mono ?_; rintro e w1 ⟨rfl, hB⟩; have HW1 := Lib.hid hB; clear hB)
    | (go_at_call 14; (with_reducible refine (HS.out _).mono ?_); rintro e w2 ⟨rfl, b2, hB⟩; have HB2 := Lib.hid b2; have HW2 := Lib.hid (keepw HW1.out hB); clear hB b2))
  have hs1 := HW1.out.size
  have hs2 : w1.heap.size + 1 < w2.heap.size := HB2.out.lt
  have hsb : w.heap.size ≤ w2.heap.size := by omega
  go_loopw [10] (fun vi wr => ∃ (i : Nat) (L : Int), i ≤ l.length ∧ vi = .int .i64 i ∧ 0 ≤ L ∧ L ≤ B ∧ wr.cell? ⟨w2.heap.size, 0, none⟩ = some (.int .i64 R) ∧ wr.cell? ⟨w2.heap.size, 1, none⟩ = some (.int .i64 B) ∧ wr.cell? ⟨w2.heap.size, 2, none⟩ = some (.int .i64 L) ∧
      (∀ o, wr.frozen? ⟨w2.heap.size, o, none⟩ = false) ∧ Buk wr (w1.heap.size + 1) R B L ∧ Below w.heap.size w wr) (fun vi _ => l.length - (intOf vi).toNat)
  case atStart => exact ⟨0, B, by omega, rfl, by omega, by omega, cell_of_row _ _ 0 _ _ _ (heap_alloc_new w2 _), cell_of_row _ _ 1 _ _ _ (heap_alloc_new w2 _), cell_of_row _ _ 2 _ _ _ (heap_alloc_new w2 _), fun o => frozen_of_row _ _ o _ _ (heap_alloc_new w2 _), HB2.out.alloc _, HW2.out.alloc HW2.out.size _⟩
  case round =>
    clear HB2 HW2
    obtain ⟨i, L, hi, rfl, hL0, hL1, c0, c1, c2, f0, hb2, hw2⟩ := hrel
    have HB2 := Lib.hid hb2
    have HW2 := Lib.hid hw2
    clear hb2 hw2
    by_cases hlt : i < l.length
    · obtain ⟨b, off, rfl, hcs⟩ := HL.out (by omega)
      obtain ⟨s0, s1, s2, s3⟩ := hcs i hlt
      clear hcs
      have hbw : b < w.heap.size := World.block_lt_of_cell? w _ s0
      have hbn : ¬ b = w2.heap.size := by omega
      replace s0 := (HW2.out.cell (p := ⟨b, off + i * 2, none⟩) hbw).trans s0
      replace s1 := (HW2.out.cell (p := ⟨b, off + i * 2 + 1, none⟩) hbw).trans s1
      generalize l.getD i (false, 0) = q at *
      obtain ⟨tk, n⟩ := q
      simp only at s0 s1 s2 s3
      cases tk
      · have hk1 := (tickL_bd (n := n) hR hL1).2
        have hk0 : 0 ≤ tickL R B L n := Int.le_trans hL0 (tickL_bd (n := n) hR hL1).1
        have HT := Lib.hid (fun W => rtick_any R B L n W (by omega) (by omega) (by omega) (by omega) (by omega))
        have HK := Lib.hid (fun (W : World) (h : Buk W (w1.heap.size + 1) R B L) => tick_any (w1.heap.size + 1) R B L n W h (by omega) (by omega) (by omega) (by omega) (by omega))
        have hne2 : (some w2.heap.size : Option Nat) ≠ some (w1.heap.size + 1) := some_ne (by omega)
        have HLq := Lib.hid (fun (W : World) (h : Buk W (w1.heap.size + 1) R B (tickL R B L n)) => quiet_same (level_any (w1.heap.size + 1) R B (tickL R B L n) W h))
        go_wp2_with fail
        go_region_with (first
          | (go_simp; go_at_call 17; (with_reducible refine (HT.out _).mono ?_); rintro e w3 ⟨rfl, hB⟩; have e0 := keepc (W := wr.drew) c0 hB; have e1 := keepc (W := wr.drew) c1 hB; have e2 := keepc (W := wr.drew) c2 hB; have g0 := fun o => keepf (W := wr.drew) c0 f0 hB o; have t1 := keepc (W := wr.drew) s1 hB; have HB3 := Lib.hid (Buk.below (w := wr.drew) HB2.out hB); have HW3 := Lib.hid (keepw (W := wr.drew) HW2.out.drew hB); clear hB))
        all_goals
          obtain ⟨wq, hwq⟩ : ∃ wq, wq = ((w3.setCell ⟨w2.heap.size, 0, none⟩ (.int .i64 R)).setCell ⟨w2.heap.size, 1, none⟩ (.int .i64 B)).setCell ⟨w2.heap.size, 2, none⟩ (.int .i64 (tickL R B L n)) := ⟨_, rfl⟩
          rw [← hwq]
          have hq : wq.cell? ⟨w2.heap.size, 0, none⟩ = some (.int .i64 R) ∧ wq.cell? ⟨w2.heap.size, 1, none⟩ = some (.int .i64 B) ∧ wq.cell? ⟨w2.heap.size, 2, none⟩ = some (.int .i64 (tickL R B L n)) ∧ (∀ o, wq.frozen? ⟨w2.heap.size, o, none⟩ = false) ∧ wq.cell? ⟨b, off + i * 2 + 1, none⟩ = some (.int .i64 n) := by
            rw [hwq]
            refine ⟨?_, ?_, ?_, fun o => ?_, ?_⟩ <;> simp [go_sem, e0, e1, e2, g0, t1, hbn]
          obtain ⟨k0, k1, k2, l0, t2⟩ := hq
          have HBq := Lib.hid (show Buk wq (w1.heap.size + 1) R B L by rw [hwq]; exact ((HB3.out.grown (grown_set _ _ _ _) hne2).grown (grown_set _ _ _ _) hne2).grown (grown_set _ _ _ _) hne2)
          have HWq := Lib.hid (show Below w.heap.size w wq by rw [hwq]; exact ((HW3.out.setCell hsb _).setCell hsb _).setCell hsb _)
          clear hwq HB3 HW3 e0 e1 e2 g0 t1
          go_wp2_with (go_at_call 18; (with_reducible refine (HK.out _ HBq.out).mono ?_); rintro e w4 ⟨rfl, b4, g4⟩; have HB4 := Lib.hid b4; have HG4 := Lib.hid g4; have HW4 := Lib.hid (below_g HWq.out g4 (by omega)); clear b4 g4)
          have m0 := HG4.out.cell k0 hne2
          have m1 := HG4.out.cell k1 hne2
          have m2 := HG4.out.cell k2 hne2
          have f4 : ∀ o, w4.frozen? ⟨w2.heap.size, o, none⟩ = false := fun o => (HG4.out.frozen_far ⟨w2.heap.size, o, none⟩ (World.block_lt_of_cell? wq ⟨w2.heap.size, 0, none⟩ k0) hne2).trans (l0 o)
          clear HG4 k0 k1 k2 l0
          go_quiet ((go_at_call 13; exact Calls.quiet_of (HLq.out _ (HB4.out.drewN _))))
          go_wp2_with fail
        all_goals
          go_roundw
          case rel => exact ⟨i + 1, tickL R B L n, by omega, by go_num, hk0, hk1, m0, m1, m2, f4, HB4.out.drewN _, below_d HW4.out _⟩
          case measure => simp [intOf]; omega
      · have HT := Lib.hid (fun W => rtake_any R B L n W (by omega) (by omega))
        have HK := Lib.hid (fun (W : World) (h : Buk W (w1.heap.size + 1) R B L) => take_any (w1.heap.size + 1) R B L n W h (by omega) (by omega) (by omega))
        have hne2 : (some w2.heap.size : Option Nat) ≠ some (w1.heap.size + 1) := some_ne (by omega)
        have HLq := Lib.hid (fun (W : World) (h : Buk W (w1.heap.size + 1) R B (takeL L n)) => quiet_same (level_any (w1.heap.size + 1) R B (takeL L n) W h))
        go_wp2_with fail
        go_region_with (first
          | (go_simp; go_at_call 15; (with_reducible refine (HT.out _).mono ?_); rintro e w3 ⟨rfl, hB⟩; have e0 := keepc (W := wr.drew) c0 hB; have e1 := keepc (W := wr.drew) c1 hB; have e2 := keepc (W := wr.drew) c2 hB; have g0 := fun o => keepf (W := wr.drew) c0 f0 hB o; have t1 := keepc (W := wr.drew) s1 hB; have HB3 := Lib.hid (Buk.below (w := wr.drew) HB2.out hB); have HW3 := Lib.hid (keepw (W := wr.drew) HW2.out.drew hB); clear hB))
        all_goals
          obtain ⟨wq, hwq⟩ : ∃ wq, wq = ((w3.setCell ⟨w2.heap.size, 0, none⟩ (.int .i64 R)).setCell ⟨w2.heap.size, 1, none⟩ (.int .i64 B)).setCell ⟨w2.heap.size, 2, none⟩ (.int .i64 (takeL L n)) := ⟨_, rfl⟩
          rw [← hwq]
          have hq : wq.cell? ⟨w2.heap.size, 0, none⟩ = some (.int .i64 R) ∧ wq.cell? ⟨w2.heap.size, 1, none⟩ = some (.int .i64 B) ∧ wq.cell? ⟨w2.heap.size, 2, none⟩ = some (.int .i64 (takeL L n)) ∧ (∀ o, wq.frozen? ⟨w2.heap.size, o, none⟩ = false) ∧ wq.cell? ⟨b, off + i * 2 + 1, none⟩ = some (.int .i64 n) := by
            rw [hwq]
            refine ⟨?_, ?_, ?_, fun o => ?_, ?_⟩ <;> simp [go_sem, e0, e1, e2, g0, t1, hbn]
          obtain ⟨k0, k1, k2, l0, t2⟩ := hq
          have HBq := Lib.hid (show Buk wq (w1.heap.size + 1) R B L by rw [hwq]; exact ((HB3.out.grown (grown_set _ _ _ _) hne2).grown (grown_set _ _ _ _) hne2).grown (grown_set _ _ _ _) hne2)
          have HWq := Lib.hid (show Below w.heap.size w wq by rw [hwq]; exact ((HW3.out.setCell hsb _).setCell hsb _).setCell hsb _)
          clear hwq HB3 HW3 e0 e1 e2 g0 t1
          go_wp2_with (go_at_call 16; (with_reducible refine (HK.out _ HBq.out).mono ?_); rintro e w4 ⟨rfl, b4, g4⟩; have HB4 := Lib.hid b4; have HG4 := Lib.hid g4; have HW4 := Lib.hid (below_g HWq.out g4 (by omega)); clear b4 g4)
          have m0 := HG4.out.cell k0 hne2
          have m1 := HG4.out.cell k1 hne2
          have m2 := HG4.out.cell k2 hne2
          have f4 : ∀ o, w4.frozen? ⟨w2.heap.size, o, none⟩ = false := fun o => (HG4.out.frozen_far ⟨w2.heap.size, o, none⟩ (World.block_lt_of_cell? wq ⟨w2.heap.size, 0, none⟩ k0) hne2).trans (l0 o)
          clear HG4 k0 k1 k2 l0
          go_quiet ((go_at_call 13; exact Calls.quiet_of (HLq.out _ (HB4.out.drewN _))))
          go_wp2_with fail
        all_goals
          go_roundw
          case rel => exact ⟨i + 1, takeL L n, by omega, by go_num, (takeL_bd hL0).1, Int.le_trans (takeL_bd hL0).2 hL1, m0, m1, m2, f4, HB4.out.drewN _, below_d HW4.out _⟩
          case measure => simp [intOf]; omega
    · obtain rfl : i = l.length := by omega
      go_wp2
      go_ret
      exact ⟨rfl, HW2.out⟩
end Go.Proofs.Ytogdabfmfabjkaa
