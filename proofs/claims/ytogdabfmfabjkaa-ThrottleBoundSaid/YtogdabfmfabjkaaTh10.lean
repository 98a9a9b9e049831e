/- The walk of the law ThrottleBound: it returns true. -/
import Derived.Test.YtogdabfmfabjkaaTh9
namespace Go.Proofs.Ytogdabfmfabjkaa
open Go.RowKit

theorem part_zero {f : Nat → Int} {i : Nat} (h : f i = 0) (j : Nat) : part f i j = part f (i + 1) j := by
  unfold part
  by_cases e : j = i
  · subst e; simp [h]
  · by_cases h1 : j < i
    · rw [if_pos h1, if_pos (by omega)]
    · rw [if_neg h1, if_neg (by omega)]
theorem part_next {f : Nat → Int} {i : Nat} (j : Nat) (e : j ≠ i) : part f i j = part f (i + 1) j := by
  unfold part
  by_cases h1 : j < i
  · rw [if_pos h1, if_pos (by omega)]
  · rw [if_neg h1, if_neg (by omega)]
theorem part_at (f : Nat → Int) (i : Nat) : part f (i + 1) i = f i := by simp [part]
theorem stT_bd {q : Bool × Int} {L : Int} (h : q.2 ≤ 1048576) : 0 ≤ stT q L ∧ stT q L ≤ 1048576 := by
  unfold stT took
  by_cases h1 : 0 ≤ q.2 ∧ q.2 ≤ L <;> cases q.1 <;> simp [h1] <;> omega
theorem stK_bd {q : Bool × Int} (h : q.2 ≤ 1048576) : 0 ≤ stK q ∧ stK q ≤ 1048576 := by
  unfold stK
  cases q.1 <;> simp <;> omega
theorem sm_next (f : Nat → Int) (i k : Nat) (h : i ≤ k) : sm f i (k + 1 - i) = sm f i (k - i) + f k := by
  rw [show k + 1 - i = (k - i) + 1 by omega, sm, show i + (k - i) = k by omega]
theorem part_self (f : Nat → Int) (i : Nat) : part f i i = 0 := by simp [part]
set_option linter.unusedSimpArgs false in
set_option maxRecDepth 100000 in
set_option maxHeartbeats 4000000 in
theorem lawBound_any (R B : Int) (l : List (Bool × Int)) (A : Option Addr) (c : Nat) (w : World) (hl : Steps w A l) :
    Calls Try.prog 5 #[.int .i64 R, .int .i64 B, .slice A l.length c] w fun e w' => e = .returned (.bool true) ∧ Below w.heap.size w w' := by
  have HL := Lib.hid hl
  clear hl
  by_cases hv : okRB R B
  rotate_left
  · have HV := Lib.hid (fun W => rvalid_no R B W hv)
    clear hv
    go_enter Try.func5, Try.ntmps5
    go_wp2_with (first
      | (go_at_call 10; refine (awake_any _).mono ?_; rintro e w1 ⟨rfl, hB⟩; have HW1 := Lib.hid hB; clear hB)
      | (go_at_call 12; (with_reducible refine (HV.out _).mono ?_); rintro e w' ⟨rfl, rfl⟩))
    go_ret
    exact ⟨rfl, HW1.out⟩
  have HV := Lib.hid (fun W => rvalid_yes R B W hv)
  have HN := Lib.hid (fun W => new_any R B W hv)
  unfold okRB at hv
  obtain ⟨hR, hR2, hb1, hb2⟩ := hv
  by_cases hlen : 40 < l.length
  · go_enter Try.func5, Try.ntmps5
    go_wp2_with (first
      | (go_at_call 10; refine (awake_any _).mono ?_; rintro e w1 ⟨rfl, hB⟩; have HW1 := Lib.hid hB; clear hB)
      | (go_at_call 12; (with_reducible refine (HV.out _).mono ?_); rintro e w' ⟨rfl, rfl⟩))
    go_ret
    exact ⟨rfl, HW1.out⟩
  have hmk := fun kl kc W => run_make_ints kl kc l.length (by omega) W
  go_enter Try.func5, Try.ntmps5
  go_wp2_with (first
    | (go_at_call 10; refine (awake_any _).mono ?_; rintro e w1 ⟨rfl, hB⟩; have HW1 := Lib.hid hB; clear hB)
    | (go_at_call 12; (with_reducible refine (HV.out _).mono ?_); rintro e w' ⟨rfl, rfl⟩))
  refine (HN.out w1).mono ?_
  rintro e w2 ⟨rfl, b2, hB⟩
  have HB2 := Lib.hid b2
  have HW2 := Lib.hid (keepw HW1.out hB)
  have hs1 := HW1.out.size
  have hs2 := b2.lt
  clear b2 hB
  go_wp2_with fail
  go_region_with (fail)
  all_goals go_wp2_with fail
  all_goals
    obtain ⟨w3, hw3⟩ : ∃ w3, w3 = ((w2.alloc (.cells (rowv l.length fun _ => 0) 3)).alloc (.cells (rowv l.length fun _ => 0) 3)).drew := ⟨_, rfl⟩
    rw [← hw3]
    have hr0 : Rowi w3 w2.heap.size l.length fun _ => 0 := by
      rw [hw3]
      exact Rowi.below (w := w2.alloc (.cells (rowv l.length fun _ => 0) 3)) Rowi.new (Go.Joins.below_alloc1 _ _).drew
    have hr1 : Rowi w3 (w2.heap.size + 1) l.length fun _ => 0 := by
      rw [hw3]
      have h := Rowi.new (w := w2.alloc (.cells (rowv l.length fun _ => 0) 3)) (n := l.length)
      have h2 : Rowi ((w2.alloc (.cells (rowv l.length fun _ => 0) 3)).alloc (.cells (rowv l.length fun _ => 0) 3)) (w2.heap.size + 1) l.length fun _ => 0 := by simpa using h
      exact h2
    have hb3 : Buk w3 w1.heap.size R B B := by rw [hw3]; exact (HB2.out.alloc _).alloc _
    have hw3' : Below w.heap.size w w3 := by rw [hw3]; exact (((HW2.out.alloc HW2.out.size _).alloc (by have := HW2.out.size; simp; omega) _)).drew
    have hs3 := HW2.out.size
    clear hw3 HB2 HW2
  generalize hgb : w2.heap.size + 1 = gb at *
  generalize hga : w2.heap.size = ga at *
  rotate_left
  generalize hga : w2.heap.size + 1 = ga at *
  generalize hgb : w2.heap.size = gb at *
  all_goals
    have hra : Rowi w3 ga l.length fun _ => 0 := by assumption
    have hrb : Rowi w3 gb l.length fun _ => 0 := by assumption
    have x1 : (some gb : Option Nat) ≠ some ga := some_ne (by omega)
    have x2 : (some ga : Option Nat) ≠ some gb := some_ne (by omega)
    have x3 : (some w1.heap.size : Option Nat) ≠ some ga := some_ne (by omega)
    have x4 : (some w1.heap.size : Option Nat) ≠ some gb := some_ne (by omega)
    have x5 : w.heap.size ≤ ga := by omega
    have x6 : w.heap.size ≤ gb := by omega
    have y1 : ¬ ga = gb := by omega
    have y2 : ¬ gb = ga := by omega
    clear hr0 hr1 hga hgb
    go_loopw [11] (fun vi wr => ∃ i : Nat, i ≤ l.length ∧ vi = .int .i64 i ∧ (∀ j, j < i → (l.getD j (false, 0)).2 ≤ 1048576) ∧ Rowi wr ga l.length (part (bT R B l) i) ∧ Rowi wr gb l.length (part (bK l) i) ∧ Buk wr w1.heap.size R B (lv R B l i) ∧ Below w.heap.size w wr) (fun vi _ => l.length - (intOf vi).toNat)
    case atStart => exact ⟨0, by omega, rfl, fun j hj => by omega, hra.congr (fun j _ => by simp [part]), hrb.congr (fun j _ => by simp [part]), hb3, hw3'⟩
    case round =>
      clear hra hrb hb3 hw3'
      obtain ⟨i, hi, rfl, hq, hra, hrb, hb, hw⟩ := hrel
      have HRA := Lib.hid hra
      have HRB := Lib.hid hrb
      have HB := Lib.hid hb
      have HW := Lib.hid hw
      have HQ := Lib.hid hq
      clear hra hrb hb hw hq
      by_cases hlt : i < l.length
      · obtain ⟨b, off, rfl, hcs⟩ := HL.out (by omega)
        obtain ⟨s0, s1, s2, s3⟩ := hcs i hlt
        clear hcs
        have hbw : b < w.heap.size := World.block_lt_of_cell? w _ s0
        replace s0 := (HW.out.cell (p := ⟨b, off + i * 2, none⟩) hbw).trans s0
        replace s1 := (HW.out.cell (p := ⟨b, off + i * 2 + 1, none⟩) hbw).trans s1
        have HLB := Lib.hid (lv_bd (R := R) (B := B) l hR (by omega) i)
        obtain ⟨L, hL⟩ : ∃ L, L = lv R B l i := ⟨_, rfl⟩
        obtain ⟨q, hqe⟩ : ∃ q, q = l.getD i (false, 0) := ⟨_, rfl⟩
        have HT := Lib.hid (show bT R B l i = stT q L by rw [hqe, hL]; rfl)
        have HK := Lib.hid (show bK l i = stK q by rw [hqe]; rfl)
        have HLn := Lib.hid (show lv R B l (i + 1) = stL R B L q by rw [hqe, hL]; rfl)
        rw [← hL] at HB HLB
        rw [← hqe] at s0 s1 s2 s3
        have HQE := Lib.hid hqe
        clear hL hqe
        obtain ⟨tk, n⟩ := q
        simp only at s0 s1 s2 s3
        by_cases hbig : 1048576 < n
        · go_wp2
          go_ret
          exact ⟨rfl, HW.out⟩
        have hqn : ∀ j, j < i + 1 → (l.getD j (false, 0)).2 ≤ 1048576 := fun j hj => by
          by_cases e : j = i
          · subst e; rw [← HQE.out]; simp only; omega
          · exact HQ.out j (by omega)
        have HQN := Lib.hid hqn
        clear hqn
        cases tk
        · go_wp2_with fail
          refine (tick_any w1.heap.size R B L n wr HB.out hR hR2 HLB.out.1 HLB.out.2 hb2).mono ?_
          rintro e w4 ⟨rfl, b4, g4⟩
          have ra4 := HRA.out.grown g4 x3
          have rb4 := HRB.out.grown g4 x4
          have ca := ra4.cell i hlt
          have cb := rb4.cell i hlt
          have fb := rb4.frozen i
          rw [part_self] at ca cb
          have HB4 := Lib.hid b4
          have HRA4 := Lib.hid ra4
          have HRB4 := Lib.hid rb4
          have HW4 := Lib.hid (below_g HW.out g4 hs1)
          clear b4 g4 ra4 rb4 HRA HRB HW HB s0 s1
          go_wp2_with fail
          go_roundw
          case rel =>
            have hT0 : bT R B l i = 0 := by rw [HT.out]; simp [stT]
            have hKi : bK l i = if 0 < n then n else 0 := by rw [HK.out]; simp only [stK]; split <;> simp_all <;> omega
            refine ⟨i + 1, by omega, by go_num, HQN.out, (HRA4.out.grown (grown_set _ _ _ _) x1).congr (fun j _ => part_zero hT0 j), HRB4.out.set ((part_at _ _).trans hKi) (fun j _ e => part_next j e), ?_, HW4.out.setCell x6 _⟩
            rw [HLn.out]
            exact HB4.out.grown (grown_set _ _ _ _) x4.symm
          case measure => simp [intOf]; omega
        · have HT2 := Lib.hid (take_any w1.heap.size R B L n wr HB.out (by omega) HLB.out.1 (by have := HLB.out.2; omega))
          go_wp2_with fail
          refine HT2.out.mono ?_
          rintro e w4 ⟨rfl, b4, g4⟩
          have ra4 := HRA.out.grown g4 x3
          have rb4 := HRB.out.grown g4 x4
          have ca := ra4.cell i hlt
          have fa := ra4.frozen i
          rw [part_self] at ca
          have HB4 := Lib.hid b4
          have HRA4 := Lib.hid ra4
          have HRB4 := Lib.hid rb4
          have HW4 := Lib.hid (below_g HW.out g4 hs1)
          clear b4 g4 ra4 rb4 HRA HRB HW HB s0 s1
          by_cases htk : 0 ≤ n ∧ n ≤ L
          · rw [show took L n = true from decide_eq_true htk]
            go_wp2_with fail
            go_roundw
            case rel =>
              have hT0 : bT R B l i = n := by rw [HT.out]; simp [stT, took, htk]
              have hKi : bK l i = 0 := by rw [HK.out]; simp [stK]
              refine ⟨i + 1, by omega, by go_num, HQN.out, HRA4.out.set ((part_at _ _).trans hT0) (fun j _ e => part_next j e), (HRB4.out.grown (grown_set _ _ _ _) x2).congr (fun j _ => part_zero hKi j), ?_, HW4.out.setCell x5 _⟩
              rw [HLn.out]
              exact HB4.out.grown (grown_set _ _ _ _) x3.symm
            case measure => simp [intOf]; omega
          · rw [show took L n = false from decide_eq_false htk]
            go_wp2_with fail
            go_roundw
            case rel =>
              have hT0 : bT R B l i = 0 := by rw [HT.out]; simp only [stT, took, decide_eq_false htk]; simp
              have hKi : bK l i = 0 := by rw [HK.out]; simp [stK]
              refine ⟨i + 1, by omega, by go_num, HQN.out, HRA4.out.congr (fun j _ => part_zero hT0 j), HRB4.out.congr (fun j _ => part_zero hKi j), ?_, HW4.out⟩
              rw [HLn.out]
              exact HB4.out
            case measure => simp [intOf]; omega
      · obtain rfl : i = l.length := by omega
        clear HB
        have HTB := Lib.hid (fun j (hj : j < l.length) => stT_bd (q := l.getD j (false, 0)) (L := lv R B l j) (HQ.out j hj))
        have HKB := Lib.hid (fun j (hj : j < l.length) => stK_bd (q := l.getD j (false, 0)) (HQ.out j hj))
        go_wp2_with fail
        go_loopw [13] (fun vi wq => ∃ i : Nat, i ≤ l.length ∧ vi = .int .i64 i ∧ Rowi wq ga l.length (part (bT R B l) l.length) ∧ Rowi wq gb l.length (part (bK l) l.length) ∧ Below w.heap.size w wq) (fun vi _ => l.length - (intOf vi).toNat)
        case atStart => exact ⟨0, by omega, rfl, HRA.out, HRB.out, HW.out⟩
        case round =>
          clear HRA HRB HW
          obtain ⟨i, hi2, rfl, hra, hrb, hw⟩ := hrel
          have HRA := Lib.hid hra
          have HRB := Lib.hid hrb
          have HW := Lib.hid hw
          clear hra hrb hw
          by_cases hlt : i < l.length
          · go_wp2_with fail
            go_loopw [14, 15, 16] (fun vs vt vk wq => ∃ k : Nat, i ≤ k ∧ k ≤ l.length ∧ vk = .int .i64 k ∧ vs = .int .i64 (sm (bT R B l) i (k - i)) ∧ vt = .int .i64 (sm (bK l) i (k - i)) ∧ Rowi wq ga l.length (part (bT R B l) l.length) ∧ Rowi wq gb l.length (part (bK l) l.length) ∧ Below w.heap.size w wq) (fun _ _ vk _ => l.length - (intOf vk).toNat)
            case atStart => exact ⟨i, by omega, by omega, rfl, by simp [sm], by simp [sm], HRA.out, HRB.out, HW.out⟩
            case round =>
              clear HRA HRB HW
              obtain ⟨k, hk, hk2, rfl, rfl, rfl, hra, hrb, hw⟩ := hrel
              by_cases hlk : k < l.length
              · have ca := hra.cell k hlk
                have cb := hrb.cell k hlk
                have ea : part (bT R B l) l.length k = bT R B l k := by simp [part, hlk]
                have eb : part (bK l) l.length k = bK l k := by simp [part, hlk]
                rw [ea] at ca
                rw [eb] at cb
                have HRA := Lib.hid hra
                have HRB := Lib.hid hrb
                have HW := Lib.hid hw
                clear hra hrb hw ea eb
                have u1 := sm_bd (bT R B l) l.length 1048576 HTB.out i (k - i) (by omega)
                have u2 := sm_bd (bK l) l.length 1048576 HKB.out i (k - i) (by omega)
                have u3 := HTB.out k hlk
                have u4 := HKB.out k hlk
                have u5 := sum_le (R := R) (B := B) l hR (by omega) i (k + 1 - i)
                have u6 := (lv_bd (R := R) (B := B) l hR (by omega) i).2
                have u7 := (lv_bd (R := R) (B := B) l hR (by omega) (i + (k + 1 - i))).1
                have e1 := sm_next (bT R B l) i k hk
                have e2 := sm_next (bK l) i k hk
                have E1 := Lib.hid e1
                have E2 := Lib.hid e2
                rw [e1, e2] at u5
                change 0 ≤ bT R B l k ∧ bT R B l k ≤ 1048576 at u3
                change 0 ≤ bK l k ∧ bK l k ≤ 1048576 at u4
                clear e1 e2
                generalize sm (bT R B l) i (k - i) = S at *
                generalize sm (bK l) i (k - i) = Z at *
                generalize bT R B l k = dT at *
                generalize bK l k = dK at *
                have z1 : 0 ≤ R * (Z + dK) := Int.mul_nonneg hR (by omega)
                have z2 : R * (Z + dK) ≤ 1048576 * (Z + dK) := Int.mul_le_mul_of_nonneg_right hR2 (by omega)
                have z3 : ¬ B + R * (Z + dK) < S + dT := by omega
                clear u5 u6 u7
                have v1 : IntKind.i64.wrap (S + dT) = S + dT := IntWalk.i64_in _ (by omega)
                have v2 : IntKind.i64.wrap (Z + dK) = Z + dK := IntWalk.i64_in _ (by omega)
                go_wp2_with fail
                go_quiet (fail)
                go_wp2_with fail
                go_roundw
                case rel => exact ⟨k + 1, by omega, by omega, by go_num, by rw [E1.out], by rw [E2.out], HRA.out, HRB.out, HW.out.trans (Go.Joins.below_draws _ _ _)⟩
                case measure => simp [intOf]; omega
              · obtain rfl : k = l.length := by omega
                go_wp2_with fail
                go_roundw
                case rel => exact ⟨i + 1, by omega, by go_num, hra, hrb, hw⟩
                case measure => simp [intOf]; omega
          · obtain rfl : i = l.length := by omega
            go_wp2
            go_ret
            exact ⟨rfl, HW.out⟩
end Go.Proofs.Ytogdabfmfabjkaa
