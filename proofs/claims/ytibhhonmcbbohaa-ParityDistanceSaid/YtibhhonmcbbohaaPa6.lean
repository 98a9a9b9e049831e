/- The walk of parity.Encode. (Printed by wip/pa6gen.py.) -/
import Derived.Test.YtibhhonmcbbohaaPa6a
namespace Go.Proofs.Ytibhhonmcbbohaa
open Go.RowKit Go.Shelf
attribute [local go_sem] Oper.semAt_some

set_option linter.unusedSimpArgs false in
set_option maxRecDepth 100000 in
set_option maxHeartbeats 4000000 in
theorem encode_in (F : Nat → Nat) (b off n c : Nat) (w : World) (h1 : 1 ≤ n) (h2 : n ≤ 13) (hF : ∀ j, F j < 256) (hI : ∀ j : Nat, j < n * 8 → w.cell? ⟨b, off + j, none⟩ = some (.int .u8 (F j : Nat))) :
    CallsIn Fence.wide 6 Try.prog 14 #[.slice (some ⟨b, off, none⟩) n c] w fun e w' => e = .returned (.tuple #[.slice (some ⟨w.heap.size, 0, none⟩) 3 3, .int .i64 0]) ∧ RB w' w.heap.size 24 37 (enc3 F n) ∧ Below w.heap.size w w' := by
  have hmk := run_make_3
  have hbw : b < w.heap.size := World.block_lt_of_cell? w ⟨b, off + 0, none⟩ (hI 0 (by omega))
  have HI := Lib.hid hI
  clear hI
  refine callsIn_of_wp_marks Try.func14 rfl trivial ?_ rfl
  simp only [Try.ntmps14, List.size_toArray, List.length_cons, List.length_nil, Nat.reduceAdd, Nat.reduceSub, Array.replicate_succ, Array.replicate_zero, List.push_toArray, List.append_toArray, List.nil_append, List.cons_append]
  gi_wp2
  obtain ⟨V0, hV0⟩ : ∃ V0, V0 = (w.alloc (.cells (brow 24 fun _ => 0) 37)).alloc (.cells #[.slice (some ⟨w.heap.size, 0, none⟩) 3 3] 30) := ⟨_, rfl⟩
  have HR0 := Lib.hid (show RB V0 w.heap.size 24 37 (fun _ => 0) by rw [hV0]; exact RB.new.alloc _)
  have HBO0 := Lib.hid (show Boxed V0 (w.heap.size + 1) 30 (.slice (some ⟨w.heap.size, 0, none⟩) 3 3) by
    rw [hV0]
    have := Boxed.new (w.alloc (.cells (brow 24 fun _ => 0) 37)) 30 (.slice (some ⟨w.heap.size, 0, none⟩) 3 3)
    simpa using this)
  have HB0 := Lib.hid (show Below w.heap.size w V0 by rw [hV0]; exact ((Below.refl _ w).alloc (Nat.le_refl _) _).alloc (by simp) _)
  have HM0 := Lib.hid (show Marks V0 [] from fun D hD => by cases hD)
  have hz0 : w.heap.size + 1 < V0.heap.size := HBO0.out.lt
  rw [← hV0]
  clear hV0
  refine wpIn_loop_rounds 4 ?_
  rw [roundsIn_succ]
  gi_wp2_with (refine ⟨trivial, ?_⟩; gi_at_call 25; refine (callsIn_wide.2 (backward_any _ _ _ _)).mono ?_; rintro e w' ⟨rfl, rfl⟩)
  obtain ⟨U0, hU0⟩ : ∃ U0, U0 = (V0.alloc (.cells #[.int .i64 0] 3)).alloc (.cells #[.slice (some ⟨b, off, none⟩) n c] 30) := ⟨_, rfl⟩
  have hO : RB U0 w.heap.size 24 37 (fun _ => 0) := by rw [hU0]; exact (HR0.out.alloc _).alloc _
  have bO : Boxed U0 (w.heap.size + 1) 30 (.slice (some ⟨w.heap.size, 0, none⟩) 3 3) := by rw [hU0]; exact (HBO0.out.alloc _).alloc _
  have bJ : Boxed U0 V0.heap.size 3 (.int .i64 0) := by rw [hU0]; exact (Boxed.new _ _ _).alloc _
  have bS : Boxed U0 (V0.heap.size + 1) 30 (.slice (some ⟨b, off, none⟩) n c) := by
    rw [hU0]
    have := Boxed.new (V0.alloc (.cells #[.int .i64 0] 3)) 30 (.slice (some ⟨b, off, none⟩) n c)
    simpa using this
  have hB : Below w.heap.size w U0 := by rw [hU0]; exact (HB0.out.alloc HB0.out.size _).alloc (by have := HB0.out.size; simp; omega) _
  have hM : Marks U0 [] := by rw [hU0]; exact (HM0.out.alloc _).alloc _
  have hsz : U0.heap.size = V0.heap.size + 2 := by rw [hU0]; simp
  have hml0 := hM.lt
  rw [← hU0]
  clear hU0
  refine wpIn_rangeFunc_ownH rfl (by omega) (gf := 33) (lb := #[.pointer (some ⟨V0.heap.size + 1, 0, none⟩)]) rfl trivial (enters_of Try.func33 (by kernel_rfl) rfl)
    (back_stops Fence.wide 5 trivial rfl (by omega) (V0.heap.size + 1) w.heap.size b off n c F (by omega) U0 hbw (by omega) bS (fun j hj => (hB.cell (p := ⟨b, off + j, none⟩) hbw).trans (HI.out j hj))) KpB.trans (kpB_b (by omega) (by omega)) (Below.refl _ _) (fun _ => rfl)
    (fun pre W => (((W.heap[w.heap.size]? = some (.cells (brow 24 (outc (fun _ => 0) 0 (horn F (Gf.ex 0) pre))) 37 (0, 0)) ∧ Boxed W (w.heap.size + 1) 30 (.slice (some ⟨w.heap.size, 0, none⟩) 3 3)) ∧ (Boxed W V0.heap.size 3 (.int .i64 0) ∧ Boxed W (V0.heap.size + 1) 30 (.slice (some ⟨b, off, none⟩) n c))) ∧ Below w.heap.size w W) ∧ Marks W [])
    (fun _ _ _ => False)
    (OwnFrom.and (OwnFrom.and (OwnFrom.and (OwnFrom.and (Own.from (obj_own _ _ _) _) (Own.from (boxed_own _ _ _) _)) (OwnFrom.and (Own.from (boxed_own _ _ _) _) (Own.from (boxed_own _ _ _) _))) (ownFrom_below (Nat.le_refl _) (by omega))) (marks_own hml0))
    (fun _ _ _ _ _ hs _ _ => hs)
    ⟨⟨⟨⟨RB.congr hO (fun p hp => outc_zero0 p hp), bO⟩, bJ, bS⟩, hB⟩, hM⟩
    (fun x a' W => ∃ Bx, V0.heap.size + 1 < Bx ∧ W.heap[Bx]? = some (.cells (bkAt F x) 37 (0, 0)) ∧ a' = { tmps := #[.slice (some ⟨b, off, none⟩) n c, undef, .slice none 0 0, .int .i64 0, .pointer (some ⟨w.heap.size + 1, 0, none⟩), .pointer (some ⟨V0.heap.size, 0, none⟩), undef, .pointer (some ⟨Bx, 0, none⟩), .slice (some ⟨b, off, none⟩) n c, .int .i64 n, .bool (decide ((n : Int) < 1)), .bool (decide ((n : Int) < 1)), .slice (some ⟨b, off, none⟩) n c, .int .i64 n, .bool (decide (13 < (n : Int))), .bool (decide ((n : Int) < 1) || decide (13 < (n : Int))), .slice (some ⟨w.heap.size, 0, none⟩) 3 3, .slice (some ⟨w.heap.size, 0, none⟩) 3 3, .int .i64 3, .int .i64 0, .bool true, .int .i64 0, .slice (some ⟨b, off, none⟩) n c, .func (.func 33) #[] #[.pointer (some ⟨V0.heap.size + 1, 0, none⟩)], .int .i64 (x : Nat), .agg (bkAt F x), undef, undef, undef, undef, undef, undef, undef, undef, undef, undef, undef, undef, undef], defers := [] })
    (fun x a' _ X Y row hs hg hr => by obtain ⟨Bx, h1, h2, h3⟩ := hs; exact ⟨Bx, h1, obj_own Bx 37 (fun (_ : Unit) => bkAt F x) () X Y row h2 hg (fun r e => (hr r e).2), h3⟩)
    ?assign0 ?body0 ?done0 ?stop0
  case stop0 =>
    rintro D c pre W hD _ h _
    exact h.elim
  case assign0 =>
    rintro l pre x W K ⟨⟨⟨⟨hO1, bO1⟩, bJ1, bS1⟩, hB1⟩, hM1⟩ hK
    unfold bkAt
    gi_wp2
    exact hK _ _ ((KeepsOthers.alloc _ _).from _) ⟨(Below.refl _ W).alloc hB1.size _, Below.heap_alloc W _ _ bS1.lt⟩ ⟨⟨⟨⟨RB.alloc hO1 _, bO1.alloc _⟩, bJ1.alloc _, bS1.alloc _⟩, hB1.alloc hB1.size _⟩, hM1.alloc _⟩ ⟨W.heap.size, bS1.lt, heap_alloc_new W _, rfl⟩
  case body0 =>
    rintro l pre x a' W hl ⟨r, hr⟩ ⟨⟨⟨⟨hO1, bO1⟩, bJ1, bS1⟩, hB1⟩, hM1⟩ ⟨Bx, hBx, bX, rfl⟩ hlt
    obtain ⟨H, hH⟩ : ∃ H, H = horn F (Gf.ex 0) pre := ⟨_, rfl⟩
    have hHb : ∀ k, H k < 256 := by rw [hH]; exact horn_lt hF (Gf.ex_lt 0) pre
    rw [← hH] at hO1
    have HH := Lib.hid hH
    clear hH
    have cO := bO1.cell
    have cJ := bJ1.cell
    obtain ⟨x0, x1, x2, x3, x4, x5, x6, x7⟩ := cells8 (show RB W Bx 8 37 (fun k => F (x * 8 + k)) from bX)
    obtain ⟨o0, o1, o2, o3, o4, o5, o6, o7⟩ := out8_0 (f := (fun _ => 0)) (H := H) hO1
    have fO := RB.frozen (show RB W w.heap.size 24 37 _ from hO1)
    obtain ⟨h2, hh2⟩ : ∃ h2, h2 = fus (fun k => F (x * 8 + k)) H (Gf.ex 0) := ⟨_, rfl⟩
    have HFu := Lib.hid (fun W => fusedB_any (fun k => F (x * 8 + k)) H (Gf.ex 0) W (Gf.ex_lt 0) (fun k => hF _) hHb)
    rw [← hh2] at HFu
    have HH2 := Lib.hid hh2
    clear hh2 hHb
    simp only [brow8 H, brow8 h2, ← bkAt_eq] at HFu
    have HEx := Lib.hid (fun W => exp_any 0 W)
    rw [show expo 0 = 0 by decide] at HEx
    have HX1 := Lib.hid (show RB W Bx 8 37 (fun k => F (x * 8 + k)) from bX)
    have HO1 := Lib.hid (show RB W w.heap.size 24 37 (outc (fun _ => 0) 0 H) from hO1)
    have HBO := Lib.hid bO1
    have HBJ := Lib.hid bJ1
    have HBS := Lib.hid bS1
    have HW1 := Lib.hid hB1
    have HM1 := Lib.hid hM1
    clear bX hO1 bO1 bJ1 bS1 hB1 hM1
    unfold bkAt
    gi_wp2
    refine region_round (S := fun w' => w'.cell? ⟨w.heap.size + 1, 0, none⟩ = some (.slice (some ⟨w.heap.size, 0, none⟩) 3 3) ∧ w'.cell? ⟨V0.heap.size, 0, none⟩ = some (.int .i64 0) ∧ RB w' Bx 8 37 (fun k => F (x * 8 + k))) (by kernel_rfl) (fun ⟨_, _, h⟩ => h) (nodef (by kernel_rfl)) ?_
    have hS : (fun w' : World => w'.cell? ⟨w.heap.size + 1, 0, none⟩ = some (.slice (some ⟨w.heap.size, 0, none⟩) 3 3) ∧ w'.cell? ⟨V0.heap.size, 0, none⟩ = some (.int .i64 0) ∧ RB w' Bx 8 37 (fun k => F (x * 8 + k))) W.drew := ⟨cO, cJ, HX1.out⟩
    refine wpAnyH_take (i := 0) (v := .slice (some ⟨w.heap.size, 0, none⟩) 3 3) rfl (by kernel_rfl) (by kernel_rfl) (by kernel_rfl) (fun _ _ _ h => h) (Or.inl ⟨by rfl, ?_⟩) hS ?_
    · rintro w ⟨q0, q1, q2⟩
      go_simp
    try simp only [Act.put, List.setIfInBounds_toArray, List.set_cons_zero, List.set_cons_succ]
    refine wpAnyH_take (i := 1) (v := .int .i64 0) rfl (by kernel_rfl) (by kernel_rfl) (by kernel_rfl) (fun _ _ _ h => h) (Or.inl ⟨by rfl, ?_⟩) hS ?_
    · rintro w ⟨q0, q1, q2⟩
      go_simp
    try simp only [Act.put, List.setIfInBounds_toArray, List.set_cons_zero, List.set_cons_succ]
    refine wpAnyH_take (i := 2) (v := .agg (bkAt F x)) rfl (by kernel_rfl) (by kernel_rfl) (by kernel_rfl) (fun _ _ _ h => h) (Or.inl ⟨by rfl, ?_⟩) hS ?_
    · rintro w ⟨q0, q1, q2⟩
      obtain ⟨x0, x1, x2, x3, x4, x5, x6, x7⟩ := cells8 q2
      unfold bkAt
      go_simp
    try simp only [Act.put, List.setIfInBounds_toArray, List.set_cons_zero, List.set_cons_succ]
    refine wpAnyH_take (i := 3) (v := .slice (some ⟨w.heap.size, 0, none⟩) 3 3) rfl (by kernel_rfl) (by kernel_rfl) (by kernel_rfl) (fun _ _ _ h => h) (Or.inl ⟨by rfl, ?_⟩) hS ?_
    · rintro w ⟨q0, q1, q2⟩
      go_simp
    try simp only [Act.put, List.setIfInBounds_toArray, List.set_cons_zero, List.set_cons_succ]
    refine wpAnyH_take (i := 4) (v := .int .i64 0) rfl (by kernel_rfl) (by kernel_rfl) (by kernel_rfl) (fun _ _ _ h => h) (Or.inl ⟨by rfl, ?_⟩) hS ?_
    · rintro w ⟨q0, q1, q2⟩
      go_simp
    try simp only [Act.put, List.setIfInBounds_toArray, List.set_cons_zero, List.set_cons_succ]
    refine wpAnyH_take (i := 5) (v := .pointer (some ⟨w.heap.size, 0, none⟩)) rfl (by kernel_rfl) (by kernel_rfl) (by kernel_rfl) (fun _ _ _ h => h) (Or.inl ⟨by rfl, ?_⟩) hS ?_
    · rintro w ⟨q0, q1, q2⟩
      go_simp
    try simp only [Act.put, List.setIfInBounds_toArray, List.set_cons_zero, List.set_cons_succ]
    refine wpAnyH_take (i := 7) (v := .int .i64 0) rfl (by kernel_rfl) (by kernel_rfl) (by kernel_rfl) (fun _ _ _ h => h) (Or.inl ⟨by rfl, ?_⟩) hS ?_
    · rintro w ⟨q0, q1, q2⟩
      go_simp
    try simp only [Act.put, List.setIfInBounds_toArray, List.set_cons_zero, List.set_cons_succ]
    refine wpAnyH_ready (rs := [6, 8]) (by kernel_rfl) (by simp) ?_
    refine AllReadyH.cons rfl (fun K hK => ?_) (AllReadyH.cons rfl (fun K hK => ?_) AllReadyH.nil)
    · go_simp
      refine hK.out _ _ hS (fun _ => ?_)
      clear hK K
      try simp only [Act.put, List.setIfInBounds_toArray, List.set_cons_zero, List.set_cons_succ]
      refine wpAnyH_ready (rs := [8]) (by kernel_rfl) (by simp) ?_
      refine AllReadyH.cons rfl (fun K hK => ?_) AllReadyH.nil
      go_simp
      refine (HEx.out _).mono ?_
      rintro e w' ⟨rfl, rfl⟩
      refine hK.out _ _ hS (fun _ => ?_)
      clear hK K
      try simp only [Act.put, List.setIfInBounds_toArray, List.set_cons_zero, List.set_cons_succ]
      refine wpAnyH_ready (rs := [9]) (by kernel_rfl) (by simp) ?_
      refine AllReadyH.cons rfl (fun K hK => ?_) AllReadyH.nil
      go_simp
      refine (HFu.out _).mono ?_
      rintro e w3 ⟨rfl, hB3⟩
      have e0 := keepc (W := W.drew) cO hB3
      have e1 := keepc (W := W.drew) cJ hB3
      have HX3 := Lib.hid (RB.below (w := W.drew) HX1.out hB3)
      have HO3 := Lib.hid (RB.below (w := W.drew) HO1.out hB3)
      have HB3 := Lib.hid hB3
      clear hB3
      refine hK.out _ _ ⟨e0, e1, HX3.out⟩ (fun _ => ?_)
      clear hK K
      try simp only [Act.put, List.setIfInBounds_toArray, List.set_cons_zero, List.set_cons_succ]
      refine wpAnyH_ready (rs := [10]) (by kernel_rfl) (by simp) ?_
      refine AllReadyH.cons rfl (fun K hK => ?_) AllReadyH.nil
      go_simp
      refine hK.out _ _ ⟨e0, e1, HX3.out⟩ (fun _ => ?_)
      clear hK K
      try simp only [Act.put, List.setIfInBounds_toArray, List.set_cons_zero, List.set_cons_succ]
      obtain ⟨p0, p1, p2, p3, p4, p5, p6, p7⟩ := out8_0 HO3.out
      have g3 := RB.frozen HO3.out
      refine wpAnyH_ready (rs := [11]) (by kernel_rfl) (by simp) ?_
      refine AllReadyH.cons rfl (fun K hK => ?_) AllReadyH.nil
      go_simp
      have bO3 : Boxed w3 (w.heap.size + 1) 30 (.slice (some ⟨w.heap.size, 0, none⟩) 3 3) := (HB3.out.block _ HBO.out.lt).trans HBO.out
      have bJ3 : Boxed w3 V0.heap.size 3 (.int .i64 0) := (HB3.out.block _ HBJ.out.lt).trans HBJ.out
      have bS3 : Boxed w3 (V0.heap.size + 1) 30 (.slice (some ⟨b, off, none⟩) n c) := (HB3.out.block _ HBS.out.lt).trans HBS.out
      refine hK.out _ (set8 w3 w.heap.size (0 * 8) h2) ⟨(set8_box bO3 (by omega)).cell, (set8_box bJ3 (by omega)).cell, set8_far HX3.out (by omega)⟩ (fun _ => ?_)
      clear hK K
      refine wpAnyH_done (by kernel_rfl) ?_ _
      obtain ⟨f1, f2, f3⟩ := round_end (B := U0.heap.size) (h2 := h2) (hn := horn F (Gf.ex 0) (pre ++ [x])) HB3.out HW1.out HBS.out bO3 bJ3 bS3 HO3.out (by rw [horn_snoc, HH2.out, HH.out]; rfl)
      exact ⟨f1, f2, f3, marks_kept HM1.out HB3.out⟩
    · go_simp
      refine (HEx.out _).mono ?_
      rintro e w' ⟨rfl, rfl⟩
      refine hK.out _ _ hS (fun _ => ?_)
      clear hK K
      try simp only [Act.put, List.setIfInBounds_toArray, List.set_cons_zero, List.set_cons_succ]
      refine wpAnyH_ready (rs := [6]) (by kernel_rfl) (by simp) ?_
      refine AllReadyH.cons rfl (fun K hK => ?_) AllReadyH.nil
      go_simp
      refine hK.out _ _ hS (fun _ => ?_)
      clear hK K
      try simp only [Act.put, List.setIfInBounds_toArray, List.set_cons_zero, List.set_cons_succ]
      refine wpAnyH_ready (rs := [9]) (by kernel_rfl) (by simp) ?_
      refine AllReadyH.cons rfl (fun K hK => ?_) AllReadyH.nil
      go_simp
      refine (HFu.out _).mono ?_
      rintro e w3 ⟨rfl, hB3⟩
      have e0 := keepc (W := W.drew) cO hB3
      have e1 := keepc (W := W.drew) cJ hB3
      have HX3 := Lib.hid (RB.below (w := W.drew) HX1.out hB3)
      have HO3 := Lib.hid (RB.below (w := W.drew) HO1.out hB3)
      have HB3 := Lib.hid hB3
      clear hB3
      refine hK.out _ _ ⟨e0, e1, HX3.out⟩ (fun _ => ?_)
      clear hK K
      try simp only [Act.put, List.setIfInBounds_toArray, List.set_cons_zero, List.set_cons_succ]
      refine wpAnyH_ready (rs := [10]) (by kernel_rfl) (by simp) ?_
      refine AllReadyH.cons rfl (fun K hK => ?_) AllReadyH.nil
      go_simp
      refine hK.out _ _ ⟨e0, e1, HX3.out⟩ (fun _ => ?_)
      clear hK K
      try simp only [Act.put, List.setIfInBounds_toArray, List.set_cons_zero, List.set_cons_succ]
      obtain ⟨p0, p1, p2, p3, p4, p5, p6, p7⟩ := out8_0 HO3.out
      have g3 := RB.frozen HO3.out
      refine wpAnyH_ready (rs := [11]) (by kernel_rfl) (by simp) ?_
      refine AllReadyH.cons rfl (fun K hK => ?_) AllReadyH.nil
      go_simp
      have bO3 : Boxed w3 (w.heap.size + 1) 30 (.slice (some ⟨w.heap.size, 0, none⟩) 3 3) := (HB3.out.block _ HBO.out.lt).trans HBO.out
      have bJ3 : Boxed w3 V0.heap.size 3 (.int .i64 0) := (HB3.out.block _ HBJ.out.lt).trans HBJ.out
      have bS3 : Boxed w3 (V0.heap.size + 1) 30 (.slice (some ⟨b, off, none⟩) n c) := (HB3.out.block _ HBS.out.lt).trans HBS.out
      refine hK.out _ (set8 w3 w.heap.size (0 * 8) h2) ⟨(set8_box bO3 (by omega)).cell, (set8_box bJ3 (by omega)).cell, set8_far HX3.out (by omega)⟩ (fun _ => ?_)
      clear hK K
      refine wpAnyH_done (by kernel_rfl) ?_ _
      obtain ⟨f1, f2, f3⟩ := round_end (B := U0.heap.size) (h2 := h2) (hn := horn F (Gf.ex 0) (pre ++ [x])) HB3.out HW1.out HBS.out bO3 bJ3 bS3 HO3.out (by rw [horn_snoc, HH2.out, HH.out]; rfl)
      exact ⟨f1, f2, f3, marks_kept HM1.out HB3.out⟩
  case done0 =>
    rintro D0 xs0 V1 hD0 rfl ⟨⟨⟨⟨hO, bO⟩, bJ, bS⟩, hB⟩, hM⟩ hK
    have HR1 := Lib.hid (show RB V1 w.heap.size 24 37 (outc (fun _ => 0) 0 (horn F (Gf.ex 0) (upto (bwd n) n))) from hO)
    have HBO1 := Lib.hid bO
    have HB1 := Lib.hid hB
    have HM1 := Lib.hid (hM.cons hK)
    have hz1 : w.heap.size + 1 < V1.heap.size := bO.lt
    clear hO bO bJ bS hB hM hK
    gi_wp2
    rw [roundsIn_succ]
    gi_wp2_with (refine ⟨trivial, ?_⟩; gi_at_call 25; refine (callsIn_wide.2 (backward_any _ _ _ _)).mono ?_; rintro e w' ⟨rfl, rfl⟩)
    obtain ⟨U1, hU1⟩ : ∃ U1, U1 = (V1.alloc (.cells #[.int .i64 1] 3)).alloc (.cells #[.slice (some ⟨b, off, none⟩) n c] 30) := ⟨_, rfl⟩
    have hO : RB U1 w.heap.size 24 37 (outc (fun _ => 0) 0 (horn F (Gf.ex 0) (upto (bwd n) n))) := by rw [hU1]; exact (HR1.out.alloc _).alloc _
    have bO : Boxed U1 (w.heap.size + 1) 30 (.slice (some ⟨w.heap.size, 0, none⟩) 3 3) := by rw [hU1]; exact (HBO1.out.alloc _).alloc _
    have bJ : Boxed U1 V1.heap.size 3 (.int .i64 1) := by rw [hU1]; exact (Boxed.new _ _ _).alloc _
    have bS : Boxed U1 (V1.heap.size + 1) 30 (.slice (some ⟨b, off, none⟩) n c) := by
      rw [hU1]
      have := Boxed.new (V1.alloc (.cells #[.int .i64 1] 3)) 30 (.slice (some ⟨b, off, none⟩) n c)
      simpa using this
    have hB : Below w.heap.size w U1 := by rw [hU1]; exact (HB1.out.alloc HB1.out.size _).alloc (by have := HB1.out.size; simp; omega) _
    have hM : Marks U1 [D0] := by rw [hU1]; exact (HM1.out.alloc _).alloc _
    have hsz : U1.heap.size = V1.heap.size + 2 := by rw [hU1]; simp
    have hml1 := hM.lt
    rw [← hU1]
    clear hU1
    refine wpIn_rangeFunc_ownH rfl (by omega) (gf := 33) (lb := #[.pointer (some ⟨V1.heap.size + 1, 0, none⟩)]) rfl trivial (enters_of Try.func33 (by kernel_rfl) rfl)
      (back_stops Fence.wide 5 trivial rfl (by omega) (V1.heap.size + 1) w.heap.size b off n c F (by omega) U1 hbw (by omega) bS (fun j hj => (hB.cell (p := ⟨b, off + j, none⟩) hbw).trans (HI.out j hj))) KpB.trans (kpB_b (by omega) (by omega)) (Below.refl _ _) (fun _ => rfl)
      (fun pre W => (((W.heap[w.heap.size]? = some (.cells (brow 24 (outc (outc (fun _ => 0) 0 (horn F (Gf.ex 0) (upto (bwd n) n))) 1 (horn F (Gf.ex 1) pre))) 37 (0, 0)) ∧ Boxed W (w.heap.size + 1) 30 (.slice (some ⟨w.heap.size, 0, none⟩) 3 3)) ∧ (Boxed W V1.heap.size 3 (.int .i64 1) ∧ Boxed W (V1.heap.size + 1) 30 (.slice (some ⟨b, off, none⟩) n c))) ∧ Below w.heap.size w W) ∧ Marks W [D0])
      (fun _ _ _ => False)
      (OwnFrom.and (OwnFrom.and (OwnFrom.and (OwnFrom.and (Own.from (obj_own _ _ _) _) (Own.from (boxed_own _ _ _) _)) (OwnFrom.and (Own.from (boxed_own _ _ _) _) (Own.from (boxed_own _ _ _) _))) (ownFrom_below (Nat.le_refl _) (by omega))) (marks_own hml1))
      (fun _ _ _ _ _ hs _ _ => hs)
      ⟨⟨⟨⟨RB.congr hO (fun p hp => outc_zero1 p hp), bO⟩, bJ, bS⟩, hB⟩, hM⟩
      (fun x a' W => ∃ Bx, V1.heap.size + 1 < Bx ∧ W.heap[Bx]? = some (.cells (bkAt F x) 37 (0, 0)) ∧ a' = { tmps := #[.slice (some ⟨b, off, none⟩) n c, undef, .slice none 0 0, .int .i64 0, .pointer (some ⟨w.heap.size + 1, 0, none⟩), .pointer (some ⟨V1.heap.size, 0, none⟩), undef, .pointer (some ⟨Bx, 0, none⟩), .slice (some ⟨b, off, none⟩) n c, .int .i64 n, .bool (decide ((n : Int) < 1)), .bool (decide ((n : Int) < 1)), .slice (some ⟨b, off, none⟩) n c, .int .i64 n, .bool (decide (13 < (n : Int))), .bool (decide ((n : Int) < 1) || decide (13 < (n : Int))), .slice (some ⟨w.heap.size, 0, none⟩) 3 3, .slice (some ⟨w.heap.size, 0, none⟩) 3 3, .int .i64 3, .int .i64 1, .bool true, .int .i64 1, .slice (some ⟨b, off, none⟩) n c, .func (.func 33) #[] #[.pointer (some ⟨V1.heap.size + 1, 0, none⟩)], .int .i64 (x : Nat), .agg (bkAt F x), undef, undef, undef, undef, undef, undef, undef, undef, undef, undef, undef, .int .i64 1, undef], defers := [] })
      (fun x a' _ X Y row hs hg hr => by obtain ⟨Bx, h1, h2, h3⟩ := hs; exact ⟨Bx, h1, obj_own Bx 37 (fun (_ : Unit) => bkAt F x) () X Y row h2 hg (fun r e => (hr r e).2), h3⟩)
      ?assign1 ?body1 ?done1 ?stop1
    case stop1 =>
      rintro D c pre W hD _ h _
      exact h.elim
    case assign1 =>
      rintro l pre x W K ⟨⟨⟨⟨hO1, bO1⟩, bJ1, bS1⟩, hB1⟩, hM1⟩ hK
      unfold bkAt
      gi_wp2
      exact hK _ _ ((KeepsOthers.alloc _ _).from _) ⟨(Below.refl _ W).alloc hB1.size _, Below.heap_alloc W _ _ bS1.lt⟩ ⟨⟨⟨⟨RB.alloc hO1 _, bO1.alloc _⟩, bJ1.alloc _, bS1.alloc _⟩, hB1.alloc hB1.size _⟩, hM1.alloc _⟩ ⟨W.heap.size, bS1.lt, heap_alloc_new W _, rfl⟩
    case body1 =>
      rintro l pre x a' W hl ⟨r, hr⟩ ⟨⟨⟨⟨hO1, bO1⟩, bJ1, bS1⟩, hB1⟩, hM1⟩ ⟨Bx, hBx, bX, rfl⟩ hlt
      obtain ⟨H, hH⟩ : ∃ H, H = horn F (Gf.ex 1) pre := ⟨_, rfl⟩
      have hHb : ∀ k, H k < 256 := by rw [hH]; exact horn_lt hF (Gf.ex_lt 1) pre
      rw [← hH] at hO1
      have HH := Lib.hid hH
      clear hH
      have cO := bO1.cell
      have cJ := bJ1.cell
      obtain ⟨x0, x1, x2, x3, x4, x5, x6, x7⟩ := cells8 (show RB W Bx 8 37 (fun k => F (x * 8 + k)) from bX)
      obtain ⟨o0, o1, o2, o3, o4, o5, o6, o7⟩ := out8_1 (f := (outc (fun _ => 0) 0 (horn F (Gf.ex 0) (upto (bwd n) n)))) (H := H) hO1
      have fO := RB.frozen (show RB W w.heap.size 24 37 _ from hO1)
      obtain ⟨h2, hh2⟩ : ∃ h2, h2 = fus (fun k => F (x * 8 + k)) H (Gf.ex 1) := ⟨_, rfl⟩
      have HFu := Lib.hid (fun W => fusedB_any (fun k => F (x * 8 + k)) H (Gf.ex 1) W (Gf.ex_lt 1) (fun k => hF _) hHb)
      rw [← hh2] at HFu
      have HH2 := Lib.hid hh2
      clear hh2 hHb
      simp only [brow8 H, brow8 h2, ← bkAt_eq] at HFu
      have HEx := Lib.hid (fun W => exp_any 1 W)
      rw [show expo 1 = 1 by decide] at HEx
      have HX1 := Lib.hid (show RB W Bx 8 37 (fun k => F (x * 8 + k)) from bX)
      have HO1 := Lib.hid (show RB W w.heap.size 24 37 (outc (outc (fun _ => 0) 0 (horn F (Gf.ex 0) (upto (bwd n) n))) 1 H) from hO1)
      have HBO := Lib.hid bO1
      have HBJ := Lib.hid bJ1
      have HBS := Lib.hid bS1
      have HW1 := Lib.hid hB1
      have HM1 := Lib.hid hM1
      clear bX hO1 bO1 bJ1 bS1 hB1 hM1
      unfold bkAt
      gi_wp2
      refine region_round (S := fun w' => w'.cell? ⟨w.heap.size + 1, 0, none⟩ = some (.slice (some ⟨w.heap.size, 0, none⟩) 3 3) ∧ w'.cell? ⟨V1.heap.size, 0, none⟩ = some (.int .i64 1) ∧ RB w' Bx 8 37 (fun k => F (x * 8 + k))) (by kernel_rfl) (fun ⟨_, _, h⟩ => h) (nodef (by kernel_rfl)) ?_
      have hS : (fun w' : World => w'.cell? ⟨w.heap.size + 1, 0, none⟩ = some (.slice (some ⟨w.heap.size, 0, none⟩) 3 3) ∧ w'.cell? ⟨V1.heap.size, 0, none⟩ = some (.int .i64 1) ∧ RB w' Bx 8 37 (fun k => F (x * 8 + k))) W.drew := ⟨cO, cJ, HX1.out⟩
      refine wpAnyH_take (i := 0) (v := .slice (some ⟨w.heap.size, 0, none⟩) 3 3) rfl (by kernel_rfl) (by kernel_rfl) (by kernel_rfl) (fun _ _ _ h => h) (Or.inl ⟨by rfl, ?_⟩) hS ?_
      · rintro w ⟨q0, q1, q2⟩
        go_simp
      try simp only [Act.put, List.setIfInBounds_toArray, List.set_cons_zero, List.set_cons_succ]
      refine wpAnyH_take (i := 1) (v := .int .i64 1) rfl (by kernel_rfl) (by kernel_rfl) (by kernel_rfl) (fun _ _ _ h => h) (Or.inl ⟨by rfl, ?_⟩) hS ?_
      · rintro w ⟨q0, q1, q2⟩
        go_simp
      try simp only [Act.put, List.setIfInBounds_toArray, List.set_cons_zero, List.set_cons_succ]
      refine wpAnyH_take (i := 2) (v := .agg (bkAt F x)) rfl (by kernel_rfl) (by kernel_rfl) (by kernel_rfl) (fun _ _ _ h => h) (Or.inl ⟨by rfl, ?_⟩) hS ?_
      · rintro w ⟨q0, q1, q2⟩
        obtain ⟨x0, x1, x2, x3, x4, x5, x6, x7⟩ := cells8 q2
        unfold bkAt
        go_simp
      try simp only [Act.put, List.setIfInBounds_toArray, List.set_cons_zero, List.set_cons_succ]
      refine wpAnyH_take (i := 3) (v := .slice (some ⟨w.heap.size, 0, none⟩) 3 3) rfl (by kernel_rfl) (by kernel_rfl) (by kernel_rfl) (fun _ _ _ h => h) (Or.inl ⟨by rfl, ?_⟩) hS ?_
      · rintro w ⟨q0, q1, q2⟩
        go_simp
      try simp only [Act.put, List.setIfInBounds_toArray, List.set_cons_zero, List.set_cons_succ]
      refine wpAnyH_take (i := 4) (v := .int .i64 1) rfl (by kernel_rfl) (by kernel_rfl) (by kernel_rfl) (fun _ _ _ h => h) (Or.inl ⟨by rfl, ?_⟩) hS ?_
      · rintro w ⟨q0, q1, q2⟩
        go_simp
      try simp only [Act.put, List.setIfInBounds_toArray, List.set_cons_zero, List.set_cons_succ]
      refine wpAnyH_take (i := 5) (v := .pointer (some ⟨w.heap.size, 8, none⟩)) rfl (by kernel_rfl) (by kernel_rfl) (by kernel_rfl) (fun _ _ _ h => h) (Or.inl ⟨by rfl, ?_⟩) hS ?_
      · rintro w ⟨q0, q1, q2⟩
        go_simp
      try simp only [Act.put, List.setIfInBounds_toArray, List.set_cons_zero, List.set_cons_succ]
      refine wpAnyH_take (i := 7) (v := .int .i64 1) rfl (by kernel_rfl) (by kernel_rfl) (by kernel_rfl) (fun _ _ _ h => h) (Or.inl ⟨by rfl, ?_⟩) hS ?_
      · rintro w ⟨q0, q1, q2⟩
        go_simp
      try simp only [Act.put, List.setIfInBounds_toArray, List.set_cons_zero, List.set_cons_succ]
      refine wpAnyH_ready (rs := [6, 8]) (by kernel_rfl) (by simp) ?_
      refine AllReadyH.cons rfl (fun K hK => ?_) (AllReadyH.cons rfl (fun K hK => ?_) AllReadyH.nil)
      · go_simp
        refine hK.out _ _ hS (fun _ => ?_)
        clear hK K
        try simp only [Act.put, List.setIfInBounds_toArray, List.set_cons_zero, List.set_cons_succ]
        refine wpAnyH_ready (rs := [8]) (by kernel_rfl) (by simp) ?_
        refine AllReadyH.cons rfl (fun K hK => ?_) AllReadyH.nil
        go_simp
        refine (HEx.out _).mono ?_
        rintro e w' ⟨rfl, rfl⟩
        refine hK.out _ _ hS (fun _ => ?_)
        clear hK K
        try simp only [Act.put, List.setIfInBounds_toArray, List.set_cons_zero, List.set_cons_succ]
        refine wpAnyH_ready (rs := [9]) (by kernel_rfl) (by simp) ?_
        refine AllReadyH.cons rfl (fun K hK => ?_) AllReadyH.nil
        go_simp
        refine (HFu.out _).mono ?_
        rintro e w3 ⟨rfl, hB3⟩
        have e0 := keepc (W := W.drew) cO hB3
        have e1 := keepc (W := W.drew) cJ hB3
        have HX3 := Lib.hid (RB.below (w := W.drew) HX1.out hB3)
        have HO3 := Lib.hid (RB.below (w := W.drew) HO1.out hB3)
        have HB3 := Lib.hid hB3
        clear hB3
        refine hK.out _ _ ⟨e0, e1, HX3.out⟩ (fun _ => ?_)
        clear hK K
        try simp only [Act.put, List.setIfInBounds_toArray, List.set_cons_zero, List.set_cons_succ]
        refine wpAnyH_ready (rs := [10]) (by kernel_rfl) (by simp) ?_
        refine AllReadyH.cons rfl (fun K hK => ?_) AllReadyH.nil
        go_simp
        refine hK.out _ _ ⟨e0, e1, HX3.out⟩ (fun _ => ?_)
        clear hK K
        try simp only [Act.put, List.setIfInBounds_toArray, List.set_cons_zero, List.set_cons_succ]
        obtain ⟨p0, p1, p2, p3, p4, p5, p6, p7⟩ := out8_1 HO3.out
        have g3 := RB.frozen HO3.out
        refine wpAnyH_ready (rs := [11]) (by kernel_rfl) (by simp) ?_
        refine AllReadyH.cons rfl (fun K hK => ?_) AllReadyH.nil
        go_simp
        have bO3 : Boxed w3 (w.heap.size + 1) 30 (.slice (some ⟨w.heap.size, 0, none⟩) 3 3) := (HB3.out.block _ HBO.out.lt).trans HBO.out
        have bJ3 : Boxed w3 V1.heap.size 3 (.int .i64 1) := (HB3.out.block _ HBJ.out.lt).trans HBJ.out
        have bS3 : Boxed w3 (V1.heap.size + 1) 30 (.slice (some ⟨b, off, none⟩) n c) := (HB3.out.block _ HBS.out.lt).trans HBS.out
        refine hK.out _ (set8 w3 w.heap.size (1 * 8) h2) ⟨(set8_box bO3 (by omega)).cell, (set8_box bJ3 (by omega)).cell, set8_far HX3.out (by omega)⟩ (fun _ => ?_)
        clear hK K
        refine wpAnyH_done (by kernel_rfl) ?_ _
        obtain ⟨f1, f2, f3⟩ := round_end (B := U1.heap.size) (h2 := h2) (hn := horn F (Gf.ex 1) (pre ++ [x])) HB3.out HW1.out HBS.out bO3 bJ3 bS3 HO3.out (by rw [horn_snoc, HH2.out, HH.out]; rfl)
        exact ⟨f1, f2, f3, marks_kept HM1.out HB3.out⟩
      · go_simp
        refine (HEx.out _).mono ?_
        rintro e w' ⟨rfl, rfl⟩
        refine hK.out _ _ hS (fun _ => ?_)
        clear hK K
        try simp only [Act.put, List.setIfInBounds_toArray, List.set_cons_zero, List.set_cons_succ]
        refine wpAnyH_ready (rs := [6]) (by kernel_rfl) (by simp) ?_
        refine AllReadyH.cons rfl (fun K hK => ?_) AllReadyH.nil
        go_simp
        refine hK.out _ _ hS (fun _ => ?_)
        clear hK K
        try simp only [Act.put, List.setIfInBounds_toArray, List.set_cons_zero, List.set_cons_succ]
        refine wpAnyH_ready (rs := [9]) (by kernel_rfl) (by simp) ?_
        refine AllReadyH.cons rfl (fun K hK => ?_) AllReadyH.nil
        go_simp
        refine (HFu.out _).mono ?_
        rintro e w3 ⟨rfl, hB3⟩
        have e0 := keepc (W := W.drew) cO hB3
        have e1 := keepc (W := W.drew) cJ hB3
        have HX3 := Lib.hid (RB.below (w := W.drew) HX1.out hB3)
        have HO3 := Lib.hid (RB.below (w := W.drew) HO1.out hB3)
        have HB3 := Lib.hid hB3
        clear hB3
        refine hK.out _ _ ⟨e0, e1, HX3.out⟩ (fun _ => ?_)
        clear hK K
        try simp only [Act.put, List.setIfInBounds_toArray, List.set_cons_zero, List.set_cons_succ]
        refine wpAnyH_ready (rs := [10]) (by kernel_rfl) (by simp) ?_
        refine AllReadyH.cons rfl (fun K hK => ?_) AllReadyH.nil
        go_simp
        refine hK.out _ _ ⟨e0, e1, HX3.out⟩ (fun _ => ?_)
        clear hK K
        try simp only [Act.put, List.setIfInBounds_toArray, List.set_cons_zero, List.set_cons_succ]
        obtain ⟨p0, p1, p2, p3, p4, p5, p6, p7⟩ := out8_1 HO3.out
        have g3 := RB.frozen HO3.out
        refine wpAnyH_ready (rs := [11]) (by kernel_rfl) (by simp) ?_
        refine AllReadyH.cons rfl (fun K hK => ?_) AllReadyH.nil
        go_simp
        have bO3 : Boxed w3 (w.heap.size + 1) 30 (.slice (some ⟨w.heap.size, 0, none⟩) 3 3) := (HB3.out.block _ HBO.out.lt).trans HBO.out
        have bJ3 : Boxed w3 V1.heap.size 3 (.int .i64 1) := (HB3.out.block _ HBJ.out.lt).trans HBJ.out
        have bS3 : Boxed w3 (V1.heap.size + 1) 30 (.slice (some ⟨b, off, none⟩) n c) := (HB3.out.block _ HBS.out.lt).trans HBS.out
        refine hK.out _ (set8 w3 w.heap.size (1 * 8) h2) ⟨(set8_box bO3 (by omega)).cell, (set8_box bJ3 (by omega)).cell, set8_far HX3.out (by omega)⟩ (fun _ => ?_)
        clear hK K
        refine wpAnyH_done (by kernel_rfl) ?_ _
        obtain ⟨f1, f2, f3⟩ := round_end (B := U1.heap.size) (h2 := h2) (hn := horn F (Gf.ex 1) (pre ++ [x])) HB3.out HW1.out HBS.out bO3 bJ3 bS3 HO3.out (by rw [horn_snoc, HH2.out, HH.out]; rfl)
        exact ⟨f1, f2, f3, marks_kept HM1.out HB3.out⟩
    case done1 =>
      rintro D1 xs1 V2 hD1 rfl ⟨⟨⟨⟨hO, bO⟩, bJ, bS⟩, hB⟩, hM⟩ hK
      have HR2 := Lib.hid (show RB V2 w.heap.size 24 37 (outc (outc (fun _ => 0) 0 (horn F (Gf.ex 0) (upto (bwd n) n))) 1 (horn F (Gf.ex 1) (upto (bwd n) n))) from hO)
      have HBO2 := Lib.hid bO
      have HB2 := Lib.hid hB
      have HM2 := Lib.hid (hM.cons hK)
      have hz2 : w.heap.size + 1 < V2.heap.size := bO.lt
      clear hO bO bJ bS hB hM hK
      gi_wp2
      rw [roundsIn_succ]
      gi_wp2_with (refine ⟨trivial, ?_⟩; gi_at_call 25; refine (callsIn_wide.2 (backward_any _ _ _ _)).mono ?_; rintro e w' ⟨rfl, rfl⟩)
      obtain ⟨U2, hU2⟩ : ∃ U2, U2 = (V2.alloc (.cells #[.int .i64 2] 3)).alloc (.cells #[.slice (some ⟨b, off, none⟩) n c] 30) := ⟨_, rfl⟩
      have hO : RB U2 w.heap.size 24 37 (outc (outc (fun _ => 0) 0 (horn F (Gf.ex 0) (upto (bwd n) n))) 1 (horn F (Gf.ex 1) (upto (bwd n) n))) := by rw [hU2]; exact (HR2.out.alloc _).alloc _
      have bO : Boxed U2 (w.heap.size + 1) 30 (.slice (some ⟨w.heap.size, 0, none⟩) 3 3) := by rw [hU2]; exact (HBO2.out.alloc _).alloc _
      have bJ : Boxed U2 V2.heap.size 3 (.int .i64 2) := by rw [hU2]; exact (Boxed.new _ _ _).alloc _
      have bS : Boxed U2 (V2.heap.size + 1) 30 (.slice (some ⟨b, off, none⟩) n c) := by
        rw [hU2]
        have := Boxed.new (V2.alloc (.cells #[.int .i64 2] 3)) 30 (.slice (some ⟨b, off, none⟩) n c)
        simpa using this
      have hB : Below w.heap.size w U2 := by rw [hU2]; exact (HB2.out.alloc HB2.out.size _).alloc (by have := HB2.out.size; simp; omega) _
      have hM : Marks U2 [D1, D0] := by rw [hU2]; exact (HM2.out.alloc _).alloc _
      have hsz : U2.heap.size = V2.heap.size + 2 := by rw [hU2]; simp
      have hml2 := hM.lt
      rw [← hU2]
      clear hU2
      refine wpIn_rangeFunc_ownH rfl (by omega) (gf := 33) (lb := #[.pointer (some ⟨V2.heap.size + 1, 0, none⟩)]) rfl trivial (enters_of Try.func33 (by kernel_rfl) rfl)
        (back_stops Fence.wide 5 trivial rfl (by omega) (V2.heap.size + 1) w.heap.size b off n c F (by omega) U2 hbw (by omega) bS (fun j hj => (hB.cell (p := ⟨b, off + j, none⟩) hbw).trans (HI.out j hj))) KpB.trans (kpB_b (by omega) (by omega)) (Below.refl _ _) (fun _ => rfl)
        (fun pre W => (((W.heap[w.heap.size]? = some (.cells (brow 24 (outc (outc (outc (fun _ => 0) 0 (horn F (Gf.ex 0) (upto (bwd n) n))) 1 (horn F (Gf.ex 1) (upto (bwd n) n))) 2 (horn F (Gf.ex 2) pre))) 37 (0, 0)) ∧ Boxed W (w.heap.size + 1) 30 (.slice (some ⟨w.heap.size, 0, none⟩) 3 3)) ∧ (Boxed W V2.heap.size 3 (.int .i64 2) ∧ Boxed W (V2.heap.size + 1) 30 (.slice (some ⟨b, off, none⟩) n c))) ∧ Below w.heap.size w W) ∧ Marks W [D1, D0])
        (fun _ _ _ => False)
        (OwnFrom.and (OwnFrom.and (OwnFrom.and (OwnFrom.and (Own.from (obj_own _ _ _) _) (Own.from (boxed_own _ _ _) _)) (OwnFrom.and (Own.from (boxed_own _ _ _) _) (Own.from (boxed_own _ _ _) _))) (ownFrom_below (Nat.le_refl _) (by omega))) (marks_own hml2))
        (fun _ _ _ _ _ hs _ _ => hs)
        ⟨⟨⟨⟨RB.congr hO (fun p hp => outc_zero2 p hp), bO⟩, bJ, bS⟩, hB⟩, hM⟩
        (fun x a' W => ∃ Bx, V2.heap.size + 1 < Bx ∧ W.heap[Bx]? = some (.cells (bkAt F x) 37 (0, 0)) ∧ a' = { tmps := #[.slice (some ⟨b, off, none⟩) n c, undef, .slice none 0 0, .int .i64 0, .pointer (some ⟨w.heap.size + 1, 0, none⟩), .pointer (some ⟨V2.heap.size, 0, none⟩), undef, .pointer (some ⟨Bx, 0, none⟩), .slice (some ⟨b, off, none⟩) n c, .int .i64 n, .bool (decide ((n : Int) < 1)), .bool (decide ((n : Int) < 1)), .slice (some ⟨b, off, none⟩) n c, .int .i64 n, .bool (decide (13 < (n : Int))), .bool (decide ((n : Int) < 1) || decide (13 < (n : Int))), .slice (some ⟨w.heap.size, 0, none⟩) 3 3, .slice (some ⟨w.heap.size, 0, none⟩) 3 3, .int .i64 3, .int .i64 2, .bool true, .int .i64 2, .slice (some ⟨b, off, none⟩) n c, .func (.func 33) #[] #[.pointer (some ⟨V2.heap.size + 1, 0, none⟩)], .int .i64 (x : Nat), .agg (bkAt F x), undef, undef, undef, undef, undef, undef, undef, undef, undef, undef, undef, .int .i64 2, undef], defers := [] })
        (fun x a' _ X Y row hs hg hr => by obtain ⟨Bx, h1, h2, h3⟩ := hs; exact ⟨Bx, h1, obj_own Bx 37 (fun (_ : Unit) => bkAt F x) () X Y row h2 hg (fun r e => (hr r e).2), h3⟩)
        ?assign2 ?body2 ?done2 ?stop2
      case stop2 =>
        rintro D c pre W hD _ h _
        exact h.elim
      case assign2 =>
        rintro l pre x W K ⟨⟨⟨⟨hO1, bO1⟩, bJ1, bS1⟩, hB1⟩, hM1⟩ hK
        unfold bkAt
        gi_wp2
        exact hK _ _ ((KeepsOthers.alloc _ _).from _) ⟨(Below.refl _ W).alloc hB1.size _, Below.heap_alloc W _ _ bS1.lt⟩ ⟨⟨⟨⟨RB.alloc hO1 _, bO1.alloc _⟩, bJ1.alloc _, bS1.alloc _⟩, hB1.alloc hB1.size _⟩, hM1.alloc _⟩ ⟨W.heap.size, bS1.lt, heap_alloc_new W _, rfl⟩
      case body2 =>
        rintro l pre x a' W hl ⟨r, hr⟩ ⟨⟨⟨⟨hO1, bO1⟩, bJ1, bS1⟩, hB1⟩, hM1⟩ ⟨Bx, hBx, bX, rfl⟩ hlt
        obtain ⟨H, hH⟩ : ∃ H, H = horn F (Gf.ex 2) pre := ⟨_, rfl⟩
        have hHb : ∀ k, H k < 256 := by rw [hH]; exact horn_lt hF (Gf.ex_lt 2) pre
        rw [← hH] at hO1
        have HH := Lib.hid hH
        clear hH
        have cO := bO1.cell
        have cJ := bJ1.cell
        obtain ⟨x0, x1, x2, x3, x4, x5, x6, x7⟩ := cells8 (show RB W Bx 8 37 (fun k => F (x * 8 + k)) from bX)
        obtain ⟨o0, o1, o2, o3, o4, o5, o6, o7⟩ := out8_2 (f := (outc (outc (fun _ => 0) 0 (horn F (Gf.ex 0) (upto (bwd n) n))) 1 (horn F (Gf.ex 1) (upto (bwd n) n)))) (H := H) hO1
        have fO := RB.frozen (show RB W w.heap.size 24 37 _ from hO1)
        obtain ⟨h2, hh2⟩ : ∃ h2, h2 = fus (fun k => F (x * 8 + k)) H (Gf.ex 2) := ⟨_, rfl⟩
        have HFu := Lib.hid (fun W => fusedB_any (fun k => F (x * 8 + k)) H (Gf.ex 2) W (Gf.ex_lt 2) (fun k => hF _) hHb)
        rw [← hh2] at HFu
        have HH2 := Lib.hid hh2
        clear hh2 hHb
        simp only [brow8 H, brow8 h2, ← bkAt_eq] at HFu
        have HEx := Lib.hid (fun W => exp_any 2 W)
        rw [show expo 2 = 2 by decide] at HEx
        have HX1 := Lib.hid (show RB W Bx 8 37 (fun k => F (x * 8 + k)) from bX)
        have HO1 := Lib.hid (show RB W w.heap.size 24 37 (outc (outc (outc (fun _ => 0) 0 (horn F (Gf.ex 0) (upto (bwd n) n))) 1 (horn F (Gf.ex 1) (upto (bwd n) n))) 2 H) from hO1)
        have HBO := Lib.hid bO1
        have HBJ := Lib.hid bJ1
        have HBS := Lib.hid bS1
        have HW1 := Lib.hid hB1
        have HM1 := Lib.hid hM1
        clear bX hO1 bO1 bJ1 bS1 hB1 hM1
        unfold bkAt
        gi_wp2
        refine region_round (S := fun w' => w'.cell? ⟨w.heap.size + 1, 0, none⟩ = some (.slice (some ⟨w.heap.size, 0, none⟩) 3 3) ∧ w'.cell? ⟨V2.heap.size, 0, none⟩ = some (.int .i64 2) ∧ RB w' Bx 8 37 (fun k => F (x * 8 + k))) (by kernel_rfl) (fun ⟨_, _, h⟩ => h) (nodef (by kernel_rfl)) ?_
        have hS : (fun w' : World => w'.cell? ⟨w.heap.size + 1, 0, none⟩ = some (.slice (some ⟨w.heap.size, 0, none⟩) 3 3) ∧ w'.cell? ⟨V2.heap.size, 0, none⟩ = some (.int .i64 2) ∧ RB w' Bx 8 37 (fun k => F (x * 8 + k))) W.drew := ⟨cO, cJ, HX1.out⟩
        refine wpAnyH_take (i := 0) (v := .slice (some ⟨w.heap.size, 0, none⟩) 3 3) rfl (by kernel_rfl) (by kernel_rfl) (by kernel_rfl) (fun _ _ _ h => h) (Or.inl ⟨by rfl, ?_⟩) hS ?_
        · rintro w ⟨q0, q1, q2⟩
          go_simp
        try simp only [Act.put, List.setIfInBounds_toArray, List.set_cons_zero, List.set_cons_succ]
        refine wpAnyH_take (i := 1) (v := .int .i64 2) rfl (by kernel_rfl) (by kernel_rfl) (by kernel_rfl) (fun _ _ _ h => h) (Or.inl ⟨by rfl, ?_⟩) hS ?_
        · rintro w ⟨q0, q1, q2⟩
          go_simp
        try simp only [Act.put, List.setIfInBounds_toArray, List.set_cons_zero, List.set_cons_succ]
        refine wpAnyH_take (i := 2) (v := .agg (bkAt F x)) rfl (by kernel_rfl) (by kernel_rfl) (by kernel_rfl) (fun _ _ _ h => h) (Or.inl ⟨by rfl, ?_⟩) hS ?_
        · rintro w ⟨q0, q1, q2⟩
          obtain ⟨x0, x1, x2, x3, x4, x5, x6, x7⟩ := cells8 q2
          unfold bkAt
          go_simp
        try simp only [Act.put, List.setIfInBounds_toArray, List.set_cons_zero, List.set_cons_succ]
        refine wpAnyH_take (i := 3) (v := .slice (some ⟨w.heap.size, 0, none⟩) 3 3) rfl (by kernel_rfl) (by kernel_rfl) (by kernel_rfl) (fun _ _ _ h => h) (Or.inl ⟨by rfl, ?_⟩) hS ?_
        · rintro w ⟨q0, q1, q2⟩
          go_simp
        try simp only [Act.put, List.setIfInBounds_toArray, List.set_cons_zero, List.set_cons_succ]
        refine wpAnyH_take (i := 4) (v := .int .i64 2) rfl (by kernel_rfl) (by kernel_rfl) (by kernel_rfl) (fun _ _ _ h => h) (Or.inl ⟨by rfl, ?_⟩) hS ?_
        · rintro w ⟨q0, q1, q2⟩
          go_simp
        try simp only [Act.put, List.setIfInBounds_toArray, List.set_cons_zero, List.set_cons_succ]
        refine wpAnyH_take (i := 5) (v := .pointer (some ⟨w.heap.size, 16, none⟩)) rfl (by kernel_rfl) (by kernel_rfl) (by kernel_rfl) (fun _ _ _ h => h) (Or.inl ⟨by rfl, ?_⟩) hS ?_
        · rintro w ⟨q0, q1, q2⟩
          go_simp
        try simp only [Act.put, List.setIfInBounds_toArray, List.set_cons_zero, List.set_cons_succ]
        refine wpAnyH_take (i := 7) (v := .int .i64 2) rfl (by kernel_rfl) (by kernel_rfl) (by kernel_rfl) (fun _ _ _ h => h) (Or.inl ⟨by rfl, ?_⟩) hS ?_
        · rintro w ⟨q0, q1, q2⟩
          go_simp
        try simp only [Act.put, List.setIfInBounds_toArray, List.set_cons_zero, List.set_cons_succ]
        refine wpAnyH_ready (rs := [6, 8]) (by kernel_rfl) (by simp) ?_
        refine AllReadyH.cons rfl (fun K hK => ?_) (AllReadyH.cons rfl (fun K hK => ?_) AllReadyH.nil)
        · go_simp
          refine hK.out _ _ hS (fun _ => ?_)
          clear hK K
          try simp only [Act.put, List.setIfInBounds_toArray, List.set_cons_zero, List.set_cons_succ]
          refine wpAnyH_ready (rs := [8]) (by kernel_rfl) (by simp) ?_
          refine AllReadyH.cons rfl (fun K hK => ?_) AllReadyH.nil
          go_simp
          refine (HEx.out _).mono ?_
          rintro e w' ⟨rfl, rfl⟩
          refine hK.out _ _ hS (fun _ => ?_)
          clear hK K
          try simp only [Act.put, List.setIfInBounds_toArray, List.set_cons_zero, List.set_cons_succ]
          refine wpAnyH_ready (rs := [9]) (by kernel_rfl) (by simp) ?_
          refine AllReadyH.cons rfl (fun K hK => ?_) AllReadyH.nil
          go_simp
          refine (HFu.out _).mono ?_
          rintro e w3 ⟨rfl, hB3⟩
          have e0 := keepc (W := W.drew) cO hB3
          have e1 := keepc (W := W.drew) cJ hB3
          have HX3 := Lib.hid (RB.below (w := W.drew) HX1.out hB3)
          have HO3 := Lib.hid (RB.below (w := W.drew) HO1.out hB3)
          have HB3 := Lib.hid hB3
          clear hB3
          refine hK.out _ _ ⟨e0, e1, HX3.out⟩ (fun _ => ?_)
          clear hK K
          try simp only [Act.put, List.setIfInBounds_toArray, List.set_cons_zero, List.set_cons_succ]
          refine wpAnyH_ready (rs := [10]) (by kernel_rfl) (by simp) ?_
          refine AllReadyH.cons rfl (fun K hK => ?_) AllReadyH.nil
          go_simp
          refine hK.out _ _ ⟨e0, e1, HX3.out⟩ (fun _ => ?_)
          clear hK K
          try simp only [Act.put, List.setIfInBounds_toArray, List.set_cons_zero, List.set_cons_succ]
          obtain ⟨p0, p1, p2, p3, p4, p5, p6, p7⟩ := out8_2 HO3.out
          have g3 := RB.frozen HO3.out
          refine wpAnyH_ready (rs := [11]) (by kernel_rfl) (by simp) ?_
          refine AllReadyH.cons rfl (fun K hK => ?_) AllReadyH.nil
          go_simp
          have bO3 : Boxed w3 (w.heap.size + 1) 30 (.slice (some ⟨w.heap.size, 0, none⟩) 3 3) := (HB3.out.block _ HBO.out.lt).trans HBO.out
          have bJ3 : Boxed w3 V2.heap.size 3 (.int .i64 2) := (HB3.out.block _ HBJ.out.lt).trans HBJ.out
          have bS3 : Boxed w3 (V2.heap.size + 1) 30 (.slice (some ⟨b, off, none⟩) n c) := (HB3.out.block _ HBS.out.lt).trans HBS.out
          refine hK.out _ (set8 w3 w.heap.size (2 * 8) h2) ⟨(set8_box bO3 (by omega)).cell, (set8_box bJ3 (by omega)).cell, set8_far HX3.out (by omega)⟩ (fun _ => ?_)
          clear hK K
          refine wpAnyH_done (by kernel_rfl) ?_ _
          obtain ⟨f1, f2, f3⟩ := round_end (B := U2.heap.size) (h2 := h2) (hn := horn F (Gf.ex 2) (pre ++ [x])) HB3.out HW1.out HBS.out bO3 bJ3 bS3 HO3.out (by rw [horn_snoc, HH2.out, HH.out]; rfl)
          exact ⟨f1, f2, f3, marks_kept HM1.out HB3.out⟩
        · go_simp
          refine (HEx.out _).mono ?_
          rintro e w' ⟨rfl, rfl⟩
          refine hK.out _ _ hS (fun _ => ?_)
          clear hK K
          try simp only [Act.put, List.setIfInBounds_toArray, List.set_cons_zero, List.set_cons_succ]
          refine wpAnyH_ready (rs := [6]) (by kernel_rfl) (by simp) ?_
          refine AllReadyH.cons rfl (fun K hK => ?_) AllReadyH.nil
          go_simp
          refine hK.out _ _ hS (fun _ => ?_)
          clear hK K
          try simp only [Act.put, List.setIfInBounds_toArray, List.set_cons_zero, List.set_cons_succ]
          refine wpAnyH_ready (rs := [9]) (by kernel_rfl) (by simp) ?_
          refine AllReadyH.cons rfl (fun K hK => ?_) AllReadyH.nil
          go_simp
          refine (HFu.out _).mono ?_
          rintro e w3 ⟨rfl, hB3⟩
          have e0 := keepc (W := W.drew) cO hB3
          have e1 := keepc (W := W.drew) cJ hB3
          have HX3 := Lib.hid (RB.below (w := W.drew) HX1.out hB3)
          have HO3 := Lib.hid (RB.below (w := W.drew) HO1.out hB3)
          have HB3 := Lib.hid hB3
          clear hB3
          refine hK.out _ _ ⟨e0, e1, HX3.out⟩ (fun _ => ?_)
          clear hK K
          try simp only [Act.put, List.setIfInBounds_toArray, List.set_cons_zero, List.set_cons_succ]
          refine wpAnyH_ready (rs := [10]) (by kernel_rfl) (by simp) ?_
          refine AllReadyH.cons rfl (fun K hK => ?_) AllReadyH.nil
          go_simp
          refine hK.out _ _ ⟨e0, e1, HX3.out⟩ (fun _ => ?_)
          clear hK K
          try simp only [Act.put, List.setIfInBounds_toArray, List.set_cons_zero, List.set_cons_succ]
          obtain ⟨p0, p1, p2, p3, p4, p5, p6, p7⟩ := out8_2 HO3.out
          have g3 := RB.frozen HO3.out
          refine wpAnyH_ready (rs := [11]) (by kernel_rfl) (by simp) ?_
          refine AllReadyH.cons rfl (fun K hK => ?_) AllReadyH.nil
          go_simp
          have bO3 : Boxed w3 (w.heap.size + 1) 30 (.slice (some ⟨w.heap.size, 0, none⟩) 3 3) := (HB3.out.block _ HBO.out.lt).trans HBO.out
          have bJ3 : Boxed w3 V2.heap.size 3 (.int .i64 2) := (HB3.out.block _ HBJ.out.lt).trans HBJ.out
          have bS3 : Boxed w3 (V2.heap.size + 1) 30 (.slice (some ⟨b, off, none⟩) n c) := (HB3.out.block _ HBS.out.lt).trans HBS.out
          refine hK.out _ (set8 w3 w.heap.size (2 * 8) h2) ⟨(set8_box bO3 (by omega)).cell, (set8_box bJ3 (by omega)).cell, set8_far HX3.out (by omega)⟩ (fun _ => ?_)
          clear hK K
          refine wpAnyH_done (by kernel_rfl) ?_ _
          obtain ⟨f1, f2, f3⟩ := round_end (B := U2.heap.size) (h2 := h2) (hn := horn F (Gf.ex 2) (pre ++ [x])) HB3.out HW1.out HBS.out bO3 bJ3 bS3 HO3.out (by rw [horn_snoc, HH2.out, HH.out]; rfl)
          exact ⟨f1, f2, f3, marks_kept HM1.out HB3.out⟩
      case done2 =>
        rintro D2 xs2 V3 hD2 rfl ⟨⟨⟨⟨hO, bO⟩, bJ, bS⟩, hB⟩, hM⟩ hK
        have HR3 := Lib.hid (show RB V3 w.heap.size 24 37 (enc3 F n) from hO)
        have HBO3 := Lib.hid bO
        have HB3 := Lib.hid hB
        have HM3 := Lib.hid (hM.cons hK)
        have hz3 : w.heap.size + 1 < V3.heap.size := bO.lt
        clear hO bO bJ bS hB hM hK
        gi_wp2
        have cO := HBO3.out.cell
        rw [roundsIn_succ]
        gi_wp2
        have hne10 : D1 ≠ D0 := by have := hml1 D0 (by simp); omega
        have hne21 : D2 ≠ D1 := by have := hml2 D1 (by simp); omega
        have hne20 : D2 ≠ D0 := by have := hml2 D0 (by simp); omega
        have hK2 := HM3.out D2 (by simp)
        have hK1 : (V3.putObj D2 (.deferred none)).heap[D1]? = some (.deferred (some [])) := (World.putObj_heap_other hne21.symm).trans (HM3.out D1 (by simp))
        have hK0 : ((V3.putObj D2 (.deferred none)).putObj D1 (.deferred none)).heap[D0]? = some (.deferred (some [])) := (World.putObj_heap_other hne10.symm).trans ((World.putObj_heap_other hne20.symm).trans (HM3.out D0 (by simp)))
        refine ⟨by simp, .inl ⟨_, _, rfl, run_takeDeferred hK2, ⟨by simp, .inl ⟨_, _, rfl, run_takeDeferred hK1, ⟨by simp, .inl ⟨_, _, rfl, run_takeDeferred hK0, ?_⟩⟩⟩⟩⟩⟩
        refine ⟨.tuple #[.slice (some ⟨w.heap.size, 0, none⟩) 3 3, .int .i64 0], by simp [results, Try.results14, go_sem], rfl, ?_, ?_⟩
        · exact (World.putObj_heap_other (by omega)).trans ((World.putObj_heap_other (by omega)).trans ((World.putObj_heap_other (by omega)).trans HR3.out))
        · exact ((HB3.out.trans (belowK_b (w := w) (Nat.le_refl _) V3 D2 _ _ (by omega) hK2 rfl rfl)).trans (belowK_b (w := w) (Nat.le_refl _) _ D1 _ _ (by omega) hK1 rfl rfl)).trans (belowK_b (w := w) (Nat.le_refl _) _ D0 _ _ (by omega) hK0 rfl rfl)
end Go.Proofs.Ytibhhonmcbbohaa
