/- The walk of layout.measure. -/
import Derived.Test.YtlimlmfgeaokhaaMi
import Derived.Deep.DeepCutAuto
import Derived.Deep.CutBlock
namespace Go.Proofs.Ytlimlmfgeaokhaa
open Go.RowKit

theorem nvc_read {W : World} {B v T S k r n h cp : Nat} {gv rv ov : Value} {t : TypeId} (hb : W.heap[B]? = some (.cells (nvc v T S k r n h cp gv rv ov) t (0, 0))) :
    W.cell? ⟨B, 0, none⟩ = some (.int .i64 v) ∧ W.cell? ⟨B, 1, none⟩ = some (gv) ∧ W.cell? ⟨B, 2, none⟩ = some (.int .i64 T) ∧ W.cell? ⟨B, 3, none⟩ = some (.int .i64 S) ∧ W.cell? ⟨B, 4, none⟩ = some (.int .i64 k) ∧ W.cell? ⟨B, 5, none⟩ = some (.int .i64 r) ∧ W.cell? ⟨B, 6, none⟩ = some (.int .i64 n) ∧ W.cell? ⟨B, 7, none⟩ = some (rv) ∧ W.cell? ⟨B, 8, none⟩ = some (ov) ∧ W.cell? ⟨B, 9, none⟩ = some (.int .i64 h) ∧ W.cell? ⟨B, 10, none⟩ = some (.int .i64 cp) :=
  ⟨cell_of_row W _ 0 _ _ _ hb, cell_of_row W _ 1 _ _ _ hb, cell_of_row W _ 2 _ _ _ hb, cell_of_row W _ 3 _ _ _ hb, cell_of_row W _ 4 _ _ _ hb, cell_of_row W _ 5 _ _ _ hb, cell_of_row W _ 6 _ _ _ hb, cell_of_row W _ 7 _ _ _ hb, cell_of_row W _ 8 _ _ _ hb, cell_of_row W _ 9 _ _ _ hb, cell_of_row W _ 10 _ _ _ hb⟩
set_option linter.unusedSimpArgs false in
set_option maxRecDepth 100000 in
set_option maxHeartbeats 4000000 in
theorem measure_any (G : Nat → Nat → Nat) (A : Option Addr) (n k v c r lam T S : Nat) (w : World) (hF : Fd n k v G) (hG : GM w A n k G) (hbal : ∀ a, a < v → ∀ b, b < v → c1 G k (a * 60 + b) n = if a = b then r else lam) (hlam : 1 ≤ lam)
    (h3 : 3 < k) (h16 : k ≤ 16) (hT1 : 1 ≤ T) (hT : T ≤ 256) (hS : S ≤ 65536) (hTn : T * n ≤ 4096) (hTd : T * n * (k - 3) ≤ 65536) (hTr : T * r + S ≤ 65536) :
    Calls Try.prog 35 #[.agg #[.int .i64 v, .slice A n c, .int .i64 T, .int .i64 S]] w fun e w' => ∃ rb rc ob, e = .returned (.tuple #[.agg (nvc v T S k r n (T * r) (T * r + S) (.slice A n c) (.slice (some ⟨rb, 0, none⟩) n rc) (.slice (some ⟨ob, 0, none⟩) v v)), .bool true]) ∧ GM w' (some ⟨rb, 0, none⟩) n k (rk G k) ∧ Below w.heap.size w w' := by
  have HF := Lib.hid hF
  have HG := Lib.hid hG
  obtain ⟨b, off, rfl, _⟩ := id hG
  obtain ⟨r0, o0, c0, h0, _⟩ := hG.row 0 hF.n1
  rw [Nat.add_zero] at h0
  have hb0 := World.block_lt_of_cell? w _ h0
  have hn0 : (0 : Int) < n := by have := hF.n1; omega
  have hn0' : 0 < n := hF.n1
  have hck := fun W (hW : Below w.heap.size w W) => dcheck_any G (some ⟨b, off, none⟩) n k v c r lam W hF (hG.below hW) hbal hlam
  have hdt := fun W => data_any v T S k r n (T * r) (T * r + S) (some ⟨b, off, none⟩) none none n c 0 0 0 0 W hF.k2
  obtain ⟨q1, hq1⟩ : ∃ q, q = T * n := ⟨_, rfl⟩
  obtain ⟨q2, hq2⟩ : ∃ q, q = q1 * (k - 3) := ⟨_, rfl⟩
  obtain ⟨q3, hq3⟩ : ∃ q, q = T * r := ⟨_, rfl⟩
  have i1 : (T : Int) * n = q1 := by rw [hq1]; simp
  have i2 : (q1 : Int) * ((k : Int) - 3) = q2 := by rw [hq2, show (k : Int) - 3 = ((k - 3 : Nat) : Int) by omega]; simp
  have i3 : (T : Int) * r = q3 := by rw [hq3]; simp
  obtain ⟨q4, hq4⟩ : ∃ q, q = q3 + S := ⟨_, rfl⟩
  have i4 : (q3 : Int) + S = q4 := by omega
  rw [← hq1] at hTn hTd
  rw [← hq2] at hTd
  simp only [← hq3, ← hq4] at hTr hdt ⊢
  have e1 : IntKind.i64.wrap ((T : Int) * n) = q1 := by rw [i1]; exact IntWalk.i64_in _ (by omega)
  have e2 : IntKind.i64.wrap ((q1 : Int) * ((k : Int) - 3)) = q2 := by rw [i2]; exact IntWalk.i64_in _ (by omega)
  have e1' : IntKind.i64.wrap (q1 : Int) = q1 := IntWalk.i64_in _ (by omega)
  have e2' : IntKind.i64.wrap (q2 : Int) = q2 := IntWalk.i64_in _ (by omega)
  have d1 : decide ((4096 : Int) < q1) = false := by simp; omega
  have d2 : decide ((65536 : Int) < q2) = false := by simp; omega
  have d4 : decide ((65536 : Int) < q4) = false := by simp; omega
  have hk3i : ¬ (k : Int) ≤ 3 := by omega
  have hk16i : ¬ (16 : Int) < k := by omega
  have hT1i : ¬ (T : Int) < 1 := by omega
  have hTi : ¬ (256 : Int) < T := by omega
  have hSi : ¬ (65536 : Int) < S := by omega
  have hq1i : ¬ (4096 : Int) < q1 := by omega
  have hq2i : ¬ (65536 : Int) < q2 := by omega
  have hq4i : ¬ (65536 : Int) < (q4 : Int) := by omega
  have hq3r : q3 ≤ 65536 := by omega
  have hv60 : v ≤ 60 := hF.v2
  have hn4 : n ≤ 4096 := hF.n2
  have hmk := fun kl kc W => run_make_rows kl kc v (by omega) W
  have HCK := Lib.hid hck
  simp only [nvc] at hdt
  have HDT := Lib.hid hdt
  have HBAL := Lib.hid hbal
  clear hF hG hck hdt hq1 hq2 hq3 hq4 hbal
  go_enter Try.func35, Try.ntmps35
  go_wp2_with (go_at_call 14; refine Calls.mono (HCK.out _ (((Below.refl _ w).alloc (Nat.le_refl _) _).alloc (by simp) _)) ?_; rintro e w1 ⟨rfl, hB1⟩)
  obtain ⟨U, hU⟩ : ∃ U, U = (w.alloc (.cells #[.int .i64 v, .slice (some ⟨b, off, none⟩) n c, .int .i64 T, .int .i64 S] 46)).alloc (.cells (nvc 0 0 0 0 0 0 0 0 (.slice none 0 0) (.slice none 0 0) (.slice none 0 0)) 78) := ⟨_, rfl⟩
  have hX : U.heap[w.heap.size]? = some (.cells #[.int .i64 v, .slice (some ⟨b, off, none⟩) n c, .int .i64 T, .int .i64 S] 46 (0, 0)) := by rw [hU]; exact (Below.heap_alloc _ _ _ (by simp)).trans (World.alloc_heap_new w _)
  have hY : U.heap[w.heap.size + 1]? = some (.cells (nvc 0 0 0 0 0 0 0 0 (.slice none 0 0) (.slice none 0 0) (.slice none 0 0)) 78 (0, 0)) := by
    rw [hU]; have := World.alloc_heap_new (w.alloc (.cells #[.int .i64 v, .slice (some ⟨b, off, none⟩) n c, .int .i64 T, .int .i64 S] 46)) (.cells (nvc 0 0 0 0 0 0 0 0 (.slice none 0 0) (.slice none 0 0) (.slice none 0 0)) 78); rwa [World.size_alloc] at this
  have hUs : U.heap.size = w.heap.size + 2 := by rw [hU]; simp
  have hUb : Below w.heap.size w U := by rw [hU]; exact ((Below.refl _ w).alloc (Nat.le_refl _) _).alloc (by simp) _
  have hB1' : Below U.heap.size U w1 := by rw [hU]; exact hB1
  clear hB1 hU
  have hX1 := (hB1'.block _ (by omega)).trans hX
  have hY1 := (hB1'.block _ (by omega)).trans hY
  have hb1 : Below w.heap.size w w1 := hUb.trans (hB1'.mono (by omega))
  have hs1 := hB1'.size
  have x0 := cell_of_row w1 _ 0 _ _ _ hX1
  have x1 := cell_of_row w1 _ 1 _ _ _ hX1
  have x2 := cell_of_row w1 _ 2 _ _ _ hX1
  have x3 := cell_of_row w1 _ 3 _ _ _ hX1
  have h0' : w1.cell? ⟨b, off, none⟩ = some (.slice (some ⟨r0, o0, none⟩) k c0) := (hb1.cell hb0).trans h0
  have hlw : w.heap.size < w1.heap.size := by omega
  have hlb : b < w1.heap.size := by omega
  have HX1 := Lib.hid hX1
  have HY1 := Lib.hid hY1
  have HB1 := Lib.hid hb1
  clear hX hY hUb hB1' hX1 hY1 hb1 h0
  go_cut [7] (fun s7 wx => s7 = .pointer (some ⟨w1.heap.size, 0, none⟩) ∧ wx.heap[w1.heap.size]? = some (.cells (nvc v T S k r n 0 0 (.slice (some ⟨b, off, none⟩) n c) (.slice none 0 0) (.slice none 0 0)) 78 (0, 0)) ∧ wx.heap.size = w1.heap.size + 1 ∧ Below w1.heap.size w1 wx)
  case first =>
    go_region_held3 (fun W => W.cell? ⟨w.heap.size, 0, none⟩ = some (.int .i64 v) ∧ W.cell? ⟨w.heap.size, 1, none⟩ = some (.slice (some ⟨b, off, none⟩) n c) ∧ W.cell? ⟨w.heap.size, 2, none⟩ = some (.int .i64 T) ∧ W.cell? ⟨w.heap.size, 3, none⟩ = some (.int .i64 S) ∧ W.cell? ⟨b, off, none⟩ = some (.slice (some ⟨r0, o0, none⟩) k c0)) (go_keep) (fail)
    all_goals
      go_wp2_with fail
      go_meet
      case rel =>
        refine ⟨rfl, ?_, ?_, ?_⟩
        · exact World.alloc_heap_new _ _
        · simp
        · first | exact ((Below.refl _ w1).alloc (Nat.le_refl _) _) | exact ((Below.refl _ w1).alloc (Nat.le_refl _) _).drew | exact (Below.refl _ w1).drew.alloc (Nat.le_refl _) _
  case rest =>
    obtain ⟨rfl, hy, hsz, hbc⟩ := hcut
    obtain ⟨B, hB⟩ : ∃ B, B = w1.heap.size := ⟨_, rfl⟩
    rw [← hB] at hy hsz hbc hlw hlb ⊢
    obtain ⟨y0, y1, y2, y3, y4, y5, y6, y7, y8, y9, y10⟩ := nvc_read hy
    have z9 := frozen_of_row wc _ 9 _ _ hy
    have z10 := frozen_of_row wc _ 10 _ _ hy
    have x0' := (hbc.cell (by show w.heap.size < B; exact hlw)).trans x0
    have x1' := (hbc.cell (by show w.heap.size < B; exact hlw)).trans x1
    have x2' := (hbc.cell (by show w.heap.size < B; exact hlw)).trans x2
    have x3' := (hbc.cell (by show w.heap.size < B; exact hlw)).trans x3
    have HY := Lib.hid hy
    have HBC := Lib.hid hbc
    have HBB := Lib.hid hB
    clear hy hbc x0 x1 x2 x3 hB h0'
    go_upto_region 5 with fail
    go_cut [63] (fun s63 wx => s63 = .bool false ∧ wx = wc)
    case first =>
      go_wp2_with fail
      go_meet
      case rel => exact ⟨by simp; omega, rfl⟩
    case rest =>
    obtain ⟨rfl, rfl⟩ := hcut
    go_wp2_with fail
    obtain ⟨W5, hW5⟩ : ∃ W5, W5 = (wc.setCell ⟨B, 9, none⟩ (.int .i64 q3)).setCell ⟨B, 10, none⟩ (.int .i64 q4) := ⟨_, rfl⟩
    rw [← hW5]
    have hY5 : W5.heap[B]? = some (.cells (nvc v T S k r n q3 q4 (.slice (some ⟨b, off, none⟩) n c) (.slice none 0 0) (.slice none 0 0)) 78 (0, 0)) := by
      rw [hW5, heap_setCell_same _ _ _ _ _ _ (heap_setCell_same _ _ _ _ _ _ HY.out)]
      rfl
    have hB5 : Below B w1 W5 := by rw [hW5]; exact (HBC.out.setCell (Nat.le_refl _) _).setCell (Nat.le_refl _) _
    have hs5 : W5.heap.size = B + 1 := by rw [hW5]; simp [hsz]
    have hx5 := hB5.block w.heap.size hlw
    rw [HX1.out] at hx5
    have hks : ∀ W2, Kp W5 W2 → Kp W5 W2 ∧ W2.cell? ⟨w.heap.size, 2, none⟩ = some (.int .i64 T) ∧ W2.cell? ⟨B, 0, none⟩ = some (.int .i64 v) ∧ W2.cell? ⟨B, 1, none⟩ = some (.slice (some ⟨b, off, none⟩) n c) ∧ W2.cell? ⟨B, 2, none⟩ = some (.int .i64 T) ∧ W2.cell? ⟨B, 3, none⟩ = some (.int .i64 S) ∧ W2.cell? ⟨B, 4, none⟩ = some (.int .i64 k) ∧ W2.cell? ⟨B, 5, none⟩ = some (.int .i64 r) ∧ W2.cell? ⟨B, 6, none⟩ = some (.int .i64 n) ∧ W2.cell? ⟨B, 7, none⟩ = some (.slice none 0 0) ∧ W2.cell? ⟨B, 8, none⟩ = some (.slice none 0 0) ∧ W2.cell? ⟨B, 9, none⟩ = some (.int .i64 q3) ∧ W2.cell? ⟨B, 10, none⟩ = some (.int .i64 q4) := fun W2 h =>
      ⟨h, cell_of_row W2 _ 2 _ _ _ ((h.below.block _ (by omega)).trans hx5), nvc_read ((h.below.block _ (by omega)).trans hY5)⟩
    have HKS := Lib.hid hks
    have HB5 := Lib.hid hB5
    have HY5 := Lib.hid hY5
    clear hW5 hks hB5 hY5 hx5 x0' x1' x2' x3' y0 y1 y2 y3 y4 y5 y6 y7 y8 y9 y10 z9 z10
    go_cut [97] (fun s97 wx => s97 = .bool false ∧ Below W5.heap.size W5 wx)
    case first =>
      have kpd : Kp W5 W5.drew := Kp.refl W5
      obtain ⟨_, _, _, _, _, _, _, _, _, _, _, _, _⟩ := HKS.out _ kpd
      go_region_held3 (fun W2 => Kp W5 W2 ∧ W2.cell? ⟨w.heap.size, 2, none⟩ = some (.int .i64 T) ∧ W2.cell? ⟨B, 0, none⟩ = some (.int .i64 v) ∧ W2.cell? ⟨B, 1, none⟩ = some (.slice (some ⟨b, off, none⟩) n c) ∧ W2.cell? ⟨B, 2, none⟩ = some (.int .i64 T) ∧ W2.cell? ⟨B, 3, none⟩ = some (.int .i64 S) ∧ W2.cell? ⟨B, 4, none⟩ = some (.int .i64 k) ∧ W2.cell? ⟨B, 5, none⟩ = some (.int .i64 r) ∧ W2.cell? ⟨B, 6, none⟩ = some (.int .i64 n) ∧ W2.cell? ⟨B, 7, none⟩ = some (.slice none 0 0) ∧ W2.cell? ⟨B, 8, none⟩ = some (.slice none 0 0) ∧ W2.cell? ⟨B, 9, none⟩ = some (.int .i64 q3) ∧ W2.cell? ⟨B, 10, none⟩ = some (.int .i64 q4))
        (first | (go_split_ands; exact HKS.out _ (by assumption)) | (go_split_ands; exact HKS.out _ (Kp.next (by assumption) hb9)))
        (first | (go_at_call 60; (with_reducible refine (HDT.out _).mono ?_); rintro e w9 ⟨rfl, hb9⟩))
      all_goals
        rename_i hHeld
        obtain ⟨hkp9, _⟩ := hHeld
        go_wp2_with fail
        go_meet
        case rel => exact ⟨rfl, hkp9.below⟩
    case rest =>
    obtain ⟨rfl, hbr⟩ := hcut
    obtain ⟨_, x2c, y0, y1, y2, y3, y4, y5, y6, y7, y8, y9, y10⟩ := HKS.out wc ⟨hbr.os, hbr.tape, hbr.output, hbr.size, hbr.block⟩
    have hyc := (hbr.block _ (by omega)).trans HY5.out
    have z8 := frozen_of_row wc _ 8 _ _ hyc
    have hxc : wc.heap[w.heap.size]? = some (.cells #[.int .i64 v, .slice (some ⟨b, off, none⟩) n c, .int .i64 T, .int .i64 S] 46 (0, 0)) := (hbr.block _ (by omega)).trans ((HB5.out.block _ hlw).trans HX1.out)
    have x0c := cell_of_row wc _ 0 _ _ _ hxc
    have x1c := cell_of_row wc _ 1 _ _ _ hxc
    have hszc := hbr.size
    have hBc : Below B w1 wc := HB5.out.trans (hbr.mono (by omega))
    have hBl : B < wc.heap.size := by omega
    have hwl : w.heap.size < wc.heap.size := by omega
    have HYC := Lib.hid hyc
    have HXC := Lib.hid hxc
    have HBC2 := Lib.hid hBc
    clear hyc hxc hbr hBc
    go_wp2_with fail
    obtain ⟨V, hV⟩ : ∃ V, V = (wc.setCell ⟨B, 8, none⟩ (.slice (some ⟨wc.heap.size, 0, none⟩) v v)).alloc (.cells (orow v fun _ => .slice none 0 0) 32) := ⟨_, rfl⟩
    rw [← hV]
    have hMV : Mi w1 B wc.heap.size v 0 (v + 0) G k 0 (nvc v T S k r n q3 q4 (.slice (some ⟨b, off, none⟩) n c) (.slice none 0 0) (.slice (some ⟨wc.heap.size, 0, none⟩) v v)) (.slice none 0 0) (fun _ => .slice none 0 0) (fun _ => []) V := by
      refine ⟨⟨fun _ _ => World.ownsRow_nil _ _ _ _, fun _ _ _ _ _ => Dis.nil _⟩, fun d _ => by simp [ocs, oc, sm], fun a ha => by omega, ?_, World.ownsRow_nil _ _ _ _, fun e => (by cases e), ?_, by omega, ?_⟩
      · rw [hV]; have := World.alloc_heap_new (wc.setCell ⟨B, 8, none⟩ (.slice (some ⟨wc.heap.size, 0, none⟩) v v)) (.cells (orow v fun _ => .slice none 0 0) 32); rwa [show (wc.setCell ⟨B, 8, none⟩ (.slice (some ⟨wc.heap.size, 0, none⟩) v v)).heap.size = wc.heap.size by simp] at this
      · rw [hV, Below.heap_alloc _ _ _ (by simp; omega), heap_setCell_same _ _ _ _ _ _ HYC.out]
        rfl
      · rw [hV]; exact (HBC2.out.setCell (Nat.le_refl _) _).alloc (by simp; omega) _
    obtain ⟨ob, hob⟩ : ∃ ob, ob = wc.heap.size := ⟨_, rfl⟩
    rw [← hob] at hMV ⊢
    have HG1 := Lib.hid (HG.out.below HB1.out)
    have hk60 : k ≤ 60 := HF.out.k2
    have HBB' := Lib.hid (And.intro hBl hob)
    clear hV z8 y0 y1 y2 y3 y4 y5 y6 y7 y8 y9 y10 x0c x1c x2c hob
    go_loopw [108] (fun vi wr => ∃ (i : Nat) (F : Nat → Value) (X : Nat → List Value) (gv : Value), i ≤ n ∧ vi = .int .i64 i ∧ Mi w1 B ob v i (v + i) G k 0 (nvc v T S k r n q3 q4 (.slice (some ⟨b, off, none⟩) n c) gv (.slice (some ⟨ob, 0, none⟩) v v)) gv F X wr) (fun vi _ => n - (intOf vi).toNat)
    case atStart => exact ⟨0, _, _, _, by omega, rfl, hMV⟩
    case round =>
      obtain ⟨i, F0, X0, gv, hi, rfl, hM0⟩ := hrel
      clear hMV
      by_cases hlt2 : i < n
      · obtain ⟨rb, ro, rc, r1w, r2w⟩ := HG1.out.row i hlt2
        have r1 : wr.cell? ⟨b, off + i, none⟩ = some (.slice (some ⟨rb, ro, none⟩) k rc) := (hM0.below.cell (by rw [HBB.out]; exact World.block_lt_of_cell? w1 _ r1w)).trans r1w
        have hrow : ∀ W, Below B w1 W → ∀ x, x < k → W.cell? ⟨rb, ro + x, none⟩ = some (.int .i64 (G i x : Nat)) := fun W h x hx => (h.cell (by rw [HBB.out]; exact World.block_lt_of_cell? w1 _ (r2w x hx))).trans (r2w x hx)
        have hlti : (i : Int) < n := by omega
        have HROW := Lib.hid hrow
        have HM0 := Lib.hid hM0.open'
        clear r1w r2w hrow hM0
        go_wp2_with fail
        go_loopw [10, 115] (fun v10 vj wr => ∃ (j : Nat) (F : Nat → Value) (X : Nat → List Value), j ≤ k ∧ vj = .int .i64 j ∧ v10 = F (v + i) ∧ Mi w1 B ob v i (v + i + 1) G k j (nvc v T S k r n q3 q4 (.slice (some ⟨b, off, none⟩) n c) gv (.slice (some ⟨ob, 0, none⟩) v v)) gv F X wr ∧ X (v + i) = ils (rk G k i) j) (fun _ vj _ => k - (intOf vj).toNat)
        case atStart => exact ⟨0, _, _, by omega, rfl, (upd_same _ _ _).symm, HM0.out, upd_same _ _ _⟩
        case round =>
          obtain ⟨j, F, X, hj, rfl, hv10, hM, hX⟩ := hrel
          by_cases hjk : j < k
          · have hjki : (j : Int) < k := by omega
            obtain ⟨d, hd⟩ : ∃ d, d = G i j := ⟨_, rfl⟩
            have hdv : d < v := by rw [hd]; exact HF.out.lt i hlt2 j hjk
            have hdvi : (d : Int) < v := by omega
            have c1' := HROW.out _ hM.below j hjk
            rw [← hd] at c1'
            obtain ⟨_, _, _, _, _, _, _, y7, y8, _, _⟩ := nvc_read hM.nb
            have hown := hM.fam.own (v + i) (by omega)
            rw [hX, ils_length] at hown
            obtain ⟨Ai, ci, hFi⟩ := own_form hown
            obtain ⟨Ad, cd, hFd⟩ := own_form (hM.fam.own d (by omega))
            have hlen := hM.len d hdv
            obtain ⟨z, hz⟩ : ∃ z, z = (X d).length := ⟨_, rfl⟩
            rw [← hz] at hlen hFd
            have hzr : z = rk G k i j := by rw [hlen, rk, ← hd]
            have cd' : wr.cell? ⟨ob, d, none⟩ = some (.slice Ad z cd) := by rw [← hFd]; exact (cell_of_row wr _ d _ _ _ hM.on).trans (orow_get v F d hdv)
            rw [hFi] at hv10
            subst hv10
            have hobl : ob < wr.heap.size := (Array.getElem?_eq_some_iff.1 hM.on).1
            have hBl' : B < wr.heap.size := (Array.getElem?_eq_some_iff.1 hM.nb).1
            have HM := Lib.hid hM
            have HX := Lib.hid hX
            have HFI := Lib.hid hFi
            have HFD := Lib.hid hFd
            have HZ := Lib.hid (And.intro hz hzr)
            have HD := Lib.hid hd
            have hown' : (wr.alloc (.cells #[.int .i64 (z : Nat)] 3)).ownsRow B 3 1 (.slice Ai j ci) j (ils (rk G k i) j) := by rw [← hFi]; exact hown.alloc _
            have HOWN := Lib.hid hown'
            clear hM hX hFi hFd hz hzr hd hown hown' hlen
            go_wp2_with (at_builtin; refine appI rfl (.tmp 119) (.tmp 126) rfl B (.slice Ai j ci) j (ils (rk G k i) j) (.int .i64 (z : Nat)) rfl rfl HOWN.out wr.heap.size rfl (World.alloc_heap_new wr _) (by omega) (by simp; omega) (wr.heap.size + 1) (by simp) ?_; intro g9 c9 w9 ho9 hg9 hl9 hlt9)
            have hM9 := HM.out.rank (o := .cells #[.int .i64 (z : Nat)] 3) (u := .int .i64 (z : Nat)) (by omega) (by omega) (by rw [HFI.out]; exact hg9) (by rw [HX.out]; exact ho9) (by rw [HFI.out]; exact hl9)
            rw [HX.out, HZ.out.2, ils_snoc'] at hM9
            obtain ⟨F9, hF9⟩ : ∃ F9, F9 = upd F (v + i) (.slice (some ⟨g9, 0, none⟩) (j + 1) c9) := ⟨_, rfl⟩
            obtain ⟨X9, hX9⟩ : ∃ X9, X9 = upd X (v + i) (ils (rk G k i) (j + 1)) := ⟨_, rfl⟩
            rw [← hF9, ← hX9] at hM9
            have f1 : F9 (v + i) = .slice (some ⟨g9, 0, none⟩) (j + 1) c9 := by rw [hF9, upd_same]
            have f2 : X9 (v + i) = ils (rk G k i) (j + 1) := by rw [hX9, upd_same]
            have f3 : F9 d = .slice Ad z cd := by rw [hF9, upd_ne _ _ (by omega)]; exact HFD.out
            have f4 : (X9 d).length = z := by rw [hX9, upd_ne _ _ (by omega)]; exact HZ.out.1.symm
            obtain ⟨_, _, _, _, _, _, _, y7, y8, _, _⟩ := nvc_read hM9.nb
            have hob9 : ob < w9.heap.size := (Array.getElem?_eq_some_iff.1 hM9.on).1
            have hBl9 : B < w9.heap.size := (Array.getElem?_eq_some_iff.1 hM9.nb).1
            have cd9 : w9.cell? ⟨ob, d, none⟩ = some (.slice Ad z cd) := by rw [← f3]; exact (cell_of_row w9 _ d _ _ _ hM9.on).trans (orow_get v F9 d hdv)
            have fd9 : w9.frozen? ⟨ob, d, none⟩ = false := frozen_of_row w9 _ d _ _ hM9.on
            have hown9 : (w9.drew.alloc (.cells #[.int .i64 (i : Nat)] 3)).ownsRow B 3 1 (.slice Ad z cd) z (X9 d) := by
              have h := hM9.fam.drew.own d (by omega)
              rw [f3, f4] at h
              exact h.alloc _
            have hz4 : z ≤ 1000000 := by
              have h1 := ocs_le G k (G i j) i
              have h2 := oc_le G i (G i j) j
              have h3 : i * k ≤ 4096 * 60 := Nat.mul_le_mul (by omega) hk60
              rw [HZ.out.2, rk]; omega
            have hfin : ∀ (g2 c2 : Nat) (w2 : World), w2.ownsRow B 3 1 (.slice (some ⟨g2, 0, none⟩) (z + 1) c2) (z + 1) (X9 d ++ [.int .i64 (i : Nat)]) → (w9.drew.alloc (.cells #[.int .i64 (i : Nat)] 3)).grownBy w2 (Value.slice Ad z cd).ownBlock → ((Value.slice Ad z cd).ownBlock = some g2 ∨ g2 = w9.heap.size + 1) →
                w2.cell? ⟨B, 8, none⟩ = some (.slice (some ⟨ob, 0, none⟩) v v) ∧ w2.cell? ⟨ob, d, none⟩ = some (.slice Ad z cd) ∧ w2.frozen? ⟨ob, d, none⟩ = false ∧ ∃ F' X', Mi w1 B ob v i (v + i + 1) G k (j + 1) (nvc v T S k r n q3 q4 (.slice (some ⟨b, off, none⟩) n c) gv (.slice (some ⟨ob, 0, none⟩) v v)) gv F' X' (w2.setCell ⟨ob, d, none⟩ (.slice (some ⟨g2, 0, none⟩) (z + 1) c2)) ∧ F' (v + i) = .slice (some ⟨g9, 0, none⟩) (j + 1) c9 ∧ X' (v + i) = ils (rk G k i) (j + 1) := fun g2 c2 w2 ho2 hg2 hl2 => by
              have hM9' : Mi w1 B ob v i (v + i + 1) G k j (nvc v T S k r n q3 q4 (.slice (some ⟨b, off, none⟩) n c) gv (.slice (some ⟨ob, 0, none⟩) v v)) gv F9 X9 w9.drew := hM9.drew
              have hon2 := grown_cells (by rw [f3]; exact hg2) ((hM9'.fam.alloc _).own d (by omega)) ((Below.heap_alloc w9.drew _ _ hob9).trans hM9.on) (by decide)
              have hnb2 := grown_cells (by rw [f3]; exact hg2) ((hM9'.fam.alloc _).own d (by omega)) ((Below.heap_alloc w9.drew _ _ hBl9).trans hM9.nb) (by decide)
              refine ⟨cell_of_row w2 _ 8 _ _ _ hnb2, ?_, frozen_of_row w2 _ d _ _ hon2, _, _, hM9'.onp (u := .int .i64 (i : Nat)) (o := .cells #[.int .i64 (i : Nat)] 3) (by omega) hdv HD.out (by have := hBl9; show B ≤ w9.heap.size; omega) (by rw [f3]; exact hg2) ho2 (by rw [f3]; exact hl2), ?_, ?_⟩
              · rw [← f3]; exact (cell_of_row w2 _ d _ _ _ hon2).trans (orow_get v F9 d hdv)
              · rw [upd_ne _ _ (by omega)]; exact f1
              · rw [upd_ne _ _ (by omega)]; exact f2
            have hSA : ∀ o, (w9.drew.alloc o).cell? ⟨B, 8, none⟩ = some (.slice (some ⟨ob, 0, none⟩) v v) := fun o => (((Below.refl _ w9.drew).alloc (Nat.le_refl _) o).cell (by show B < w9.heap.size; omega)).trans y8
            have hneB := hM9.ob_ne
            have HFIN := Lib.hid hfin
            have HM9 := Lib.hid hM9
            have HOWN9 := Lib.hid hown9
            have HF := Lib.hid (And.intro f1 (And.intro f2 (And.intro f3 f4)))
            clear hM9 hown9 hfin hF9 hX9 f1 f2 f3 f4 hg9 hl9 ho9 c1' cd' hlt9
            refine wp_region_held_drew (S := fun W2 : World => W2.cell? ⟨B, 8, none⟩ = some (.slice (some ⟨ob, 0, none⟩) v v)) (by kernel_rfl) (show w9.drew.cell? ⟨B, 8, none⟩ = _ from y8) ?_
            intro hS
            refine wpAnyH_take (i := 0) (v := .pointer (some ⟨B, 8, none⟩)) rfl (by kernel_rfl) (by kernel_rfl) (by kernel_rfl) (fun _ _ _ h => h) (Or.inl ⟨by rfl, ?_⟩) hS ?_
            · intro w q0
              go_simp
            try simp only [Act.put, List.setIfInBounds_toArray, List.set_cons_zero, List.set_cons_succ]
            refine wpAnyH_take (i := 1) (v := .slice (some ⟨ob, 0, none⟩) v v) rfl (by kernel_rfl) (by kernel_rfl) (by kernel_rfl) (fun _ _ _ h => h) (Or.inl ⟨by rfl, ?_⟩) hS ?_
            · intro w q0
              go_simp
            try simp only [Act.put, List.setIfInBounds_toArray, List.set_cons_zero, List.set_cons_succ]
            refine wpAnyH_take (i := 2) (v := .int .i64 d) rfl (by kernel_rfl) (by kernel_rfl) (by kernel_rfl) (fun _ _ _ h => h) (Or.inl ⟨by rfl, ?_⟩) hS ?_
            · intro w q0
              go_simp
            try simp only [Act.put, List.setIfInBounds_toArray, List.set_cons_zero, List.set_cons_succ]
            refine wpAnyH_take (i := 3) (v := .pointer (some ⟨B, 8, none⟩)) rfl (by kernel_rfl) (by kernel_rfl) (by kernel_rfl) (fun _ _ _ h => h) (Or.inl ⟨by rfl, ?_⟩) hS ?_
            · intro w q0
              go_simp
            try simp only [Act.put, List.setIfInBounds_toArray, List.set_cons_zero, List.set_cons_succ]
            refine wpAnyH_take (i := 4) (v := .slice (some ⟨ob, 0, none⟩) v v) rfl (by kernel_rfl) (by kernel_rfl) (by kernel_rfl) (fun _ _ _ h => h) (Or.inl ⟨by rfl, ?_⟩) hS ?_
            · intro w q0
              go_simp
            try simp only [Act.put, List.setIfInBounds_toArray, List.set_cons_zero, List.set_cons_succ]
            refine wpAnyH_take (i := 5) (v := .int .i64 d) rfl (by kernel_rfl) (by kernel_rfl) (by kernel_rfl) (fun _ _ _ h => h) (Or.inl ⟨by rfl, ?_⟩) hS ?_
            · intro w q0
              go_simp
            try simp only [Act.put, List.setIfInBounds_toArray, List.set_cons_zero, List.set_cons_succ]
            refine wpAnyH_take (i := 6) (v := .pointer (some ⟨ob, d, none⟩)) rfl (by kernel_rfl) (by kernel_rfl) (by kernel_rfl) (fun _ _ _ h => h) (Or.inl ⟨by rfl, ?_⟩) hS ?_
            · intro w q0
              go_simp
            try simp only [Act.put, List.setIfInBounds_toArray, List.set_cons_zero, List.set_cons_succ]
            refine wpAnyH_take (i := 8) (v := .int .i64 i) rfl (by kernel_rfl) (by kernel_rfl) (by kernel_rfl) (fun _ _ _ h => h) (Or.inl ⟨by rfl, ?_⟩) hS ?_
            · intro w q0
              go_simp
            try simp only [Act.put, List.setIfInBounds_toArray, List.set_cons_zero, List.set_cons_succ]
            refine wpAnyH_ready (rs := [7, 9]) (by kernel_rfl) (by simp) ?_
            refine AllReadyH.cons rfl (fun K hK => ?_) (AllReadyH.cons rfl (fun K hK => ?_) AllReadyH.nil)
            · skip
              go_simp
              refine hK.out _ _ (by first | exact hS | exact hSA _ | exact hS2) (fun hS2 => ?_)
              clear hK K
              try simp only [Act.put, List.setIfInBounds_toArray, List.set_cons_zero, List.set_cons_succ]
              refine wpAnyH_ready (rs := [9]) (by kernel_rfl) (by simp) ?_
              refine AllReadyH.cons rfl (fun K hK => ?_) AllReadyH.nil
              go_simp
              refine hK.out _ _ (by first | exact hS | exact hSA _ | exact hS2) (fun hS2 => ?_)
              clear hK K
              try simp only [Act.put, List.setIfInBounds_toArray, List.set_cons_zero, List.set_cons_succ]
              refine wpAnyH_ready (rs := [10]) (by kernel_rfl) (by simp) ?_
              refine AllReadyH.cons rfl (fun K hK => ?_) AllReadyH.nil
              refine stepI (by rfl) (.tmp 135) (.tmp 137) (by rfl) B (.slice Ad z cd) z (X9 d) (.int .i64 (i : Nat)) rfl (by rfl) HOWN9.out w9.heap.size (by rfl) (World.alloc_heap_new w9.drew _) hz4 (by simp; omega) (w9.heap.size + 1) (by simp) ?_
              intro g2 c2 w2 ho2 hg2 hl2 hlt2
              have hM2 := HFIN.out g2 c2 w2 ho2 hg2 hl2
              obtain ⟨hy2, hcd2, hfd2, hrel2⟩ := hM2
              refine hK.out _ _ (by exact hy2) (fun hS2 => ?_)
              clear hK K
              try simp only [Act.put, List.setIfInBounds_toArray, List.set_cons_zero, List.set_cons_succ]
              refine wpAnyH_take (i := 11) (v := .pointer (some ⟨ob, d, none⟩)) rfl (by kernel_rfl) (by kernel_rfl) (by kernel_rfl) (fun _ _ _ h => h) (Or.inl ⟨by rfl, ?_⟩) hS2 ?_
              · intro w q0
                go_simp
              try simp only [Act.put, List.setIfInBounds_toArray, List.set_cons_zero, List.set_cons_succ]
              refine wpAnyH_ready (rs := [12]) (by kernel_rfl) (by simp) ?_
              refine AllReadyH.cons rfl (fun K hK => ?_) AllReadyH.nil
              go_simp
              refine hK.out _ _ ((World.cell?_of_block (Below.heap_setCell w2 _ _ B hneB)).trans hy2) (fun hS3 => ?_)
              clear hK K
              refine wpAnyH_done (by kernel_rfl) ?_ _
              go_wp2_with fail
              obtain ⟨F', X', m1, m2, m3⟩ := hrel2
              go_roundw
              case rel => exact ⟨j + 1, F', X', by omega, by go_num, m2.symm, m1, m3⟩
              case measure => simp [intOf]; omega
            · skip
              go_simp
              refine hK.out _ _ (by first | exact hS | exact hSA _ | exact hS2) (fun hS2 => ?_)
              clear hK K
              try simp only [Act.put, List.setIfInBounds_toArray, List.set_cons_zero, List.set_cons_succ]
              refine wpAnyH_ready (rs := [7]) (by kernel_rfl) (by simp) ?_
              refine AllReadyH.cons rfl (fun K hK => ?_) AllReadyH.nil
              go_simp
              refine hK.out _ _ (by first | exact hS | exact hSA _ | exact hS2) (fun hS2 => ?_)
              clear hK K
              try simp only [Act.put, List.setIfInBounds_toArray, List.set_cons_zero, List.set_cons_succ]
              refine wpAnyH_ready (rs := [10]) (by kernel_rfl) (by simp) ?_
              refine AllReadyH.cons rfl (fun K hK => ?_) AllReadyH.nil
              refine stepI (by rfl) (.tmp 135) (.tmp 137) (by rfl) B (.slice Ad z cd) z (X9 d) (.int .i64 (i : Nat)) rfl (by rfl) HOWN9.out w9.heap.size (by rfl) (World.alloc_heap_new w9.drew _) hz4 (by simp; omega) (w9.heap.size + 1) (by simp) ?_
              intro g2 c2 w2 ho2 hg2 hl2 hlt2
              have hM2 := HFIN.out g2 c2 w2 ho2 hg2 hl2
              obtain ⟨hy2, hcd2, hfd2, hrel2⟩ := hM2
              refine hK.out _ _ (by exact hy2) (fun hS2 => ?_)
              clear hK K
              try simp only [Act.put, List.setIfInBounds_toArray, List.set_cons_zero, List.set_cons_succ]
              refine wpAnyH_take (i := 11) (v := .pointer (some ⟨ob, d, none⟩)) rfl (by kernel_rfl) (by kernel_rfl) (by kernel_rfl) (fun _ _ _ h => h) (Or.inl ⟨by rfl, ?_⟩) hS2 ?_
              · intro w q0
                go_simp
              try simp only [Act.put, List.setIfInBounds_toArray, List.set_cons_zero, List.set_cons_succ]
              refine wpAnyH_ready (rs := [12]) (by kernel_rfl) (by simp) ?_
              refine AllReadyH.cons rfl (fun K hK => ?_) AllReadyH.nil
              go_simp
              refine hK.out _ _ ((World.cell?_of_block (Below.heap_setCell w2 _ _ B hneB)).trans hy2) (fun hS3 => ?_)
              clear hK K
              refine wpAnyH_done (by kernel_rfl) ?_ _
              go_wp2_with fail
              obtain ⟨F', X', m1, m2, m3⟩ := hrel2
              go_roundw
              case rel => exact ⟨j + 1, F', X', by omega, by go_num, m2.symm, m1, m3⟩
              case measure => simp [intOf]; omega
          · obtain rfl : k = j := by omega
            have hown := hM.fam.own (v + i) (by omega)
            rw [hX, ils_length] at hown
            obtain ⟨Ai, ci, hFi⟩ := own_form hown
            rw [hFi] at hv10
            subst hv10
            obtain ⟨gA, gC, hgv⟩ := own_form hM.gr
            subst hgv
            obtain ⟨_, _, _, _, _, _, _, y7, y8, _, _⟩ := nvc_read hM.nb
            have hobl : ob < wr.heap.size := (Array.getElem?_eq_some_iff.1 hM.on).1
            have hBl' : B < wr.heap.size := (Array.getElem?_eq_some_iff.1 hM.nb).1
            have hgr' : (wr.alloc (.cells #[.slice Ai k ci] 32)).ownsRow B 32 1 (.slice gA i gC) i ((List.range i).map fun a => F (v + a)) := hM.gr.alloc _
            have hi4 : i ≤ 1000000 := by omega
            have hcl := fun (g9 c9 : Nat) (w9 : World) (h1 : w9.ownsRow B 32 1 (.slice (some ⟨g9, 0, none⟩) (i + 1) c9) (i + 1) ((List.range i).map (fun a => F (v + a)) ++ [.slice Ai k ci])) (h2 : (wr.alloc (.cells #[.slice Ai k ci] 32)).grownBy w9 (Value.slice gA i gC).ownBlock) (h3 : (Value.slice gA i gC).ownBlock = some g9 ∨ g9 = wr.heap.size + 1) =>
              And.intro (grown_cells h2 hgr' ((Below.heap_alloc wr _ _ hBl').trans hM.nb) (by decide)) (hM.close (c := c9) hX (by omega) hobl h2 (by rw [hFi]; exact h1) h3 rfl rfl)
            have HGR := Lib.hid hgr'
            have HCL := Lib.hid hcl
            clear hM hX hFi hown hgr' hcl
            go_wp2_with (at_builtin; refine appS rfl (.tmp 142) (.tmp 144) rfl B (.slice gA i gC) i ((List.range i).map fun a => F (v + a)) (.slice Ai k ci) rfl rfl HGR.out wr.heap.size rfl (World.alloc_heap_new wr _) hi4 (by simp; omega) (wr.heap.size + 1) (by simp) ?_; intro g9 c9 w9 ho9 hg9 hl9 hlt9; have hc9 := HCL.out g9 c9 w9 ho9 hg9 hl9; have c9' := cell_of_row w9 _ 7 _ _ _ hc9.1; have f9' := frozen_of_row w9 _ 7 _ _ hc9.1; have HC9 := Lib.hid hc9.2; clear hc9 hg9 ho9 hl9)
            go_roundw
            case rel => exact ⟨i + 1, _, _, _, by omega, by go_num, HC9.out⟩
            case measure => simp [intOf]; omega
      · obtain rfl : n = i := by omega
        have hbw : Below w.heap.size w wr := HB1.out.trans (hM0.below.mono (by omega))
        have hszr := hM0.below.size
        obtain ⟨gA, gC, hgv⟩ := own_form hM0.gr
        subst hgv
        have hn1 : 0 < n := HF.out.n1
        obtain ⟨gr, gc, hge, _, _⟩ := hM0.gr.form hn1
        cases hge
        obtain ⟨y0, y1, y2, y3, y4, y5, y6, y7, y8, y9, y10⟩ := nvc_read hM0.nb
        have hur : wr.heap[w.heap.size + 1]? = some (.cells (nvc 0 0 0 0 0 0 0 0 (.slice none 0 0) (.slice none 0 0) (.slice none 0 0)) 78 (0, 0)) := (hM0.below.block _ (by have := HBB.out; omega)).trans HY1.out
        obtain ⟨t0, t1, t2, t3, t4, t5, t6, t7, t8, t9, t10⟩ := nvc_read hur
        have HUR := Lib.hid hur
        have HM0 := Lib.hid hM0
        have HBW := Lib.hid hbw
        have g0 := frozen_of_row wr _ 0 _ _ hur
        have g1 := frozen_of_row wr _ 1 _ _ hur
        have g2 := frozen_of_row wr _ 2 _ _ hur
        have g3 := frozen_of_row wr _ 3 _ _ hur
        have g4 := frozen_of_row wr _ 4 _ _ hur
        have g5 := frozen_of_row wr _ 5 _ _ hur
        have g6 := frozen_of_row wr _ 6 _ _ hur
        have g7 := frozen_of_row wr _ 7 _ _ hur
        have g8 := frozen_of_row wr _ 8 _ _ hur
        have g9 := frozen_of_row wr _ 9 _ _ hur
        have g10 := frozen_of_row wr _ 10 _ _ hur
        clear hM0 hur hbw
        go_wp2_with fail
        have hF1 := nvset_at (v := v) (T := T) (S := S) (k := k) (r := r) (n := n) (h := q3) (cp := q4) (gv := .slice (some ⟨b, off, none⟩) n c) (rv := .slice (some ⟨gr, 0, none⟩) n gC) (ov := .slice (some ⟨ob, 0, none⟩) v v) HUR.out
        have hF2 : ∀ x, x ≠ w.heap.size + 1 → (nvset wr (w.heap.size + 1) v T S k r n q3 q4 (.slice (some ⟨b, off, none⟩) n c) (.slice (some ⟨gr, 0, none⟩) n gC) (.slice (some ⟨ob, 0, none⟩) v v)).heap[x]? = wr.heap[x]? := fun x hx => nvset_far hx
        have hF3 : Below w.heap.size w (nvset wr (w.heap.size + 1) v T S k r n q3 q4 (.slice (some ⟨b, off, none⟩) n c) (.slice (some ⟨gr, 0, none⟩) n gC) (.slice (some ⟨ob, 0, none⟩) v v)) := nvset_below HBW.out (by omega)
        unfold nvset at hF1 hF2 hF3
        obtain ⟨p0, p1, p2, p3, p4, p5, p6, p7, p8, p9, p10⟩ := nvc_read hF1
        have hkeep : ∀ {base size m : Nat} {u : Value} {zs : List Value} {e : TypeId}, e ≠ 78 → wr.ownsRow base e size u m zs → _ := fun {base size m u zs e} hne h => own_same (w' := _) h (fun g hg => hF2 g (fun e' => by
          subst e'
          obtain ⟨cur, hc⟩ := own_at h hg
          rw [HUR.out] at hc
          injection hc with hc
          injection hc with _ hc
          exact hne hc.symm))
        refine bodyPost_ret (v := .tuple #[.agg (nvc v T S k r n q3 q4 (.slice (some ⟨b, off, none⟩) n c) (.slice (some ⟨gr, 0, none⟩) n gC) (.slice (some ⟨ob, 0, none⟩) v v)), .bool true]) (by simp [results, Try.results35, go_sem, p0, p1, p2, p3, p4, p5, p6, p7, p8, p9, p10, nvc]) rfl ⟨gr, gC, ob, rfl, ?_, hF3⟩
        exact gm_rows (hkeep (by decide) HM0.out.gr) (fun a ha => by
          have := HM0.out.fam.own (v + a) (by omega)
          rw [HM0.out.old a ha, ils_length] at this
          exact hkeep (by decide) this) (by omega)
end Go.Proofs.Ytlimlmfgeaokhaa
