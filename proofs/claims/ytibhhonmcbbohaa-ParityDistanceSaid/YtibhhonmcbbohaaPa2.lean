/- The walks of the reference's Xor and Scale; of parity.Encode. -/
import Derived.Test.YtibhhonmcbbohaaPa1
namespace Go.Proofs.Ytibhhonmcbbohaa
open Go.RowKit

def xoz (f g : Nat → Nat) (i : Nat) (j : Nat) : Nat := if j < i then f j ^^^ g j else f j
theorem three_new {w : World} {f g : Nat → Nat} {t : TypeId} : RB (((w.alloc (.cells (brow 8 f) t)).alloc (.cells (brow 8 g) t)).alloc (.cells (brow 8 fun _ => 0) t)) w.heap.size 8 t f ∧
    RB (((w.alloc (.cells (brow 8 f) t)).alloc (.cells (brow 8 g) t)).alloc (.cells (brow 8 fun _ => 0) t)) (w.heap.size + 1) 8 t g ∧
    RB (((w.alloc (.cells (brow 8 f) t)).alloc (.cells (brow 8 g) t)).alloc (.cells (brow 8 fun _ => 0) t)) (w.heap.size + 1 + 1) 8 t (fun _ => 0) ∧
    Below w.heap.size w (((w.alloc (.cells (brow 8 f) t)).alloc (.cells (brow 8 g) t)).alloc (.cells (brow 8 fun _ => 0) t)) := by
  refine ⟨(RB.new.alloc _).alloc _, ?_, ?_, ((Go.Joins.below_alloc1 _ _).alloc (by simp) _).alloc (by simp; omega) _⟩
  · have := (RB.new (w := w.alloc (.cells (brow 8 f) t)) (n := 8) (t := t) (f := g)).alloc (.cells (brow 8 fun _ => 0) t)
    simpa using this
  · have := RB.new (w := (w.alloc (.cells (brow 8 f) t)).alloc (.cells (brow 8 g) t)) (n := 8) (t := t) (f := fun _ => 0)
    simpa using this
theorem two_newB {w : World} {f : Nat → Nat} {t : TypeId} : RB ((w.alloc (.cells (brow 8 f) t)).alloc (.cells (brow 8 fun _ => 0) t)) w.heap.size 8 t f ∧
    RB ((w.alloc (.cells (brow 8 f) t)).alloc (.cells (brow 8 fun _ => 0) t)) (w.heap.size + 1) 8 t (fun _ => 0) ∧
    Below w.heap.size w ((w.alloc (.cells (brow 8 f) t)).alloc (.cells (brow 8 fun _ => 0) t)) := by
  refine ⟨RB.new.alloc _, ?_, (Go.Joins.below_alloc1 _ _).alloc (by simp) _⟩
  have := RB.new (w := w.alloc (.cells (brow 8 f) t)) (n := 8) (t := t) (f := fun _ => 0)
  simpa using this
set_option maxRecDepth 100000 in
theorem rxor_any (f g : Nat → Nat) (w : World) (hf : ∀ j, f j < 256) (hg : ∀ j, g j < 256) :
    Calls Try.prog 19 #[.agg (brow 8 f), .agg (brow 8 g)] w fun e w' => e = .returned (.agg (brow 8 fun j => f j ^^^ g j)) ∧ Below w.heap.size w w' := by
  go_enter Try.func19, Try.ntmps19
  go_wp2_with fail
  go_loopw [5] (fun vi wr => ∃ i : Nat, i ≤ 8 ∧ vi = .int .i64 i ∧ RB wr w.heap.size 8 37 (xoz f g i) ∧ RB wr (w.heap.size + 1) 8 37 g ∧ RB wr (w.heap.size + 1 + 1) 8 37 (fun _ => 0) ∧ Below w.heap.size w wr) (fun vi _ => 8 - (intOf vi).toNat)
  case atStart =>
    obtain ⟨h0, h1, h2, h3⟩ := three_new (w := w) (f := f) (g := g) (t := 37)
    exact ⟨0, by omega, rfl, h0.congr (fun j _ => by simp [xoz]), h1, h2, h3⟩
  case round =>
    obtain ⟨i, hi, rfl, ha, hb, hd, hB⟩ := hrel
    have HA := Lib.hid ha
    have HB := Lib.hid hb
    have HD := Lib.hid hd
    have HW := Lib.hid hB
    clear ha hb hd hB
    by_cases hlt : i < 8
    · have ca : wr.cell? ⟨w.heap.size, i, none⟩ = some (.int .u8 (f i : Nat)) := by
        have := HA.out.cell i hlt
        simpa [xoz] using this
      have cb := HB.out.cell i hlt
      have fa := HA.out.frozen i
      obtain ⟨x, hX⟩ : ∃ x, x = f i := ⟨_, rfl⟩
      obtain ⟨y, hY⟩ : ∃ y, y = g i := ⟨_, rfl⟩
      have hx : x < 256 := by rw [hX]; exact hf i
      have hy : y < 256 := by rw [hY]; exact hg i
      rw [← hX] at ca
      rw [← hY] at cb
      have HX := Lib.hid hX
      have HY := Lib.hid hY
      clear hX hY
      go_wp2
      go_still_tail 8, (by kernel_rfl)
      change wpList _ _ _ _ _ wr.drew
      obtain ⟨w2, hw2⟩ : ∃ w2, w2 = wr.drew := ⟨_, rfl⟩
      rw [← hw2]
      have HA2 := Lib.hid (show RB w2 w.heap.size 8 37 (xoz f g i) by rw [hw2]; exact HA.out)
      have HB2 := Lib.hid (show RB w2 (w.heap.size + 1) 8 37 g by rw [hw2]; exact HB.out)
      have HD2 := Lib.hid (show RB w2 (w.heap.size + 1 + 1) 8 37 (fun _ => 0) by rw [hw2]; exact HD.out)
      have HW2 := Lib.hid (show Below w.heap.size w w2 by rw [hw2]; exact HW.out.drew)
      have ca2 : w2.cell? ⟨w.heap.size, i, none⟩ = some (.int .u8 (x : Nat)) := by rw [hw2]; exact ca
      have fa2 : w2.frozen? ⟨w.heap.size, i, none⟩ = false := by rw [hw2]; exact fa
      clear ca cb fa hw2 HA HB HD HW
      go_wp2
      go_roundw
      case rel =>
        refine ⟨i + 1, by omega, by go_num, ?_, HB2.out.far _ (by omega), HD2.out.far _ (by omega), HW2.out.setCell (Nat.le_refl _) _⟩
        rw [u8_xor_nat x y hx hy]
        refine HA2.out.set (by simp [xoz, HX.out, HY.out]) (fun j _ e => ?_)
        unfold xoz
        by_cases h1 : j < i
        · rw [if_pos h1, if_pos (by omega)]
        · rw [if_neg h1, if_neg (by omega)]
      case measure => simp [intOf]; omega
    · obtain rfl : i = 8 := by omega
      have HA8 := Lib.hid (HA.out.congr (f' := fun j => f j ^^^ g j) (fun j hj => by simp [xoz, hj]))
      clear HA
      obtain ⟨c0, c1, c2, c3, c4, c5, c6, c7⟩ := cells8 HA8.out
      obtain ⟨d0, d1, d2, d3, d4, d5, d6, d7⟩ := cells8 HD.out
      have fd := HD.out.frozen
      have hz : w.heap.size ≤ w.heap.size + 1 + 1 := by omega
      go_wp2
      refine bodyPost_ret (v := .agg (brow 8 fun j => f j ^^^ g j)) (by simp [results, Try.results19, go_sem, brow8, d0, d1, d2, d3, d4, d5, d6, d7]) rfl ⟨rfl, ?_⟩
      exact (((((((HW.out.setCell hz _).setCell hz _).setCell hz _).setCell hz _).setCell hz _).setCell hz _).setCell hz _).setCell hz _

def scz (f : Nat → Nat) (c i : Nat) (j : Nat) : Nat := if j < i then Gf.mul c (f j) else f j
set_option maxRecDepth 100000 in
theorem rscale_any (f : Nat → Nat) (c : Nat) (w : World) (hc : c < 256) (hf : ∀ j, f j < 256) :
    Calls Try.prog 20 #[.int .u8 c, .agg (brow 8 f)] w fun e w' => e = .returned (.agg (brow 8 fun j => Gf.mul c (f j))) ∧ Below w.heap.size w w' := by
  go_enter Try.func20, Try.ntmps20
  go_wp2_with fail
  go_loopw [5] (fun vi wr => ∃ i : Nat, i ≤ 8 ∧ vi = .int .i64 i ∧ RB wr w.heap.size 8 37 (scz f c i) ∧ RB wr (w.heap.size + 1) 8 37 (fun _ => 0) ∧ Below w.heap.size w wr) (fun vi _ => 8 - (intOf vi).toNat)
  case atStart =>
    obtain ⟨h0, h1, h3⟩ := two_newB (w := w) (f := f) (t := 37)
    exact ⟨0, by omega, rfl, h0.congr (fun j _ => by simp [scz]), h1, h3⟩
  case round =>
    obtain ⟨i, hi, rfl, ha, hd, hB⟩ := hrel
    have HA := Lib.hid ha
    have HD := Lib.hid hd
    have HW := Lib.hid hB
    clear ha hd hB
    by_cases hlt : i < 8
    · have ca : wr.cell? ⟨w.heap.size, i, none⟩ = some (.int .u8 (f i : Nat)) := by
        have := HA.out.cell i hlt
        simpa [scz] using this
      have fa := HA.out.frozen i
      obtain ⟨x, hX⟩ : ∃ x, x = f i := ⟨_, rfl⟩
      have hx : x < 256 := by rw [hX]; exact hf i
      rw [← hX] at ca
      have HX := Lib.hid hX
      clear hX
      have HM := Lib.hid (fun W => rmul_any c x hc hx W)
      go_wp2_with (go_at_call 24; (with_reducible refine (HM.out _).mono ?_); rintro e w' ⟨rfl, rfl⟩)
      go_roundw
      case rel =>
        refine ⟨i + 1, by omega, by go_num, ?_, HD.out.far _ (by omega), HW.out.setCell (Nat.le_refl _) _⟩
        refine HA.out.set (by simp [scz, HX.out]) (fun j _ e => ?_)
        unfold scz
        by_cases h1 : j < i
        · rw [if_pos h1, if_pos (by omega)]
        · rw [if_neg h1, if_neg (by omega)]
      case measure => simp [intOf]; omega
    · obtain rfl : i = 8 := by omega
      have HA8 := Lib.hid (HA.out.congr (f' := fun j => Gf.mul c (f j)) (fun j hj => by simp [scz, hj]))
      clear HA
      obtain ⟨c0, c1, c2, c3, c4, c5, c6, c7⟩ := cells8 HA8.out
      obtain ⟨d0, d1, d2, d3, d4, d5, d6, d7⟩ := cells8 HD.out
      have fd := HD.out.frozen
      have hz : w.heap.size ≤ w.heap.size + 1 := by omega
      go_wp2
      refine bodyPost_ret (v := .agg (brow 8 fun j => Gf.mul c (f j))) (by simp [results, Try.results20, go_sem, brow8, d0, d1, d2, d3, d4, d5, d6, d7]) rfl ⟨rfl, ?_⟩
      exact (((((((HW.out.setCell hz _).setCell hz _).setCell hz _).setCell hz _).setCell hz _).setCell hz _).setCell hz _).setCell hz _
end Go.Proofs.Ytibhhonmcbbohaa
