/- What the walk of parity.Encode wants of memory. The walk of parity.Encode. (Printed by wip/pa6gen.py.) The walks of slices.Equal at blocks and of parity.Check. parity.Check at other lengths; the reference's Same at unequal lengths; parity.Matrix. The walk of the reference's Parity. -/
import Derived.Test.YtlimlmfgeaokhaaMa
namespace Go.Proofs.Ytlimlmfgeaokhaa
open Go.RowKit Go.Shelf
attribute [local go_sem] Oper.semAt_some

theorem obj_own {β : Type} (B : Nat) (t : TypeId) (f : β → Array Value) : Own (fun s W => W.heap[B]? = some (.cells (f s) t (0, 0))) := fun s X Y row hs hg hrow =>
  (hg.block B (Array.getElem?_eq_some_iff.1 hs).1 (fun e' => by obtain ⟨o, ho, hc⟩ := hrow B e'.symm; rw [hs] at ho; cases ho; cases hc)).trans hs
/-- Horner's rule over the pieces that have come -/
def horn (F : Nat → Nat) (c : Nat) (pre : List Nat) : Nat → Nat := pre.foldl (fun h x k => F (x * 8 + k) ^^^ Gf.mul c (h k)) (fun _ => 0)
theorem horn_snoc (F : Nat → Nat) (c : Nat) (pre : List Nat) (x : Nat) : horn F c (pre ++ [x]) = fun k => F (x * 8 + k) ^^^ Gf.mul c (horn F c pre k) := by simp [horn]
/-- 24 bytes of which block j is h -/
def outc (o : Nat → Nat) (j : Nat) (h : Nat → Nat) (p : Nat) : Nat := if p / 8 = j then h (p % 8) else o p

theorem horn_lt {F : Nat → Nat} {c : Nat} (hF : ∀ j, F j < 256) (hc : c < 256) (pre : List Nat) (k : Nat) : horn F c pre k < 256 := by
  rcases List.eq_nil_or_concat pre with rfl | ⟨ys, x, rfl⟩
  · simp [horn]
  · rw [List.concat_eq_append, horn_snoc]
    exact Nat.xor_lt_two_pow (n := 8) (hF _) (Gf.mul_lt c _ hc)
theorem out8_0 {W : World} {g : Nat} {t : TypeId} {f H : Nat → Nat} (h : RB W g 24 t (outc f 0 H)) : W.cell? ⟨g, 0, none⟩ = some (.int .u8 (H 0 : Nat)) ∧ W.cell? ⟨g, 1, none⟩ = some (.int .u8 (H 1 : Nat)) ∧ W.cell? ⟨g, 2, none⟩ = some (.int .u8 (H 2 : Nat)) ∧ W.cell? ⟨g, 3, none⟩ = some (.int .u8 (H 3 : Nat)) ∧
    W.cell? ⟨g, 4, none⟩ = some (.int .u8 (H 4 : Nat)) ∧ W.cell? ⟨g, 5, none⟩ = some (.int .u8 (H 5 : Nat)) ∧ W.cell? ⟨g, 6, none⟩ = some (.int .u8 (H 6 : Nat)) ∧ W.cell? ⟨g, 7, none⟩ = some (.int .u8 (H 7 : Nat)) :=
  ⟨h.cell 0 (by omega), h.cell 1 (by omega), h.cell 2 (by omega), h.cell 3 (by omega), h.cell 4 (by omega), h.cell 5 (by omega), h.cell 6 (by omega), h.cell 7 (by omega)⟩
theorem keepc {W w1 : World} {a : Addr} {v : Value} (h : W.cell? a = some v) (hB : Below W.heap.size W w1) : w1.cell? a = some v := (hB.cell (World.block_lt_of_cell? W _ h)).trans h
theorem RB.upd {w : World} {g n i v : Nat} {t : TypeId} {f : Nat → Nat} (h : RB w g n t f) : RB (w.setCell ⟨g, i, none⟩ (.int .u8 (v : Nat))) g n t (fun j => if j = i then v else f j) :=
  h.set (by simp) (fun j _ e => by rw [if_neg e])
/-- the eight cells of one block -/
def set8 (w : World) (g p : Nat) (h : Nat → Nat) : World := (((((((w.setCell ⟨g, p, none⟩ (.int .u8 (h 0 : Nat))).setCell ⟨g, p + 1, none⟩ (.int .u8 (h 1 : Nat))).setCell ⟨g, p + 2, none⟩ (.int .u8 (h 2 : Nat))).setCell ⟨g, p + 3, none⟩ (.int .u8 (h 3 : Nat))).setCell ⟨g, p + 4, none⟩ (.int .u8 (h 4 : Nat))).setCell ⟨g, p + 5, none⟩ (.int .u8 (h 5 : Nat))).setCell ⟨g, p + 6, none⟩ (.int .u8 (h 6 : Nat))).setCell ⟨g, p + 7, none⟩ (.int .u8 (h 7 : Nat))
theorem set8_rb {w : World} {g j : Nat} {t : TypeId} {f H h : Nat → Nat} (hr : RB w g 24 t (outc f j H)) : RB (set8 w g (j * 8) h) g 24 t (outc f j h) := by
  refine RB.congr (RB.upd (RB.upd (RB.upd (RB.upd (RB.upd (RB.upd (RB.upd (RB.upd hr)))))))) (fun q hq => ?_)
  unfold outc
  by_cases e : q / 8 = j
  · obtain ⟨m, hm, rfl⟩ : ∃ m, m < 8 ∧ q = j * 8 + m := ⟨q % 8, by omega, by omega⟩
    have e1 : (j * 8 + m) / 8 = j := by omega
    have e2 : (j * 8 + m) % 8 = m := by omega
    rw [if_pos e1, e2]
    obtain rfl | rfl | rfl | rfl | rfl | rfl | rfl | rfl : m = 0 ∨ m = 1 ∨ m = 2 ∨ m = 3 ∨ m = 4 ∨ m = 5 ∨ m = 6 ∨ m = 7 := by omega
    all_goals (simp <;> (try (intro hh; exact absurd e1 hh)))
  · rw [if_neg e, if_neg e]
    rw [if_neg (by omega), if_neg (by omega), if_neg (by omega), if_neg (by omega), if_neg (by omega), if_neg (by omega), if_neg (by omega), if_neg (by omega)]
theorem set8_far {w : World} {g p g' n : Nat} {t : TypeId} {f h : Nat → Nat} (hr : RB w g' n t f) (hne : g ≠ g') : RB (set8 w g p h) g' n t f :=
  (((((((hr.far _ hne).far _ hne).far _ hne).far _ hne).far _ hne).far _ hne).far _ hne).far _ hne
theorem box_far {w : World} {g p g' : Nat} {t : TypeId} {v u : Value} (hr : Boxed w g' t v) (hne : g' ≠ g) : Boxed (w.setCell ⟨g, p, none⟩ u) g' t v := (Below.heap_setCell w ⟨g, p, none⟩ u g' hne).trans hr
theorem set8_box {w : World} {g p g' : Nat} {t : TypeId} {v : Value} {h : Nat → Nat} (hr : Boxed w g' t v) (hne : g' ≠ g) : Boxed (set8 w g p h) g' t v :=
  box_far (box_far (box_far (box_far (box_far (box_far (box_far (box_far hr hne) hne) hne) hne) hne) hne) hne) hne
theorem set8_below {w0 w : World} {n g p : Nat} {h : Nat → Nat} (hB : Below n w0 w) (hg : n ≤ g) : Below n w0 (set8 w g p h) :=
  (((((((hB.setCell hg _).setCell hg _).setCell hg _).setCell hg _).setCell hg _).setCell hg _).setCell hg _).setCell hg _
theorem keeps_below {W W' : World} (h : Below W.heap.size W W') : KeepsOthers W W' := ⟨h.size, fun k _ hk _ => (h.block k (Array.getElem?_eq_some_iff.1 hk).1).trans hk⟩
theorem keeps_set8 {W : World} {g p : Nat} {h : Nat → Nat} : KeepsOthers W (set8 W g p h) :=
  (((((((KeepsOthers.setCell _ _ _).trans (KeepsOthers.setCell _ _ _)).trans (KeepsOthers.setCell _ _ _)).trans (KeepsOthers.setCell _ _ _)).trans (KeepsOthers.setCell _ _ _)).trans (KeepsOthers.setCell _ _ _)).trans (KeepsOthers.setCell _ _ _)).trans (KeepsOthers.setCell _ _ _)
/-- what one round of Encode's inner loop leaves -/
theorem round_end {w W w3 : World} {B b off n c j Bs Bj : Nat} {o H h2 hn : Nat → Nat} {v vj : Value} {tj : TypeId} (hB3 : Below W.drew.heap.size W.drew w3) (hW : Below w.heap.size w W) (hS : Boxed W Bs 22 (.slice (some ⟨b, off, none⟩) n c))
    (bO3 : Boxed w3 (w.heap.size + 1) 22 v) (bJ3 : Boxed w3 Bj tj vj) (bS3 : Boxed w3 Bs 22 (.slice (some ⟨b, off, none⟩) n c))
    (hO3 : RB w3 w.heap.size 24 25 (outc o j H)) (hh : hn = h2) (hj : w.heap.size < Bj := by omega) (hs : w.heap.size < Bs := by omega) :
    KeepsFrom B W (set8 w3 w.heap.size (j * 8) h2) ∧ KpB w.heap.size Bs W (set8 w3 w.heap.size (j * 8) h2) ∧
    (((set8 w3 w.heap.size (j * 8) h2).heap[w.heap.size]? = some (.cells (brow 24 (outc o j hn)) 25 (0, 0)) ∧ Boxed (set8 w3 w.heap.size (j * 8) h2) (w.heap.size + 1) 22 v) ∧ (Boxed (set8 w3 w.heap.size (j * 8) h2) Bj tj vj ∧ Boxed (set8 w3 w.heap.size (j * 8) h2) Bs 22 (.slice (some ⟨b, off, none⟩) n c))) ∧ Below w.heap.size w (set8 w3 w.heap.size (j * 8) h2) := by
  subst hh
  have h3 : Below W.heap.size W w3 := ((Below.refl W.heap.size W).drew).trans hB3
  have bS4 := set8_box (p := j * 8) (h := hn) bS3 (show Bs ≠ w.heap.size by omega)
  refine ⟨((keeps_below h3).trans keeps_set8).from _, ⟨set8_below (h3.mono hW.size) (Nat.le_refl _), bS4.trans (Eq.symm hS)⟩, ⟨⟨set8_rb hO3, set8_box bO3 (by omega)⟩, set8_box bJ3 (by omega), bS4⟩, set8_below (hW.trans (h3.mono hW.size)) (Nat.le_refl _)⟩
/-- the marks of loops that are over -/
def Marks (W : World) (ds : List Nat) : Prop := ∀ D ∈ ds, W.heap[D]? = some (.deferred (some []))
theorem Marks.lt {W : World} {ds : List Nat} (h : Marks W ds) : ∀ D ∈ ds, D < W.heap.size := fun D hD => (Array.getElem?_eq_some_iff.1 (h D hD)).1
theorem Marks.alloc {W : World} {ds : List Nat} (h : Marks W ds) (o : Obj) : Marks (W.alloc o) ds := fun D hD => (Below.heap_alloc W o D (h.lt D hD)).trans (h D hD)
theorem Marks.cons {W : World} {ds : List Nat} {D : Nat} (h : Marks W ds) (hK : W.heap[D]? = some (.deferred (some []))) : Marks W (D :: ds) := fun E hE => by
  rcases List.mem_cons.1 hE with rfl | hE
  · exact hK
  · exact h E hE
theorem marks_own {β : Type} {B : Nat} {ds : List Nat} (hB : ∀ D ∈ ds, D < B) : OwnFrom B (fun (_ : β) W => Marks W ds) := fun _ W _ row hs hg hr D hD =>
  (hg.block D (hs.lt D hD) (fun e => by have := (hr D e.symm).1; have := hB D hD; omega)).trans (hs D hD)
theorem marks_kept {W w3 : World} {ds : List Nat} {g p : Nat} {h : Nat → Nat} (hM : Marks W ds) (hB3 : Below W.drew.heap.size W.drew w3) : Marks (set8 w3 g p h) ds := fun D hD =>
  ((keeps_below (((Below.refl W.heap.size W).drew).trans hB3)).trans keeps_set8).same D _ (hM D hD) rfl
theorem outc_zero0 {F : Nat → Nat} {c : Nat} (p : Nat) (_ : p < 24) : (fun _ => 0) p = outc (fun _ => 0) 0 (horn F c []) p := by simp [outc, horn]
theorem outc_zero1 {F h : Nat → Nat} {c : Nat} (p : Nat) (_ : p < 24) : outc (fun _ => 0) 0 h p = outc (outc (fun _ => 0) 0 h) 1 (horn F c []) p := by
  unfold outc horn
  by_cases e : p / 8 = 1
  · simp [e]
  · simp [e]
theorem outc_zero2 {F h h' : Nat → Nat} {c : Nat} (p : Nat) (_ : p < 24) : outc (outc (fun _ => 0) 0 h) 1 h' p = outc (outc (outc (fun _ => 0) 0 h) 1 h') 2 (horn F c []) p := by
  unfold outc horn
  by_cases e : p / 8 = 2
  · simp [e]
  · simp [e]
theorem out8_1 {W : World} {g : Nat} {t : TypeId} {f H : Nat → Nat} (h : RB W g 24 t (outc f 1 H)) : W.cell? ⟨g, 8, none⟩ = some (.int .u8 (H 0 : Nat)) ∧ W.cell? ⟨g, 9, none⟩ = some (.int .u8 (H 1 : Nat)) ∧ W.cell? ⟨g, 10, none⟩ = some (.int .u8 (H 2 : Nat)) ∧ W.cell? ⟨g, 11, none⟩ = some (.int .u8 (H 3 : Nat)) ∧
    W.cell? ⟨g, 12, none⟩ = some (.int .u8 (H 4 : Nat)) ∧ W.cell? ⟨g, 13, none⟩ = some (.int .u8 (H 5 : Nat)) ∧ W.cell? ⟨g, 14, none⟩ = some (.int .u8 (H 6 : Nat)) ∧ W.cell? ⟨g, 15, none⟩ = some (.int .u8 (H 7 : Nat)) :=
  ⟨h.cell 8 (by omega), h.cell 9 (by omega), h.cell 10 (by omega), h.cell 11 (by omega), h.cell 12 (by omega), h.cell 13 (by omega), h.cell 14 (by omega), h.cell 15 (by omega)⟩
theorem out8_2 {W : World} {g : Nat} {t : TypeId} {f H : Nat → Nat} (h : RB W g 24 t (outc f 2 H)) : W.cell? ⟨g, 16, none⟩ = some (.int .u8 (H 0 : Nat)) ∧ W.cell? ⟨g, 17, none⟩ = some (.int .u8 (H 1 : Nat)) ∧ W.cell? ⟨g, 18, none⟩ = some (.int .u8 (H 2 : Nat)) ∧ W.cell? ⟨g, 19, none⟩ = some (.int .u8 (H 3 : Nat)) ∧
    W.cell? ⟨g, 20, none⟩ = some (.int .u8 (H 4 : Nat)) ∧ W.cell? ⟨g, 21, none⟩ = some (.int .u8 (H 5 : Nat)) ∧ W.cell? ⟨g, 22, none⟩ = some (.int .u8 (H 6 : Nat)) ∧ W.cell? ⟨g, 23, none⟩ = some (.int .u8 (H 7 : Nat)) :=
  ⟨h.cell 16 (by omega), h.cell 17 (by omega), h.cell 18 (by omega), h.cell 19 (by omega), h.cell 20 (by omega), h.cell 21 (by omega), h.cell 22 (by omega), h.cell 23 (by omega)⟩
/-- the three parity blocks, flat -/
def enc3 (F : Nat → Nat) (n : Nat) : Nat → Nat := outc (outc (outc (fun _ => 0) 0 (horn F (Gf.ex 0) (upto (bwd n) n))) 1 (horn F (Gf.ex 1) (upto (bwd n) n))) 2 (horn F (Gf.ex 2) (upto (bwd n) n))
end Go.Proofs.Ytlimlmfgeaokhaa
namespace Go.Proofs.Ytlimlmfgeaokhaa
open Go.RowKit Go.Shelf
attribute [local go_sem] Oper.semAt_some

set_option linter.unusedSimpArgs false in
set_option maxRecDepth 100000 in
set_option maxHeartbeats 4000000 in
theorem encode_in (F : Nat → Nat) (b off n c : Nat) (w : World) (h1 : 1 ≤ n) (h2 : n ≤ 13) (hF : ∀ j, F j < 256) (hI : ∀ j : Nat, j < n * 8 → w.cell? ⟨b, off + j, none⟩ = some (.int .u8 (F j : Nat))) :
    CallsIn Fence.wide 6 Try.prog 6 #[.slice (some ⟨b, off, none⟩) n c] w fun e w' => e = .returned (.tuple #[.slice (some ⟨w.heap.size, 0, none⟩) 3 3, .int .i64 0]) ∧ RB w' w.heap.size 24 25 (enc3 F n) ∧ Below w.heap.size w w' := by
  have hmk := run_make_3
  have hbw : b < w.heap.size := World.block_lt_of_cell? w ⟨b, off + 0, none⟩ (hI 0 (by omega))
  have HI := Lib.hid hI
  clear hI
  refine callsIn_of_wp_marks Try.func6 rfl trivial ?_ rfl
  simp only [Try.ntmps6, List.size_toArray, List.length_cons, List.length_nil, Nat.reduceAdd, Nat.reduceSub, Array.replicate_succ, Array.replicate_zero, List.push_toArray, List.append_toArray, List.nil_append, List.cons_append]
  gi_wp2
  obtain ⟨V0, hV0⟩ : ∃ V0, V0 = (w.alloc (.cells (brow 24 fun _ => 0) 25)).alloc (.cells #[.slice (some ⟨w.heap.size, 0, none⟩) 3 3] 22) := ⟨_, rfl⟩
  have HR0 := Lib.hid (show RB V0 w.heap.size 24 25 (fun _ => 0) by rw [hV0]; exact RB.new.alloc _)
  have HBO0 := Lib.hid (show Boxed V0 (w.heap.size + 1) 22 (.slice (some ⟨w.heap.size, 0, none⟩) 3 3) by
    rw [hV0]
    have := Boxed.new (w.alloc (.cells (brow 24 fun _ => 0) 25)) 22 (.slice (some ⟨w.heap.size, 0, none⟩) 3 3)
    simpa using this)
  have HB0 := Lib.hid (show Below w.heap.size w V0 by rw [hV0]; exact ((Below.refl _ w).alloc (Nat.le_refl _) _).alloc (by simp) _)
  have HM0 := Lib.hid (show Marks V0 [] from fun D hD => by cases hD)
  have hz0 : w.heap.size + 1 < V0.heap.size := HBO0.out.lt
  rw [← hV0]
  clear hV0
  refine wpIn_loop_rounds 4 ?_
  rw [roundsIn_succ]
  gi_wp2_with (refine ⟨trivial, ?_⟩; gi_at_call 23; refine (callsIn_wide.2 (backward_any _ _ _ _)).mono ?_; rintro e w' ⟨rfl, rfl⟩)
  obtain ⟨U0, hU0⟩ : ∃ U0, U0 = (V0.alloc (.cells #[.int .i64 0] 3)).alloc (.cells #[.slice (some ⟨b, off, none⟩) n c] 22) := ⟨_, rfl⟩
  have hO : RB U0 w.heap.size 24 25 (fun _ => 0) := by rw [hU0]; exact (HR0.out.alloc _).alloc _
  have bO : Boxed U0 (w.heap.size + 1) 22 (.slice (some ⟨w.heap.size, 0, none⟩) 3 3) := by rw [hU0]; exact (HBO0.out.alloc _).alloc _
  have bJ : Boxed U0 V0.heap.size 3 (.int .i64 0) := by rw [hU0]; exact (Boxed.new _ _ _).alloc _
  have bS : Boxed U0 (V0.heap.size + 1) 22 (.slice (some ⟨b, off, none⟩) n c) := by
    rw [hU0]
    have := Boxed.new (V0.alloc (.cells #[.int .i64 0] 3)) 22 (.slice (some ⟨b, off, none⟩) n c)
    simpa using this
  have hB : Below w.heap.size w U0 := by rw [hU0]; exact (HB0.out.alloc HB0.out.size _).alloc (by have := HB0.out.size; simp; omega) _
  have hM : Marks U0 [] := by rw [hU0]; exact (HM0.out.alloc _).alloc _
  have hsz : U0.heap.size = V0.heap.size + 2 := by rw [hU0]; simp
  have hml0 := hM.lt
  rw [← hU0]
  clear hU0
  refine wpIn_rangeFunc_ownH rfl (by omega) (gf := 44) (lb := #[.pointer (some ⟨V0.heap.size + 1, 0, none⟩)]) rfl trivial (enters_of Try.func44 (by kernel_rfl) rfl)
    (back_stops Fence.wide 5 trivial rfl (by omega) (V0.heap.size + 1) w.heap.size b off n c F (by omega) U0 hbw (by omega) bS (fun j hj => (hB.cell (p := ⟨b, off + j, none⟩) hbw).trans (HI.out j hj))) KpB.trans (kpB_b (by omega) (by omega)) (Below.refl _ _) (fun _ => rfl)
    (fun pre W => (((W.heap[w.heap.size]? = some (.cells (brow 24 (outc (fun _ => 0) 0 (horn F (Gf.ex 0) pre))) 25 (0, 0)) ∧ Boxed W (w.heap.size + 1) 22 (.slice (some ⟨w.heap.size, 0, none⟩) 3 3)) ∧ (Boxed W V0.heap.size 3 (.int .i64 0) ∧ Boxed W (V0.heap.size + 1) 22 (.slice (some ⟨b, off, none⟩) n c))) ∧ Below w.heap.size w W) ∧ Marks W [])
    (fun _ _ _ => False)
    (OwnFrom.and (OwnFrom.and (OwnFrom.and (OwnFrom.and (Own.from (obj_own _ _ _) _) (Own.from (boxed_own _ _ _) _)) (OwnFrom.and (Own.from (boxed_own _ _ _) _) (Own.from (boxed_own _ _ _) _))) (ownFrom_below (Nat.le_refl _) (by omega))) (marks_own hml0))
    (fun _ _ _ _ _ hs _ _ => hs)
    ⟨⟨⟨⟨RB.congr hO (fun p hp => outc_zero0 p hp), bO⟩, bJ, bS⟩, hB⟩, hM⟩
    (fun x a' W => ∃ Bx, V0.heap.size + 1 < Bx ∧ W.heap[Bx]? = some (.cells (bkAt F x) 25 (0, 0)) ∧ a' = { tmps := #[.slice (some ⟨b, off, none⟩) n c, undef, .slice none 0 0, .int .i64 0, .pointer (some ⟨w.heap.size + 1, 0, none⟩), .pointer (some ⟨V0.heap.size, 0, none⟩), undef, .pointer (some ⟨Bx, 0, none⟩), .slice (some ⟨b, off, none⟩) n c, .int .i64 n, .bool (decide ((n : Int) < 1)), .bool (decide ((n : Int) < 1)), .slice (some ⟨b, off, none⟩) n c, .int .i64 n, .bool (decide (13 < (n : Int))), .bool (decide ((n : Int) < 1) || decide (13 < (n : Int))), .slice (some ⟨w.heap.size, 0, none⟩) 3 3, .slice (some ⟨w.heap.size, 0, none⟩) 3 3, .int .i64 3, .int .i64 0, .bool true, .int .i64 0, .slice (some ⟨b, off, none⟩) n c, .func (.func 44) #[] #[.pointer (some ⟨V0.heap.size + 1, 0, none⟩)], .int .i64 (x : Nat), .agg (bkAt F x), undef, undef, undef, undef, undef, undef, undef, undef, undef, undef, undef, undef, undef], defers := [] })
    (fun x a' _ X Y row hs hg hr => by obtain ⟨Bx, h1, h2, h3⟩ := hs; exact ⟨Bx, h1, obj_own Bx 25 (fun (_ : Unit) => bkAt F x) () X Y row h2 hg (fun r e => (hr r e).2), h3⟩)
    ?assign0 ?body0 ?done0 ?stop0
  case stop0 =>
    rintro D c pre W hD _ h _
    exact h.elim
  case assign0 =>
    rintro l pre x W K ⟨⟨⟨⟨hO1, bO1⟩, bJ1, bS1⟩, hB1⟩, hM1⟩ hK
    unfold bkAt
    gi_wp2
    exact hK _ _ ((KeepsOthers.alloc _ _).from _) ⟨(Below.refl _ W).alloc hB1.size _, Below.heap_alloc W _ _ bS1.lt⟩ ⟨⟨⟨⟨RB.alloc hO1 _, bO1.alloc _⟩, bJ1.alloc _, bS1.alloc _⟩, hB1.alloc hB1.size _⟩, hM1.alloc _⟩ ⟨W.heap.size, bS1.lt, heap_alloc_new W _, rfl⟩
  case body0 =>
    rintro l pre x a' W hl ⟨r, hr⟩ ⟨⟨⟨⟨hO1, bO1⟩, bJ1, bS1⟩, hB1⟩, hM1⟩ ⟨Bx, hBx, bX, rfl⟩ hlt
    obtain ⟨H, hH⟩ : ∃ H, H = horn F (Gf.ex 0) pre := ⟨_, rfl⟩
    have hHb : ∀ k, H k < 256 := by rw [hH]; exact horn_lt hF (Gf.ex_lt 0) pre
    rw [← hH] at hO1
    have HH := Lib.hid hH
    clear hH
    have cO := bO1.cell
    have cJ := bJ1.cell
    obtain ⟨x0, x1, x2, x3, x4, x5, x6, x7⟩ := cells8 (show RB W Bx 8 25 (fun k => F (x * 8 + k)) from bX)
    obtain ⟨o0, o1, o2, o3, o4, o5, o6, o7⟩ := out8_0 (f := (fun _ => 0)) (H := H) hO1
    have fO := RB.frozen (show RB W w.heap.size 24 25 _ from hO1)
    obtain ⟨h2, hh2⟩ : ∃ h2, h2 = fus (fun k => F (x * 8 + k)) H (Gf.ex 0) := ⟨_, rfl⟩
    have HFu := Lib.hid (fun W => fusedB_any (fun k => F (x * 8 + k)) H (Gf.ex 0) W (Gf.ex_lt 0) (fun k => hF _) hHb)
    rw [← hh2] at HFu
    have HH2 := Lib.hid hh2
    clear hh2 hHb
    simp only [brow8 H, brow8 h2, ← bkAt_eq] at HFu
    have HEx := Lib.hid (fun W => exp_any 0 W)
    rw [show expo 0 = 0 by decide] at HEx
    have HX1 := Lib.hid (show RB W Bx 8 25 (fun k => F (x * 8 + k)) from bX)
    have HO1 := Lib.hid (show RB W w.heap.size 24 25 (outc (fun _ => 0) 0 H) from hO1)
    have HBO := Lib.hid bO1
    have HBJ := Lib.hid bJ1
    have HBS := Lib.hid bS1
    have HW1 := Lib.hid hB1
    have HM1 := Lib.hid hM1
    clear bX hO1 bO1 bJ1 bS1 hB1 hM1
    unfold bkAt
    gi_wp2
    refine region_round (S := fun w' => w'.cell? ⟨w.heap.size + 1, 0, none⟩ = some (.slice (some ⟨w.heap.size, 0, none⟩) 3 3) ∧ w'.cell? ⟨V0.heap.size, 0, none⟩ = some (.int .i64 0) ∧ RB w' Bx 8 25 (fun k => F (x * 8 + k))) (by kernel_rfl) (fun ⟨_, _, h⟩ => h) (nodef (by kernel_rfl)) ?_
    have hS : (fun w' : World => w'.cell? ⟨w.heap.size + 1, 0, none⟩ = some (.slice (some ⟨w.heap.size, 0, none⟩) 3 3) ∧ w'.cell? ⟨V0.heap.size, 0, none⟩ = some (.int .i64 0) ∧ RB w' Bx 8 25 (fun k => F (x * 8 + k))) W.drew := ⟨cO, cJ, HX1.out⟩
    refine wpAnyH_take (i := 0) (v := .slice (some ⟨w.heap.size, 0, none⟩) 3 3) rfl (by kernel_rfl) (by kernel_rfl) (by kernel_rfl) (fun _ _ _ h => h) (Or.inl ⟨by rfl, ?_⟩) hS ?_
    · rintro w ⟨q0, q1, q2⟩
      go_simp
    try simp only [Act.put, List.setIfInBounds_toArray, List.set_cons_zero, List.set_cons_succ]
    refine wpAnyH_take (i := 1) (v := .int .i64 0) rfl (by kernel_rfl) (by kernel_rfl) (by kernel_rfl) (fun _ _ _ h => h) (Or.inl ⟨by rfl, ?_⟩) hS ?_
    · rintro w ⟨q0, q1, q2⟩
      go_simp
    try simp only [Act.put, List.setIfInBounds_toArray, List.set_cons_zero, List.set_cons_succ]
    refine wpAnyH_take (i := 2) (v := .agg (bkAt F x)) rfl (by kernel_rfl) (by kernel_rfl) (by kernel_rfl) (fun _ _ _ h => h) (Or.inl ⟨by rfl, ?_⟩) hS ?_
    · rintro w ⟨q0, q1, q2⟩
      obtain ⟨x0, x1, x2, x3, x4, x5, x6, x7⟩ := cells8 q2
      unfold bkAt
      go_simp
    try simp only [Act.put, List.setIfInBounds_toArray, List.set_cons_zero, List.set_cons_succ]
    refine wpAnyH_take (i := 3) (v := .slice (some ⟨w.heap.size, 0, none⟩) 3 3) rfl (by kernel_rfl) (by kernel_rfl) (by kernel_rfl) (fun _ _ _ h => h) (Or.inl ⟨by rfl, ?_⟩) hS ?_
    · rintro w ⟨q0, q1, q2⟩
      go_simp
    try simp only [Act.put, List.setIfInBounds_toArray, List.set_cons_zero, List.set_cons_succ]
    refine wpAnyH_take (i := 4) (v := .int .i64 0) rfl (by kernel_rfl) (by kernel_rfl) (by kernel_rfl) (fun _ _ _ h => h) (Or.inl ⟨by rfl, ?_⟩) hS ?_
    · rintro w ⟨q0, q1, q2⟩
      go_simp
    try simp only [Act.put, List.setIfInBounds_toArray, List.set_cons_zero, List.set_cons_succ]
    refine wpAnyH_take (i := 5) (v := .pointer (some ⟨w.heap.size, 0, none⟩)) rfl (by kernel_rfl) (by kernel_rfl) (by kernel_rfl) (fun _ _ _ h => h) (Or.inl ⟨by rfl, ?_⟩) hS ?_
    · rintro w ⟨q0, q1, q2⟩
      go_simp
    try simp only [Act.put, List.setIfInBounds_toArray, List.set_cons_zero, List.set_cons_succ]
    refine wpAnyH_take (i := 7) (v := .int .i64 0) rfl (by kernel_rfl) (by kernel_rfl) (by kernel_rfl) (fun _ _ _ h => h) (Or.inl ⟨by rfl, ?_⟩) hS ?_
    · rintro w ⟨q0, q1, q2⟩
      go_simp
    try simp only [Act.put, List.setIfInBounds_toArray, List.set_cons_zero, List.set_cons_succ]
    refine wpAnyH_ready (rs := [6, 8]) (by kernel_rfl) (by simp) ?_
    refine AllReadyH.cons rfl (fun K hK => ?_) (AllReadyH.cons rfl (fun K hK => ?_) AllReadyH.nil)
    · go_simp
      refine hK.out _ _ hS (fun _ => ?_)
      clear hK K
      try simp only [Act.put, List.setIfInBounds_toArray, List.set_cons_zero, List.set_cons_succ]
      refine wpAnyH_ready (rs := [8]) (by kernel_rfl) (by simp) ?_
      refine AllReadyH.cons rfl (fun K hK => ?_) AllReadyH.nil
      go_simp
      refine (HEx.out _).mono ?_
      rintro e w' ⟨rfl, rfl⟩
      refine hK.out _ _ hS (fun _ => ?_)
      clear hK K
      try simp only [Act.put, List.setIfInBounds_toArray, List.set_cons_zero, List.set_cons_succ]
      refine wpAnyH_ready (rs := [9]) (by kernel_rfl) (by simp) ?_
      refine AllReadyH.cons rfl (fun K hK => ?_) AllReadyH.nil
      go_simp
      refine (HFu.out _).mono ?_
      rintro e w3 ⟨rfl, hB3⟩
      have e0 := keepc (W := W.drew) cO hB3
      have e1 := keepc (W := W.drew) cJ hB3
      have HX3 := Lib.hid (RB.below (w := W.drew) HX1.out hB3)
      have HO3 := Lib.hid (RB.below (w := W.drew) HO1.out hB3)
      have HB3 := Lib.hid hB3
      clear hB3
      refine hK.out _ _ ⟨e0, e1, HX3.out⟩ (fun _ => ?_)
      clear hK K
      try simp only [Act.put, List.setIfInBounds_toArray, List.set_cons_zero, List.set_cons_succ]
      refine wpAnyH_ready (rs := [10]) (by kernel_rfl) (by simp) ?_
      refine AllReadyH.cons rfl (fun K hK => ?_) AllReadyH.nil
      go_simp
      refine hK.out _ _ ⟨e0, e1, HX3.out⟩ (fun _ => ?_)
      clear hK K
      try simp only [Act.put, List.setIfInBounds_toArray, List.set_cons_zero, List.set_cons_succ]
      obtain ⟨p0, p1, p2, p3, p4, p5, p6, p7⟩ := out8_0 HO3.out
      have g3 := RB.frozen HO3.out
      refine wpAnyH_ready (rs := [11]) (by kernel_rfl) (by simp) ?_
      refine AllReadyH.cons rfl (fun K hK => ?_) AllReadyH.nil
      go_simp
      have bO3 : Boxed w3 (w.heap.size + 1) 22 (.slice (some ⟨w.heap.size, 0, none⟩) 3 3) := (HB3.out.block _ HBO.out.lt).trans HBO.out
      have bJ3 : Boxed w3 V0.heap.size 3 (.int .i64 0) := (HB3.out.block _ HBJ.out.lt).trans HBJ.out
      have bS3 : Boxed w3 (V0.heap.size + 1) 22 (.slice (some ⟨b, off, none⟩) n c) := (HB3.out.block _ HBS.out.lt).trans HBS.out
      refine hK.out _ (set8 w3 w.heap.size (0 * 8) h2) ⟨(set8_box bO3 (by omega)).cell, (set8_box bJ3 (by omega)).cell, set8_far HX3.out (by omega)⟩ (fun _ => ?_)
      clear hK K
      refine wpAnyH_done (by kernel_rfl) ?_ _
      obtain ⟨f1, f2, f3⟩ := round_end (B := U0.heap.size) (h2 := h2) (hn := horn F (Gf.ex 0) (pre ++ [x])) HB3.out HW1.out HBS.out bO3 bJ3 bS3 HO3.out (by rw [horn_snoc, HH2.out, HH.out]; rfl)
      exact ⟨f1, f2, f3, marks_kept HM1.out HB3.out⟩
    · go_simp
      refine (HEx.out _).mono ?_
      rintro e w' ⟨rfl, rfl⟩
      refine hK.out _ _ hS (fun _ => ?_)
      clear hK K
      try simp only [Act.put, List.setIfInBounds_toArray, List.set_cons_zero, List.set_cons_succ]
      refine wpAnyH_ready (rs := [6]) (by kernel_rfl) (by simp) ?_
      refine AllReadyH.cons rfl (fun K hK => ?_) AllReadyH.nil
      go_simp
      refine hK.out _ _ hS (fun _ => ?_)
      clear hK K
      try simp only [Act.put, List.setIfInBounds_toArray, List.set_cons_zero, List.set_cons_succ]
      refine wpAnyH_ready (rs := [9]) (by kernel_rfl) (by simp) ?_
      refine AllReadyH.cons rfl (fun K hK => ?_) AllReadyH.nil
      go_simp
      refine (HFu.out _).mono ?_
      rintro e w3 ⟨rfl, hB3⟩
      have e0 := keepc (W := W.drew) cO hB3
      have e1 := keepc (W := W.drew) cJ hB3
      have HX3 := Lib.hid (RB.below (w := W.drew) HX1.out hB3)
      have HO3 := Lib.hid (RB.below (w := W.drew) HO1.out hB3)
      have HB3 := Lib.hid hB3
      clear hB3
      refine hK.out _ _ ⟨e0, e1, HX3.out⟩ (fun _ => ?_)
      clear hK K
      try simp only [Act.put, List.setIfInBounds_toArray, List.set_cons_zero, List.set_cons_succ]
      refine wpAnyH_ready (rs := [10]) (by kernel_rfl) (by simp) ?_
      refine AllReadyH.cons rfl (fun K hK => ?_) AllReadyH.nil
      go_simp
      refine hK.out _ _ ⟨e0, e1, HX3.out⟩ (fun _ => ?_)
      clear hK K
      try simp only [Act.put, List.setIfInBounds_toArray, List.set_cons_zero, List.set_cons_succ]
      obtain ⟨p0, p1, p2, p3, p4, p5, p6, p7⟩ := out8_0 HO3.out
      have g3 := RB.frozen HO3.out
      refine wpAnyH_ready (rs := [11]) (by kernel_rfl) (by simp) ?_
      refine AllReadyH.cons rfl (fun K hK => ?_) AllReadyH.nil
      go_simp
      have bO3 : Boxed w3 (w.heap.size + 1) 22 (.slice (some ⟨w.heap.size, 0, none⟩) 3 3) := (HB3.out.block _ HBO.out.lt).trans HBO.out
      have bJ3 : Boxed w3 V0.heap.size 3 (.int .i64 0) := (HB3.out.block _ HBJ.out.lt).trans HBJ.out
      have bS3 : Boxed w3 (V0.heap.size + 1) 22 (.slice (some ⟨b, off, none⟩) n c) := (HB3.out.block _ HBS.out.lt).trans HBS.out
      refine hK.out _ (set8 w3 w.heap.size (0 * 8) h2) ⟨(set8_box bO3 (by omega)).cell, (set8_box bJ3 (by omega)).cell, set8_far HX3.out (by omega)⟩ (fun _ => ?_)
      clear hK K
      refine wpAnyH_done (by kernel_rfl) ?_ _
      obtain ⟨f1, f2, f3⟩ := round_end (B := U0.heap.size) (h2 := h2) (hn := horn F (Gf.ex 0) (pre ++ [x])) HB3.out HW1.out HBS.out bO3 bJ3 bS3 HO3.out (by rw [horn_snoc, HH2.out, HH.out]; rfl)
      exact ⟨f1, f2, f3, marks_kept HM1.out HB3.out⟩
  case done0 =>
    rintro D0 xs0 V1 hD0 rfl ⟨⟨⟨⟨hO, bO⟩, bJ, bS⟩, hB⟩, hM⟩ hK
    have HR1 := Lib.hid (show RB V1 w.heap.size 24 25 (outc (fun _ => 0) 0 (horn F (Gf.ex 0) (upto (bwd n) n))) from hO)
    have HBO1 := Lib.hid bO
    have HB1 := Lib.hid hB
    have HM1 := Lib.hid (hM.cons hK)
    have hz1 : w.heap.size + 1 < V1.heap.size := bO.lt
    clear hO bO bJ bS hB hM hK
    gi_wp2
    rw [roundsIn_succ]
    gi_wp2_with (refine ⟨trivial, ?_⟩; gi_at_call 23; refine (callsIn_wide.2 (backward_any _ _ _ _)).mono ?_; rintro e w' ⟨rfl, rfl⟩)
    obtain ⟨U1, hU1⟩ : ∃ U1, U1 = (V1.alloc (.cells #[.int .i64 1] 3)).alloc (.cells #[.slice (some ⟨b, off, none⟩) n c] 22) := ⟨_, rfl⟩
    have hO : RB U1 w.heap.size 24 25 (outc (fun _ => 0) 0 (horn F (Gf.ex 0) (upto (bwd n) n))) := by rw [hU1]; exact (HR1.out.alloc _).alloc _
    have bO : Boxed U1 (w.heap.size + 1) 22 (.slice (some ⟨w.heap.size, 0, none⟩) 3 3) := by rw [hU1]; exact (HBO1.out.alloc _).alloc _
    have bJ : Boxed U1 V1.heap.size 3 (.int .i64 1) := by rw [hU1]; exact (Boxed.new _ _ _).alloc _
    have bS : Boxed U1 (V1.heap.size + 1) 22 (.slice (some ⟨b, off, none⟩) n c) := by
      rw [hU1]
      have := Boxed.new (V1.alloc (.cells #[.int .i64 1] 3)) 22 (.slice (some ⟨b, off, none⟩) n c)
      simpa using this
    have hB : Below w.heap.size w U1 := by rw [hU1]; exact (HB1.out.alloc HB1.out.size _).alloc (by have := HB1.out.size; simp; omega) _
    have hM : Marks U1 [D0] := by rw [hU1]; exact (HM1.out.alloc _).alloc _
    have hsz : U1.heap.size = V1.heap.size + 2 := by rw [hU1]; simp
    have hml1 := hM.lt
    rw [← hU1]
    clear hU1
    refine wpIn_rangeFunc_ownH rfl (by omega) (gf := 44) (lb := #[.pointer (some ⟨V1.heap.size + 1, 0, none⟩)]) rfl trivial (enters_of Try.func44 (by kernel_rfl) rfl)
      (back_stops Fence.wide 5 trivial rfl (by omega) (V1.heap.size + 1) w.heap.size b off n c F (by omega) U1 hbw (by omega) bS (fun j hj => (hB.cell (p := ⟨b, off + j, none⟩) hbw).trans (HI.out j hj))) KpB.trans (kpB_b (by omega) (by omega)) (Below.refl _ _) (fun _ => rfl)
      (fun pre W => (((W.heap[w.heap.size]? = some (.cells (brow 24 (outc (outc (fun _ => 0) 0 (horn F (Gf.ex 0) (upto (bwd n) n))) 1 (horn F (Gf.ex 1) pre))) 25 (0, 0)) ∧ Boxed W (w.heap.size + 1) 22 (.slice (some ⟨w.heap.size, 0, none⟩) 3 3)) ∧ (Boxed W V1.heap.size 3 (.int .i64 1) ∧ Boxed W (V1.heap.size + 1) 22 (.slice (some ⟨b, off, none⟩) n c))) ∧ Below w.heap.size w W) ∧ Marks W [D0])
      (fun _ _ _ => False)
      (OwnFrom.and (OwnFrom.and (OwnFrom.and (OwnFrom.and (Own.from (obj_own _ _ _) _) (Own.from (boxed_own _ _ _) _)) (OwnFrom.and (Own.from (boxed_own _ _ _) _) (Own.from (boxed_own _ _ _) _))) (ownFrom_below (Nat.le_refl _) (by omega))) (marks_own hml1))
      (fun _ _ _ _ _ hs _ _ => hs)
      ⟨⟨⟨⟨RB.congr hO (fun p hp => outc_zero1 p hp), bO⟩, bJ, bS⟩, hB⟩, hM⟩
      (fun x a' W => ∃ Bx, V1.heap.size + 1 < Bx ∧ W.heap[Bx]? = some (.cells (bkAt F x) 25 (0, 0)) ∧ a' = { tmps := #[.slice (some ⟨b, off, none⟩) n c, undef, .slice none 0 0, .int .i64 0, .pointer (some ⟨w.heap.size + 1, 0, none⟩), .pointer (some ⟨V1.heap.size, 0, none⟩), undef, .pointer (some ⟨Bx, 0, none⟩), .slice (some ⟨b, off, none⟩) n c, .int .i64 n, .bool (decide ((n : Int) < 1)), .bool (decide ((n : Int) < 1)), .slice (some ⟨b, off, none⟩) n c, .int .i64 n, .bool (decide (13 < (n : Int))), .bool (decide ((n : Int) < 1) || decide (13 < (n : Int))), .slice (some ⟨w.heap.size, 0, none⟩) 3 3, .slice (some ⟨w.heap.size, 0, none⟩) 3 3, .int .i64 3, .int .i64 1, .bool true, .int .i64 1, .slice (some ⟨b, off, none⟩) n c, .func (.func 44) #[] #[.pointer (some ⟨V1.heap.size + 1, 0, none⟩)], .int .i64 (x : Nat), .agg (bkAt F x), undef, undef, undef, undef, undef, undef, undef, undef, undef, undef, undef, .int .i64 1, undef], defers := [] })
      (fun x a' _ X Y row hs hg hr => by obtain ⟨Bx, h1, h2, h3⟩ := hs; exact ⟨Bx, h1, obj_own Bx 25 (fun (_ : Unit) => bkAt F x) () X Y row h2 hg (fun r e => (hr r e).2), h3⟩)
      ?assign1 ?body1 ?done1 ?stop1
    case stop1 =>
      rintro D c pre W hD _ h _
      exact h.elim
    case assign1 =>
      rintro l pre x W K ⟨⟨⟨⟨hO1, bO1⟩, bJ1, bS1⟩, hB1⟩, hM1⟩ hK
      unfold bkAt
      gi_wp2
      exact hK _ _ ((KeepsOthers.alloc _ _).from _) ⟨(Below.refl _ W).alloc hB1.size _, Below.heap_alloc W _ _ bS1.lt⟩ ⟨⟨⟨⟨RB.alloc hO1 _, bO1.alloc _⟩, bJ1.alloc _, bS1.alloc _⟩, hB1.alloc hB1.size _⟩, hM1.alloc _⟩ ⟨W.heap.size, bS1.lt, heap_alloc_new W _, rfl⟩
    case body1 =>
      rintro l pre x a' W hl ⟨r, hr⟩ ⟨⟨⟨⟨hO1, bO1⟩, bJ1, bS1⟩, hB1⟩, hM1⟩ ⟨Bx, hBx, bX, rfl⟩ hlt
      obtain ⟨H, hH⟩ : ∃ H, H = horn F (Gf.ex 1) pre := ⟨_, rfl⟩
      have hHb : ∀ k, H k < 256 := by rw [hH]; exact horn_lt hF (Gf.ex_lt 1) pre
      rw [← hH] at hO1
      have HH := Lib.hid hH
      clear hH
      have cO := bO1.cell
      have cJ := bJ1.cell
      obtain ⟨x0, x1, x2, x3, x4, x5, x6, x7⟩ := cells8 (show RB W Bx 8 25 (fun k => F (x * 8 + k)) from bX)
      obtain ⟨o0, o1, o2, o3, o4, o5, o6, o7⟩ := out8_1 (f := (outc (fun _ => 0) 0 (horn F (Gf.ex 0) (upto (bwd n) n)))) (H := H) hO1
      have fO := RB.frozen (show RB W w.heap.size 24 25 _ from hO1)
      obtain ⟨h2, hh2⟩ : ∃ h2, h2 = fus (fun k => F (x * 8 + k)) H (Gf.ex 1) := ⟨_, rfl⟩
      have HFu := Lib.hid (fun W => fusedB_any (fun k => F (x * 8 + k)) H (Gf.ex 1) W (Gf.ex_lt 1) (fun k => hF _) hHb)
      rw [← hh2] at HFu
      have HH2 := Lib.hid hh2
      clear hh2 hHb
      simp only [brow8 H, brow8 h2, ← bkAt_eq] at HFu
      have HEx := Lib.hid (fun W => exp_any 1 W)
      rw [show expo 1 = 1 by decide] at HEx
      have HX1 := Lib.hid (show RB W Bx 8 25 (fun k => F (x * 8 + k)) from bX)
      have HO1 := Lib.hid (show RB W w.heap.size 24 25 (outc (outc (fun _ => 0) 0 (horn F (Gf.ex 0) (upto (bwd n) n))) 1 H) from hO1)
      have HBO := Lib.hid bO1
      have HBJ := Lib.hid bJ1
      have HBS := Lib.hid bS1
      have HW1 := Lib.hid hB1
      have HM1 := Lib.hid hM1
      clear bX hO1 bO1 bJ1 bS1 hB1 hM1
      unfold bkAt
      gi_wp2
      refine region_round (S := fun w' => w'.cell? ⟨w.heap.size + 1, 0, none⟩ = some (.slice (some ⟨w.heap.size, 0, none⟩) 3 3) ∧ w'.cell? ⟨V1.heap.size, 0, none⟩ = some (.int .i64 1) ∧ RB w' Bx 8 25 (fun k => F (x * 8 + k))) (by kernel_rfl) (fun ⟨_, _, h⟩ => h) (nodef (by kernel_rfl)) ?_
      have hS : (fun w' : World => w'.cell? ⟨w.heap.size + 1, 0, none⟩ = some (.slice (some ⟨w.heap.size, 0, none⟩) 3 3) ∧ w'.cell? ⟨V1.heap.size, 0, none⟩ = some (.int .i64 1) ∧ RB w' Bx 8 25 (fun k => F (x * 8 + k))) W.drew := ⟨cO, cJ, HX1.out⟩
      refine wpAnyH_take (i := 0) (v := .slice (some ⟨w.heap.size, 0, none⟩) 3 3) rfl (by kernel_rfl) (by kernel_rfl) (by kernel_rfl) (fun _ _ _ h => h) (Or.inl ⟨by rfl, ?_⟩) hS ?_
      · rintro w ⟨q0, q1, q2⟩
        go_simp
      try simp only [Act.put, List.setIfInBounds_toArray, List.set_cons_zero, List.set_cons_succ]
      refine wpAnyH_take (i := 1) (v := .int .i64 1) rfl (by kernel_rfl) (by kernel_rfl) (by kernel_rfl) (fun _ _ _ h => h) (Or.inl ⟨by rfl, ?_⟩) hS ?_
      · rintro w ⟨q0, q1, q2⟩
        go_simp
      try simp only [Act.put, List.setIfInBounds_toArray, List.set_cons_zero, List.set_cons_succ]
      refine wpAnyH_take (i := 2) (v := .agg (bkAt F x)) rfl (by kernel_rfl) (by kernel_rfl) (by kernel_rfl) (fun _ _ _ h => h) (Or.inl ⟨by rfl, ?_⟩) hS ?_
      · rintro w ⟨q0, q1, q2⟩
        obtain ⟨x0, x1, x2, x3, x4, x5, x6, x7⟩ := cells8 q2
        unfold bkAt
        go_simp
      try simp only [Act.put, List.setIfInBounds_toArray, List.set_cons_zero, List.set_cons_succ]
      refine wpAnyH_take (i := 3) (v := .slice (some ⟨w.heap.size, 0, none⟩) 3 3) rfl (by kernel_rfl) (by kernel_rfl) (by kernel_rfl) (fun _ _ _ h => h) (Or.inl ⟨by rfl, ?_⟩) hS ?_
      · rintro w ⟨q0, q1, q2⟩
        go_simp
      try simp only [Act.put, List.setIfInBounds_toArray, List.set_cons_zero, List.set_cons_succ]
      refine wpAnyH_take (i := 4) (v := .int .i64 1) rfl (by kernel_rfl) (by kernel_rfl) (by kernel_rfl) (fun _ _ _ h => h) (Or.inl ⟨by rfl, ?_⟩) hS ?_
      · rintro w ⟨q0, q1, q2⟩
        go_simp
      try simp only [Act.put, List.setIfInBounds_toArray, List.set_cons_zero, List.set_cons_succ]
      refine wpAnyH_take (i := 5) (v := .pointer (some ⟨w.heap.size, 8, none⟩)) rfl (by kernel_rfl) (by kernel_rfl) (by kernel_rfl) (fun _ _ _ h => h) (Or.inl ⟨by rfl, ?_⟩) hS ?_
      · rintro w ⟨q0, q1, q2⟩
        go_simp
      try simp only [Act.put, List.setIfInBounds_toArray, List.set_cons_zero, List.set_cons_succ]
      refine wpAnyH_take (i := 7) (v := .int .i64 1) rfl (by kernel_rfl) (by kernel_rfl) (by kernel_rfl) (fun _ _ _ h => h) (Or.inl ⟨by rfl, ?_⟩) hS ?_
      · rintro w ⟨q0, q1, q2⟩
        go_simp
      try simp only [Act.put, List.setIfInBounds_toArray, List.set_cons_zero, List.set_cons_succ]
      refine wpAnyH_ready (rs := [6, 8]) (by kernel_rfl) (by simp) ?_
      refine AllReadyH.cons rfl (fun K hK => ?_) (AllReadyH.cons rfl (fun K hK => ?_) AllReadyH.nil)
      · go_simp
        refine hK.out _ _ hS (fun _ => ?_)
        clear hK K
        try simp only [Act.put, List.setIfInBounds_toArray, List.set_cons_zero, List.set_cons_succ]
        refine wpAnyH_ready (rs := [8]) (by kernel_rfl) (by simp) ?_
        refine AllReadyH.cons rfl (fun K hK => ?_) AllReadyH.nil
        go_simp
        refine (HEx.out _).mono ?_
        rintro e w' ⟨rfl, rfl⟩
        refine hK.out _ _ hS (fun _ => ?_)
        clear hK K
        try simp only [Act.put, List.setIfInBounds_toArray, List.set_cons_zero, List.set_cons_succ]
        refine wpAnyH_ready (rs := [9]) (by kernel_rfl) (by simp) ?_
        refine AllReadyH.cons rfl (fun K hK => ?_) AllReadyH.nil
        go_simp
        refine (HFu.out _).mono ?_
        rintro e w3 ⟨rfl, hB3⟩
        have e0 := keepc (W := W.drew) cO hB3
        have e1 := keepc (W := W.drew) cJ hB3
        have HX3 := Lib.hid (RB.below (w := W.drew) HX1.out hB3)
        have HO3 := Lib.hid (RB.below (w := W.drew) HO1.out hB3)
        have HB3 := Lib.hid hB3
        clear hB3
        refine hK.out _ _ ⟨e0, e1, HX3.out⟩ (fun _ => ?_)
        clear hK K
        try simp only [Act.put, List.setIfInBounds_toArray, List.set_cons_zero, List.set_cons_succ]
        refine wpAnyH_ready (rs := [10]) (by kernel_rfl) (by simp) ?_
        refine AllReadyH.cons rfl (fun K hK => ?_) AllReadyH.nil
        go_simp
        refine hK.out _ _ ⟨e0, e1, HX3.out⟩ (fun _ => ?_)
        clear hK K
        try simp only [Act.put, List.setIfInBounds_toArray, List.set_cons_zero, List.set_cons_succ]
        obtain ⟨p0, p1, p2, p3, p4, p5, p6, p7⟩ := out8_1 HO3.out
        have g3 := RB.frozen HO3.out
        refine wpAnyH_ready (rs := [11]) (by kernel_rfl) (by simp) ?_
        refine AllReadyH.cons rfl (fun K hK => ?_) AllReadyH.nil
        go_simp
        have bO3 : Boxed w3 (w.heap.size + 1) 22 (.slice (some ⟨w.heap.size, 0, none⟩) 3 3) := (HB3.out.block _ HBO.out.lt).trans HBO.out
        have bJ3 : Boxed w3 V1.heap.size 3 (.int .i64 1) := (HB3.out.block _ HBJ.out.lt).trans HBJ.out
        have bS3 : Boxed w3 (V1.heap.size + 1) 22 (.slice (some ⟨b, off, none⟩) n c) := (HB3.out.block _ HBS.out.lt).trans HBS.out
        refine hK.out _ (set8 w3 w.heap.size (1 * 8) h2) ⟨(set8_box bO3 (by omega)).cell, (set8_box bJ3 (by omega)).cell, set8_far HX3.out (by omega)⟩ (fun _ => ?_)
        clear hK K
        refine wpAnyH_done (by kernel_rfl) ?_ _
        obtain ⟨f1, f2, f3⟩ := round_end (B := U1.heap.size) (h2 := h2) (hn := horn F (Gf.ex 1) (pre ++ [x])) HB3.out HW1.out HBS.out bO3 bJ3 bS3 HO3.out (by rw [horn_snoc, HH2.out, HH.out]; rfl)
        exact ⟨f1, f2, f3, marks_kept HM1.out HB3.out⟩
      · go_simp
        refine (HEx.out _).mono ?_
        rintro e w' ⟨rfl, rfl⟩
        refine hK.out _ _ hS (fun _ => ?_)
        clear hK K
        try simp only [Act.put, List.setIfInBounds_toArray, List.set_cons_zero, List.set_cons_succ]
        refine wpAnyH_ready (rs := [6]) (by kernel_rfl) (by simp) ?_
        refine AllReadyH.cons rfl (fun K hK => ?_) AllReadyH.nil
        go_simp
        refine hK.out _ _ hS (fun _ => ?_)
        clear hK K
        try simp only [Act.put, List.setIfInBounds_toArray, List.set_cons_zero, List.set_cons_succ]
        refine wpAnyH_ready (rs := [9]) (by kernel_rfl) (by simp) ?_
        refine AllReadyH.cons rfl (fun K hK => ?_) AllReadyH.nil
        go_simp
        refine (HFu.out _).mono ?_
        rintro e w3 ⟨rfl, hB3⟩
        have e0 := keepc (W := W.drew) cO hB3
        have e1 := keepc (W := W.drew) cJ hB3
        have HX3 := Lib.hid (RB.below (w := W.drew) HX1.out hB3)
        have HO3 := Lib.hid (RB.below (w := W.drew) HO1.out hB3)
        have HB3 := Lib.hid hB3
        clear hB3
        refine hK.out _ _ ⟨e0, e1, HX3.out⟩ (fun _ => ?_)
        clear hK K
        try simp only [Act.put, List.setIfInBounds_toArray, List.set_cons_zero, List.set_cons_succ]
        refine wpAnyH_ready (rs := [10]) (by kernel_rfl) (by simp) ?_
        refine AllReadyH.cons rfl (fun K hK => ?_) AllReadyH.nil
        go_simp
        refine hK.out _ _ ⟨e0, e1, HX3.out⟩ (fun _ => ?_)
        clear hK K
        try simp only [Act.put, List.setIfInBounds_toArray, List.set_cons_zero, List.set_cons_succ]
        obtain ⟨p0, p1, p2, p3, p4, p5, p6, p7⟩ := out8_1 HO3.out
        have g3 := RB.frozen HO3.out
        refine wpAnyH_ready (rs := [11]) (by kernel_rfl) (by simp) ?_
        refine AllReadyH.cons rfl (fun K hK => ?_) AllReadyH.nil
        go_simp
        have bO3 : Boxed w3 (w.heap.size + 1) 22 (.slice (some ⟨w.heap.size, 0, none⟩) 3 3) := (HB3.out.block _ HBO.out.lt).trans HBO.out
        have bJ3 : Boxed w3 V1.heap.size 3 (.int .i64 1) := (HB3.out.block _ HBJ.out.lt).trans HBJ.out
        have bS3 : Boxed w3 (V1.heap.size + 1) 22 (.slice (some ⟨b, off, none⟩) n c) := (HB3.out.block _ HBS.out.lt).trans HBS.out
        refine hK.out _ (set8 w3 w.heap.size (1 * 8) h2) ⟨(set8_box bO3 (by omega)).cell, (set8_box bJ3 (by omega)).cell, set8_far HX3.out (by omega)⟩ (fun _ => ?_)
        clear hK K
        refine wpAnyH_done (by kernel_rfl) ?_ _
        obtain ⟨f1, f2, f3⟩ := round_end (B := U1.heap.size) (h2 := h2) (hn := horn F (Gf.ex 1) (pre ++ [x])) HB3.out HW1.out HBS.out bO3 bJ3 bS3 HO3.out (by rw [horn_snoc, HH2.out, HH.out]; rfl)
        exact ⟨f1, f2, f3, marks_kept HM1.out HB3.out⟩
    case done1 =>
      rintro D1 xs1 V2 hD1 rfl ⟨⟨⟨⟨hO, bO⟩, bJ, bS⟩, hB⟩, hM⟩ hK
      have HR2 := Lib.hid (show RB V2 w.heap.size 24 25 (outc (outc (fun _ => 0) 0 (horn F (Gf.ex 0) (upto (bwd n) n))) 1 (horn F (Gf.ex 1) (upto (bwd n) n))) from hO)
      have HBO2 := Lib.hid bO
      have HB2 := Lib.hid hB
      have HM2 := Lib.hid (hM.cons hK)
      have hz2 : w.heap.size + 1 < V2.heap.size := bO.lt
      clear hO bO bJ bS hB hM hK
      gi_wp2
      rw [roundsIn_succ]
      gi_wp2_with (refine ⟨trivial, ?_⟩; gi_at_call 23; refine (callsIn_wide.2 (backward_any _ _ _ _)).mono ?_; rintro e w' ⟨rfl, rfl⟩)
      obtain ⟨U2, hU2⟩ : ∃ U2, U2 = (V2.alloc (.cells #[.int .i64 2] 3)).alloc (.cells #[.slice (some ⟨b, off, none⟩) n c] 22) := ⟨_, rfl⟩
      have hO : RB U2 w.heap.size 24 25 (outc (outc (fun _ => 0) 0 (horn F (Gf.ex 0) (upto (bwd n) n))) 1 (horn F (Gf.ex 1) (upto (bwd n) n))) := by rw [hU2]; exact (HR2.out.alloc _).alloc _
      have bO : Boxed U2 (w.heap.size + 1) 22 (.slice (some ⟨w.heap.size, 0, none⟩) 3 3) := by rw [hU2]; exact (HBO2.out.alloc _).alloc _
      have bJ : Boxed U2 V2.heap.size 3 (.int .i64 2) := by rw [hU2]; exact (Boxed.new _ _ _).alloc _
      have bS : Boxed U2 (V2.heap.size + 1) 22 (.slice (some ⟨b, off, none⟩) n c) := by
        rw [hU2]
        have := Boxed.new (V2.alloc (.cells #[.int .i64 2] 3)) 22 (.slice (some ⟨b, off, none⟩) n c)
        simpa using this
      have hB : Below w.heap.size w U2 := by rw [hU2]; exact (HB2.out.alloc HB2.out.size _).alloc (by have := HB2.out.size; simp; omega) _
      have hM : Marks U2 [D1, D0] := by rw [hU2]; exact (HM2.out.alloc _).alloc _
      have hsz : U2.heap.size = V2.heap.size + 2 := by rw [hU2]; simp
      have hml2 := hM.lt
      rw [← hU2]
      clear hU2
      refine wpIn_rangeFunc_ownH rfl (by omega) (gf := 44) (lb := #[.pointer (some ⟨V2.heap.size + 1, 0, none⟩)]) rfl trivial (enters_of Try.func44 (by kernel_rfl) rfl)
        (back_stops Fence.wide 5 trivial rfl (by omega) (V2.heap.size + 1) w.heap.size b off n c F (by omega) U2 hbw (by omega) bS (fun j hj => (hB.cell (p := ⟨b, off + j, none⟩) hbw).trans (HI.out j hj))) KpB.trans (kpB_b (by omega) (by omega)) (Below.refl _ _) (fun _ => rfl)
        (fun pre W => (((W.heap[w.heap.size]? = some (.cells (brow 24 (outc (outc (outc (fun _ => 0) 0 (horn F (Gf.ex 0) (upto (bwd n) n))) 1 (horn F (Gf.ex 1) (upto (bwd n) n))) 2 (horn F (Gf.ex 2) pre))) 25 (0, 0)) ∧ Boxed W (w.heap.size + 1) 22 (.slice (some ⟨w.heap.size, 0, none⟩) 3 3)) ∧ (Boxed W V2.heap.size 3 (.int .i64 2) ∧ Boxed W (V2.heap.size + 1) 22 (.slice (some ⟨b, off, none⟩) n c))) ∧ Below w.heap.size w W) ∧ Marks W [D1, D0])
        (fun _ _ _ => False)
        (OwnFrom.and (OwnFrom.and (OwnFrom.and (OwnFrom.and (Own.from (obj_own _ _ _) _) (Own.from (boxed_own _ _ _) _)) (OwnFrom.and (Own.from (boxed_own _ _ _) _) (Own.from (boxed_own _ _ _) _))) (ownFrom_below (Nat.le_refl _) (by omega))) (marks_own hml2))
        (fun _ _ _ _ _ hs _ _ => hs)
        ⟨⟨⟨⟨RB.congr hO (fun p hp => outc_zero2 p hp), bO⟩, bJ, bS⟩, hB⟩, hM⟩
        (fun x a' W => ∃ Bx, V2.heap.size + 1 < Bx ∧ W.heap[Bx]? = some (.cells (bkAt F x) 25 (0, 0)) ∧ a' = { tmps := #[.slice (some ⟨b, off, none⟩) n c, undef, .slice none 0 0, .int .i64 0, .pointer (some ⟨w.heap.size + 1, 0, none⟩), .pointer (some ⟨V2.heap.size, 0, none⟩), undef, .pointer (some ⟨Bx, 0, none⟩), .slice (some ⟨b, off, none⟩) n c, .int .i64 n, .bool (decide ((n : Int) < 1)), .bool (decide ((n : Int) < 1)), .slice (some ⟨b, off, none⟩) n c, .int .i64 n, .bool (decide (13 < (n : Int))), .bool (decide ((n : Int) < 1) || decide (13 < (n : Int))), .slice (some ⟨w.heap.size, 0, none⟩) 3 3, .slice (some ⟨w.heap.size, 0, none⟩) 3 3, .int .i64 3, .int .i64 2, .bool true, .int .i64 2, .slice (some ⟨b, off, none⟩) n c, .func (.func 44) #[] #[.pointer (some ⟨V2.heap.size + 1, 0, none⟩)], .int .i64 (x : Nat), .agg (bkAt F x), undef, undef, undef, undef, undef, undef, undef, undef, undef, undef, undef, .int .i64 2, undef], defers := [] })
        (fun x a' _ X Y row hs hg hr => by obtain ⟨Bx, h1, h2, h3⟩ := hs; exact ⟨Bx, h1, obj_own Bx 25 (fun (_ : Unit) => bkAt F x) () X Y row h2 hg (fun r e => (hr r e).2), h3⟩)
        ?assign2 ?body2 ?done2 ?stop2
      case stop2 =>
        rintro D c pre W hD _ h _
        exact h.elim
      case assign2 =>
        rintro l pre x W K ⟨⟨⟨⟨hO1, bO1⟩, bJ1, bS1⟩, hB1⟩, hM1⟩ hK
        unfold bkAt
        gi_wp2
        exact hK _ _ ((KeepsOthers.alloc _ _).from _) ⟨(Below.refl _ W).alloc hB1.size _, Below.heap_alloc W _ _ bS1.lt⟩ ⟨⟨⟨⟨RB.alloc hO1 _, bO1.alloc _⟩, bJ1.alloc _, bS1.alloc _⟩, hB1.alloc hB1.size _⟩, hM1.alloc _⟩ ⟨W.heap.size, bS1.lt, heap_alloc_new W _, rfl⟩
      case body2 =>
        rintro l pre x a' W hl ⟨r, hr⟩ ⟨⟨⟨⟨hO1, bO1⟩, bJ1, bS1⟩, hB1⟩, hM1⟩ ⟨Bx, hBx, bX, rfl⟩ hlt
        obtain ⟨H, hH⟩ : ∃ H, H = horn F (Gf.ex 2) pre := ⟨_, rfl⟩
        have hHb : ∀ k, H k < 256 := by rw [hH]; exact horn_lt hF (Gf.ex_lt 2) pre
        rw [← hH] at hO1
        have HH := Lib.hid hH
        clear hH
        have cO := bO1.cell
        have cJ := bJ1.cell
        obtain ⟨x0, x1, x2, x3, x4, x5, x6, x7⟩ := cells8 (show RB W Bx 8 25 (fun k => F (x * 8 + k)) from bX)
        obtain ⟨o0, o1, o2, o3, o4, o5, o6, o7⟩ := out8_2 (f := (outc (outc (fun _ => 0) 0 (horn F (Gf.ex 0) (upto (bwd n) n))) 1 (horn F (Gf.ex 1) (upto (bwd n) n)))) (H := H) hO1
        have fO := RB.frozen (show RB W w.heap.size 24 25 _ from hO1)
        obtain ⟨h2, hh2⟩ : ∃ h2, h2 = fus (fun k => F (x * 8 + k)) H (Gf.ex 2) := ⟨_, rfl⟩
        have HFu := Lib.hid (fun W => fusedB_any (fun k => F (x * 8 + k)) H (Gf.ex 2) W (Gf.ex_lt 2) (fun k => hF _) hHb)
        rw [← hh2] at HFu
        have HH2 := Lib.hid hh2
        clear hh2 hHb
        simp only [brow8 H, brow8 h2, ← bkAt_eq] at HFu
        have HEx := Lib.hid (fun W => exp_any 2 W)
        rw [show expo 2 = 2 by decide] at HEx
        have HX1 := Lib.hid (show RB W Bx 8 25 (fun k => F (x * 8 + k)) from bX)
        have HO1 := Lib.hid (show RB W w.heap.size 24 25 (outc (outc (outc (fun _ => 0) 0 (horn F (Gf.ex 0) (upto (bwd n) n))) 1 (horn F (Gf.ex 1) (upto (bwd n) n))) 2 H) from hO1)
        have HBO := Lib.hid bO1
        have HBJ := Lib.hid bJ1
        have HBS := Lib.hid bS1
        have HW1 := Lib.hid hB1
        have HM1 := Lib.hid hM1
        clear bX hO1 bO1 bJ1 bS1 hB1 hM1
        unfold bkAt
        gi_wp2
        refine region_round (S := fun w' => w'.cell? ⟨w.heap.size + 1, 0, none⟩ = some (.slice (some ⟨w.heap.size, 0, none⟩) 3 3) ∧ w'.cell? ⟨V2.heap.size, 0, none⟩ = some (.int .i64 2) ∧ RB w' Bx 8 25 (fun k => F (x * 8 + k))) (by kernel_rfl) (fun ⟨_, _, h⟩ => h) (nodef (by kernel_rfl)) ?_
        have hS : (fun w' : World => w'.cell? ⟨w.heap.size + 1, 0, none⟩ = some (.slice (some ⟨w.heap.size, 0, none⟩) 3 3) ∧ w'.cell? ⟨V2.heap.size, 0, none⟩ = some (.int .i64 2) ∧ RB w' Bx 8 25 (fun k => F (x * 8 + k))) W.drew := ⟨cO, cJ, HX1.out⟩
        refine wpAnyH_take (i := 0) (v := .slice (some ⟨w.heap.size, 0, none⟩) 3 3) rfl (by kernel_rfl) (by kernel_rfl) (by kernel_rfl) (fun _ _ _ h => h) (Or.inl ⟨by rfl, ?_⟩) hS ?_
        · rintro w ⟨q0, q1, q2⟩
          go_simp
        try simp only [Act.put, List.setIfInBounds_toArray, List.set_cons_zero, List.set_cons_succ]
        refine wpAnyH_take (i := 1) (v := .int .i64 2) rfl (by kernel_rfl) (by kernel_rfl) (by kernel_rfl) (fun _ _ _ h => h) (Or.inl ⟨by rfl, ?_⟩) hS ?_
        · rintro w ⟨q0, q1, q2⟩
          go_simp
        try simp only [Act.put, List.setIfInBounds_toArray, List.set_cons_zero, List.set_cons_succ]
        refine wpAnyH_take (i := 2) (v := .agg (bkAt F x)) rfl (by kernel_rfl) (by kernel_rfl) (by kernel_rfl) (fun _ _ _ h => h) (Or.inl ⟨by rfl, ?_⟩) hS ?_
        · rintro w ⟨q0, q1, q2⟩
          obtain ⟨x0, x1, x2, x3, x4, x5, x6, x7⟩ := cells8 q2
          unfold bkAt
          go_simp
        try simp only [Act.put, List.setIfInBounds_toArray, List.set_cons_zero, List.set_cons_succ]
        refine wpAnyH_take (i := 3) (v := .slice (some ⟨w.heap.size, 0, none⟩) 3 3) rfl (by kernel_rfl) (by kernel_rfl) (by kernel_rfl) (fun _ _ _ h => h) (Or.inl ⟨by rfl, ?_⟩) hS ?_
        · rintro w ⟨q0, q1, q2⟩
          go_simp
        try simp only [Act.put, List.setIfInBounds_toArray, List.set_cons_zero, List.set_cons_succ]
        refine wpAnyH_take (i := 4) (v := .int .i64 2) rfl (by kernel_rfl) (by kernel_rfl) (by kernel_rfl) (fun _ _ _ h => h) (Or.inl ⟨by rfl, ?_⟩) hS ?_
        · rintro w ⟨q0, q1, q2⟩
          go_simp
        try simp only [Act.put, List.setIfInBounds_toArray, List.set_cons_zero, List.set_cons_succ]
        refine wpAnyH_take (i := 5) (v := .pointer (some ⟨w.heap.size, 16, none⟩)) rfl (by kernel_rfl) (by kernel_rfl) (by kernel_rfl) (fun _ _ _ h => h) (Or.inl ⟨by rfl, ?_⟩) hS ?_
        · rintro w ⟨q0, q1, q2⟩
          go_simp
        try simp only [Act.put, List.setIfInBounds_toArray, List.set_cons_zero, List.set_cons_succ]
        refine wpAnyH_take (i := 7) (v := .int .i64 2) rfl (by kernel_rfl) (by kernel_rfl) (by kernel_rfl) (fun _ _ _ h => h) (Or.inl ⟨by rfl, ?_⟩) hS ?_
        · rintro w ⟨q0, q1, q2⟩
          go_simp
        try simp only [Act.put, List.setIfInBounds_toArray, List.set_cons_zero, List.set_cons_succ]
        refine wpAnyH_ready (rs := [6, 8]) (by kernel_rfl) (by simp) ?_
        refine AllReadyH.cons rfl (fun K hK => ?_) (AllReadyH.cons rfl (fun K hK => ?_) AllReadyH.nil)
        · go_simp
          refine hK.out _ _ hS (fun _ => ?_)
          clear hK K
          try simp only [Act.put, List.setIfInBounds_toArray, List.set_cons_zero, List.set_cons_succ]
          refine wpAnyH_ready (rs := [8]) (by kernel_rfl) (by simp) ?_
          refine AllReadyH.cons rfl (fun K hK => ?_) AllReadyH.nil
          go_simp
          refine (HEx.out _).mono ?_
          rintro e w' ⟨rfl, rfl⟩
          refine hK.out _ _ hS (fun _ => ?_)
          clear hK K
          try simp only [Act.put, List.setIfInBounds_toArray, List.set_cons_zero, List.set_cons_succ]
          refine wpAnyH_ready (rs := [9]) (by kernel_rfl) (by simp) ?_
          refine AllReadyH.cons rfl (fun K hK => ?_) AllReadyH.nil
          go_simp
          refine (HFu.out _).mono ?_
          rintro e w3 ⟨rfl, hB3⟩
          have e0 := keepc (W := W.drew) cO hB3
          have e1 := keepc (W := W.drew) cJ hB3
          have HX3 := Lib.hid (RB.below (w := W.drew) HX1.out hB3)
          have HO3 := Lib.hid (RB.below (w := W.drew) HO1.out hB3)
          have HB3 := Lib.hid hB3
          clear hB3
          refine hK.out _ _ ⟨e0, e1, HX3.out⟩ (fun _ => ?_)
          clear hK K
          try simp only [Act.put, List.setIfInBounds_toArray, List.set_cons_zero, List.set_cons_succ]
          refine wpAnyH_ready (rs := [10]) (by kernel_rfl) (by simp) ?_
          refine AllReadyH.cons rfl (fun K hK => ?_) AllReadyH.nil
          go_simp
          refine hK.out _ _ ⟨e0, e1, HX3.out⟩ (fun _ => ?_)
          clear hK K
          try simp only [Act.put, List.setIfInBounds_toArray, List.set_cons_zero, List.set_cons_succ]
          obtain ⟨p0, p1, p2, p3, p4, p5, p6, p7⟩ := out8_2 HO3.out
          have g3 := RB.frozen HO3.out
          refine wpAnyH_ready (rs := [11]) (by kernel_rfl) (by simp) ?_
          refine AllReadyH.cons rfl (fun K hK => ?_) AllReadyH.nil
          go_simp
          have bO3 : Boxed w3 (w.heap.size + 1) 22 (.slice (some ⟨w.heap.size, 0, none⟩) 3 3) := (HB3.out.block _ HBO.out.lt).trans HBO.out
          have bJ3 : Boxed w3 V2.heap.size 3 (.int .i64 2) := (HB3.out.block _ HBJ.out.lt).trans HBJ.out
          have bS3 : Boxed w3 (V2.heap.size + 1) 22 (.slice (some ⟨b, off, none⟩) n c) := (HB3.out.block _ HBS.out.lt).trans HBS.out
          refine hK.out _ (set8 w3 w.heap.size (2 * 8) h2) ⟨(set8_box bO3 (by omega)).cell, (set8_box bJ3 (by omega)).cell, set8_far HX3.out (by omega)⟩ (fun _ => ?_)
          clear hK K
          refine wpAnyH_done (by kernel_rfl) ?_ _
          obtain ⟨f1, f2, f3⟩ := round_end (B := U2.heap.size) (h2 := h2) (hn := horn F (Gf.ex 2) (pre ++ [x])) HB3.out HW1.out HBS.out bO3 bJ3 bS3 HO3.out (by rw [horn_snoc, HH2.out, HH.out]; rfl)
          exact ⟨f1, f2, f3, marks_kept HM1.out HB3.out⟩
        · go_simp
          refine (HEx.out _).mono ?_
          rintro e w' ⟨rfl, rfl⟩
          refine hK.out _ _ hS (fun _ => ?_)
          clear hK K
          try simp only [Act.put, List.setIfInBounds_toArray, List.set_cons_zero, List.set_cons_succ]
          refine wpAnyH_ready (rs := [6]) (by kernel_rfl) (by simp) ?_
          refine AllReadyH.cons rfl (fun K hK => ?_) AllReadyH.nil
          go_simp
          refine hK.out _ _ hS (fun _ => ?_)
          clear hK K
          try simp only [Act.put, List.setIfInBounds_toArray, List.set_cons_zero, List.set_cons_succ]
          refine wpAnyH_ready (rs := [9]) (by kernel_rfl) (by simp) ?_
          refine AllReadyH.cons rfl (fun K hK => ?_) AllReadyH.nil
          go_simp
          refine (HFu.out _).mono ?_
          rintro e w3 ⟨rfl, hB3⟩
          have e0 := keepc (W := W.drew) cO hB3
          have e1 := keepc (W := W.drew) cJ hB3
          have HX3 := Lib.hid (RB.below (w := W.drew) HX1.out hB3)
          have HO3 := Lib.hid (RB.below (w := W.drew) HO1.out hB3)
          have HB3 := Lib.hid hB3
          clear hB3
          refine hK.out _ _ ⟨e0, e1, HX3.out⟩ (fun _ => ?_)
          clear hK K
          try simp only [Act.put, List.setIfInBounds_toArray, List.set_cons_zero, List.set_cons_succ]
          refine wpAnyH_ready (rs := [10]) (by kernel_rfl) (by simp) ?_
          refine AllReadyH.cons rfl (fun K hK => ?_) AllReadyH.nil
          go_simp
          refine hK.out _ _ ⟨e0, e1, HX3.out⟩ (fun _ => ?_)
          clear hK K
          try simp only [Act.put, List.setIfInBounds_toArray, List.set_cons_zero, List.set_cons_succ]
          obtain ⟨p0, p1, p2, p3, p4, p5, p6, p7⟩ := out8_2 HO3.out
          have g3 := RB.frozen HO3.out
          refine wpAnyH_ready (rs := [11]) (by kernel_rfl) (by simp) ?_
          refine AllReadyH.cons rfl (fun K hK => ?_) AllReadyH.nil
          go_simp
          have bO3 : Boxed w3 (w.heap.size + 1) 22 (.slice (some ⟨w.heap.size, 0, none⟩) 3 3) := (HB3.out.block _ HBO.out.lt).trans HBO.out
          have bJ3 : Boxed w3 V2.heap.size 3 (.int .i64 2) := (HB3.out.block _ HBJ.out.lt).trans HBJ.out
          have bS3 : Boxed w3 (V2.heap.size + 1) 22 (.slice (some ⟨b, off, none⟩) n c) := (HB3.out.block _ HBS.out.lt).trans HBS.out
          refine hK.out _ (set8 w3 w.heap.size (2 * 8) h2) ⟨(set8_box bO3 (by omega)).cell, (set8_box bJ3 (by omega)).cell, set8_far HX3.out (by omega)⟩ (fun _ => ?_)
          clear hK K
          refine wpAnyH_done (by kernel_rfl) ?_ _
          obtain ⟨f1, f2, f3⟩ := round_end (B := U2.heap.size) (h2 := h2) (hn := horn F (Gf.ex 2) (pre ++ [x])) HB3.out HW1.out HBS.out bO3 bJ3 bS3 HO3.out (by rw [horn_snoc, HH2.out, HH.out]; rfl)
          exact ⟨f1, f2, f3, marks_kept HM1.out HB3.out⟩
      case done2 =>
        rintro D2 xs2 V3 hD2 rfl ⟨⟨⟨⟨hO, bO⟩, bJ, bS⟩, hB⟩, hM⟩ hK
        have HR3 := Lib.hid (show RB V3 w.heap.size 24 25 (enc3 F n) from hO)
        have HBO3 := Lib.hid bO
        have HB3 := Lib.hid hB
        have HM3 := Lib.hid (hM.cons hK)
        have hz3 : w.heap.size + 1 < V3.heap.size := bO.lt
        clear hO bO bJ bS hB hM hK
        gi_wp2
        have cO := HBO3.out.cell
        rw [roundsIn_succ]
        gi_wp2
        have hne10 : D1 ≠ D0 := by have := hml1 D0 (by simp); omega
        have hne21 : D2 ≠ D1 := by have := hml2 D1 (by simp); omega
        have hne20 : D2 ≠ D0 := by have := hml2 D0 (by simp); omega
        have hK2 := HM3.out D2 (by simp)
        have hK1 : (V3.putObj D2 (.deferred none)).heap[D1]? = some (.deferred (some [])) := (World.putObj_heap_other hne21.symm).trans (HM3.out D1 (by simp))
        have hK0 : ((V3.putObj D2 (.deferred none)).putObj D1 (.deferred none)).heap[D0]? = some (.deferred (some [])) := (World.putObj_heap_other hne10.symm).trans ((World.putObj_heap_other hne20.symm).trans (HM3.out D0 (by simp)))
        refine ⟨by simp, .inl ⟨_, _, rfl, run_takeDeferred hK2, ⟨by simp, .inl ⟨_, _, rfl, run_takeDeferred hK1, ⟨by simp, .inl ⟨_, _, rfl, run_takeDeferred hK0, ?_⟩⟩⟩⟩⟩⟩
        refine ⟨.tuple #[.slice (some ⟨w.heap.size, 0, none⟩) 3 3, .int .i64 0], by simp [results, Try.results6, go_sem], rfl, ?_, ?_⟩
        · exact (World.putObj_heap_other (by omega)).trans ((World.putObj_heap_other (by omega)).trans ((World.putObj_heap_other (by omega)).trans HR3.out))
        · exact ((HB3.out.trans (belowK_b (w := w) (Nat.le_refl _) V3 D2 _ _ (by omega) hK2 rfl rfl)).trans (belowK_b (w := w) (Nat.le_refl _) _ D1 _ _ (by omega) hK1 rfl rfl)).trans (belowK_b (w := w) (Nat.le_refl _) _ D0 _ _ (by omega) hK0 rfl rfl)
end Go.Proofs.Ytlimlmfgeaokhaa
namespace Go.Proofs.Ytlimlmfgeaokhaa
open Go.RowKit

theorem encode_any (F : Nat → Nat) (b off n c : Nat) (w : World) (h1 : 1 ≤ n) (h2 : n ≤ 13) (hF : ∀ j, F j < 256) (hI : ∀ j : Nat, j < n * 8 → w.cell? ⟨b, off + j, none⟩ = some (.int .u8 (F j : Nat))) :
    Calls Try.prog 6 #[.slice (some ⟨b, off, none⟩) n c] w fun e w' => e = .returned (.tuple #[.slice (some ⟨w.heap.size, 0, none⟩) 3 3, .int .i64 0]) ∧ RB w' w.heap.size 24 25 (enc3 F n) ∧ Below w.heap.size w w' :=
  callsIn_wide.1 (encode_in F b off n c w h1 h2 hF hI)
theorem encode_bad (A : Option Addr) (n c : Nat) (w : World) (h : n < 1 ∨ 13 < n) (hn : n ≤ 1000000) :
    Calls Try.prog 6 #[.slice A n c] w fun e w' => e = .returned (.tuple #[.slice none 0 0, .int .i64 1]) ∧ Below w.heap.size w w' := by
  rcases h with h | h
  · obtain rfl : n = 0 := by omega
    go_enter Try.func6, Try.ntmps6
    go_wp2_with fail
    go_ret2
    exact ⟨rfl, Below.refl _ _⟩
  · go_enter Try.func6, Try.ntmps6
    go_wp2_with fail
    go_ret2
    exact ⟨rfl, Below.refl _ _⟩

theorem keepw {w W w1 : World} (h : Below w.heap.size w W) (hB : Below W.heap.size W w1) : Below w.heap.size w w1 := h.trans (hB.mono h.size)
theorem enc3_lt {F : Nat → Nat} (hF : ∀ j, F j < 256) (n : Nat) (k : Nat) : enc3 F n k < 256 := by
  unfold enc3 outc
  split
  · exact horn_lt hF (Gf.ex_lt _) _ _
  · split
    · exact horn_lt hF (Gf.ex_lt _) _ _
    · split
      · exact horn_lt hF (Gf.ex_lt _) _ _
      · show (0 : Nat) < 256; omega
set_option maxRecDepth 100000 in
theorem equal_any (F G : Nat → Nat) (A A' : Option Addr) (n ca cb : Nat) (w : World) (hn : n ≤ 1000) (hF : ∀ j, F j < 256) (hG : ∀ j, G j < 256) (hA : Bks w A n F) (hA' : Bks w A' n G) :
    Calls Try.prog 28 #[.slice A n ca, .slice A' n cb] w fun e w' => e = .returned (.bool (eqB (n * 8) F G)) ∧ Below w.heap.size w w' := by
  have HA := Lib.hid hA
  have HB := Lib.hid hA'
  clear hA hA'
  go_enter Try.func28, Try.ntmps28
  go_wp2_with fail
  go_loopw [13] (fun vi wr => ∃ i : Nat, i ≤ n ∧ vi = .int .i64 i ∧ (∀ j, j < i * 8 → F j = G j) ∧ Below w.heap.size w wr) (fun vi _ => n - (intOf vi).toNat)
  case atStart => exact ⟨0, by omega, rfl, fun j hj => by omega, Below.refl _ _⟩
  case round =>
    obtain ⟨i, hi, rfl, hq, hB⟩ := hrel
    have HQ := Lib.hid hq
    have HW := Lib.hid hB
    clear hq hB
    by_cases hlt : i < n
    · obtain ⟨b1, o1, rfl, h1⟩ := HA.out.below HW.out (by omega)
      obtain ⟨b2, o2, rfl, h2⟩ := HB.out.below HW.out (by omega)
      obtain ⟨c0, c1, c2, c3, c4, c5, c6, c7⟩ := cellsAt h1 hlt
      obtain ⟨d0, d1, d2, d3, d4, d5, d6, d7⟩ := cellsAt h2 hlt
      clear h1 h2
      have hne := run_neqB (fun j => F (i * 8 + j)) (fun j => G (i * 8 + j)) (fun j => hF _) (fun j => hG _)
      simp only [brow8, Nat.add_zero] at hne
      by_cases he : ∀ j, j < 8 → F (i * 8 + j) = G (i * 8 + j)
      · rw [eqB_yes he] at hne
        have HE := Lib.hid he
        clear he
        go_wp2_with fail
        go_quiet (fail)
        go_wp2_with fail
        go_roundw
        case rel =>
          refine ⟨i + 1, by omega, by go_num, fun j hj => ?_, HW.out.trans (Go.Joins.below_draws _ _ _)⟩
          by_cases h1 : j < i * 8
          · exact HQ.out j h1
          · have := HE.out (j - i * 8) (by omega)
            rwa [show i * 8 + (j - i * 8) = j by omega] at this
        case measure => simp [intOf]; omega
      · rw [eqB_no he] at hne
        have HE := Lib.hid he
        clear he
        go_wp2_with fail
        go_quiet (fail)
        go_wp2_with fail
        go_ret
        refine ⟨?_, HW.out.trans (Go.Joins.below_draws _ _ _)⟩
        rw [eqB_no (fun h => HE.out (fun j hj => h _ (by omega)))]; rfl
    · obtain rfl : i = n := by omega
      go_wp2_with fail
      go_ret
      exact ⟨by rw [eqB_yes HQ.out]; rfl, HW.out⟩
set_option maxRecDepth 100000 in
set_option maxHeartbeats 1000000 in
theorem check_any (F : Nat → Nat) (b off n c : Nat) (w : World) (h1 : 4 ≤ n) (h2 : n ≤ 16) (hc : n ≤ c) (hF : ∀ j, F j < 256) (hI : ∀ j : Nat, j < n * 8 → w.cell? ⟨b, off + j, none⟩ = some (.int .u8 (F j : Nat))) :
    Calls Try.prog 10 #[.slice (some ⟨b, off, none⟩) n c] w fun e w' => e = .returned (.bool (eqB 24 (enc3 F (n - 3)) (fun k => F ((n - 3) * 8 + k)))) ∧ Below w.heap.size w w' := by
  have hbw : b < w.heap.size := World.block_lt_of_cell? w ⟨b, off + 0, none⟩ (hI 0 (by omega))
  have HI := Lib.hid hI
  clear hI
  go_enter Try.func10, Try.ntmps10
  go_wp2_with fail
  refine (encode_any F b off (n - 3) c w (by omega) (by omega) hF (fun j hj => HI.out j (by omega))).mono ?_
  rintro e w1 ⟨rfl, hR, hB⟩
  have HE := Lib.hid (equal_any (enc3 F (n - 3)) (fun k => F ((n - 3) * 8 + k)) (some ⟨w.heap.size, 0, none⟩) (some ⟨b, off + (n - 3) * 8, none⟩) 3 3 (c - (n - 3)) w1 (by omega) (enc3_lt hF _) (fun k => hF _)
    (fun _ => ⟨_, _, rfl, fun j hj => by rw [Nat.zero_add]; exact hR.cell j (by omega)⟩) (fun _ => ⟨_, _, rfl, fun j hj => by rw [Nat.add_assoc]; exact (hB.cell (p := ⟨b, off + ((n - 3) * 8 + j), none⟩) hbw).trans (HI.out _ (by omega))⟩))
  have HB := Lib.hid hB
  clear hB hR
  go_wp2_with fail
  rw [show n - (n - 3) = 3 by omega]
  with_reducible refine HE.out.mono ?_
  rintro e w2 ⟨rfl, hB2⟩
  have HB2 := Lib.hid (keepw HB.out hB2)
  clear hB2
  go_wp2_with fail
  go_ret
  exact ⟨rfl, HB2.out⟩
end Go.Proofs.Ytlimlmfgeaokhaa
namespace Go.Proofs.Ytlimlmfgeaokhaa
open Go.RowKit

theorem check_bad (A : Option Addr) (n c : Nat) (w : World) (h : n < 4 ∨ 16 < n) (hn : n ≤ 1000000) :
    Calls Try.prog 10 #[.slice A n c] w fun e w' => e = .returned (.bool false) ∧ Below w.heap.size w w' := by
  rcases h with h | h
  · go_enter Try.func10, Try.ntmps10
    go_wp2_with fail
    go_ret
    exact ⟨rfl, Below.refl _ _⟩
  · go_enter Try.func10, Try.ntmps10
    go_wp2_with fail
    go_ret
    exact ⟨rfl, Below.refl _ _⟩
theorem matrix_bad (n : Int) (w : World) (h : n < 1 ∨ 13 < n) :
    Calls Try.prog 48 #[.int .i64 n] w fun e w' => e = .returned (.tuple #[.slice none 0 0, .int .i64 1]) ∧ Below w.heap.size w w' := by
  rcases h with h | h
  · go_enter Try.func48, Try.ntmps48
    go_wp2_with fail
    go_ret2
    exact ⟨rfl, Below.refl _ _⟩
  · go_enter Try.func48, Try.ntmps48
    go_wp2_with fail
    go_ret2
    exact ⟨rfl, Below.refl _ _⟩
end Go.Proofs.Ytlimlmfgeaokhaa
namespace Go.Proofs.Ytlimlmfgeaokhaa
open Go.RowKit

/-- the sum of the first i multiples -/
def sp (F : Nat → Nat) (j : Nat) : Nat → Nat → Nat
  | 0, _ => 0
  | i + 1, k => sp F j i k ^^^ Gf.mul (Gf.npow 2 (j * i)) (F (i * 8 + k))
def parS (F : Nat → Nat) (n j i k p : Nat) : Nat := if p / 8 < j then sp F (p / 8) n (p % 8) else if p / 8 = j then (if p % 8 < k then sp F j (i + 1) (p % 8) else sp F j i (p % 8)) else 0
theorem sp_lt {F : Nat → Nat} (j i k : Nat) : sp F j i k < 256 := by
  induction i with
  | zero => show (0 : Nat) < 256; omega
  | succ i ih => exact Nat.xor_lt_two_pow (n := 8) ih (Gf.mul_lt _ _ (Gf.npow_lt 2 _))
theorem parS_at (F : Nat → Nat) (n j i k : Nat) (h : k < 8) : parS F n j i k (j * 8 + k) = sp F j i k := by
  have e1 : (j * 8 + k) / 8 = j := by omega
  have e2 : (j * 8 + k) % 8 = k := by omega
  simp [parS, e1, e2]
theorem parS_at1 (F : Nat → Nat) (n j i k : Nat) (h : k < 8) : parS F n j i (k + 1) (j * 8 + k) = sp F j (i + 1) k := by
  have e1 : (j * 8 + k) / 8 = j := by omega
  have e2 : (j * 8 + k) % 8 = k := by omega
  simp [parS, e1, e2]
theorem parS_ne (F : Nat → Nat) (n j i k p : Nat) (h : p ≠ j * 8 + k) : parS F n j i k p = parS F n j i (k + 1) p := by
  unfold parS
  by_cases e : p / 8 < j
  · rw [if_pos e, if_pos e]
  · rw [if_neg e, if_neg e]
    by_cases e1 : p / 8 = j
    · rw [if_pos e1, if_pos e1]
      by_cases e2 : p % 8 < k
      · rw [if_pos e2, if_pos (by omega)]
      · rw [if_neg e2, if_neg (by omega)]
    · rw [if_neg e1, if_neg e1]
theorem parS_k (F : Nat → Nat) (n j i p : Nat) : parS F n j i 8 p = parS F n j (i + 1) 0 p := by
  unfold parS
  have h : p % 8 < 8 := by omega
  rw [if_pos h, if_neg (Nat.not_lt_zero _)]
theorem parS_i (F : Nat → Nat) (n j p : Nat) : parS F n j n 0 p = parS F n (j + 1) 0 0 p := by
  unfold parS
  rw [if_neg (Nat.not_lt_zero _), if_neg (Nat.not_lt_zero _)]
  by_cases e : p / 8 < j
  · rw [if_pos e, if_pos (by omega)]
  · rw [if_neg e]
    by_cases e1 : p / 8 = j
    · rw [if_pos e1, if_pos (by omega), e1]
    · rw [if_neg e1, if_neg (by omega)]
      simp [sp]
end Go.Proofs.Ytlimlmfgeaokhaa
