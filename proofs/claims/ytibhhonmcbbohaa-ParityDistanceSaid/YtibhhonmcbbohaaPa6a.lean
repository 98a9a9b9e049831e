/- What the walk of parity.Encode wants of memory. -/
import Derived.Test.YtibhhonmcbbohaaPa7
namespace Go.Proofs.Ytibhhonmcbbohaa
open Go.RowKit Go.Shelf
attribute [local go_sem] Oper.semAt_some

theorem obj_own {β : Type} (B : Nat) (t : TypeId) (f : β → Array Value) : Own (fun s W => W.heap[B]? = some (.cells (f s) t (0, 0))) := fun s X Y row hs hg hrow =>
  (hg.block B (Array.getElem?_eq_some_iff.1 hs).1 (fun e' => by obtain ⟨o, ho, hc⟩ := hrow B e'.symm; rw [hs] at ho; cases ho; cases hc)).trans hs
/-- Horner's rule over the pieces that have come -/
def horn (F : Nat → Nat) (c : Nat) (pre : List Nat) : Nat → Nat := pre.foldl (fun h x k => F (x * 8 + k) ^^^ Gf.mul c (h k)) (fun _ => 0)
theorem horn_snoc (F : Nat → Nat) (c : Nat) (pre : List Nat) (x : Nat) : horn F c (pre ++ [x]) = fun k => F (x * 8 + k) ^^^ Gf.mul c (horn F c pre k) := by simp [horn]
/-- 24 bytes of which block j is h -/
def outc (o : Nat → Nat) (j : Nat) (h : Nat → Nat) (p : Nat) : Nat := if p / 8 = j then h (p % 8) else o p

theorem horn_lt {F : Nat → Nat} {c : Nat} (hF : ∀ j, F j < 256) (hc : c < 256) (pre : List Nat) (k : Nat) : horn F c pre k < 256 := by
  rcases List.eq_nil_or_concat pre with rfl | ⟨ys, x, rfl⟩
  · simp [horn]
  · rw [List.concat_eq_append, horn_snoc]
    exact Nat.xor_lt_two_pow (n := 8) (hF _) (Gf.mul_lt c _ hc)
theorem out8_0 {W : World} {g : Nat} {t : TypeId} {f H : Nat → Nat} (h : RB W g 24 t (outc f 0 H)) : W.cell? ⟨g, 0, none⟩ = some (.int .u8 (H 0 : Nat)) ∧ W.cell? ⟨g, 1, none⟩ = some (.int .u8 (H 1 : Nat)) ∧ W.cell? ⟨g, 2, none⟩ = some (.int .u8 (H 2 : Nat)) ∧ W.cell? ⟨g, 3, none⟩ = some (.int .u8 (H 3 : Nat)) ∧
    W.cell? ⟨g, 4, none⟩ = some (.int .u8 (H 4 : Nat)) ∧ W.cell? ⟨g, 5, none⟩ = some (.int .u8 (H 5 : Nat)) ∧ W.cell? ⟨g, 6, none⟩ = some (.int .u8 (H 6 : Nat)) ∧ W.cell? ⟨g, 7, none⟩ = some (.int .u8 (H 7 : Nat)) :=
  ⟨h.cell 0 (by omega), h.cell 1 (by omega), h.cell 2 (by omega), h.cell 3 (by omega), h.cell 4 (by omega), h.cell 5 (by omega), h.cell 6 (by omega), h.cell 7 (by omega)⟩
theorem keepc {W w1 : World} {a : Addr} {v : Value} (h : W.cell? a = some v) (hB : Below W.heap.size W w1) : w1.cell? a = some v := (hB.cell (World.block_lt_of_cell? W _ h)).trans h
theorem RB.upd {w : World} {g n i v : Nat} {t : TypeId} {f : Nat → Nat} (h : RB w g n t f) : RB (w.setCell ⟨g, i, none⟩ (.int .u8 (v : Nat))) g n t (fun j => if j = i then v else f j) :=
  h.set (by simp) (fun j _ e => by rw [if_neg e])
/-- the eight cells of one block -/
def set8 (w : World) (g p : Nat) (h : Nat → Nat) : World := (((((((w.setCell ⟨g, p, none⟩ (.int .u8 (h 0 : Nat))).setCell ⟨g, p + 1, none⟩ (.int .u8 (h 1 : Nat))).setCell ⟨g, p + 2, none⟩ (.int .u8 (h 2 : Nat))).setCell ⟨g, p + 3, none⟩ (.int .u8 (h 3 : Nat))).setCell ⟨g, p + 4, none⟩ (.int .u8 (h 4 : Nat))).setCell ⟨g, p + 5, none⟩ (.int .u8 (h 5 : Nat))).setCell ⟨g, p + 6, none⟩ (.int .u8 (h 6 : Nat))).setCell ⟨g, p + 7, none⟩ (.int .u8 (h 7 : Nat))
theorem set8_rb {w : World} {g j : Nat} {t : TypeId} {f H h : Nat → Nat} (hr : RB w g 24 t (outc f j H)) : RB (set8 w g (j * 8) h) g 24 t (outc f j h) := by
  refine RB.congr (RB.upd (RB.upd (RB.upd (RB.upd (RB.upd (RB.upd (RB.upd (RB.upd hr)))))))) (fun q hq => ?_)
  unfold outc
  by_cases e : q / 8 = j
  · obtain ⟨m, hm, rfl⟩ : ∃ m, m < 8 ∧ q = j * 8 + m := ⟨q % 8, by omega, by omega⟩
    have e1 : (j * 8 + m) / 8 = j := by omega
    have e2 : (j * 8 + m) % 8 = m := by omega
    rw [if_pos e1, e2]
    obtain rfl | rfl | rfl | rfl | rfl | rfl | rfl | rfl : m = 0 ∨ m = 1 ∨ m = 2 ∨ m = 3 ∨ m = 4 ∨ m = 5 ∨ m = 6 ∨ m = 7 := by omega
    all_goals (simp <;> (try (intro hh; exact absurd e1 hh)))
  · rw [if_neg e, if_neg e]
    rw [if_neg (by omega), if_neg (by omega), if_neg (by omega), if_neg (by omega), if_neg (by omega), if_neg (by omega), if_neg (by omega), if_neg (by omega)]
theorem set8_far {w : World} {g p g' n : Nat} {t : TypeId} {f h : Nat → Nat} (hr : RB w g' n t f) (hne : g ≠ g') : RB (set8 w g p h) g' n t f :=
  (((((((hr.far _ hne).far _ hne).far _ hne).far _ hne).far _ hne).far _ hne).far _ hne).far _ hne
theorem box_far {w : World} {g p g' : Nat} {t : TypeId} {v u : Value} (hr : Boxed w g' t v) (hne : g' ≠ g) : Boxed (w.setCell ⟨g, p, none⟩ u) g' t v := (Below.heap_setCell w ⟨g, p, none⟩ u g' hne).trans hr
theorem set8_box {w : World} {g p g' : Nat} {t : TypeId} {v : Value} {h : Nat → Nat} (hr : Boxed w g' t v) (hne : g' ≠ g) : Boxed (set8 w g p h) g' t v :=
  box_far (box_far (box_far (box_far (box_far (box_far (box_far (box_far hr hne) hne) hne) hne) hne) hne) hne) hne
theorem set8_below {w0 w : World} {n g p : Nat} {h : Nat → Nat} (hB : Below n w0 w) (hg : n ≤ g) : Below n w0 (set8 w g p h) :=
  (((((((hB.setCell hg _).setCell hg _).setCell hg _).setCell hg _).setCell hg _).setCell hg _).setCell hg _).setCell hg _
theorem keeps_below {W W' : World} (h : Below W.heap.size W W') : KeepsOthers W W' := ⟨h.size, fun k _ hk _ => (h.block k (Array.getElem?_eq_some_iff.1 hk).1).trans hk⟩
theorem keeps_set8 {W : World} {g p : Nat} {h : Nat → Nat} : KeepsOthers W (set8 W g p h) :=
  (((((((KeepsOthers.setCell _ _ _).trans (KeepsOthers.setCell _ _ _)).trans (KeepsOthers.setCell _ _ _)).trans (KeepsOthers.setCell _ _ _)).trans (KeepsOthers.setCell _ _ _)).trans (KeepsOthers.setCell _ _ _)).trans (KeepsOthers.setCell _ _ _)).trans (KeepsOthers.setCell _ _ _)
/-- what one round of Encode's inner loop leaves -/
theorem round_end {w W w3 : World} {B b off n c j Bs Bj : Nat} {o H h2 hn : Nat → Nat} {v vj : Value} {tj : TypeId} (hB3 : Below W.drew.heap.size W.drew w3) (hW : Below w.heap.size w W) (hS : Boxed W Bs 30 (.slice (some ⟨b, off, none⟩) n c))
    (bO3 : Boxed w3 (w.heap.size + 1) 30 v) (bJ3 : Boxed w3 Bj tj vj) (bS3 : Boxed w3 Bs 30 (.slice (some ⟨b, off, none⟩) n c))
    (hO3 : RB w3 w.heap.size 24 37 (outc o j H)) (hh : hn = h2) (hj : w.heap.size < Bj := by omega) (hs : w.heap.size < Bs := by omega) :
    KeepsFrom B W (set8 w3 w.heap.size (j * 8) h2) ∧ KpB w.heap.size Bs W (set8 w3 w.heap.size (j * 8) h2) ∧
    (((set8 w3 w.heap.size (j * 8) h2).heap[w.heap.size]? = some (.cells (brow 24 (outc o j hn)) 37 (0, 0)) ∧ Boxed (set8 w3 w.heap.size (j * 8) h2) (w.heap.size + 1) 30 v) ∧ (Boxed (set8 w3 w.heap.size (j * 8) h2) Bj tj vj ∧ Boxed (set8 w3 w.heap.size (j * 8) h2) Bs 30 (.slice (some ⟨b, off, none⟩) n c))) ∧ Below w.heap.size w (set8 w3 w.heap.size (j * 8) h2) := by
  subst hh
  have h3 : Below W.heap.size W w3 := ((Below.refl W.heap.size W).drew).trans hB3
  have bS4 := set8_box (p := j * 8) (h := hn) bS3 (show Bs ≠ w.heap.size by omega)
  refine ⟨((keeps_below h3).trans keeps_set8).from _, ⟨set8_below (h3.mono hW.size) (Nat.le_refl _), bS4.trans (Eq.symm hS)⟩, ⟨⟨set8_rb hO3, set8_box bO3 (by omega)⟩, set8_box bJ3 (by omega), bS4⟩, set8_below (hW.trans (h3.mono hW.size)) (Nat.le_refl _)⟩
/-- the marks of loops that are over -/
def Marks (W : World) (ds : List Nat) : Prop := ∀ D ∈ ds, W.heap[D]? = some (.deferred (some []))
theorem Marks.lt {W : World} {ds : List Nat} (h : Marks W ds) : ∀ D ∈ ds, D < W.heap.size := fun D hD => (Array.getElem?_eq_some_iff.1 (h D hD)).1
theorem Marks.alloc {W : World} {ds : List Nat} (h : Marks W ds) (o : Obj) : Marks (W.alloc o) ds := fun D hD => (Below.heap_alloc W o D (h.lt D hD)).trans (h D hD)
theorem Marks.cons {W : World} {ds : List Nat} {D : Nat} (h : Marks W ds) (hK : W.heap[D]? = some (.deferred (some []))) : Marks W (D :: ds) := fun E hE => by
  rcases List.mem_cons.1 hE with rfl | hE
  · exact hK
  · exact h E hE
theorem marks_own {β : Type} {B : Nat} {ds : List Nat} (hB : ∀ D ∈ ds, D < B) : OwnFrom B (fun (_ : β) W => Marks W ds) := fun _ W _ row hs hg hr D hD =>
  (hg.block D (hs.lt D hD) (fun e => by have := (hr D e.symm).1; have := hB D hD; omega)).trans (hs D hD)
theorem marks_kept {W w3 : World} {ds : List Nat} {g p : Nat} {h : Nat → Nat} (hM : Marks W ds) (hB3 : Below W.drew.heap.size W.drew w3) : Marks (set8 w3 g p h) ds := fun D hD =>
  ((keeps_below (((Below.refl W.heap.size W).drew).trans hB3)).trans keeps_set8).same D _ (hM D hD) rfl
theorem outc_zero0 {F : Nat → Nat} {c : Nat} (p : Nat) (_ : p < 24) : (fun _ => 0) p = outc (fun _ => 0) 0 (horn F c []) p := by simp [outc, horn]
theorem outc_zero1 {F h : Nat → Nat} {c : Nat} (p : Nat) (_ : p < 24) : outc (fun _ => 0) 0 h p = outc (outc (fun _ => 0) 0 h) 1 (horn F c []) p := by
  unfold outc horn
  by_cases e : p / 8 = 1
  · simp [e]
  · simp [e]
theorem outc_zero2 {F h h' : Nat → Nat} {c : Nat} (p : Nat) (_ : p < 24) : outc (outc (fun _ => 0) 0 h) 1 h' p = outc (outc (outc (fun _ => 0) 0 h) 1 h') 2 (horn F c []) p := by
  unfold outc horn
  by_cases e : p / 8 = 2
  · simp [e]
  · simp [e]
theorem out8_1 {W : World} {g : Nat} {t : TypeId} {f H : Nat → Nat} (h : RB W g 24 t (outc f 1 H)) : W.cell? ⟨g, 8, none⟩ = some (.int .u8 (H 0 : Nat)) ∧ W.cell? ⟨g, 9, none⟩ = some (.int .u8 (H 1 : Nat)) ∧ W.cell? ⟨g, 10, none⟩ = some (.int .u8 (H 2 : Nat)) ∧ W.cell? ⟨g, 11, none⟩ = some (.int .u8 (H 3 : Nat)) ∧
    W.cell? ⟨g, 12, none⟩ = some (.int .u8 (H 4 : Nat)) ∧ W.cell? ⟨g, 13, none⟩ = some (.int .u8 (H 5 : Nat)) ∧ W.cell? ⟨g, 14, none⟩ = some (.int .u8 (H 6 : Nat)) ∧ W.cell? ⟨g, 15, none⟩ = some (.int .u8 (H 7 : Nat)) :=
  ⟨h.cell 8 (by omega), h.cell 9 (by omega), h.cell 10 (by omega), h.cell 11 (by omega), h.cell 12 (by omega), h.cell 13 (by omega), h.cell 14 (by omega), h.cell 15 (by omega)⟩
theorem out8_2 {W : World} {g : Nat} {t : TypeId} {f H : Nat → Nat} (h : RB W g 24 t (outc f 2 H)) : W.cell? ⟨g, 16, none⟩ = some (.int .u8 (H 0 : Nat)) ∧ W.cell? ⟨g, 17, none⟩ = some (.int .u8 (H 1 : Nat)) ∧ W.cell? ⟨g, 18, none⟩ = some (.int .u8 (H 2 : Nat)) ∧ W.cell? ⟨g, 19, none⟩ = some (.int .u8 (H 3 : Nat)) ∧
    W.cell? ⟨g, 20, none⟩ = some (.int .u8 (H 4 : Nat)) ∧ W.cell? ⟨g, 21, none⟩ = some (.int .u8 (H 5 : Nat)) ∧ W.cell? ⟨g, 22, none⟩ = some (.int .u8 (H 6 : Nat)) ∧ W.cell? ⟨g, 23, none⟩ = some (.int .u8 (H 7 : Nat)) :=
  ⟨h.cell 16 (by omega), h.cell 17 (by omega), h.cell 18 (by omega), h.cell 19 (by omega), h.cell 20 (by omega), h.cell 21 (by omega), h.cell 22 (by omega), h.cell 23 (by omega)⟩
/-- the three parity blocks, flat -/
def enc3 (F : Nat → Nat) (n : Nat) : Nat → Nat := outc (outc (outc (fun _ => 0) 0 (horn F (Gf.ex 0) (upto (bwd n) n))) 1 (horn F (Gf.ex 1) (upto (bwd n) n))) 2 (horn F (Gf.ex 2) (upto (bwd n) n))
end Go.Proofs.Ytibhhonmcbbohaa
