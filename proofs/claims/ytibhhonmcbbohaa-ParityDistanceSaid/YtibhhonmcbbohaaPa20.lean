/- The walks of slices.Clone at blocks and of parity.Update. -/
import Derived.Test.YtibhhonmcbbohaaPa19
namespace Go.Proofs.Ytibhhonmcbbohaa
open Go.RowKit

/-- a block whose first n cells are the bytes f -/
def CB (w : World) (g n : Nat) (t : TypeId) (f : Nat → Nat) : Prop := ∃ cur : Array Value, w.heap[g]? = some (.cells cur t (0, 0)) ∧ ∀ j, j < n → cur[j]? = some (.int .u8 (f j : Nat))
theorem CB.cell {w : World} {g n : Nat} {t : TypeId} {f : Nat → Nat} (h : CB w g n t f) (j : Nat) (hj : j < n) : w.cell? ⟨g, j, none⟩ = some (.int .u8 (f j : Nat)) := by
  obtain ⟨cur, h1, h2⟩ := h
  exact (cell_of_row w _ j _ _ _ h1).trans (h2 j hj)
theorem CB.frozen {w : World} {g n : Nat} {t : TypeId} {f : Nat → Nat} (h : CB w g n t f) (j : Nat) : w.frozen? ⟨g, j, none⟩ = false := by
  obtain ⟨cur, h1, _⟩ := h
  exact frozen_of_row w _ j _ _ h1
theorem CB.lt {w : World} {g n : Nat} {t : TypeId} {f : Nat → Nat} (h : CB w g n t f) : g < w.heap.size := by
  obtain ⟨cur, h1, _⟩ := h
  exact (Array.getElem?_eq_some_iff.1 h1).1
theorem CB.below {w w' : World} {g n : Nat} {t : TypeId} {f : Nat → Nat} (h : CB w g n t f) (hB : Below w.heap.size w w') : CB w' g n t f := by
  have hl := h.lt
  obtain ⟨cur, h1, h2⟩ := h
  exact ⟨cur, (hB.block g hl).trans h1, h2⟩
theorem CB.congr {w : World} {g n : Nat} {t : TypeId} {f f' : Nat → Nat} (h : CB w g n t f) (he : ∀ j, j < n → f j = f' j) : CB w g n t f' := by
  obtain ⟨cur, h1, h2⟩ := h
  exact ⟨cur, h1, fun j hj => by rw [h2 j hj, he j hj]⟩
theorem CB.bks {w : World} {g n m : Nat} {t : TypeId} {f : Nat → Nat} (h : CB w g n t f) (hm : m * 8 ≤ n) : Bks w (some ⟨g, 0, none⟩) m f := fun _ => ⟨g, 0, rfl, fun j hj => by rw [Nat.zero_add]; exact h.cell j (by omega)⟩
theorem CB.upd {w : World} {g n i v : Nat} {t : TypeId} {f : Nat → Nat} (h : CB w g n t f) : CB (w.setCell ⟨g, i, none⟩ (.int .u8 (v : Nat))) g n t (fun j => if j = i then v else f j) := by
  obtain ⟨cur, h1, h2⟩ := h
  refine ⟨cur.setIfInBounds i (.int .u8 (v : Nat)), heap_setCell_same w g i _ _ _ h1, fun j hj => ?_⟩
  rw [Array.getElem?_setIfInBounds]
  by_cases e : i = j
  · subst e
    have : i < cur.size := by
      have := h2 i hj
      exact (Array.getElem?_eq_some_iff.1 this).1
    simp [this]
  · rw [if_neg e, h2 j hj]
    show _ = some (Value.int .u8 ((if j = i then v else f j : Nat) : Int))
    rw [if_neg (fun h => e h.symm)]
theorem CB.far {w : World} {g n g' i : Nat} {t : TypeId} {f : Nat → Nat} (h : CB w g n t f) (v : Value) (hne : g' ≠ g) : CB (w.setCell ⟨g', i, none⟩ v) g n t f := by
  obtain ⟨cur, h1, h2⟩ := h
  exact ⟨cur, (Below.heap_setCell w _ v g (fun e => hne e.symm)).trans h1, h2⟩
theorem RB.cb {w : World} {g n : Nat} {t : TypeId} {f : Nat → Nat} (h : RB w g n t f) : CB w g n t f := ⟨_, h, fun j hj => brow_get n f j hj⟩
theorem CB.of_own {w : World} {base n : Nat} {v : Value} {F : Nat → Nat} (h : w.ownsRow base 37 8 v n (bkl F n)) (hn : 0 < n) : ∃ g c, v = .slice (some ⟨g, 0, none⟩) n c ∧ n ≤ c ∧ base ≤ g ∧ CB w g (n * 8) 37 F := by
  have hx := h.1
  rcases h.2 with ⟨rfl, rfl⟩ | ⟨g, cap, cur, rfl, hb, hg, hc, hm, hs, ht⟩
  · omega
  · refine ⟨g, cap, rfl, hc, hb, cur, hg, fun j hj => ?_⟩
    have h1 : (cur.toList.take (n * 8))[j]? = some (.int .u8 (F j : Nat)) := by rw [ht]; simp [bkl, hj]
    rw [List.getElem?_take_of_lt hj] at h1
    simpa using h1
set_option linter.unusedSimpArgs false in
theorem set8_cb {w : World} {g j n : Nat} {t : TypeId} {f h : Nat → Nat} (hr : CB w g n t f) : CB (set8 w g (j * 8) h) g n t (outc f j h) := by
  refine CB.congr (CB.upd (CB.upd (CB.upd (CB.upd (CB.upd (CB.upd (CB.upd (CB.upd hr)))))))) (fun q hq => ?_)
  unfold outc
  by_cases e : q / 8 = j
  · obtain ⟨m, hm, rfl⟩ : ∃ m, m < 8 ∧ q = j * 8 + m := ⟨q % 8, by omega, by omega⟩
    have e1 : (j * 8 + m) / 8 = j := by omega
    have e2 : (j * 8 + m) % 8 = m := by omega
    match m, hm with
    | 0, _ => simp [e1, e2]
    | 1, _ => simp [e1, e2]
    | 2, _ => simp [e1, e2]
    | 3, _ => simp [e1, e2]
    | 4, _ => simp [e1, e2]
    | 5, _ => simp [e1, e2]
    | 6, _ => simp [e1, e2]
    | 7, _ => simp [e1, e2]
  · have e1 : q ≠ j * 8 := by omega
    have e2 : ∀ m, m < 8 → q ≠ j * 8 + m := fun m hm => by omega
    simp [e, e1, e2 1 (by omega), e2 2 (by omega), e2 3 (by omega), e2 4 (by omega), e2 5 (by omega), e2 6 (by omega), e2 7 (by omega)]
set_option maxRecDepth 100000 in
theorem clone_any (F : Nat → Nat) (b off n c : Nat) (w : World) (h1 : 1 ≤ n) (h2 : n ≤ 40) (hc : n ≤ c) (hI : Bks w (some ⟨b, off, none⟩) n F) :
    Calls Try.prog 29 #[.slice (some ⟨b, off, none⟩) n c] w fun e w' => ∃ v, e = .returned v ∧ w'.ownsRow w.heap.size 37 8 v n (bkl F n) ∧ Below w.heap.size w w' := by
  have HI := Lib.hid hI
  clear hI
  go_enter Try.func29, Try.ntmps29
  have he : ∀ W : World, (binOp .eql 30 (.slice (some ⟨b, off, none⟩) n c) (.slice none 0 0)).run Try.prog W = .ok (.bool false) W := fun _ => rfl
  go_wp2_with (at_builtin; refine app_bks rfl (.tmp 5) (.tmp 6) rfl w.heap.size (.slice (some ⟨w.heap.size, 0, none⟩) 0 0) 0 n (fun _ => 0) F rfl (own_bks0 _ (Nat.le_refl _)) (some ⟨b, off, none⟩) c rfl (fun h => by cases h) (HI.out.below (Go.Joins.below_alloc1 _ _)) (by omega) hc (by simp) ?_; intro v1 w2 o1 g1; rw [cat_zero, Nat.zero_add] at o1; have HB2 := Lib.hid ((Go.Joins.below_alloc1 w _).grown g1 (by simp) (own_new (Nat.le_refl _))); have HO := Lib.hid o1; clear o1 g1)
  go_ret
  exact ⟨v1, rfl, HO.out, HB2.out⟩
/-- the parity P after a change c of piece i, the first j blocks done -/
def updS (P c : Nat → Nat) (i j p : Nat) : Nat := if p / 8 < j then P p ^^^ Gf.mul (Gf.ex (i * (p / 8))) (c (p % 8)) else P p
theorem updS_at (P c : Nat → Nat) (i j k : Nat) (h : k < 8) : updS P c i j (j * 8 + k) = P (j * 8 + k) := by
  unfold updS
  rw [if_neg (by omega)]
theorem updS_next (P c : Nat → Nat) (i j : Nat) (h : Nat → Nat) (hh : ∀ k, k < 8 → h k = P (j * 8 + k) ^^^ Gf.mul (Gf.ex (i * j)) (c k)) (p : Nat) : outc (updS P c i j) j h p = updS P c i (j + 1) p := by
  unfold outc updS
  by_cases e : p / 8 = j
  · have e3 : j * 8 + p % 8 = p := by omega
    rw [if_pos e, if_pos (by omega), hh _ (by omega), e, e3]
  · rw [if_neg e]
    by_cases e1 : p / 8 < j
    · rw [if_pos e1, if_pos (by omega)]
    · rw [if_neg e1, if_neg (by omega)]
theorem set8_rb8 {w : World} {g g' p n : Nat} {t : TypeId} {f h : Nat → Nat} (hr : RB w g' n t f) (hne : g ≠ g') : RB (set8 w g p h) g' n t f := set8_far hr hne
set_option maxRecDepth 100000 in
set_option maxHeartbeats 1000000 in
theorem update_any (P o z : Nat → Nat) (b off c i : Nat) (w : World) (hP : ∀ j, P j < 256) (ho : ∀ j, o j < 256) (hz : ∀ j, z j < 256) (hi : i < 13) (hc : 3 ≤ c) (hI : Bks w (some ⟨b, off, none⟩) 3 P) :
    Calls Try.prog 21 #[.slice (some ⟨b, off, none⟩) 3 c, .int .i64 i, .agg (brow 8 o), .agg (brow 8 z)] w fun e w' => ∃ g cg, e = .returned (.tuple #[.slice (some ⟨g, 0, none⟩) 3 cg, .int .i64 0]) ∧ 3 ≤ cg ∧ w.heap.size ≤ g ∧
      CB w' g 24 37 (updS P (fun k => o k ^^^ z k) i 3) ∧ Below w.heap.size w w' := by
  have HI := Lib.hid hI
  have hf := fun W => fusedB_any o z 1 W (by omega) ho hz
  rw [brow_congr (f := fus o z 1) (f' := fun k => o k ^^^ z k) (fun k _ => by show o k ^^^ Gf.mul 1 (z k) = _; rw [Gf.one_mul _ (hz k)])] at hf
  have hch : ∀ k, (fun k => o k ^^^ z k) k < 256 := fun k => Gf.xor_lt (ho k) (hz k)
  obtain ⟨ch, hchd⟩ : ∃ ch : Nat → Nat, ch = fun k => o k ^^^ z k := ⟨_, rfl⟩
  rw [← hchd] at hf hch ⊢
  have hf' := hf
  simp only [brow8, Int.cast_ofNat_Int] at hf
  have HF := Lib.hid hf
  clear hI hf hf' hchd
  simp only [brow8]
  go_enter Try.func21, Try.ntmps21
  go_wp2_with (go_at_call 26; (with_reducible refine (HF.out _).mono ?_); rintro e w1 ⟨rfl, hB1⟩; have HB1 := Lib.hid (((Go.Joins.below_alloc1 w _).alloc (by simp) _).trans (hB1.mono (by simp; omega))); clear hB1)
  have HBa := Lib.hid (HB1.out.alloc HB1.out.size (.cells (brow 8 ch) 37))
  refine (clone_any P b off 3 c (w1.alloc (.cells (brow 8 ch) 37)) (by omega) (by omega) hc (HI.out.below HBa.out)).mono ?_
  rintro e w2 ⟨v, rfl, o2, hB2⟩
  obtain ⟨g, cg, rfl, hcg, hg, hC⟩ := CB.of_own o2 (by omega)
  have HB2 := Lib.hid (HBa.out.trans (hB2.mono HBa.out.size))
  have HCH := Lib.hid ((RB.new (w := w1) (t := 37) (f := ch) (n := 8)).below hB2)
  have HC := Lib.hid hC
  have hgw : w1.heap.size < g := by simp at hg; omega
  have hgs := hC.lt
  have h1s := HB1.out.size
  clear o2 hB2 HBa hC hg
  have HC0 := Lib.hid (HC.out.congr (f' := updS P ch i 0) (fun p _ => by rw [updS, if_neg (by omega)]))
  clear HC
  go_wp2_with fail
  go_loopw [31] (fun vj wr => ∃ j : Nat, j ≤ 3 ∧ vj = .int .i64 j ∧ CB wr g 24 37 (updS P ch i j) ∧ RB wr w1.heap.size 8 37 ch ∧ Below w.heap.size w wr) (fun vj _ => 3 - (intOf vj).toNat)
  case atStart => exact ⟨0, by omega, rfl, HC0.out, HCH.out, HB2.out⟩
  case round =>
    clear HC0 HCH HB2
    obtain ⟨j, hj, rfl, hC, hR, hB⟩ := hrel
    by_cases hj3 : j < 3
    · have hjd : decide ((j : Int) < 3) = true := decide_eq_true (by omega)
      have hij : i * j < 1000 := by have := Nat.mul_le_mul (show i ≤ 12 by omega) (show j ≤ 3 by omega); omega
      have hmul : ((i : Int) * (j : Int)) = ((i * j : Nat) : Int) := by simp
      have hex : expo ((i * j : Nat) : Int) = i * j := by
        unfold expo
        have : i * j < 255 := by have := Nat.mul_le_mul (show i ≤ 12 by omega) (show j ≤ 2 by omega); omega
        omega
      have hx := fun W => exp_any ((i * j : Nat) : Int) W
      simp only [hex] at hx
      have hwr := IntWalk.i64_in ((i : Int) * (j : Int)) (by rw [hmul]; omega)
      rw [← hmul] at hx
      obtain ⟨y, hy⟩ : ∃ y, y = Gf.ex (i * j) := ⟨_, rfl⟩
      rw [← hy] at hx
      have HX := Lib.hid hx
      have HY := Lib.hid hy
      have hyl : y < 256 := by rw [hy]; exact Gf.ex_lt _
      have hf := fun W => fusedB_any (fun k => P (j * 8 + k)) ch y W hyl (fun k => hP _) hch
      obtain ⟨h, hh⟩ : ∃ h, h = fus (fun k => P (j * 8 + k)) ch y := ⟨_, rfl⟩
      rw [← hh] at hf
      have HH := Lib.hid hh
      have HF := Lib.hid hf
      simp only [brow8, Nat.add_zero] at HF
      obtain ⟨r0, r1, r2, r3, r4, r5, r6, r7⟩ := cells8 hR
      have c0 := hC.cell (j * 8 + 0) (by omega)
      have c1 := hC.cell (j * 8 + 1) (by omega)
      have c2 := hC.cell (j * 8 + 2) (by omega)
      have c3 := hC.cell (j * 8 + 3) (by omega)
      have c4 := hC.cell (j * 8 + 4) (by omega)
      have c5 := hC.cell (j * 8 + 5) (by omega)
      have c6 := hC.cell (j * 8 + 6) (by omega)
      have c7 := hC.cell (j * 8 + 7) (by omega)
      rw [updS_at P ch i j _ (by omega)] at c0 c1 c2 c3 c4 c5 c6 c7
      rw [Nat.add_zero] at c0
      have HC := Lib.hid hC
      have HR := Lib.hid hR
      have HB := Lib.hid hB
      clear hC hR hB hf hh hx hy hmul hex hch
      have hj3i : (j : Int) < 3 := by omega
      go_wp2_with fail
      go_region_with (first
        | (go_simp; go_at_call 23; (with_reducible refine (HX.out _).mono ?_); rintro e w' ⟨rfl, rfl⟩)
        | (go_simp; go_at_call 26; (with_reducible refine (HF.out _).mono ?_); rintro e w5 ⟨rfl, hB5⟩; have hC5 := HC.out.below (w := wr.drew) hB5; have f0 := hC5.frozen; have d0 := hC5.cell (j * 8) (by omega); have d1 := hC5.cell (j * 8 + 1) (by omega); have d2 := hC5.cell (j * 8 + 2) (by omega); have d3 := hC5.cell (j * 8 + 3) (by omega); have d4 := hC5.cell (j * 8 + 4) (by omega); have d5 := hC5.cell (j * 8 + 5) (by omega); have d6 := hC5.cell (j * 8 + 6) (by omega); have d7 := hC5.cell (j * 8 + 7) (by omega); have HC5 := Lib.hid hC5; have HR5 := Lib.hid (HR.out.below (w := wr.drew) hB5); have HB5 := Lib.hid (HB.out.drew.trans (hB5.mono HB.out.size)); clear hC5 hB5))
      all_goals
        clear HC HR HB c0 c1 c2 c3 c4 c5 c6 c7 r0 r1 r2 r3 r4 r5 r6 r7 d0 d1 d2 d3 d4 d5 d6 d7 f0
        have hfin : CB (set8 w5 g (j * 8) h) g 24 37 (updS P ch i (j + 1)) := (set8_cb (h := h) HC5.out).congr (fun p _ => updS_next P ch i j h (fun k _ => by rw [HH.out, HY.out]; rfl) p)
        have hrb : RB (set8 w5 g (j * 8) h) w1.heap.size 8 37 ch := set8_rb8 HR5.out (by omega)
        have hbl : Below w.heap.size w (set8 w5 g (j * 8) h) := set8_below HB5.out (by omega)
        go_wp2_with fail
        go_roundw
        case rel => exact ⟨j + 1, by omega, by go_num, hfin, hrb, hbl⟩
        case measure => simp [intOf]; omega
    · obtain rfl : j = 3 := by omega
      go_wp2_with fail
      go_ret2
      exact ⟨g, cg, rfl, hcg, by omega, hC, hB⟩
end Go.Proofs.Ytibhhonmcbbohaa
