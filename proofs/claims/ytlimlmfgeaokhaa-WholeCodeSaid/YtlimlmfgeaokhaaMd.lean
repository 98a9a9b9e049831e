/- Matrices in rows of their own; the walks of gf256.Fused, gfmatrix.blank, Valid and Identity. The walks of gfmatrix.Valid and gfmatrix.Identity. The walk of gfmatrix.Mul. Gauss and Jordan, in plain arithmetic: the steps keep what makes the right half the inverse of the matrix. The walk of gfmatrix.Inverse: the closure and slices.IndexFunc. The walk of slices.Clone at bytes. -/
import Derived.Test.YtlimlmfgeaokhaaMc
namespace Go.Proofs.Ytlimlmfgeaokhaa
open Go.RowKit

/-- a matrix of n rows of d bytes, each row a block of its own -/
def MB (w : World) (g n d : Nat) (R : Nat → Nat) (f : Nat → Nat → Nat) : Prop :=
  (∃ cur : Array Value, w.heap[g]? = some (.cells cur 36 (0, 0)) ∧ ∀ i, i < n → cur[i]? = some (.slice (some ⟨R i, 0, none⟩) d d)) ∧ ∀ i, i < n → RB w (R i) d 5 (f i)
theorem MB.hd {w : World} {g n d : Nat} {R : Nat → Nat} {f : Nat → Nat → Nat} (h : MB w g n d R f) (i : Nat) (hi : i < n) : w.cell? ⟨g, i, none⟩ = some (.slice (some ⟨R i, 0, none⟩) d d) := by
  obtain ⟨⟨cur, h1, h2⟩, _⟩ := h
  exact (cell_of_row w _ i _ _ _ h1).trans (h2 i hi)
theorem MB.fz {w : World} {g n d : Nat} {R : Nat → Nat} {f : Nat → Nat → Nat} (h : MB w g n d R f) (i : Nat) : w.frozen? ⟨g, i, none⟩ = false := by
  obtain ⟨⟨cur, h1, _⟩, _⟩ := h
  exact frozen_of_row w _ i _ _ h1
theorem MB.lt {w : World} {g n d : Nat} {R : Nat → Nat} {f : Nat → Nat → Nat} (h : MB w g n d R f) : g < w.heap.size := by
  obtain ⟨⟨cur, h1, _⟩, _⟩ := h
  exact (Array.getElem?_eq_some_iff.1 h1).1
theorem MB.ne {w : World} {g n d : Nat} {R : Nat → Nat} {f : Nat → Nat → Nat} (h : MB w g n d R f) {i : Nat} (hi : i < n) : R i ≠ g := fun e => by
  obtain ⟨⟨cur, h1, _⟩, h2⟩ := h
  have h3 := h2 i hi
  rw [RB, e, h1] at h3
  injection h3 with h3
  injection h3 with _ h4
  exact absurd h4 (by decide)
theorem MB.below {w w' : World} {g n d : Nat} {R : Nat → Nat} {f : Nat → Nat → Nat} (h : MB w g n d R f) (hB : Below w.heap.size w w') : MB w' g n d R f := by
  have hl := h.lt
  obtain ⟨⟨cur, h1, h2⟩, h3⟩ := h
  exact ⟨⟨cur, (hB.block g hl).trans h1, h2⟩, fun i hi => (h3 i hi).below hB⟩
theorem MB.congr {w : World} {g n d : Nat} {R : Nat → Nat} {f f' : Nat → Nat → Nat} (h : MB w g n d R f) (he : ∀ i, i < n → ∀ j, j < d → f i j = f' i j) : MB w g n d R f' :=
  ⟨h.1, fun i hi => (h.2 i hi).congr (he i hi)⟩
theorem MB.mat {w : World} {g n d : Nat} {R : Nat → Nat} {f : Nat → Nat → Nat} (h : MB w g n d R f) : Mat w (some ⟨g, 0, none⟩) n d f :=
  ⟨g, 0, rfl, fun q hq => ⟨R q, 0, d, by rw [Nat.zero_add]; exact h.hd q hq, fun i hi => by rw [Nat.zero_add]; exact (h.2 q hq).cell i hi⟩⟩
/-- a row is replaced -/
theorem MB.put {w : World} {g n d i r : Nat} {R : Nat → Nat} {f : Nat → Nat → Nat} {h : Nat → Nat} (hm : MB w g n d R f) (hr : RB w r d 5 h) (hne : r ≠ g) :
    MB (w.setCell ⟨g, i, none⟩ (.slice (some ⟨r, 0, none⟩) d d)) g n d (fun k => if k = i then r else R k) (fun k => if k = i then h else f k) := by
  have hn := fun k hk => hm.ne (i := k) hk
  obtain ⟨⟨cur, h1, h2⟩, h3⟩ := hm
  refine ⟨⟨cur.setIfInBounds i (.slice (some ⟨r, 0, none⟩) d d), heap_setCell_same w g i _ _ _ h1, fun j hj => ?_⟩, fun j hj => ?_⟩
  · rw [Array.getElem?_setIfInBounds]
    by_cases e : i = j
    · subst e
      have : i < cur.size := (Array.getElem?_eq_some_iff.1 (h2 i hj)).1
      simp [this]
    · rw [if_neg e, h2 j hj]
      show _ = some (Value.slice (some ⟨(if j = i then r else R j), 0, none⟩) d d)
      rw [if_neg (fun h => e h.symm)]
  · by_cases e : j = i
    · simp only [e, if_true]
      exact hr.far _ (fun h => hne h.symm)
    · simp only [e, if_false]
      exact (h3 j hj).far _ (fun h => hn j hj h.symm)
/-- a byte of a row is set -/
theorem MB.set {w : World} {g n d i j v : Nat} {R : Nat → Nat} {f f' : Nat → Nat → Nat} (hm : MB w g n d R f) (hi : i < n) (hR : ∀ a b, a < n → b < n → R a = R b → a = b) (hv : f' i j = v)
    (he : ∀ a, a < n → ∀ b, b < d → ¬ (a = i ∧ b = j) → f a b = f' a b) : MB (w.setCell ⟨R i, j, none⟩ (.int .u8 (v : Nat))) g n d R f' := by
  have hn := hm.ne hi
  obtain ⟨⟨cur, h1, h2⟩, h3⟩ := hm
  refine ⟨⟨cur, (Below.heap_setCell w _ _ g (fun e => hn e.symm)).trans h1, h2⟩, fun a ha => ?_⟩
  by_cases e : a = i
  · subst e
    exact (h3 a ha).set hv (fun b hb hne => he a ha b hb (fun h => hne h.2))
  · exact RB.congr ((h3 a ha).far _ (fun h => e (hR a i ha hi h.symm))) (fun b hb => he a ha b hb (fun h => e h.1))
theorem mul_inv {a : Nat} (ha : a < 256) (h0 : a ≠ 0) : Gf.mul a (pwr a 254) = 1 := by
  rcases Gf.as_ex a ha with h | ⟨i, hi, rfl⟩
  · exact absurd h h0
  · rw [pwr_ex i 254 (by omega), Gf.ex_mul, show i + i * 254 = 0 + 255 * i by omega, Gf.ex_add_mul]
    rfl
set_option maxRecDepth 100000 in
set_option maxHeartbeats 1000000 in
theorem fusedr_any (d s : Nat → Nat) (c b1 o1 b2 o2 n ca cb : Nat) (w : World) (hn : n ≤ 1000) (hc : c < 256) (hd : ∀ j, d j < 256) (hs : ∀ j, s j < 256)
    (h1 : ∀ j : Nat, j < n → w.cell? ⟨b1, o1 + j, none⟩ = some (.int .u8 (d j : Nat))) (h2 : ∀ j : Nat, j < n → w.cell? ⟨b2, o2 + j, none⟩ = some (.int .u8 (s j : Nat))) :
    Calls Try.prog 54 #[.slice (some ⟨b1, o1, none⟩) n ca, .slice (some ⟨b2, o2, none⟩) n cb, .int .u8 c] w fun e w' => e = .returned (.tuple #[.slice (some ⟨w.heap.size, 0, none⟩) n n, .int .i64 0]) ∧
      RB w' w.heap.size n 5 (fun j => d j ^^^ Gf.mul c (s j)) ∧ Below w.heap.size w w' := by
  have hmk := fun kl kc W => run_make_bytes kl kc n (by omega) W
  have H1 := Lib.hid h1
  have H2 := Lib.hid h2
  clear h1 h2
  go_enter Try.func54, Try.ntmps54
  go_wp2
  go_loopw [20] (fun vi wr => ∃ i : Nat, i ≤ n ∧ vi = .int .i64 i ∧ RB wr w.heap.size n 5 (fun j => if j < i then d j ^^^ Gf.mul c (s j) else 0) ∧ Below w.heap.size w wr) (fun vi _ => n - (intOf vi).toNat)
  case atStart => exact ⟨0, by omega, rfl, RB.new.congr (fun j _ => by simp), (Below.refl _ _).alloc (Nat.le_refl _) _⟩
  case round =>
    obtain ⟨i, hi, rfl, hb, hB⟩ := hrel
    by_cases hlt : i < n
    · have hc1 := (hB.cell (World.block_lt_of_cell? w _ (H1.out i hlt))).trans (H1.out i hlt)
      have hc2 := (hB.cell (World.block_lt_of_cell? w _ (H2.out i hlt))).trans (H2.out i hlt)
      have hc3 := hb.cell i hlt
      have hf3 := hb.frozen i
      obtain ⟨x, hX⟩ : ∃ x, x = d i := ⟨_, rfl⟩
      obtain ⟨y, hY⟩ : ∃ y, y = s i := ⟨_, rfl⟩
      have hx : x < 256 := by rw [hX]; exact hd i
      have hy : y < 256 := by rw [hY]; exact hs i
      rw [← hX] at hc1
      rw [← hY] at hc2
      have HX := Lib.hid hX
      have HY := Lib.hid hY
      clear hX hY
      go_wp2
      go_still_tail 14, (by kernel_rfl)
      still_call ((mul_any c y hc hy _).mono fun _ _ h => ⟨h.1, h.2.symm⟩)
      repeat still_step
      refine wpStill_nil ?_
      change wpList _ _ _ _ _ wr.drew
      obtain ⟨w2, hw2⟩ : ∃ w2, w2 = wr.drew := ⟨_, rfl⟩
      rw [← hw2]
      have HB2 := Lib.hid (show RB w2 w.heap.size n 5 (fun j => if j < i then d j ^^^ Gf.mul c (s j) else 0) by rw [hw2]; exact hb)
      have hW2 : Below w.heap.size w w2 := by rw [hw2]; exact hB.drew
      have hc4 := HB2.out.cell i hlt
      have hf4 := HB2.out.frozen i
      clear hb hB hc1 hc2 hc3 hf3 hw2
      go_wp2
      go_roundw
      case rel =>
        refine ⟨i + 1, by omega, by go_num, ?_, hW2.setCell (Nat.le_refl _) _⟩
        rw [u8_xor_nat x (Gf.mul c y) hx (Gf.mul_lt c y hc)]
        refine HB2.out.set (by rw [if_pos (by omega), HX.out, HY.out]) (fun j hj hne => ?_)
        by_cases e : j < i
        · rw [if_pos e, if_pos (by omega)]
        · rw [if_neg e, if_neg (by omega)]
      case measure => simp [intOf]; omega
    · obtain rfl : i = n := by omega
      go_wp2
      go_ret2
      exact ⟨rfl, hb.congr (fun j hj => by rw [if_pos hj]), hB⟩
theorem run_make_hdr (kl kc : IntKind) (n : Nat) (hn : n ≤ 1000000) (w : World) :
    (Instr.makeSlice 68 (.int kl (n : Int)) (.int kc (n : Int))).run Try.prog w = .ok (.slice (some ⟨w.heap.size, 0, none⟩) n n) (w.alloc (.cells (Array.replicate n (.slice none 0 0)) 36)) := by
  obtain ⟨i0, hi, hz0, hz1, hz2⟩ := info_parts Try.infoBytes
  have h := run_make_rowN (P := Try.prog) 68 36 i0 (.slice none 0 0) Try.underlying68 hi hz0 kl kc n n (Nat.le_refl _) (by rw [hz2]; omega) (by omega) w
  have e : madeCells (Value.slice none 0 0).cells (n * i0.size) = Array.replicate n (.slice none 0 0) := by
    rw [hz1, Nat.mul_one]
    apply Array.toList_inj.1
    have := toList_madeCells_one (.slice none 0 0) n
    rw [show (Value.slice none 0 0).cells = #[.slice none 0 0] from rfl, this]
    simp
  rw [e] at h
  exact h
/-- the first i rows of a matrix of zeros are made -/
def BL (w : World) (g n d i B : Nat) (R : Nat → Nat) : Prop :=
  (∃ cur : Array Value, w.heap[g]? = some (.cells cur 36 (0, 0)) ∧ cur.size = n ∧ ∀ k, k < i → cur[k]? = some (.slice (some ⟨R k, 0, none⟩) d d)) ∧ (∀ k, k < i → RB w (R k) d 5 (fun _ => 0) ∧ B ≤ R k) ∧ ∀ a b, a < i → b < i → R a = R b → a = b
theorem BL.next {w : World} {g n d i B : Nat} {R : Nat → Nat} (h : BL w g n d i B R) (hi : i < n) (hB : B ≤ w.heap.size) :
    BL ((w.alloc (.cells (brow d fun _ => 0) 5)).setCell ⟨g, i, none⟩ (.slice (some ⟨w.heap.size, 0, none⟩) d d)) g n d (i + 1) B (fun k => if k = i then w.heap.size else R k) := by
  obtain ⟨⟨cur, h1, hsz, h2⟩, h3, h4⟩ := h
  have hg : g < w.heap.size := (Array.getElem?_eq_some_iff.1 h1).1
  have hne : ∀ k, k < i → R k ≠ g := fun k hk e => by
    have h5 := (h3 k hk).1
    rw [RB, e, h1] at h5
    injection h5 with h5
    injection h5 with _ h6
    exact absurd h6 (by decide)
  refine ⟨⟨cur.setIfInBounds i (.slice (some ⟨w.heap.size, 0, none⟩) d d), heap_setCell_same _ g i _ _ _ ((Below.heap_alloc w _ g hg).trans h1), by simpa using hsz, fun k hk => ?_⟩, fun k hk => ?_, fun a b ha hb e => ?_⟩
  · rw [Array.getElem?_setIfInBounds]
    by_cases e : i = k
    · subst e
      simp [hsz, hi]
    · rw [if_neg e, h2 k (by omega)]
      show _ = some (Value.slice (some ⟨(if k = i then w.heap.size else R k), 0, none⟩) d d)
      rw [if_neg (fun h => e h.symm)]
  · by_cases e : k = i
    · simp only [e, if_true]
      exact ⟨RB.new.far _ (by omega), hB⟩
    · simp only [e, if_false]
      exact ⟨((h3 k (by omega)).1.alloc _).far _ (fun h => hne k (by omega) h.symm), (h3 k (by omega)).2⟩
  · have hlt : ∀ k, k < i → R k < w.heap.size := fun k hk => (h3 k hk).1.lt
    simp only at e
    by_cases e1 : a = i
    · by_cases e2 : b = i
      · omega
      · rw [if_pos e1, if_neg e2] at e
        have := hlt b (by omega); omega
    · by_cases e2 : b = i
      · rw [if_neg e1, if_pos e2] at e
        have := hlt a (by omega); omega
      · rw [if_neg e1, if_neg e2] at e
        exact h4 a b (by omega) (by omega) e
theorem BL.cell {w : World} {g n d i B : Nat} {R : Nat → Nat} (h : BL w g n d i B R) (hi : i < n) : ∃ v, w.cell? ⟨g, i, none⟩ = some v := by
  obtain ⟨⟨cur, h1, hsz, _⟩, _⟩ := h
  exact ⟨cur[i]'(by omega), (cell_of_row w _ i _ _ _ h1).trans (Array.getElem?_eq_getElem (by omega))⟩
theorem BL.fz {w : World} {g n d i B : Nat} {R : Nat → Nat} (h : BL w g n d i B R) : ∀ k, w.frozen? ⟨g, k, none⟩ = false := by
  obtain ⟨⟨cur, h1, _⟩, _⟩ := h
  exact fun k => frozen_of_row w _ k _ _ h1
set_option maxRecDepth 100000 in
theorem blank_any (n d : Nat) (w : World) (hn : n ≤ 1000) (hd : d ≤ 1000) :
    Calls Try.prog 50 #[.int .i64 n, .int .i64 d] w fun e w' => ∃ R, e = .returned (.slice (some ⟨w.heap.size, 0, none⟩) n n) ∧ MB w' w.heap.size n d R (fun _ _ => 0) ∧ (∀ a b, a < n → b < n → R a = R b → a = b) ∧ (∀ k, k < n → w.heap.size < R k) ∧ Below w.heap.size w w' := by
  have hmk := fun kl kc W => run_make_bytes kl kc d (by omega) W
  have hmh := fun kl kc W => run_make_hdr kl kc n (by omega) W
  go_enter Try.func50, Try.ntmps50
  go_wp2_with fail
  go_loopw [11] (fun vi wr => ∃ (i : Nat) (R : Nat → Nat), i ≤ n ∧ vi = .int .i64 i ∧ BL wr w.heap.size n d i (w.heap.size + 1) R ∧ Below w.heap.size w wr) (fun vi _ => n - (intOf vi).toNat)
  case atStart => exact ⟨0, fun _ => 0, by omega, rfl, ⟨⟨_, heap_alloc_new w _, by simp, fun k hk => by omega⟩, fun k hk => by omega, fun a b ha => by omega⟩, Go.Joins.below_alloc1 w _⟩
  case round =>
    obtain ⟨i, R, hi, rfl, hb, hB⟩ := hrel
    have hl : w.heap.size < wr.heap.size := by
      obtain ⟨⟨cur, h1, _⟩, _⟩ := hb
      exact (Array.getElem?_eq_some_iff.1 h1).1
    by_cases hlt : i < n
    · obtain ⟨v, hv⟩ := hb.cell hlt
      have hf := hb.fz
      have hlti : (i : Int) < n := by omega
      have HBL := Lib.hid hb
      have HB := Lib.hid hB
      clear hb hB
      go_wp2_with fail
      go_roundw
      case rel =>
        rw [← World.setCell_alloc_past _ _ _ _ hl]
        exact ⟨i + 1, _, by omega, by go_num, HBL.out.next hlt hl, Below.setCell (p := ⟨w.heap.size, i, none⟩) (HB.out.alloc HB.out.size _) (Nat.le_refl _) _⟩
      case measure => simp [intOf]; omega
    · obtain rfl : i = n := by omega
      go_wp2_with fail
      go_ret
      exact ⟨R, rfl, ⟨by obtain ⟨⟨cur, h1, _, h2⟩, _⟩ := hb; exact ⟨cur, h1, h2⟩, fun k hk => (hb.2.1 k hk).1⟩, hb.2.2, fun k hk => (hb.2.1 k hk).2, hB⟩
end Go.Proofs.Ytlimlmfgeaokhaa
namespace Go.Proofs.Ytlimlmfgeaokhaa
open Go.RowKit

set_option maxRecDepth 100000 in
theorem valid_any (f : Nat → Nat → Nat) (A : Option Addr) (n d c : Nat) (w : World) (hn1 : 1 ≤ n) (hn : n ≤ 64) (hd1 : 1 ≤ d) (hd : d ≤ 64) (hM : Mat w A n d f) :
    Calls Try.prog 49 #[.slice A n c] w fun e w' => e = .returned (.bool true) ∧ w = w' := by
  have HM := Lib.hid hM
  obtain ⟨b, off, rfl, hrow⟩ := hM
  obtain ⟨rb, ro, rc, r0, _⟩ := hrow 0 (by omega)
  rw [Nat.add_zero] at r0
  have HR := Lib.hid hrow
  clear hrow
  go_enter Try.func49, Try.ntmps49
  go_wp2_with fail
  go_loopw [29] (fun vi wr => ∃ i : Nat, i ≤ n ∧ vi = .int .i64 i ∧ wr = w) (fun vi _ => n - (intOf vi).toNat)
  case atStart => exact ⟨0, by omega, rfl, rfl⟩
  case round =>
    obtain ⟨i, hi, rfl, rfl⟩ := hrel
    by_cases hlt : i < n
    · obtain ⟨rb', ro', rc', r1, _⟩ := HR.out i hlt
      have hlti : (i : Int) < n := by omega
      go_wp2_with fail
      go_roundw
      case rel => exact ⟨i + 1, by omega, by go_num, by trivial⟩
      case measure => simp [intOf]; omega
    · obtain rfl : i = n := by omega
      go_wp2_with fail
      go_ret
      exact ⟨rfl, rfl⟩
/-- the identity -/
def idm (i j : Nat) : Nat := if i = j then 1 else 0
set_option maxRecDepth 100000 in
theorem identity_any (n : Nat) (w : World) (hn1 : 1 ≤ n) (hn : n ≤ 64) :
    Calls Try.prog 47 #[.int .i64 n] w fun e w' => ∃ R, e = .returned (.tuple #[.slice (some ⟨w.heap.size, 0, none⟩) n n, .int .i64 0]) ∧ MB w' w.heap.size n n R idm ∧ Below w.heap.size w w' := by
  go_enter Try.func47, Try.ntmps47
  go_wp2_with (go_at_call 50; (with_reducible refine (blank_any n n w (by omega) (by omega)).mono ?_); rintro e w1 ⟨R, rfl, hM, hinj, hR, hB⟩; have HM := Lib.hid hM; have HB := Lib.hid hB; clear hM hB)
  go_loopw [17] (fun vi wr => ∃ i : Nat, i ≤ n ∧ vi = .int .i64 i ∧ MB wr w.heap.size n n R (fun a b => if a < i then idm a b else 0) ∧ Below w.heap.size w wr) (fun vi _ => n - (intOf vi).toNat)
  case atStart => exact ⟨0, by omega, rfl, HM.out.congr (fun a _ b _ => by rw [if_neg (by omega)]), HB.out⟩
  case round =>
    obtain ⟨i, hi, rfl, hm, hb⟩ := hrel
    by_cases hlt : i < n
    · have c1 := hm.hd i hlt
      have c2 := (hm.2 i hlt).cell i hlt
      have c3 := (hm.2 i hlt).frozen i
      have hlti : (i : Int) < n := by omega
      have hRi := hR i hlt
      have HM1 := Lib.hid hm
      have HB1 := Lib.hid hb
      clear hm hb
      go_wp2_with fail
      go_roundw
      case rel => exact ⟨i + 1, by omega, by go_num, HM1.out.set (v := 1) hlt hinj (by rw [if_pos (by omega), idm, if_pos rfl]) (fun a ha b hb hne => by
          by_cases e : a < i
          · rw [if_pos e, if_pos (by omega)]
          · rw [if_neg e]
            by_cases e2 : a = i
            · rw [if_pos (by omega), idm, if_neg (by omega)]
            · rw [if_neg (by omega)]), Below.setCell (p := ⟨R i, i, none⟩) HB1.out (by show w.heap.size ≤ R i; omega) _⟩
      case measure => simp [intOf]; omega
    · obtain rfl : i = n := by omega
      go_wp2_with fail
      go_ret2
      exact ⟨R, rfl, hm.congr (fun a ha b _ => by rw [if_pos ha]), hb⟩
end Go.Proofs.Ytlimlmfgeaokhaa
namespace Go.Proofs.Ytlimlmfgeaokhaa
open Go.RowKit

theorem Mat.row {w : World} {b off n d : Nat} {f : Nat → Nat → Nat} (h : Mat w (some ⟨b, off, none⟩) n d f) (i : Nat) (hi : i < n) : ∃ rb ro rc : Nat, w.cell? ⟨b, off + i, none⟩ = some (.slice (some ⟨rb, ro, none⟩) d rc) ∧ ∀ j : Nat, j < d → w.cell? ⟨rb, ro + j, none⟩ = some (.int .u8 (f i j : Nat)) := by
  obtain ⟨b', o', e, h⟩ := h
  cases e
  exact h i hi
theorem xs_one0 (f : Nat → Nat) : xs f 0 = 0 := rfl
def prod (a b : Nat → Nat → Nat) (n i j : Nat) : Nat := xs (fun k => Gf.mul (a i k) (b k j)) n
theorem prod_lt {a b : Nat → Nat → Nat} (ha : ∀ i k, a i k < 256) (n i j : Nat) : prod a b n i j < 256 := xs_lt (fun k => Gf.mul_lt _ _ (ha i k)) n
set_option maxRecDepth 100000 in
set_option maxHeartbeats 1000000 in
theorem matmul_any (a b : Nat → Nat → Nat) (A1 A2 : Option Addr) (m n d c1 c2 : Nat) (w : World) (hm1 : 1 ≤ m) (hm : m ≤ 64) (hn1 : 1 ≤ n) (hn : n ≤ 64) (hd1 : 1 ≤ d) (hd : d ≤ 64) (ha : ∀ i k, a i k < 256) (hb : ∀ i k, b i k < 256)
    (hA : Mat w A1 m n a) (hB : Mat w A2 n d b) :
    Calls Try.prog 31 #[.slice A1 m c1, .slice A2 n c2] w fun e w' => ∃ R, e = .returned (.tuple #[.slice (some ⟨w.heap.size, 0, none⟩) m m, .int .i64 0]) ∧ MB w' w.heap.size m d R (prod a b n) ∧ Below w.heap.size w w' := by
  have HV1 := Lib.hid (valid_any a A1 m n c1 w hm1 hm hn1 hn hA)
  have HV2 := Lib.hid (valid_any b A2 n d c2 w hn1 hn hd1 hd hB)
  have HA := Lib.hid hA
  have HB := Lib.hid hB
  obtain ⟨b1, o1, rfl, hrow1⟩ := hA
  obtain ⟨b2, o2, rfl, hrow2⟩ := hB
  obtain ⟨rb1, ro1, rc1, r1, _⟩ := hrow1 0 (by omega)
  obtain ⟨rb2, ro2, rc2, r2, _⟩ := hrow2 0 (by omega)
  rw [Nat.add_zero] at r1 r2
  clear hrow1 hrow2
  go_enter Try.func31, Try.ntmps31
  go_wp2_with (first
    | (go_at_call 49; (with_reducible refine HV1.out.mono ?_); rintro e w' ⟨rfl, rfl⟩)
    | (go_at_call 49; (with_reducible refine HV2.out.mono ?_); rintro e w' ⟨rfl, rfl⟩)
    | (go_at_call 50; (with_reducible refine (blank_any m d w (by omega) (by omega)).mono ?_); rintro e w1 ⟨R, rfl, hM, hinj, hR, hBl⟩; have HM := Lib.hid hM; have HBl := Lib.hid hBl; clear hM hBl hinj hR))
  go_loopw [37] (fun vi wr => ∃ (i : Nat) (R : Nat → Nat), i ≤ m ∧ vi = .int .i64 i ∧ MB wr w.heap.size m d R (fun p q => if p < i then prod a b n p q else 0) ∧ Below w.heap.size w wr) (fun vi _ => m - (intOf vi).toNat)
  case atStart => exact ⟨0, R, by omega, rfl, HM.out.congr (fun p _ q _ => by rw [if_neg (by omega)]), HBl.out⟩
  case round =>
    clear HM HBl
    obtain ⟨i, R, hi, rfl, hM, hW⟩ := hrel
    by_cases hlt : i < m
    · have hlti : (i : Int) < m := by omega
      obtain ⟨rb, ro, rc, hd1', hrow⟩ := HA.out.row i hlt
      have hd1 := (hW.cell (World.block_lt_of_cell? w _ hd1')).trans hd1'
      have HROW := Lib.hid hrow
      clear hrow
      go_wp2_with fail
      go_loopw [44] (fun vk wq => ∃ (k : Nat) (R : Nat → Nat), k ≤ n ∧ vk = .int .i64 k ∧ MB wq w.heap.size m d R (fun p q => if p < i then prod a b n p q else if p = i then prod a b k p q else 0) ∧ Below w.heap.size w wq) (fun vk _ => n - (intOf vk).toNat)
      case atStart => exact ⟨0, R, by omega, rfl, hM.congr (fun p _ q _ => by by_cases e : p < i <;> simp [e, prod, xs]), hW⟩
      case round =>
        clear hM hd1 hW
        obtain ⟨k, R, hk, rfl, hM, hW⟩ := hrel
        by_cases hkn : k < n
        · have hlkn : (k : Int) < n := by omega
          have x1 := (hW.cell (World.block_lt_of_cell? w _ (HROW.out k hkn))).trans (HROW.out k hkn)
          obtain ⟨rb', ro', rc', hd2', hrow2⟩ := HB.out.row k hkn
          have y1 := (hW.cell (World.block_lt_of_cell? w _ hd2')).trans hd2'
          have y2 := hM.hd i hlt
          have y3 := hM.fz i
          have hRl := (hM.2 i hlt).lt
          have hgl := hM.lt
          have hrowi : RB wr (R i) d 5 (fun q => prod a b k i q) := (hM.2 i hlt).congr (fun q _ => by simp)
          have hfu := fusedr_any (fun q => prod a b k i q) (b k) (a i k) (R i) 0 rb' ro' d d rc' wr.drew (by omega) (ha _ _) (fun q => prod_lt ha k i q) (fun q => hb _ _) (hrowi.at0 (Nat.le_refl _)) (fun j hj => (hW.drew.cell (World.block_lt_of_cell? w _ (hrow2 j hj))).trans (hrow2 j hj))
          obtain ⟨c, hcd⟩ : ∃ c, c = a i k := ⟨_, rfl⟩
          rw [← hcd] at x1 hfu
          have HFU := Lib.hid hfu
          have HCD := Lib.hid hcd
          have HM := Lib.hid hM
          have HW := Lib.hid hW
          clear hfu hcd hM hW hrowi hrow2 hd2'
          go_wp2_with fail
          go_region_with (go_simp; go_at_call 54; (with_reducible refine HFU.out.mono ?_); rintro e w5 ⟨rfl, hR5, hB5⟩; have hM5 := HM.out.below (w := wr.drew) hB5; have d5 := hM5.hd i hlt; have f5 := hM5.fz; have HM5 := Lib.hid hM5; have HR5 := Lib.hid hR5; have HB5 := Lib.hid (HW.out.drew.trans (hB5.mono HW.out.size)); clear hM5 hR5 hB5)
          all_goals
            have hfin := (HM5.out.put (i := i) HR5.out (by show wr.heap.size ≠ w.heap.size; omega)).congr (f' := fun p q => if p < i then prod a b n p q else if p = i then prod a b (k + 1) p q else 0) (fun p _ q _ => by
              by_cases e : p = i
              · simp only [e, if_true, Nat.lt_irrefl, if_false, prod, xs, HCD.out]
              · simp only [e, if_false])
            have hbl : Below w.heap.size w (w5.setCell ⟨w.heap.size, i, none⟩ (.slice (some ⟨wr.drew.heap.size, 0, none⟩) d d)) := Below.setCell (p := ⟨w.heap.size, i, none⟩) HB5.out (Nat.le_refl _) _
            clear d5 f5 y1 y2 y3 x1
            go_wp2_with fail
            go_roundw
            case rel => exact ⟨k + 1, _, by omega, by go_num, hfin, hbl⟩
            case measure => simp [intOf]; omega
        · obtain rfl : k = n := by omega
          go_wp2_with fail
          go_roundw
          case rel => exact ⟨i + 1, R, by omega, by go_num, hM.congr (fun p _ q _ => by
            by_cases e : p < i
            · rw [if_pos e, if_pos (by omega)]
            · by_cases e2 : p = i
              · rw [if_neg e, if_pos e2, if_pos (by omega)]
              · rw [if_neg e, if_neg e2, if_neg (by omega)]), hW⟩
          case measure => simp [intOf]; omega
    · obtain rfl : i = m := by omega
      go_wp2_with fail
      go_ret2
      exact ⟨R, rfl, hM.congr (fun p hp q _ => by rw [if_pos hp]), hW⟩
end Go.Proofs.Ytlimlmfgeaokhaa
namespace Go.Proofs.Ytlimlmfgeaokhaa
open Go.RowKit

/-- a row times a column -/
def dot (r v : Nat → Nat) (n : Nat) : Nat := xs (fun j => Gf.mul (r j) (v j)) n
theorem dot_lt {r v : Nat → Nat} (hr : ∀ j, r j < 256) (n : Nat) : dot r v n < 256 := xs_lt (fun j => Gf.mul_lt _ _ (hr j)) n
theorem dot_xor (r s v : Nat → Nat) (hr : ∀ j, r j < 256) (hs : ∀ j, s j < 256) (n : Nat) : dot (fun j => r j ^^^ s j) v n = dot r v n ^^^ dot s v n := by
  unfold dot
  rw [← xs_xor]
  exact xs_congr _ (fun j _ => Gf.mul_xor_left _ _ _ (hr j) (hs j))
theorem dot_smul (u : Nat) (r v : Nat → Nat) (hu : u < 256) (hr : ∀ j, r j < 256) (hv : ∀ j, v j < 256) (n : Nat) : dot (fun j => Gf.mul u (r j)) v n = Gf.mul u (dot r v n) := by
  unfold dot
  rw [xs_mul u _ hu (fun j => Gf.mul_lt _ _ (hr j))]
  exact xs_congr _ (fun j _ => Gf.mul_assoc _ _ _ hu (hr j) (hv j))
theorem dot_congr {r s v : Nat → Nat} (n : Nat) (h : ∀ j, j < n → r j = s j) : dot r v n = dot s v n := xs_congr _ (fun j hj => by rw [h j hj])
/-- the left half of a row is the right half times A -/
def Lin (A : Nat → Nat → Nat) (n : Nat) (r : Nat → Nat) : Prop := ∀ j, j < n → r j = dot (fun k => r (n + k)) (fun k => A k j) n
theorem Lin.xor {A : Nat → Nat → Nat} {n : Nat} {r s : Nat → Nat} (hr : Lin A n r) (hs : Lin A n s) (rl : ∀ j, r j < 256) (sl : ∀ j, s j < 256) : Lin A n (fun j => r j ^^^ s j) := fun j hj => by
  show r j ^^^ s j = _
  rw [hr j hj, hs j hj]
  exact (dot_xor _ _ _ (fun _ => rl _) (fun _ => sl _) n).symm
theorem Lin.smul {A : Nat → Nat → Nat} {n u : Nat} {r : Nat → Nat} (hr : Lin A n r) (hu : u < 256) (rl : ∀ j, r j < 256) (hA : ∀ i j, A i j < 256) : Lin A n (fun j => Gf.mul u (r j)) := fun j hj => by
  show Gf.mul u (r j) = _
  rw [hr j hj]
  exact (dot_smul u _ _ hu (fun _ => rl _) (fun _ => hA _ _) n).symm
/-- what holds ahead of column c -/
structure GJ (A : Nat → Nat → Nat) (n c : Nat) (M : Nat → Nat → Nat) : Prop where
  lt : ∀ i j, M i j < 256
  lin : ∀ i, i < n → Lin A n (M i)
  ker : ∀ v : Nat → Nat, (∀ j, v j < 256) → (∀ i, i < n → dot (M i) v n = 0) → ∀ i, i < n → dot (A i) v n = 0
  unit : ∀ i, i < n → ∀ j, j < c → M i j = idm i j
/-- only 0 is taken to 0 -/
def NoKer (A : Nat → Nat → Nat) (n : Nat) : Prop := ∀ v : Nat → Nat, (∀ j, v j < 256) → (∀ i, i < n → dot (A i) v n = 0) → ∀ j, j < n → v j = 0
theorem idm_lt (i j : Nat) : idm i j < 256 := by unfold idm; split <;> omega
theorem dot_idm (v : Nat → Nat) (hv : ∀ j, v j < 256) (i n : Nat) (hi : i < n) : dot (idm i) v n = v i := by
  unfold dot
  rw [xs_one (f := fun j => Gf.mul (idm i j) (v j)) i n hi (fun j _ hne => by show Gf.mul (idm i j) (v j) = 0; rw [idm, if_neg (fun h => hne h.symm), Gf.zero_mul])]
  show Gf.mul (idm i i) (v i) = v i
  rw [idm, if_pos rfl, Gf.one_mul _ (hv i)]
theorem dot_idm_right (r : Nat → Nat) (hr : ∀ j, r j < 256) (j n : Nat) (hj : j < n) : dot r (fun k => idm k j) n = r j := by
  unfold dot
  rw [xs_one (f := fun k => Gf.mul (r k) (idm k j)) j n hj (fun k _ hne => by show Gf.mul (r k) (idm k j) = 0; rw [idm, if_neg hne, Gf.mul_zero])]
  show Gf.mul (r j) (idm j j) = r j
  rw [idm, if_pos rfl, Gf.mul_one _ (hr j)]
/-- the beginning: [A | 1] -/
def aug (A : Nat → Nat → Nat) (n i j : Nat) : Nat := if j < n then A i j else idm i (j - n)
theorem gj_start {A : Nat → Nat → Nat} {n : Nat} (hA : ∀ i j, A i j < 256) : GJ A n 0 (aug A n) where
  lt i j := by unfold aug; split; exact hA _ _; exact idm_lt _ _
  lin i hi j hj := by
    rw [aug, if_pos hj, dot_congr n (s := idm i) (fun k _ => by rw [aug, if_neg (by omega), Nat.add_sub_cancel_left]), dot_idm _ (fun k => hA k j) i n hi]
  ker v _ h i hi := by
    have := h i hi
    rwa [dot_congr n (s := A i) (fun j hj => by rw [aug, if_pos hj])] at this
  unit i _ j hj := by omega
/-- there is a pivot -/
theorem gj_pivot {A M : Nat → Nat → Nat} {n c : Nat} (hc : c < n) (hM : GJ A n c M) (hA : NoKer A n) : ¬ ∀ i, i < n - c → M (c + i) c = 0 := by
  intro h0
  obtain ⟨v, hv⟩ : ∃ v : Nat → Nat, v = fun j => if j < c then M j c else if j = c then 1 else 0 := ⟨_, rfl⟩
  have vl : ∀ j, v j < 256 := fun j => by rw [hv]; show (if j < c then M j c else if j = c then 1 else 0) < 256; split; exact hM.lt _ _; split <;> omega
  have hk := hM.ker v vl (fun i hi => by
    -- the sum has the terms j < c, which are those of the identity, and the term c
    have e1 : dot (M i) v n = xs (fun j => Gf.mul (idm i j) (if j < c then M j c else 0) ^^^ (if j = c then M i c else 0)) n := xs_congr n (fun j hj => by
      rw [hv]
      show Gf.mul (M i j) (if j < c then M j c else if j = c then 1 else 0) = _
      by_cases e : j < c
      · rw [if_pos e, if_pos e, if_neg (by omega), Nat.xor_zero, hM.unit i hi j e]
      · rw [if_neg e, if_neg e, Gf.mul_zero, Nat.zero_xor]
        by_cases e2 : j = c
        · rw [if_pos e2, if_pos e2, e2, Gf.mul_one _ (hM.lt _ _)]
        · rw [if_neg e2, if_neg e2, Gf.mul_zero])
    have e3 : xs (fun j => if j = c then M i c else 0) n = M i c := by
      rw [xs_one (f := fun j => if j = c then M i c else 0) c n hc (fun j _ hne => if_neg hne), if_pos rfl]
    rw [e1, xs_xor, e3]
    have e2 : xs (fun j => Gf.mul (idm i j) (if j < c then M j c else 0)) n = if i < c then M i c else 0 := dot_idm (fun j => if j < c then M j c else 0) (fun j => by split; exact hM.lt _ _; omega) i n hi
    rw [e2]
    by_cases e : i < c
    · rw [if_pos e, Nat.xor_self]
    · rw [if_neg e, Nat.zero_xor]
      have := h0 (i - c) (by omega)
      rwa [show c + (i - c) = i by omega] at this)
  have := hA v vl hk c hc
  rw [hv] at this
  simp at this
/-- rows c and q exchanged -/
def swp (c q i : Nat) : Nat := if i = c then q else if i = q then c else i
theorem swp_lt {c q i n : Nat} (hc : c < n) (hq : q < n) (hi : i < n) : swp c q i < n := by unfold swp; split; exact hq; split; exact hc; exact hi
theorem swp_swp (c q i : Nat) : swp c q (swp c q i) = i := by
  unfold swp
  by_cases e1 : i = c
  · by_cases e2 : q = c <;> simp [e1, e2]
  · by_cases e3 : i = q
    · simp [e3]
    · simp [e1, e3]
theorem gj_swap {A M : Nat → Nat → Nat} {n c q : Nat} (hc : c < n) (hcq : c ≤ q) (hq : q < n) (hM : GJ A n c M) : GJ A n c (fun i => M (swp c q i)) where
  lt i j := hM.lt _ _
  lin i hi := hM.lin _ (swp_lt hc hq hi)
  ker v hv h i hi := hM.ker v hv (fun i hi => by
    have := h (swp c q i) (swp_lt hc hq hi)
    rwa [swp_swp] at this) i hi
  unit i hi j hj := by
    show M (swp c q i) j = _
    rw [hM.unit _ (swp_lt hc hq hi) j hj]
    unfold idm swp
    by_cases e1 : i = c
    · rw [if_pos e1, if_neg (by omega), if_neg (by omega)]
    · rw [if_neg e1]
      by_cases e2 : i = q
      · rw [if_pos e2, if_neg (by omega), if_neg (by omega)]
      · rw [if_neg e2]
/-- row c times u -/
def scl (M : Nat → Nat → Nat) (c u i j : Nat) : Nat := if i = c then Gf.mul u (M c j) else M i j
theorem gj_scale {A M : Nat → Nat → Nat} {n c u : Nat} (hu : u < 256) (hu0 : u ≠ 0) (hc : c < n) (hA : ∀ i j, A i j < 256) (hM : GJ A n c M) : GJ A n c (scl M c u) where
  lt i j := by unfold scl; split; exact Gf.mul_lt _ _ hu; exact hM.lt _ _
  lin i hi := by
    by_cases e : i = c
    · have : scl M c u i = fun j => Gf.mul u (M c j) := by funext j; rw [scl, if_pos e]
      rw [this]
      exact (hM.lin c hc).smul hu (hM.lt c) hA
    · have : scl M c u i = M i := by funext j; rw [scl, if_neg e]
      rw [this]
      exact hM.lin i hi
  ker v hv h i hi := hM.ker v hv (fun i hi => by
    have := h i hi
    by_cases e : i = c
    · rw [e] at this ⊢
      rw [dot_congr n (s := fun j => Gf.mul u (M c j)) (fun j _ => by rw [scl, if_pos rfl]), dot_smul u _ _ hu (hM.lt c) hv] at this
      rcases Gf.mul_eq_zero hu (dot_lt (hM.lt c) n) this with h | h
      · exact absurd h hu0
      · exact h
    · rwa [dot_congr n (s := M i) (fun j _ => by rw [scl, if_neg e])] at this) i hi
  unit i hi j hj := by
    by_cases e : i = c
    · rw [scl, if_pos e, hM.unit c hc j hj, idm, if_neg (by omega), Gf.mul_zero, idm, if_neg (by omega)]
    · rw [scl, if_neg e]
      exact hM.unit i hi j hj
/-- column c is cleared, in the rows ahead of row m -/
def elm (M : Nat → Nat → Nat) (c m i j : Nat) : Nat := if i < m ∧ i ≠ c then M i j ^^^ Gf.mul (M i c) (M c j) else M i j
theorem gj_clear {A M : Nat → Nat → Nat} {n c : Nat} (hc : c < n) (hA : ∀ i j, A i j < 256) (h1 : M c c = 1) (hM : GJ A n c M) : GJ A n (c + 1) (elm M c n) where
  lt i j := by unfold elm; split; exact Gf.xor_lt (hM.lt _ _) (Gf.mul_lt _ _ (hM.lt _ _)); exact hM.lt _ _
  lin i hi := by
    by_cases e : i = c
    · have : elm M c n i = M i := by funext j; rw [elm, if_neg (by omega)]
      rw [this]
      exact hM.lin i hi
    · have : elm M c n i = fun j => M i j ^^^ Gf.mul (M i c) (M c j) := by funext j; rw [elm, if_pos ⟨hi, e⟩]
      rw [this]
      exact (hM.lin i hi).xor ((hM.lin c hc).smul (hM.lt i c) (hM.lt c) hA) (hM.lt i) (fun j => Gf.mul_lt _ _ (hM.lt _ _))
  ker v hv h i hi := hM.ker v hv (fun i hi => by
    have hcc := h c hc
    rw [dot_congr n (s := M c) (fun j _ => by rw [elm, if_neg (by omega)])] at hcc
    by_cases e : i = c
    · rw [e]; exact hcc
    · have := h i hi
      rw [dot_congr n (s := fun j => M i j ^^^ Gf.mul (M i c) (M c j)) (fun j _ => by rw [elm, if_pos ⟨hi, e⟩]), dot_xor _ _ _ (hM.lt i) (fun j => Gf.mul_lt _ _ (hM.lt _ _)), dot_smul _ _ _ (hM.lt i c) (hM.lt c) hv, hcc, Gf.mul_zero, Nat.xor_zero] at this
      exact this) i hi
  unit i hi j hj := by
    by_cases e : i = c
    · rw [elm, if_neg (by omega)]
      by_cases e2 : j = c
      · rw [e, e2, h1, idm, if_pos rfl]
      · exact hM.unit i hi j (by omega)
    · rw [elm, if_pos ⟨hi, e⟩]
      by_cases e2 : j = c
      · rw [e2, h1, Gf.mul_one _ (hM.lt _ _), Nat.xor_self, idm, if_neg e]
      · rw [hM.unit i hi j (by omega), hM.unit c hc j (by omega), idm, idm, if_neg (show ¬ c = j by omega), Gf.mul_zero, Nat.xor_zero]
/-- the end: the right half times A is the identity -/
theorem gj_end {A M : Nat → Nat → Nat} {n : Nat} (hM : GJ A n n M) (i j : Nat) (hi : i < n) (hj : j < n) : dot (fun k => M i (n + k)) (fun k => A k j) n = idm i j := by
  rw [← hM.lin i hi j hj]
  exact hM.unit i hi j hj
end Go.Proofs.Ytlimlmfgeaokhaa
namespace Go.Proofs.Ytlimlmfgeaokhaa
open Go.RowKit

set_option maxRecDepth 100000 in
theorem inv1_any (B c b off d rc x : Nat) (w : World) (hc : c < d) (hB : Boxed w B 3 (.int .i64 c)) (hx : w.cell? ⟨b, off + c, none⟩ = some (.int .u8 (x : Nat))) :
    Calls Try.prog 52 #[.slice (some ⟨b, off, none⟩) d rc, .pointer (some ⟨B, 0, none⟩)] w fun e w' => e = .returned (.bool (decide (x ≠ 0))) ∧ w = w' := by
  have hb := cell_of_row w B 0 _ _ _ hB
  have hcd : (c : Int) < d := by omega
  have hci : 0 ≤ (c : Int) := by omega
  go_enter Try.func52, Try.ntmps52
  go_wp2_with fail
  go_ret
  exact ⟨by by_cases h : x = 0 <;> simp [h], rfl⟩
set_option maxRecDepth 100000 in
theorem index_any (c d g off n cap B : Nat) (x : Nat → Nat) (w : World) (hn : n ≤ 1000) (hc : c < d) (hB : Boxed w B 3 (.int .i64 c))
    (hx : ∀ i, i < n → ∃ rb ro rc : Nat, w.cell? ⟨g, off + i, none⟩ = some (.slice (some ⟨rb, ro, none⟩) d rc) ∧ w.cell? ⟨rb, ro + c, none⟩ = some (.int .u8 (x i : Nat))) :
    Calls Try.prog 51 #[.slice (some ⟨g, off, none⟩) n cap, .func (.func 52) #[] #[.pointer (some ⟨B, 0, none⟩)]] w fun e w' => ((e = .returned (.int .i64 (-1)) ∧ ∀ i, i < n → x i = 0) ∨ ∃ p : Nat, e = .returned (.int .i64 p) ∧ p < n ∧ x p ≠ 0) ∧ w = w' := by
  have HX := Lib.hid hx
  clear hx
  go_enter Try.func51, Try.ntmps51
  go_wp2_with fail
  go_loopw [8] (fun vi wr => ∃ i : Nat, i ≤ n ∧ vi = .int .i64 i ∧ (∀ k, k < i → x k = 0) ∧ wr = w) (fun vi _ => n - (intOf vi).toNat)
  case atStart => exact ⟨0, by omega, rfl, (fun k hk => by omega), rfl⟩
  case round =>
    obtain ⟨i, hi, rfl, hz, rfl⟩ := hrel
    by_cases hlt : i < n
    · obtain ⟨rb, ro, rc, h1, h2⟩ := HX.out i hlt
      have hlti : (i : Int) < n := by omega
      have HF := Lib.hid (inv1_any B c rb ro d rc (x i) wr hc hB h2)
      have HZ := Lib.hid hz
      clear hz
      by_cases hx0 : x i = 0
      · rw [show decide (x i ≠ 0) = false by simp [hx0]] at HF
        go_wp2_with (go_at_call 52; (with_reducible refine HF.out.mono ?_); rintro e w' ⟨rfl, rfl⟩)
        go_roundw
        case rel => exact ⟨i + 1, by omega, by go_num, (fun k hk => by by_cases e : k = i; rw [e]; exact hx0; exact HZ.out k (by omega)), by trivial⟩
        case measure => simp [intOf]; omega
      · rw [show decide (x i ≠ 0) = true by simp [hx0]] at HF
        go_wp2_with (go_at_call 52; (with_reducible refine HF.out.mono ?_); rintro e w' ⟨rfl, rfl⟩)
        go_ret
        exact ⟨.inr ⟨i, rfl, hlt, hx0⟩, rfl⟩
    · obtain rfl : i = n := by omega
      go_wp2_with fail
      go_ret
      exact ⟨.inl ⟨rfl, hz⟩, rfl⟩
end Go.Proofs.Ytlimlmfgeaokhaa
namespace Go.Proofs.Ytlimlmfgeaokhaa
open Go.RowKit

theorem clone_news {w : World} {f : Nat → Nat} {b off n j : Nat} {u : Value} {o : Obj} (hI : ∀ j : Nat, j < n → w.cell? ⟨b, off + j, none⟩ = some (.int .u8 (f j : Nat))) (hb : b < w.heap.size) (hj : (brow n f).toList[j]? = some u) :
    (w.alloc o).cell? ((⟨b, off, none⟩ : Addr).add j) = some u := by
  rw [Go.WideShapes.add_plain]
  have hjn : j < n := by
    have := (List.getElem?_eq_some_iff.1 hj).1
    simpa [brow] using this
  rw [World.cell?_of_block (Below.heap_alloc w o b hb), hI j hjn, ← hj]
  simp [brow, hjn]
set_option maxRecDepth 100000 in
theorem cloneb_any (f : Nat → Nat) (b off n c : Nat) (w : World) (h1 : 1 ≤ n) (h2 : n ≤ 1000) (hI : ∀ j : Nat, j < n → w.cell? ⟨b, off + j, none⟩ = some (.int .u8 (f j : Nat))) :
    Calls Try.prog 55 #[.slice (some ⟨b, off, none⟩) n c] w fun e w' => ∃ g cap, e = .returned (.slice (some ⟨g, 0, none⟩) n cap) ∧ w.heap.size ≤ g ∧ (∀ j : Nat, j < n → w'.cell? ⟨g, 0 + j, none⟩ = some (.int .u8 (f j : Nat))) ∧ Below w.heap.size w w' := by
  have he : ∀ W : World, (binOp .eql 36 (.slice (some ⟨b, off, none⟩) n c) (.slice none 0 0)).run Try.prog W = .ok (.bool false) W := fun _ => rfl
  obtain ⟨i0, hi0, hz0, hz1, hz2⟩ := info_parts Try.infoByte
  have HI0 := Lib.hid (And.intro hi0 (And.intro hz0 (And.intro hz1 hz2)))
  have hbl : b < w.heap.size := World.block_lt_of_cell? w _ (hI 0 (by omega))
  have HI := Lib.hid hI
  clear hI hi0 hz0 hz1 hz2
  have hown : (w.alloc (.cells #[] 5)).ownsRow w.heap.size 5 1 (.slice (some ⟨w.heap.size, 0, none⟩) 0 0) 0 [] := World.ownsRow_lit w #[] 0 (Nat.le_refl _) (by unfold maxLen; omega) rfl
  have HO := Lib.hid hown
  clear hown
  have hl : (brow n f).toList.length = n := by simp [brow]
  have HL := Lib.hid hl
  clear hl
  go_enter Try.func55, Try.ntmps55
  go_wp2_with (at_builtin; refine wpList_append_own _ rfl (.tmp 5) (.tmp 6) 36 rfl w.heap.size 5 i0 (.int .u8 0) 1 1 Try.underlying36 HI0.out.1 HI0.out.2.1 HI0.out.2.2.1 HI0.out.2.2.2 rfl (by decide) (.slice (some ⟨w.heap.size, 0, none⟩) 0 0) 0 [] rfl HO.out ⟨b, off, none⟩ n c (brow n f).toList rfl (by rw [HL.out, Nat.mul_one]) (fun j u hj => clone_news HI.out hbl hj) (brow_one f n) (by unfold maxLen; omega) (by omega) (by simp) ?_; intro v1 w2 o1 g1 _; have HO1 := Lib.hid o1; have HB2 := Lib.hid ((Go.Joins.below_alloc1 w _).grown g1 (by simp) (own_new (Nat.le_refl _))); clear o1 g1)
  have ho := HO1.out
  rw [List.nil_append, Nat.zero_add] at ho
  obtain ⟨g, cap, hv, hg, hgl⟩ := ho.form (by omega)
  subst hv
  go_ret
  refine ⟨g, cap, rfl, hg, fun j hj => ?_, HB2.out⟩
  rw [Nat.zero_add, ho.cellAt j (by omega)]
  simp [brow, hj]
end Go.Proofs.Ytlimlmfgeaokhaa
