/- The walk of tegulalaw03.awake: the document's examples hold. -/
import Derived.Test.YtibhhonmcbbohaaPa13
namespace Go.Proofs.Ytibhhonmcbbohaa
open Go.RowKit

/-- blocks of which the first bytes are given, the others 0 -/
def fst (l : List Nat) (p : Nat) : Nat := if p % 8 = 0 then l.getD (p / 8) 0 else 0
theorem fst_lt {l : List Nat} (h : ∀ x ∈ l, x < 256) (p : Nat) : fst l p < 256 := by
  unfold fst
  split
  · by_cases e : p / 8 < l.length
    · rw [List.getD_eq_getElem?_getD, List.getElem?_eq_getElem e]; exact h _ (List.getElem_mem e)
    · rw [List.getD_eq_getElem?_getD, List.getElem?_eq_none (by omega)]; simp
  · omega
theorem RB.lit {w : World} {cs : Array Value} {n : Nat} {t : TypeId} {f : Nat → Nat} (h : cs = brow n f) : RB (w.alloc (.cells cs t)) w.heap.size n t f := by rw [h]; exact RB.new
theorem RB.at0 {w : World} {g n m : Nat} {t : TypeId} {f : Nat → Nat} (h : RB w g n t f) (hm : m ≤ n) : ∀ j : Nat, j < m → w.cell? ⟨g, 0 + j, none⟩ = some (.int .u8 (f j : Nat)) := fun j hj => by rw [Nat.zero_add]; exact h.cell j (by omega)
theorem RB.bks {w : World} {g n m : Nat} {t : TypeId} {f : Nat → Nat} (h : RB w g n t f) (hm : m * 8 ≤ n) : Bks w (some ⟨g, 0, none⟩) m f := fun _ => ⟨g, 0, rfl, h.at0 hm⟩
theorem lit2 : brow 16 (fst [3, 5]) = #[.int .u8 3, .int .u8 0, .int .u8 0, .int .u8 0, .int .u8 0, .int .u8 0, .int .u8 0, .int .u8 0, .int .u8 5, .int .u8 0, .int .u8 0, .int .u8 0, .int .u8 0, .int .u8 0, .int .u8 0, .int .u8 0] := by kernel_rfl
theorem lit3 : brow 24 (fst [6, 9, 23]) = #[.int .u8 6, .int .u8 0, .int .u8 0, .int .u8 0, .int .u8 0, .int .u8 0, .int .u8 0, .int .u8 0, .int .u8 9, .int .u8 0, .int .u8 0, .int .u8 0, .int .u8 0, .int .u8 0, .int .u8 0, .int .u8 0, .int .u8 23, .int .u8 0, .int .u8 0, .int .u8 0, .int .u8 0, .int .u8 0, .int .u8 0, .int .u8 0] := by kernel_rfl
theorem lit5 : brow 40 (fst [3, 5, 6, 9, 23]) = #[.int .u8 3, .int .u8 0, .int .u8 0, .int .u8 0, .int .u8 0, .int .u8 0, .int .u8 0, .int .u8 0, .int .u8 5, .int .u8 0, .int .u8 0, .int .u8 0, .int .u8 0, .int .u8 0, .int .u8 0, .int .u8 0, .int .u8 6, .int .u8 0, .int .u8 0, .int .u8 0, .int .u8 0, .int .u8 0, .int .u8 0, .int .u8 0, .int .u8 9, .int .u8 0, .int .u8 0, .int .u8 0, .int .u8 0, .int .u8 0, .int .u8 0, .int .u8 0, .int .u8 23, .int .u8 0, .int .u8 0, .int .u8 0, .int .u8 0, .int .u8 0, .int .u8 0, .int .u8 0] := by kernel_rfl
theorem lit5n : brow 40 (fst [3, 5, 6, 9, 24]) = #[.int .u8 3, .int .u8 0, .int .u8 0, .int .u8 0, .int .u8 0, .int .u8 0, .int .u8 0, .int .u8 0, .int .u8 5, .int .u8 0, .int .u8 0, .int .u8 0, .int .u8 0, .int .u8 0, .int .u8 0, .int .u8 0, .int .u8 6, .int .u8 0, .int .u8 0, .int .u8 0, .int .u8 0, .int .u8 0, .int .u8 0, .int .u8 0, .int .u8 9, .int .u8 0, .int .u8 0, .int .u8 0, .int .u8 0, .int .u8 0, .int .u8 0, .int .u8 0, .int .u8 24, .int .u8 0, .int .u8 0, .int .u8 0, .int .u8 0, .int .u8 0, .int .u8 0, .int .u8 0] := by kernel_rfl
theorem nblk1 (w : World) (o : Obj) : (w.alloc o).heap.size = w.heap.size + 1 := by simp
theorem awake_mat (w : World) (A : Option Addr) (c : Nat) (h : Mat w A 3 2 fun q i => Gf.ex (i * q)) :
    Calls Try.prog 22 #[.slice A 3 c, .slice (some ⟨w.heap.size + 1 + 1 + 1, 0, none⟩) 3 3]
      ((((w.alloc (.cells #[.int .u8 1, .int .u8 1] 5)).alloc (.cells #[.int .u8 1, .int .u8 2] 5)).alloc (.cells #[.int .u8 1, .int .u8 4] 5)).alloc
        (.cells #[.slice (some ⟨w.heap.size, 0, none⟩) 2 2, .slice (some ⟨w.heap.size + 1, 0, none⟩) 2 2, .slice (some ⟨w.heap.size + 1 + 1, 0, none⟩) 2 2] 27))
      fun e w' => e = .returned (.bool true) ∧ Below w.heap.size w w' := by
  obtain ⟨W, hW⟩ : ∃ W, W = (((w.alloc (.cells #[.int .u8 1, .int .u8 1] 5)).alloc (.cells #[.int .u8 1, .int .u8 2] 5)).alloc (.cells #[.int .u8 1, .int .u8 4] 5)).alloc
        (.cells #[.slice (some ⟨w.heap.size, 0, none⟩) 2 2, .slice (some ⟨w.heap.size + 1, 0, none⟩) 2 2, .slice (some ⟨w.heap.size + 1 + 1, 0, none⟩) 2 2] 27) := ⟨_, rfl⟩
  have hB : Below w.heap.size w W := by
    rw [hW]
    exact (((Go.Joins.below_alloc1 w _).alloc (by simp) _).alloc (by simp; omega) _).alloc (by simp; omega) _
  have r0 : RB W w.heap.size 2 5 (fun i => Gf.ex (i * 0)) := by rw [hW]; exact (((RB.lit (by kernel_rfl)).alloc _).alloc _).alloc _
  have r1 : RB W (w.heap.size + 1) 2 5 (fun i => Gf.ex (i * 1)) := by
    have := (((RB.lit (w := w.alloc (.cells #[.int .u8 1, .int .u8 1] 5)) (cs := #[.int .u8 1, .int .u8 2]) (n := 2) (t := 5) (f := fun i => Gf.ex (i * 1)) (by kernel_rfl)).alloc (.cells #[.int .u8 1, .int .u8 4] 5)).alloc (.cells #[.slice (some ⟨w.heap.size, 0, none⟩) 2 2, .slice (some ⟨w.heap.size + 1, 0, none⟩) 2 2, .slice (some ⟨w.heap.size + 1 + 1, 0, none⟩) 2 2] 27))
    rw [nblk1] at this
    rw [hW]; exact this
  have r2 : RB W (w.heap.size + 1 + 1) 2 5 (fun i => Gf.ex (i * 2)) := by
    have := ((RB.lit (w := (w.alloc (.cells #[.int .u8 1, .int .u8 1] 5)).alloc (.cells #[.int .u8 1, .int .u8 2] 5)) (cs := #[.int .u8 1, .int .u8 4]) (n := 2) (t := 5) (f := fun i => Gf.ex (i * 2)) (by kernel_rfl)).alloc (.cells #[.slice (some ⟨w.heap.size, 0, none⟩) 2 2, .slice (some ⟨w.heap.size + 1, 0, none⟩) 2 2, .slice (some ⟨w.heap.size + 1 + 1, 0, none⟩) 2 2] 27))
    rw [nblk1, nblk1] at this
    rw [hW]; exact this
  have hh : W.heap[w.heap.size + 1 + 1 + 1]? = some (.cells #[.slice (some ⟨w.heap.size, 0, none⟩) 2 2, .slice (some ⟨w.heap.size + 1, 0, none⟩) 2 2, .slice (some ⟨w.heap.size + 1 + 1, 0, none⟩) 2 2] 27 (0, 0)) := by
    have := heap_alloc_new (((w.alloc (.cells #[.int .u8 1, .int .u8 1] 5)).alloc (.cells #[.int .u8 1, .int .u8 2] 5)).alloc (.cells #[.int .u8 1, .int .u8 4] 5)) (.cells #[.slice (some ⟨w.heap.size, 0, none⟩) 2 2, .slice (some ⟨w.heap.size + 1, 0, none⟩) 2 2, .slice (some ⟨w.heap.size + 1 + 1, 0, none⟩) 2 2] 27)
    rw [nblk1, nblk1, nblk1] at this
    rw [hW]; exact this
  have hm : Mat W (some ⟨w.heap.size + 1 + 1 + 1, 0, none⟩) 3 2 fun q i => Gf.ex (i * q) := by
    refine ⟨_, 0, rfl, fun q hq => ?_⟩
    have hc := cell_of_row W _ (0 + q) _ _ _ hh
    match q, hq with
    | 0, _ => exact ⟨_, _, _, hc, fun i hi => by rw [Nat.zero_add]; exact r0.cell i hi⟩
    | 1, _ => exact ⟨_, _, _, hc, fun i hi => by rw [Nat.zero_add]; exact r1.cell i hi⟩
    | 2, _ => exact ⟨_, _, _, hc, fun i hi => by rw [Nat.zero_add]; exact r2.cell i hi⟩
  rw [← hW]
  exact (rsame02_yes _ A _ 3 2 c 3 W (by omega) (h.below hB) hm).mono fun _ _ h => ⟨h.1, keepw hB h.2⟩
set_option maxRecDepth 100000 in
theorem awake_any (w : World) : Calls Try.prog 11 #[] w fun e w' => e = .returned (.bool true) ∧ Below w.heap.size w w' := by
  go_enter Try.func11, Try.ntmps11
  go_wp2_with fail
  refine (matrix_any 2 w (by omega) (by omega)).mono ?_
  rintro e w1 ⟨v, gs, rfl, o1, l1, r1, hB1⟩
  obtain ⟨A, c, rfl, M1⟩ := Mat.of_own o1 l1 (by omega) r1
  have HM := Lib.hid M1
  have HB1 := Lib.hid hB1
  clear o1 l1 r1 M1 hB1
  have HE := Lib.hid (encode_par (fst [3, 5]) w1.heap.size 0 2 2 (w1.alloc (.cells (brow 16 (fst [3, 5])) 37)) (by omega) (by omega) (fst_lt (by decide)) (RB.new.at0 (by omega)))
  rw [lit2] at HE
  go_wp2_with fail
  with_reducible refine HE.out.mono ?_
  clear HE
  rintro e w2 ⟨rfl, R2, hB2⟩
  have HR2 := Lib.hid R2
  have HB2 := Lib.hid ((HB1.out.alloc HB1.out.size _).trans (hB2.mono (by have := HB1.out.size; simp; omega)))
  have HM2 := Lib.hid ((HM.out.below (Go.Joins.below_alloc1 _ _)).below hB2)
  clear R2 hB2 HB1 HM
  simp at HR2
  go_wp2_with fail
  with_reducible refine (awake_mat w2 A c HM2.out).mono ?_
  rintro e w3 ⟨rfl, hB3⟩
  have HB3 := Lib.hid (HB2.out.trans (hB3.mono HB2.out.size))
  have HR3 := Lib.hid (HR2.out.below hB3)
  clear hB3 HB2 HR2 HM2
  have HS := Lib.hid (rsame_any (par (fst [3, 5]) 2) (fst [6, 9, 23]) _ _ 3 3 3 (w3.alloc (.cells (brow 24 (fst [6, 9, 23])) 37)) (by omega) (fun j => par_lt 2 j) (fst_lt (by decide)) ((HR3.out.alloc _).bks (by omega)) (RB.new.bks (by omega)))
  rw [lit3, show eqB (3 * 8) (par (fst [3, 5]) 2) (fst [6, 9, 23]) = true by decide +kernel] at HS
  go_wp2_with fail
  with_reducible refine HS.out.mono ?_
  rintro e w4 ⟨rfl, hB4⟩
  have HB4 := Lib.hid ((HB3.out.alloc HB3.out.size _).trans (hB4.mono (by have := HB3.out.size; simp; omega)))
  clear HB3 HR3 HS hB4
  have HC := Lib.hid (check_par (fst [3, 5, 6, 9, 23]) _ 0 5 5 (w4.alloc (.cells (brow 40 (fst [3, 5, 6, 9, 23])) 37)) (by omega) (by omega) (by omega) (fst_lt (by decide)) (RB.new.at0 (by omega)))
  rw [lit5, show eqB 24 (par (fst [3, 5, 6, 9, 23]) (5 - 3)) (fun k => fst [3, 5, 6, 9, 23] ((5 - 3) * 8 + k)) = true by decide +kernel] at HC
  go_wp2_with fail
  with_reducible refine HC.out.mono ?_
  rintro e w5 ⟨rfl, hB5⟩
  have HB5 := Lib.hid ((HB4.out.alloc HB4.out.size _).trans (hB5.mono (by have := HB4.out.size; simp; omega)))
  clear HB4 HC hB5
  have HC := Lib.hid (check_par (fst [3, 5, 6, 9, 24]) _ 0 5 5 (w5.alloc (.cells (brow 40 (fst [3, 5, 6, 9, 24])) 37)) (by omega) (by omega) (by omega) (fst_lt (by decide)) (RB.new.at0 (by omega)))
  rw [lit5n, show eqB 24 (par (fst [3, 5, 6, 9, 24]) (5 - 3)) (fun k => fst [3, 5, 6, 9, 24] ((5 - 3) * 8 + k)) = false by decide +kernel] at HC
  go_wp2_with fail
  with_reducible refine HC.out.mono ?_
  rintro e w6 ⟨rfl, hB6⟩
  have HB6 := Lib.hid ((HB5.out.alloc HB5.out.size _).trans (hB6.mono (by have := HB5.out.size; simp; omega)))
  go_wp2_with fail
  go_ret
  exact ⟨rfl, HB6.out⟩
end Go.Proofs.Ytibhhonmcbbohaa
