/- Steps that came in, and the reference's Take and Tick. -/
import Derived.Test.YtogdabfmfabjkaaTh6
import Derived.Deep.Slices
import Derived.OpenShut
namespace Go.Proofs.Ytogdabfmfabjkaa
open Go.RowKit

/-- a slice that reads as the steps l -/
def Steps (w : World) (A : Option Addr) (l : List (Bool × Int)) : Prop := 0 < l.length → ∃ b off : Nat, A = some ⟨b, off, none⟩ ∧ ∀ j : Nat, j < l.length →
  w.cell? ⟨b, off + j * 2, none⟩ = some (.bool (l.getD j (false, 0)).1) ∧ w.cell? ⟨b, off + j * 2 + 1, none⟩ = some (.int .i64 (l.getD j (false, 0)).2) ∧ -9223372036854775808 ≤ (l.getD j (false, 0)).2 ∧ (l.getD j (false, 0)).2 ≤ 9223372036854775807
theorem Steps.below {w w' : World} {A : Option Addr} {l : List (Bool × Int)} (h : Steps w A l) (hB : Below w.heap.size w w') : Steps w' A l := fun h0 => by
  obtain ⟨b, off, rfl, hc⟩ := h h0
  exact ⟨b, off, rfl, fun j hj => ⟨(hB.cell (World.block_lt_of_cell? w _ (hc j hj).1)).trans (hc j hj).1, (hB.cell (World.block_lt_of_cell? w _ (hc j hj).2.1)).trans (hc j hj).2.1, (hc j hj).2.2⟩⟩

theorem step_cells {H : Type} {enc : TypeId × Value → H} {W : World} {n : Nat} {a : Addr} {cs' : List Value} {y : DataW H × List MemPlace}
    (hc : W.cells? 0 a 2 = some cs') (ht : DataW.trod enc Try.prog W 0 (fun _ => true) true n 35 cs' = some y) :
    ∃ (p : Bool) (z : Int), W.cell? a = some (.bool p) ∧ W.cell? (a.add 1) = some (.int .i64 z) ∧ -9223372036854775808 ≤ z ∧ z ≤ 9223372036854775807 := by
  obtain ⟨ys, n', _, _, hlen, hyl, hf⟩ := DataW.trod_struct Try.underlying35 ht
  obtain ⟨_, hcl, hat⟩ := World.cells?_some hc
  match cs', hcl with
  | [c0, c1], _ =>
    match ys, hyl with
    | [y0, y1], _ =>
      have h0 := hf 0 _ rfl
      have h1 := hf 1 _ rfl
      have e0 := hat 0 (by omega)
      have e1 := hat 1 (by omega)
      simp only [List.getElem?_cons_zero, List.getElem?_cons_succ] at h0 h1 e0 e1
      obtain ⟨p, hp, _⟩ := DataW.trod_bool Try.underlying4 h0
      obtain ⟨z, hz, _, hwf⟩ := DataW.trod_int Try.underlying3 h1
      cases hp
      cases hz
      have hb := bounds_i64 hwf
      have e00 : a.add 0 = a := by simp [Addr.add]
      rw [e00] at e0
      exact ⟨p, z, e0, e1, by omega, by omega⟩
/-- the steps that came in -/
theorem steps_of_row {H : Type} {enc : TypeId × Value → H} {W : World} {A : Option Addr} {len cap fuel : Nat} {x : DataW H × List MemPlace}
    (h : DataW.trod enc Try.prog W 0 (fun _ => true) true fuel 29 [.slice A len cap] = some x) : ∃ l : List (Bool × Int), len = l.length ∧ Steps W A l := by
  rcases Go.Deep.open_slice Try.underlying29 h with ⟨hcs, _⟩ | ⟨a, ln, cp, m, n, D, Pl, hcs, hb, hl, hm, hmm, hx, hi⟩
  · simp at hcs
    obtain ⟨rfl, rfl, rfl⟩ := hcs
    exact ⟨[], rfl, fun h => by simp at h⟩
  · simp at hcs
    obtain ⟨rfl, rfl, rfl⟩ := hcs
    simp only [if_true] at hmm
    subst hmm
    have kc : Try.prog.cellsOf 35 = 2 := by kernel_rfl
    rw [kc] at hi
    have each : ∀ i : Nat, ∃ q : Bool × Int, i < len → W.cell? (a.add (i * 2)) = some (.bool q.1) ∧ W.cell? ((a.add (i * 2)).add 1) = some (.int .i64 q.2) ∧ -9223372036854775808 ≤ q.2 ∧ q.2 ≤ 9223372036854775807 := by
      intro i
      by_cases hlt : i < len
      · obtain ⟨cs', hc, ht⟩ := hi i (by omega)
        obtain ⟨p, z, h1⟩ := step_cells hc ht
        exact ⟨(p, z), fun _ => h1⟩
      · exact ⟨(false, 0), fun h => absurd h hlt⟩
    refine ⟨(List.range len).map (fun i => Classical.choose (each i)), by simp, fun h0 => ?_⟩
    have h0' : 0 < len := by simpa using h0
    obtain ⟨b, off, spot⟩ := a
    have hspot : spot = none := by simpa [Addr.add] using World.cell?_spot ((Classical.choose_spec (each 0)) h0').1
    subst hspot
    refine ⟨b, off, rfl, fun j hj => ?_⟩
    have hj' : j < len := by simpa using hj
    have hq := (Classical.choose_spec (each j)) hj'
    have hg : ((List.range len).map (fun i => Classical.choose (each i))).getD j (false, 0) = Classical.choose (each j) := by simp [List.getD, hj']
    rw [hg]
    generalize Classical.choose (each j) = q at hq ⊢
    rw [Go.WideShapes.add_plain, Go.WideShapes.add_plain] at hq
    exact hq

theorem two_new {w : World} (a b : Obj) : Below w.heap.size w ((w.alloc a).alloc b) := ((Below.refl _ _).alloc (Nat.le_refl _) _).alloc (by simp) _
theorem c3_new {w : World} {x y z : Value} {t : TypeId} : (w.alloc (.cells #[x, y, z] t)).cell? ⟨w.heap.size, 0, none⟩ = some x ∧ (w.alloc (.cells #[x, y, z] t)).cell? ⟨w.heap.size, 1, none⟩ = some y ∧ (w.alloc (.cells #[x, y, z] t)).cell? ⟨w.heap.size, 2, none⟩ = some z :=
  ⟨cell_of_row _ _ 0 _ _ _ (heap_alloc_new w _), cell_of_row _ _ 1 _ _ _ (heap_alloc_new w _), cell_of_row _ _ 2 _ _ _ (heap_alloc_new w _)⟩
/-- the reference's Take -/
theorem rtake_any (R B L n : Int) (w : World) (hL : 0 ≤ L) (hL2 : L ≤ 1073741824) :
    Calls Try.prog 15 #[.agg #[.int .i64 R, .int .i64 B, .int .i64 L], .int .i64 n] w fun e w' => e = .returned (.tuple #[.agg #[.int .i64 R, .int .i64 B, .int .i64 (takeL L n)], .bool (took L n)]) ∧ Below w.heap.size w w' := by
  by_cases h0 : n < 0
  · rw [show takeL L n = L by rw [takeL, if_neg (by omega)], show took L n = false from decide_eq_false (by omega)]
    go_enter Try.func15, Try.ntmps15
    go_wp2_with fail
    exact bodyPost_ret (v := .tuple #[.agg #[.int .i64 R, .int .i64 B, .int .i64 L], .bool false]) (by simp [results, Try.results15, go_sem]) rfl ⟨rfl, two_new _ _⟩
  · by_cases h1 : L < n
    · rw [show takeL L n = L by rw [takeL, if_neg (by omega)], show took L n = false from decide_eq_false (by omega)]
      go_enter Try.func15, Try.ntmps15
      go_wp2_with fail
      exact bodyPost_ret (v := .tuple #[.agg #[.int .i64 R, .int .i64 B, .int .i64 L], .bool false]) (by simp [results, Try.results15, go_sem]) rfl ⟨rfl, two_new _ _⟩
    · rw [show takeL L n = L - n by rw [takeL, if_pos (by omega)], show took L n = true from decide_eq_true (by omega)]
      go_enter Try.func15, Try.ntmps15
      go_wp2_with fail
      exact bodyPost_ret (v := .tuple #[.agg #[.int .i64 R, .int .i64 B, .int .i64 (L - n)], .bool true]) (by simp [results, Try.results15, go_sem]) rfl ⟨rfl, two_new _ _⟩
/-- the reference's Tick -/
theorem rtick_any (R B L n : Int) (w : World) (hR : 0 ≤ R) (hR2 : R ≤ 1048576) (h1 : 0 ≤ L) (h2 : L ≤ B) (h3 : B ≤ 1073741824) :
    Calls Try.prog 17 #[.agg #[.int .i64 R, .int .i64 B, .int .i64 L], .int .i64 n] w fun e w' => e = .returned (.agg #[.int .i64 R, .int .i64 B, .int .i64 (tickL R B L n)]) ∧ Below w.heap.size w w' := by
  by_cases h0 : n ≤ 0
  · rw [show tickL R B L n = L by rw [tickL, if_pos (by omega)]]
    go_enter Try.func17, Try.ntmps17
    go_wp2_with fail
    exact bodyPost_ret (v := .agg #[.int .i64 R, .int .i64 B, .int .i64 L]) (by simp [results, Try.results17, go_sem]) rfl ⟨rfl, two_new _ _⟩
  · by_cases hz : R = 0
    · subst hz
      rw [show tickL 0 B L n = L by rw [tickL, if_pos (by omega)]]
      go_enter Try.func17, Try.ntmps17
      go_wp2_with fail
      exact bodyPost_ret (v := .agg #[.int .i64 0, .int .i64 B, .int .i64 L]) (by simp [results, Try.results17, go_sem]) rfl ⟨rfl, two_new _ _⟩
    · have hz2 : (R == 0) = false := beq_eq_false_iff_ne.mpr hz
      have q0 : 0 ≤ (B - L + R - 1) / R := Int.ediv_nonneg (by omega) (by omega)
      have q1 : (B - L + R - 1) / R ≤ B - L + R - 1 := Int.ediv_le_self _ (by omega)
      obtain ⟨full, hf⟩ : ∃ full, full = (B - L + R - 1) / R := ⟨_, rfl⟩
      have hf2 := hf.symm
      by_cases hn : full ≤ n
      · rw [show tickL R B L n = B by rw [tickL, if_neg (by omega), ← hf, if_pos hn]]
        rw [← hf] at q0 q1
        clear hf
        go_enter Try.func17, Try.ntmps17
        go_wp2_with fail
        exact bodyPost_ret (v := .agg #[.int .i64 R, .int .i64 B, .int .i64 B]) (by simp [results, Try.results17, go_sem]) rfl ⟨rfl, two_new _ _⟩
      · rw [show tickL R B L n = L + n * R by rw [tickL, if_neg (by omega), ← hf, if_neg hn]]
        have q2 : 0 ≤ n * R := Int.mul_nonneg (by omega) hR
        have q3 : n * R ≤ B - L := by
          have a1 := ceil_hi (d := B - L) (show 1 ≤ R by omega)
          rw [← hf] at a1
          have a2 := Int.mul_le_mul_of_nonneg_right (show n + 1 ≤ full by omega) hR
          rw [Int.add_mul] at a2
          omega
        rw [← hf] at q0 q1
        clear hf
        go_enter Try.func17, Try.ntmps17
        go_wp2_with fail
        exact bodyPost_ret (v := .agg #[.int .i64 R, .int .i64 B, .int .i64 (L + n * R)]) (by simp [results, Try.results17, go_sem]) rfl ⟨rfl, two_new _ _⟩
theorem box3 {w w1 : World} {x y z : Value} {t1 : TypeId} (hB : Below (w.alloc (.cells #[x, y, z] t1)).heap.size (w.alloc (.cells #[x, y, z] t1)) w1) :
    (w1.cell? ⟨w.heap.size, 0, none⟩ = some x ∧ w1.cell? ⟨w.heap.size, 1, none⟩ = some y ∧ w1.cell? ⟨w.heap.size, 2, none⟩ = some z) ∧ ∀ o, w1.frozen? ⟨w.heap.size, o, none⟩ = false := by
  have h1 : (w.alloc (.cells #[x, y, z] t1)).heap[w.heap.size]? = some (.cells #[x, y, z] t1 (0, 0)) := heap_alloc_new w _
  have g1 : ∀ j, w1.cell? ⟨w.heap.size, j, none⟩ = #[x, y, z][j]? := fun j => (hB.cell (by simp)).trans (cell_of_row _ _ j _ _ _ h1)
  exact ⟨⟨g1 0, g1 1, g1 2⟩, fun o => (hB.frozen (by simp)).trans (frozen_of_row _ _ o _ _ h1)⟩
/-- start, at valid numbers -/
theorem start_any (R B : Int) (w : World) (h : okRB R B) : Calls Try.prog 14 #[.int .i64 R, .int .i64 B] w
    fun e w' => e = .returned (.tuple #[.pointer (some ⟨w.heap.size + 1, 0, none⟩), .agg #[.int .i64 R, .int .i64 B, .int .i64 B], .bool true]) ∧ Buk w' (w.heap.size + 1) R B B ∧ Below w.heap.size w w' := by
  have HN := Lib.hid (fun W => new_any R B W h)
  have HV := Lib.hid (fun W => rvalid_yes R B W h)
  have HP := ptr_nn (w.heap.size + 1)
  clear h
  go_enter Try.func14, Try.ntmps14
  go_wp2_with (first
    | (go_at_call 11; (with_reducible refine (HN.out _).mono ?_); rintro e w1 ⟨rfl, b1, hB⟩; rw [show (w.alloc (.cells #[.int .i64 0, .int .i64 0, .int .i64 0] 31)).heap.size = w.heap.size + 1 by simp] at b1; have HB1 := Lib.hid b1; obtain ⟨⟨c0, c1, c2⟩, f0⟩ := box3 hB; have HW1 := Lib.hid (keepw (Go.Joins.below_alloc1 w _) hB); clear b1 hB)
    | (go_at_call 12; (with_reducible refine (HV.out _).mono ?_); rintro e w' ⟨rfl, rfl⟩))
  have n1 : (some w.heap.size : Option Nat) ≠ some (w.heap.size + 1) := some_ne (by omega)
  refine bodyPost_ret (v := .tuple #[.pointer (some ⟨w.heap.size + 1, 0, none⟩), .agg #[.int .i64 R, .int .i64 B, .int .i64 B], .bool true]) (by simp [results, Try.results14, go_sem, c0, c1, c2]) rfl ⟨rfl, ?_, ?_⟩
  · exact ((HB1.out.grown (grown_set _ _ _ _) n1).grown (grown_set _ _ _ _) n1).grown (grown_set _ _ _ _) n1
  · exact ((HW1.out.setCell (Nat.le_refl _) _).setCell (Nat.le_refl _) _).setCell (Nat.le_refl _) _
/-- start, at other numbers -/
theorem start_bad (R B : Int) (w : World) (h : ¬ okRB R B) : Calls Try.prog 14 #[.int .i64 R, .int .i64 B] w
    fun e w' => e = .returned (.tuple #[.pointer none, .agg #[.int .i64 0, .int .i64 0, .int .i64 0], .bool false]) ∧ Below w.heap.size w w' := by
  have HN := Lib.hid (fun W => new_bad R B W h)
  have HV := Lib.hid (fun W => rvalid_no R B W h)
  clear h
  go_enter Try.func14, Try.ntmps14
  go_wp2_with (first
    | (go_at_call 11; (with_reducible refine (HN.out _).mono ?_); rintro e w1 ⟨rfl, rfl⟩)
    | (go_at_call 12; (with_reducible refine (HV.out _).mono ?_); rintro e w' ⟨rfl, rfl⟩))
  exact bodyPost_ret (v := .tuple #[.pointer none, .agg #[.int .i64 0, .int .i64 0, .int .i64 0], .bool false]) (by simp [results, Try.results14, go_sem]) rfl ⟨rfl, (Below.refl _ _).alloc (Nat.le_refl _) _⟩
end Go.Proofs.Ytogdabfmfabjkaa
