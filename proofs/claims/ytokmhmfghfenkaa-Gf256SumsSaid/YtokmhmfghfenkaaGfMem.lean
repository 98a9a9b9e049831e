/- The walks of gf256.Fused, of its reference and of the comparison of two byte slices. -/
import Derived.Test.YtokmhmfghfenkaaGfWalks2
import Derived.StillTailTactics
import Derived.Laws.OwnMore
import Derived.Laws.Entries
import Derived.Lib.Bytes
import Derived.Deep.RegionHeld3
import Derived.Deep.AppendLies
namespace Go.Proofs.Ytokmhmfghfenkaa
open Go.RowKit

/-- the cells of bytes -/
def bts (l : List Nat) : List Value := l.map fun (x : Nat) => Value.int .u8 x
theorem bts_length (l : List Nat) : (bts l).length = l.length := by simp [bts]
/-- a slice that reads as the bytes l -/
def Bts (w : World) (A : Option Addr) (l : List Nat) : Prop := 0 < l.length → ∃ b off : Nat, A = some ⟨b, off, none⟩ ∧ ∀ j : Nat, j < l.length → w.cell? ⟨b, off + j, none⟩ = some (.int .u8 (l.getD j 0 : Nat))
/-- numbers below 256 -/
def AB (l : List Nat) : Prop := ∀ j, l.getD j 0 < 256
/-- what one block holds -/
def Blk (w : World) (g : Nat) (e : TypeId) (cs : List Value) : Prop := w.heap[g]? = some (.cells cs.toArray e (0, 0))

theorem run_make_rowN {P : Program} (t e : TypeId) (i : TypeInfo) (z : Value) (ht : P.underlying t = some (.slice e)) (hi : P.info? e = some i) (hz : i.zero = some z)
    (kl kc : IntKind) (n c : Nat) (hnc : n ≤ c) (hbytes : i.bytes * c ≤ 281474976710656) (h63 : c ≤ 9223372036854775807) (w : World) :
    (Instr.makeSlice t (.int kl (n : Int)) (.int kc (c : Int))).run P w = .ok (.slice (some ⟨w.heap.size, 0, none⟩) n c) (w.alloc (.cells (madeCells z.cells (c * i.size)) e)) := by
  have hb : (i.bytes : Int) * (c : Int) ≤ 281474976710656 := by
    have h : ((i.bytes * c : Nat) : Int) ≤ 281474976710656 := by omega
    rwa [Int.natCast_mul] at h
  have hr := run_make (P := P) w t e i z ht hi hz kl kc n c (by omega) (by omega) hb (by omega)
  simp only [Int.toNat_natCast] at hr
  exact hr
theorem Try.infoByte : (Try.prog.info? 5).map (fun i => (i.zero, i.size, i.bytes)) = some (some (.int .u8 0), 1, 1) := by kernel_rfl
theorem run_make_bytes (kl kc : IntKind) (n : Nat) (hn : n ≤ 140737488355328) (w : World) :
    (Instr.makeSlice 28 (.int kl (n : Int)) (.int kc (n : Int))).run Try.prog w = .ok (.slice (some ⟨w.heap.size, 0, none⟩) n n) (w.alloc (.cells (bts (List.replicate n 0)).toArray 5)) := by
  obtain ⟨i0, hi, hz0, hz1, hz2⟩ := info_parts Try.infoByte
  have h := run_make_rowN (P := Try.prog) 28 5 i0 (.int .u8 0) Try.underlying28 hi hz0 kl kc n n (Nat.le_refl _) (by rw [hz2]; omega) (by omega) w
  have e : madeCells (Value.int .u8 0).cells (n * i0.size) = (bts (List.replicate n 0)).toArray := by
    rw [hz1, Nat.mul_one]
    apply Array.toList_inj.1
    have := toList_madeCells_one (.int .u8 0) n
    rw [show (Value.int .u8 0).cells = #[.int .u8 0] from rfl, this]
    simp [bts]
  rw [e] at h
  exact h

/-- the first i bytes are done -/
def fz (d s : List Nat) (c i : Nat) : List Nat := (List.range d.length).map fun j => if j < i then (d.getD j 0) ^^^ Gf.mul c (s.getD j 0) else 0
theorem fz_length (d s : List Nat) (c i : Nat) : (fz d s c i).length = d.length := by simp [fz]
theorem fz_zero (d s : List Nat) (c : Nat) : fz d s c 0 = List.replicate d.length 0 := by
  apply List.ext_getElem?
  intro j
  by_cases h : j < d.length <;> simp [fz, h]
theorem fz_set (d s : List Nat) (c i : Nat) (hi : i < d.length) : (fz d s c i).set i ((d.getD i 0) ^^^ Gf.mul c (s.getD i 0)) = fz d s c (i + 1) := by
  apply List.ext_getElem?
  intro j
  rw [List.getElem?_set]
  by_cases hj : j < d.length
  · by_cases e : i = j
    · subst e; simp [fz, hj]
    · by_cases h1 : j < i
      · have h2 : j < i + 1 := by omega
        simp [fz, hj, e, h1, h2]
      · have h2 : ¬ j < i + 1 := by omega
        simp [fz, hj, e, h1, h2]
  · by_cases e : i = j
    · omega
    · simp [fz, hj, e]

theorem bts_set (l : List Nat) (i x : Nat) : (bts l).toArray.setIfInBounds i (.int .u8 (x : Int)) = (bts (l.set i x)).toArray := by
  simp [bts, List.map_set]
theorem fused_step {w2 : World} {g : Nat} {d s : List Nat} {c i x y : Nat} (hlt : i < d.length) (hb : Blk w2 g 5 (bts (fz d s c i))) (hX : x = d.getD i 0) (hY : y = s.getD i 0) (hx : x < 256) (_hy : y < 256) (hc : c < 256) :
    Blk (w2.setCell ⟨g, i, none⟩ (.int .u8 (bits .xor .u8 (x : Int) (Gf.mul c y : Int)))) g 5 (bts (fz d s c (i + 1))) := by
  rw [u8_xor_nat x (Gf.mul c y) hx (Gf.mul_lt c y hc), ← fz_set d s c i hlt, ← hX, ← hY, Blk, ← bts_set]
  exact heap_setCell_same w2 g i _ _ _ hb

theorem fused_any (d s : List Nat) (c : Nat) (A A' : Option Addr) (ca cb : Nat) (w : World) (hl : s.length = d.length) (hc : c < 256) (hdb : AB d) (hsb : AB s)
    (hd : Bts w A d) (hs : Bts w A' s) (hn : d.length ≤ 140737488351232) :
    Calls Try.prog 15 #[.slice A d.length ca, .slice A' s.length cb, .int .u8 c] w fun e w' => e = .returned (.tuple #[.slice (some ⟨w.heap.size, 0, none⟩) d.length d.length, .int .i64 0]) ∧
      Blk w' w.heap.size 5 (bts (fz d s c d.length)) ∧ Below w.heap.size w w' := by
  have hmk := fun kl kc W => run_make_bytes kl kc d.length (by omega) W
  rw [hl]
  have HL := Lib.hid hl
  clear hl
  have HD := Lib.hid hd
  have HS := Lib.hid hs
  have HDB := Lib.hid hdb
  have HSB := Lib.hid hsb
  clear hd hs hdb hsb
  go_enter Try.func15, Try.ntmps15
  go_wp2
  go_loopw [20] (fun vi wr => ∃ i : Nat, i ≤ d.length ∧ vi = .int .i64 i ∧ Blk wr w.heap.size 5 (bts (fz d s c i)) ∧ Below w.heap.size w wr) (fun vi _ => d.length - (intOf vi).toNat)
  case atStart => exact ⟨0, by omega, rfl, by rw [fz_zero]; exact heap_alloc_new _ _, (Below.refl _ _).alloc (Nat.le_refl _) _⟩
  case round =>
    obtain ⟨i, hi, rfl, hb, hB⟩ := hrel
    by_cases hlt : i < d.length
    · obtain ⟨b1, o1, rfl, h1⟩ := HD.out (by omega)
      obtain ⟨b2, o2, rfl, h2⟩ := HS.out (by have := HL.out; omega)
      have hx : d.getD i 0 < 256 := HDB.out i
      have hlt2 : i < s.length := by have := HL.out; omega
      have hy : s.getD i 0 < 256 := HSB.out i
      have hc1 : wr.cell? ⟨b1, o1 + i, none⟩ = some (.int .u8 (d.getD i 0 : Nat)) := (hB.cell (World.block_lt_of_cell? w _ (h1 i hlt))).trans (h1 i hlt)
      have hc2 : wr.cell? ⟨b2, o2 + i, none⟩ = some (.int .u8 (s.getD i 0 : Nat)) := (hB.cell (World.block_lt_of_cell? w _ (h2 i hlt2))).trans (h2 i hlt2)
      have hc3 : wr.cell? ⟨w.heap.size, i, none⟩ = some (.int .u8 ((fz d s c i).getD i 0 : Nat)) := by
        rw [cell_of_row wr _ i _ _ _ hb]
        simp [bts, fz, hlt]
      have hf3 : wr.frozen? ⟨w.heap.size, i, none⟩ = false := frozen_of_row wr _ i _ _ hb
      clear h1 h2
      obtain ⟨x, hX⟩ : ∃ x, x = d.getD i 0 := ⟨_, rfl⟩
      obtain ⟨y, hY⟩ : ∃ y, y = s.getD i 0 := ⟨_, rfl⟩
      rw [← hX] at hx hc1
      rw [← hY] at hy hc2
      have HX := Lib.hid hX
      have HY := Lib.hid hY
      clear hX hY
      go_wp2
      go_still_tail 14, (by kernel_rfl)
      still_call ((mul_any c y hc hy _).mono fun _ _ h => ⟨h.1, h.2.symm⟩)
      repeat still_step
      refine wpStill_nil ?_
      change wpList _ _ _ _ _ wr.drew
      obtain ⟨w2, hw2⟩ : ∃ w2, w2 = wr.drew := ⟨_, rfl⟩
      rw [← hw2]
      have hb2 : Blk w2 w.heap.size 5 (bts (fz d s c i)) := by rw [hw2]; exact hb
      have hB2 : Below w.heap.size w w2 := by rw [hw2]; exact hB.drew
      have hc4 : w2.cell? ⟨w.heap.size, i, none⟩ = some (.int .u8 ((fz d s c i).getD i 0 : Nat)) := by rw [hw2]; exact hc3
      have hf4 : w2.frozen? ⟨w.heap.size, i, none⟩ = false := by rw [hw2]; exact hf3
      clear hb hB hc1 hc2 hc3 hf3 hw2
      go_wp2
      go_roundw
      case rel => exact ⟨i + 1, by omega, by go_num, fused_step hlt hb2 HX.out HY.out hx hy hc, hB2.setCell (Nat.le_refl _) _⟩
      case measure => simp [intOf]; omega
    · obtain rfl : i = d.length := by omega
      go_wp2
      go_ret2
      exact ⟨rfl, hb, hB⟩

/-! ### the comparison of two byte slices -/
def ints (l : List Nat) : List Int := l.map fun (x : Nat) => (x : Int)
theorem ints_getD (l : List Nat) (j : Nat) : (ints l).getD j 0 = ((l.getD j 0 : Nat) : Int) := by
  simp only [ints, List.getD_eq_getElem?_getD, List.getElem?_map]
  cases l[j]? <;> simp
theorem bytes_inj : ∀ (d s : List Nat), AB d → AB s → (ints d).map (fun n => UInt8.ofNat n.toNat) = (ints s).map (fun n => UInt8.ofNat n.toNat) → d = s
  | [], [], _, _, _ => rfl
  | [], _ :: _, _, _, h => by simp [ints] at h
  | _ :: _, [], _, _, h => by simp [ints] at h
  | x :: d, y :: s, hd, hs, h => by
    simp only [ints, List.map_cons, List.cons.injEq, Int.toNat_natCast] at h
    have hx : x < 256 := hd 0
    have hy : y < 256 := hs 0
    have h1 : x = y := by
      have := congrArg UInt8.toNat h.1
      simpa [UInt8.toNat_ofNat', Nat.mod_eq_of_lt hx, Nat.mod_eq_of_lt hy] using this
    have h2 := bytes_inj d s (fun j => hd (j + 1)) (fun j => hs (j + 1)) h.2
    rw [h1, h2]
theorem toList_bytes (xs : List Int) : (strOfNums xs).toList = xs.map fun n => UInt8.ofNat n.toNat := by
  rw [Lib.strOfNums_toList]
  rfl
theorem same_eq (d s : List Nat) (hd : AB d) (hs : AB s) : ((strOfNums (ints d)).toList == (strOfNums (ints s)).toList) = decide (d = s) := by
  rw [toList_bytes, toList_bytes, Bool.eq_iff_iff]
  simp only [beq_iff_eq, decide_eq_true_eq]
  exact ⟨bytes_inj d s hd hs, fun h => by rw [h]⟩
theorem conv_bytes (d : List Nat) (A : Option Addr) (c : Nat) (w : World) (hd : Bts w A d) :
    (convert 28 9 (.slice A d.length c)).run Try.prog w = .ok (.string (strOfNums (ints d))) w := by
  by_cases h0 : 0 < d.length
  · obtain ⟨b, off, rfl, h⟩ := hd h0
    refine run_convert_bytes_arg w 28 5 Try.underlying28 Try.underlying5 b off d.length c (ints d) (by simp [ints]) (fun i hi => ?_) 9 Try.underlying9
    rw [ints_getD]
    exact h i hi
  · obtain rfl : d = [] := List.eq_nil_of_length_eq_zero (by omega)
    cases A with
    | none => exact run_convert_bytes_nil w 28 5 Try.underlying28 Try.underlying5 0 c 9 Try.underlying9
    | some ad =>
      show (convert 28 9 (.slice (some ad) 0 c)).run Try.prog w = _
      rw [run_convert_bytes_string w 28 9 _ _ 0 c Try.underlying28 Try.underlying5 Try.underlying9]
      have hl : (loadCells ad 0).run Try.prog w = .ok (([] : List Int).map (Value.int .u8)).toArray w := by
        have := run_loadCells_list (P := Try.prog) w ad [] (fun j v hj => by simp at hj)
        simpa using this
      rw [run_bytesToString w ad 0 c [] hl]
      rfl
/-- tegularef01.Same -/
theorem same_any (d s : List Nat) (A A' : Option Addr) (ca cb : Nat) (w : World) (hdb : AB d) (hsb : AB s) (hd : Bts w A d) (hs : Bts w A' s) :
    Calls Try.prog 16 #[.slice A d.length ca, .slice A' s.length cb] w fun e w' => e = .returned (.bool (decide (d = s))) ∧ w = w' := by
  have h1 := conv_bytes d A ca w hd
  have h2 := conv_bytes s A' cb w hs
  have HE := Lib.hid (same_eq d s hdb hsb)
  clear hd hs hdb hsb
  go_enter Try.func16, Try.ntmps16
  go_wp2
  go_ret
  exact ⟨ret_bool HE.out, rfl⟩

/-! ### the reference's Fused: the results are appended -/
def fzt (d s : List Nat) (c i : Nat) : List Nat := (List.range i).map fun j => (d.getD j 0) ^^^ Gf.mul c (s.getD j 0)
theorem fzt_length (d s : List Nat) (c i : Nat) : (fzt d s c i).length = i := by simp [fzt]
theorem fzt_succ (d s : List Nat) (c i : Nat) : fzt d s c (i + 1) = fzt d s c i ++ [(d.getD i 0) ^^^ Gf.mul c (s.getD i 0)] := by
  simp [fzt, List.range_succ]
theorem fzt_all (d s : List Nat) (c : Nat) : fzt d s c d.length = fz d s c d.length := by
  apply List.ext_getElem?
  intro j
  by_cases h : j < d.length <;> simp [fz, fzt, h]
theorem fzt_rel {w3 : World} {base : Nat} {v : Value} {d s : List Nat} {c i x y : Nat} (hX : x = d.getD i 0) (hY : y = s.getD i 0) (hx : x < 256) (hc : c < 256)
    (h : w3.ownsRow base 5 1 v (i + 1) (bts (fzt d s c i) ++ [.int .u8 (bits .xor .u8 (x : Int) (Gf.mul c y : Int))])) : w3.ownsRow base 5 1 v (i + 1) (bts (fzt d s c (i + 1))) := by
  rw [u8_xor_nat x (Gf.mul c y) hx (Gf.mul_lt c y hc)] at h
  rw [fzt_succ, ← hX, ← hY]
  simpa [bts] using h

theorem rfused_any (d s : List Nat) (c : Nat) (A A' : Option Addr) (ca cb : Nat) (w : World) (hl : s.length = d.length) (hc : c < 256) (hdb : AB d) (hsb : AB s)
    (hd : Bts w A d) (hs : Bts w A' s) (hn : d.length ≤ 140737488351232) :
    Calls Try.prog 17 #[.slice A d.length ca, .slice A' s.length cb, .int .u8 c] w fun e w' => ∃ v, e = .returned v ∧
      w'.ownsRow w.heap.size 5 1 v d.length (bts (fz d s c d.length)) ∧ Below w.heap.size w w' := by
  obtain ⟨i0, hi0, hz0, hz1, hz2⟩ := info_parts Try.infoByte
  have HI := Lib.hid (And.intro hi0 (And.intro hz0 (And.intro hz1 hz2)))
  clear hi0 hz0 hz1 hz2
  rw [hl]
  have HL := Lib.hid hl
  clear hl
  have HD := Lib.hid hd
  have HS := Lib.hid hs
  have HDB := Lib.hid hdb
  have HSB := Lib.hid hsb
  clear hd hs hdb hsb
  go_enter Try.func17, Try.ntmps17
  go_wp2
  go_loopw [7, 8] (fun vo vi wr => ∃ i : Nat, i ≤ d.length ∧ vi = .int .i64 i ∧ wr.ownsRow w.heap.size 5 1 vo i (bts (fzt d s c i)) ∧ Below w.heap.size w wr) (fun _ vi _ => d.length - (intOf vi).toNat)
  case atStart => exact ⟨0, by omega, rfl, World.ownsRow_nil _ _ _ _, Below.refl _ _⟩
  case round =>
    obtain ⟨i, hi, rfl, hb, hB⟩ := hrel
    by_cases hlt : i < d.length
    · obtain ⟨b1, o1, rfl, h1⟩ := HD.out (by omega)
      obtain ⟨b2, o2, rfl, h2⟩ := HS.out (by have := HL.out; omega)
      have hx : d.getD i 0 < 256 := HDB.out i
      have hlt2 : i < s.length := by have := HL.out; omega
      have hy : s.getD i 0 < 256 := HSB.out i
      have hc1 : wr.cell? ⟨b1, o1 + i, none⟩ = some (.int .u8 (d.getD i 0 : Nat)) := (hB.cell (World.block_lt_of_cell? w _ (h1 i hlt))).trans (h1 i hlt)
      have hc2 : wr.cell? ⟨b2, o2 + i, none⟩ = some (.int .u8 (s.getD i 0 : Nat)) := (hB.cell (World.block_lt_of_cell? w _ (h2 i hlt2))).trans (h2 i hlt2)
      have l1 := World.block_lt_of_cell? w _ (h1 i hlt)
      have l2 := World.block_lt_of_cell? w _ (h2 i hlt2)
      have l3 := hB.size
      clear h1 h2
      obtain ⟨x, hX⟩ : ∃ x, x = d.getD i 0 := ⟨_, rfl⟩
      obtain ⟨y, hY⟩ : ∃ y, y = s.getD i 0 := ⟨_, rfl⟩
      rw [← hX] at hx hc1
      rw [← hY] at hy hc2
      have HX := Lib.hid hX
      have HY := Lib.hid hY
      clear hX hY
      have hn1 : ∀ b : Nat, b < w.heap.size → u7.ownBlock ≠ some b := fun b hb1 h => by have := (hb.lt b h).1; omega
      have n1 := hn1 b1 l1
      have n2 := hn1 b2 l2
      clear hn1
      go_wp2
      go_region_held3 (fun w' => w'.cell? ⟨b1, o1 + i, none⟩ = some (.int .u8 (x : Int)) ∧ w'.cell? ⟨b2, o2 + i, none⟩ = some (.int .u8 (y : Int)))
        (first
          | go_keep
          | (go_split_ands
             refine ⟨?_, ?_⟩
             · (rw [hgrow.cell_far _ (by simp; omega) (Ne.symm n1)]; assumption)
             · (rw [hgrow.cell_far _ (by simp; omega) (Ne.symm n2)]; assumption)))
        (first
          | (refine step_append_lies _ (by rfl) _ _ _ (by rfl) w.heap.size 5 i0 _ 1 1 Try.underlying28 HI.out.1 HI.out.2.1 HI.out.2.2.1 HI.out.2.2.2 rfl (by omega) u7 i (bts (fzt d s c i)) (by rfl) ((hb.alloc _).drew) ⟨wr.heap.size, 0, none⟩ 1 1 [.int .u8 (bits .xor .u8 (x : Int) (Gf.mul c y : Int))] (by rfl) (by rfl) (World.news_of_block (cs := #[.int .u8 (bits .xor .u8 (x : Int) (Gf.mul c y : Int))]) (t := 5) (fr := (0, 0)) (heap_alloc_new wr _)) (by simp [Value.oneCell']) (by omega) (by unfold maxLen; omega) (by omega) (by simp; have := hB.size; omega) (wr.heap.size + 1) (by simp) ?_; intro gg cap w3 hown hgrow hat hlt)
          | (go_simp; go_at_call 20; refine (rmul_any c y hc hy _).mono ?_; rintro e w' ⟨rfl, rfl⟩))
      have hB3 : Below w.heap.size w w3 := ((hB.alloc l3 _).drew).grown hgrow (by simp; omega) (fun k hk => (hb.lt k hk).1)
      clear hgrow hb hB hc1 hc2 hat
      go_wp2
      go_roundw
      case rel => exact ⟨i + 1, by omega, by go_num, fzt_rel HX.out HY.out hx hc hown, hB3⟩
      case measure => simp [intOf]; omega
    · obtain rfl : i = d.length := by omega
      go_wp2
      go_ret
      exact ⟨_, rfl, by rw [← fzt_all]; exact hb, hB⟩
