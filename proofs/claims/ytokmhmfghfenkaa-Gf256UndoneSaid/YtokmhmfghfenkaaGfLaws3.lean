/- The walks of the laws Gf256Fused and Gf256Undone: they return true. -/
import Derived.Test.YtokmhmfghfenkaaGfAwake
import Derived.Laws.AppendOwnNone
import Derived.OpenShut
namespace Go.Proofs.Ytokmhmfghfenkaa
open Go.RowKit

theorem bts_append (l m : List Nat) : bts (l ++ m) = bts l ++ bts m := by simp [bts]
theorem bts_one (l : List Nat) : ∀ u ∈ bts l, u.oneCell' = true := by
  intro u hu
  simp only [bts, List.mem_map] at hu
  obtain ⟨x, _, rfl⟩ := hu
  rfl
theorem bts_news {w : World} {b off : Nat} {l : List Nat} (h : ∀ j : Nat, j < l.length → w.cell? ⟨b, off + j, none⟩ = some (.int .u8 (l.getD j 0 : Nat))) : ∀ j u, (bts l)[j]? = some u → w.cell? ((⟨b, off, none⟩ : Addr).add j) = some u := by
  intro j u hj
  have hl : j < l.length := by
    rcases Nat.lt_or_ge j l.length with h | h
    · exact h
    · simp [bts, List.getElem?_eq_none h] at hj
  have ha : (⟨b, off, none⟩ : Addr).add j = ⟨b, off + j, none⟩ := by unfold Addr.add; split <;> simp_all
  rw [ha, h j hl]
  simp [bts, hl] at hj
  simp [hl, hj]
/-- append of a slice of bytes, whatever its address, onto a row of the call's own -/
theorem wpList_app_bts {w : World} {ops : Array Oper} {rest : List Oper} {o : Oper} {a : Act} {Q : Exit → Act → World → Prop} (hgd : o.guard = none) (s x : Operand)
    (ho : o.op = .call { callee := .builtin .append, args := #[s, x], argTypes := #[28, 28] })
    (base : Nat) (v : Value) (n : Nat) (l0 l : List Nat) (hs : a.eval s = v) (hown : w.ownsRow base 5 1 v n (bts l0))
    (A : Option Addr) (c : Nat) (hx : a.eval x = .slice A l.length c) (hA : A = none → c = 0) (hl : Bts w A l) (hb : n + l.length ≤ 140737488355328) (hbase : base ≤ w.heap.size)
    (h : ∀ v' w', w'.ownsRow base 5 1 v' (n + l.length) (bts (l0 ++ l)) → w.grownBy w' v.ownBlock → wpList Try.prog ops Q rest (a.put o.dst v') w') : wpList Try.prog ops Q (o :: rest) a w := by
  obtain ⟨i0, hi0, hz0, hz1, hz2⟩ := info_parts Try.infoByte
  cases A with
  | none =>
    obtain rfl : l = [] := by
      rcases Nat.eq_zero_or_pos l.length with h0 | h0
      · exact List.eq_nil_of_length_eq_zero h0
      · obtain ⟨b, off, hh, _⟩ := hl h0; cases hh
    obtain rfl := hA rfl
    exact wpList_append_own_none hgd s x 28 ho base 5 i0 1 Try.underlying28 hi0 v n (bts l0) hs hown hx (h v w (by simpa using hown) (World.grownBy.refl w _))
  | some ad =>
    refine wpList_append_own w hgd s x 28 ho base 5 i0 (.int .u8 0) 1 1 Try.underlying28 hi0 hz0 hz1 hz2 rfl (by decide) v n (bts l0) hs hown ad l.length c (bts l) hx (by simp [bts]) ?_ (bts_one l) (by unfold maxLen; omega) (by omega) hbase (fun v' w' h1 h2 _ => h v' w' (by rw [bts_append]; exact h1) h2)
    rcases Nat.eq_zero_or_pos l.length with h0 | h0
    · obtain rfl := List.eq_nil_of_length_eq_zero h0
      intro j u hj; simp [bts] at hj
    · obtain ⟨b, off, hh, hc⟩ := hl h0
      cases hh
      exact bts_news hc

theorem own_empty {w : World} {base : Nat} (h : base ≤ w.heap.size) : (w.alloc (.cells #[] 5)).ownsRow base 5 1 (.slice (some ⟨w.heap.size, 0, none⟩) 0 0) 0 (bts []) :=
  World.ownsRow_lit w #[] 0 h (by unfold maxLen; omega) rfl
theorem own_new {w : World} {base : Nat} (h : base ≤ w.heap.size) : ∀ k, (Value.slice (some ⟨w.heap.size, 0, none⟩) 0 0).ownBlock = some k → base ≤ k := by
  intro k hk
  simp only [Value.ownBlock, Option.some.injEq] at hk
  omega
theorem own_still {w2 w3 : World} {base n : Nat} {v : Value} {l : List Value} (h : w2.ownsRow base 5 1 v n l) (hg : (w2.alloc (.cells #[] 5)).grownBy w3 (Value.slice (some ⟨w2.heap.size, 0, none⟩) 0 0).ownBlock) : w3.ownsRow base 5 1 v n l := by
  refine (h.alloc _).kept hg ?_
  rcases hv : v.ownBlock with _ | k
  · exact .inl rfl
  · refine .inr ?_
    have := (h.lt k hv).2
    simp only [Value.ownBlock, ne_eq, Option.some.injEq]
    omega
theorem same_refl (d : List Nat) (A A' : Option Addr) (ca cb : Nat) (w : World) (hdb : AB d) (hd : Bts w A d) (hs : Bts w A' d) :
    Calls Try.prog 16 #[.slice A d.length ca, .slice A' d.length cb] w fun e w' => e = .returned (.bool true) ∧ w = w' := by
  have := same_any d d A A' ca cb w hdb hdb hd hs
  simpa using this
theorem fused_err (d s : List Nat) (c : Nat) (A A' : Option Addr) (ca cb : Nat) (w : World) (hl : s.length ≠ d.length) :
    Calls Try.prog 15 #[.slice A d.length ca, .slice A' s.length cb, .int .u8 c] w fun e w' => e = .returned (.tuple #[.slice none 0 0, .int .i64 1]) ∧ w = w' := by
  have h : ((d.length : Int) != (s.length : Int)) = true := bne_iff_ne.mpr (by omega)
  go_enter Try.func15, Try.ntmps15
  go_wp2
  go_ret2
  exact ⟨rfl, rfl⟩
theorem fz_AB (d s : List Nat) (c i : Nat) (hd : AB d) (hc : c < 256) : AB (fz d s c i) := by
  intro j
  by_cases h : j < d.length
  · have h1 := hd j
    by_cases h2 : j < i
    · have : (fz d s c i).getD j 0 = (d.getD j 0) ^^^ Gf.mul c (s.getD j 0) := by simp [fz, h, h2]
      rw [this]
      exact Gf.xor_lt h1 (Gf.mul_lt _ _ hc)
    · have : (fz d s c i).getD j 0 = 0 := by simp [fz, h, h2]
      omega
  · have : (fz d s c i).getD j 0 = 0 := by simp [fz, h]
    omega
set_option maxHeartbeats 1000000 in
theorem lawFused_any (d s : List Nat) (A A' : Option Addr) (c ca cb : Nat) (hc : c < 256) (hdb : AB d) (hsb : AB s) (hca : A = none → ca = 0) (hcb : A' = none → cb = 0) (w : World) (hd : Bts w A d) (hs : Bts w A' s) :
    Calls Try.prog 4 #[.slice A d.length ca, .slice A' s.length cb, .int .u8 c] w fun e w' => e = .returned (.bool true) ∧ Below w.heap.size w w' := by
  by_cases h1 : 1000 < d.length
  · go_enter Try.func4, Try.ntmps4
    go_wp2_with (go_at_call 11; (with_reducible refine (awake_any _).mono ?_); rintro e w1 ⟨rfl, hB⟩)
    go_ret
    exact ⟨rfl, hB⟩
  by_cases h2 : 1000 < s.length
  · go_enter Try.func4, Try.ntmps4
    go_wp2_with (go_at_call 11; (with_reducible refine (awake_any _).mono ?_); rintro e w1 ⟨rfl, hB⟩)
    go_ret
    exact ⟨rfl, hB⟩
  have HD := Lib.hid hd
  have HS := Lib.hid hs
  have HDB := Lib.hid hdb
  have HSB := Lib.hid hsb
  have HCA := Lib.hid hca
  have HCB := Lib.hid hcb
  clear hd hs hdb hsb hca hcb
  go_enter Try.func4, Try.ntmps4
  go_wp2_with (first
    | (go_at_call 11; (with_reducible refine (awake_any _).mono ?_); rintro e w1 ⟨rfl, hB⟩)
    | (at_builtin; refine wpList_app_bts rfl (.tmp 21) (.tmp 22) rfl w.heap.size (.slice (some ⟨w1.heap.size, 0, none⟩) 0 0) 0 [] d rfl (own_empty hB.size) A ca rfl HCA.out (HD.out.below (hB.alloc hB.size _)) (by omega) (by have := hB.size; simp; omega) ?_; intro v1 w2 o1 g1; rw [List.nil_append] at o1; have HB2 := Lib.hid ((hB.alloc hB.size _).grown g1 (by have := hB.size; simp; omega) (own_new hB.size)); have HO1 := Lib.hid o1; clear o1 g1)
    | (at_builtin; refine wpList_app_bts rfl (.tmp 24) (.tmp 25) rfl w.heap.size (.slice (some ⟨w2.heap.size, 0, none⟩) 0 0) 0 [] s rfl (own_empty HB2.out.size) A' cb rfl HCB.out (HS.out.below (HB2.out.alloc HB2.out.size _)) (by omega) (by have := HB2.out.size; simp; omega) ?_; intro v2 w3 o2 g2; rw [List.nil_append] at o2; have HB3 := Lib.hid ((HB2.out.alloc HB2.out.size _).grown g2 (by have := HB2.out.size; simp; omega) (own_new HB2.out.size)); have HO2 := Lib.hid o2; have HO3 := Lib.hid (own_still HO1.out g2); clear o2 g2))
  obtain ⟨A1, c1, rfl, b1⟩ := Bts.of_own HO3.out
  obtain ⟨A2, c2, rfl, b2⟩ := Bts.of_own HO2.out
  have hlt1 : d.length ≤ 140737488351232 := by omega
  have HB1 := Lib.hid b1
  have HB2' := Lib.hid b2
  have HD3 := Lib.hid (HD.out.below HB3.out)
  have HS3 := Lib.hid (HS.out.below HB3.out)
  clear b1 b2 HO1 HO2 HO3 HB2 HD HS
  by_cases hl : s.length = d.length
  · refine (fused_any d s c A1 A2 c1 c2 w3 hl hc HDB.out HSB.out HB1.out HB2'.out hlt1).mono ?_
    rintro e w4 ⟨rfl, hb, hB4⟩
    have HL := Lib.hid hl
    have HBl := Lib.hid hb
    have hlb : (s.length : Int) = (d.length : Int) := by omega
    have HB5 := Lib.hid (HB3.out.trans (hB4.mono HB3.out.size))
    have HD4 := Lib.hid (HD3.out.below hB4)
    have HS4 := Lib.hid (HS3.out.below hB4)
    have HX4 := Lib.hid (HB1.out.below hB4)
    have HY4 := Lib.hid (HB2'.out.below hB4)
    clear hl hb HB1 HB2' HD3 HS3 hB4
    go_wp2_with (first
      | (go_at_call 16; (with_reducible refine (same_refl d A1 A c1 ca w4 HDB.out HX4.out HD4.out).mono ?_); rintro e w' ⟨rfl, rfl⟩)
      | (go_at_call 16; (with_reducible refine (same_refl s A2 A' c2 cb _ HSB.out HY4.out HS4.out).mono ?_); rintro e w' ⟨rfl, rfl⟩)
      | (go_at_call 17; (with_reducible refine (rfused_any d s c A A' ca cb _ HL.out hc HDB.out HSB.out HD4.out HS4.out hlt1).mono ?_); rintro e w5 ⟨v5, rfl, o5, hB6⟩; obtain ⟨A5, c5, rfl, b5⟩ := Bts.of_own o5; have HB7 := Lib.hid (HB5.out.trans (hB6.mono HB5.out.size)); have HZ := Lib.hid (Bts.below (Bts.of_blk HBl.out) hB6); have HW := Lib.hid b5; clear b5 o5 hB6))
    have hfin := same_refl (fz d s c d.length) _ A5 d.length c5 w5 (fz_AB d s c d.length HDB.out hc) HZ.out HW.out
    rw [fz_length] at hfin ⊢
    refine hfin.mono ?_
    rintro e w' ⟨rfl, rfl⟩
    clear hfin
    go_wp2
    go_ret
    exact ⟨rfl, HB7.out⟩
  · have hne : ((d.length : Int) != (s.length : Int)) = true := bne_iff_ne.mpr (by omega)
    refine (fused_err d s c A1 A2 c1 c2 w3 hl).mono ?_
    rintro e w4 ⟨rfl, rfl⟩
    clear hl
    go_wp2_with (first
      | (go_at_call 16; (with_reducible refine (same_refl d A1 A c1 ca w3 HDB.out HB1.out HD3.out).mono ?_); rintro e w' ⟨rfl, rfl⟩)
      | (go_at_call 16; (with_reducible refine (same_refl s A2 A' c2 cb _ HSB.out HB2'.out HS3.out).mono ?_); rintro e w' ⟨rfl, rfl⟩))
    go_ret
    exact ⟨rfl, HB3.out⟩

/-! ### Undone -/
def rv (d : List Nat) (i : Nat) : List Nat := (List.range d.length).map fun j => if j < i then (d.getD (d.length - 1 - j) 0) ^^^ (j % 256) else 0
theorem rv_length (d : List Nat) (i : Nat) : (rv d i).length = d.length := by simp [rv]
theorem rv_zero (d : List Nat) : rv d 0 = List.replicate d.length 0 := by
  apply List.ext_getElem?
  intro j
  by_cases h : j < d.length <;> simp [rv, h]
theorem rv_set (d : List Nat) (i : Nat) (hi : i < d.length) : (rv d i).set i ((d.getD (d.length - 1 - i) 0) ^^^ (i % 256)) = rv d (i + 1) := by
  apply List.ext_getElem?
  intro j
  rw [List.getElem?_set]
  by_cases hj : j < d.length
  · by_cases e : i = j
    · subst e; simp [rv, hj]
    · by_cases h1 : j < i
      · have h2 : j < i + 1 := by omega
        simp [rv, hj, e, h1, h2]
      · have h2 : ¬ j < i + 1 := by omega
        simp [rv, hj, e, h1, h2]
  · by_cases e : i = j
    · omega
    · simp [rv, hj, e]
theorem rv_AB (d : List Nat) (i : Nat) (hd : AB d) : AB (rv d i) := by
  intro j
  by_cases h : j < d.length
  · have h1 := hd (d.length - 1 - j)
    by_cases h2 : j < i
    · have : (rv d i).getD j 0 = (d.getD (d.length - 1 - j) 0) ^^^ (j % 256) := by simp [rv, h, h2]
      rw [this]
      exact Gf.xor_lt h1 (Nat.mod_lt _ (by omega))
    · have : (rv d i).getD j 0 = 0 := by simp [rv, h, h2]
      omega
  · have : (rv d i).getD j 0 = 0 := by simp [rv, h]
    omega
theorem rv_step {w2 : World} {g : Nat} {d : List Nat} {i x : Nat} (hlt : i < d.length) (hb : Blk w2 g 5 (bts (rv d i))) (hX : x = d.getD (d.length - 1 - i) 0) (hx : x < 256) :
    Blk (w2.setCell ⟨g, i, none⟩ (.int .u8 (bits .xor .u8 (x : Int) ((i : Int) % 256)))) g 5 (bts (rv d (i + 1))) := by
  rw [show ((i : Int) % 256) = ((i % 256 : Nat) : Int) by omega, u8_xor_nat x (i % 256) hx (Nat.mod_lt _ (by omega)), ← rv_set d i hlt, ← hX, Blk, ← bts_set]
  exact heap_setCell_same w2 g i _ _ _ hb
theorem fz_getD (d s : List Nat) (c j : Nat) : (fz d s c d.length).getD j 0 = if j < d.length then (d.getD j 0) ^^^ Gf.mul c (s.getD j 0) else 0 := by
  by_cases h : j < d.length <;> simp [fz, h]
theorem list_ext0 {l m : List Nat} (hl : l.length = m.length) (h : ∀ j, j < l.length → l.getD j 0 = m.getD j 0) : l = m := by
  apply List.ext_getElem hl
  intro j h1 h2
  have := h j h1
  simpa [h1, h2] using this
theorem fz_twice (d s : List Nat) (c : Nat) : fz (fz d s c d.length) s c d.length = d := by
  refine list_ext0 (by simp [fz_length]) fun j hj => ?_
  have hj' : j < d.length := by simpa [fz_length] using hj
  have h := fz_getD (fz d s c d.length) s c j
  rw [fz_length] at h
  rw [h, if_pos hj', fz_getD, if_pos hj', Nat.xor_assoc, Nat.xor_self, Nat.xor_zero]
theorem fz_sum (d s : List Nat) (c e : Nat) (hc : c < 256) (he : e < 256) : fz (fz d s c d.length) s e d.length = fz d s (c ^^^ e) d.length := by
  refine list_ext0 (by simp [fz_length]) fun j hj => ?_
  have hj' : j < d.length := by simpa [fz_length] using hj
  have h := fz_getD (fz d s c d.length) s e j
  rw [fz_length] at h
  rw [h, if_pos hj', fz_getD, if_pos hj', fz_getD, if_pos hj', Nat.xor_assoc, Gf.mul_xor_left c e (s.getD j 0) hc he]

theorem fused_at (d s : List Nat) (c n g : Nat) (A A' : Option Addr) (ca cb : Nat) (w : World) (hg : g = w.heap.size) (hn1 : n = d.length) (hn2 : n = s.length) (hc : c < 256) (hdb : AB d) (hsb : AB s)
    (hd : Bts w A d) (hs : Bts w A' s) (hn : n ≤ 140737488351232) :
    Calls Try.prog 15 #[.slice A n ca, .slice A' n cb, .int .u8 c] w fun e w' => e = .returned (.tuple #[.slice (some ⟨g, 0, none⟩) n n, .int .i64 0]) ∧
      Bts w' (some ⟨g, 0, none⟩) (fz d s c n) ∧ Below w.heap.size w w' := by
  subst hg
  subst hn1
  have := fused_any d s c A A' ca cb w hn2.symm hc hdb hsb hd hs hn
  rw [← hn2] at this
  exact this.mono fun e w' ⟨h1, h2, h3⟩ => ⟨h1, Bts.of_blk h2, h3⟩
theorem same_at (d s : List Nat) (n : Nat) (A A' : Option Addr) (ca cb : Nat) (w : World) (hds : d = s) (hn : n = d.length) (hdb : AB d) (hd : Bts w A d) (hs : Bts w A' s) :
    Calls Try.prog 16 #[.slice A n ca, .slice A' n cb] w fun e w' => e = .returned (.bool true) ∧ w = w' := by
  subst hn
  subst hds
  exact same_refl d A A' ca cb w hdb hd hs

set_option maxHeartbeats 1000000 in
theorem lawUndone_any (d : List Nat) (A : Option Addr) (c e ca : Nat) (hc : c < 256) (he : e < 256) (hdb : AB d) (w : World) (hd : Bts w A d) :
    Calls Try.prog 7 #[.slice A d.length ca, .int .u8 c, .int .u8 e] w fun x w' => x = .returned (.bool true) ∧ Below w.heap.size w w' := by
  by_cases h1 : 1000 < d.length
  · go_enter Try.func7, Try.ntmps7
    go_wp2_with (go_at_call 11; refine (awake_any _).mono ?_; rintro e w1 ⟨rfl, hB⟩)
    go_ret
    exact ⟨rfl, hB⟩
  have hmk := fun kl kc W => run_make_bytes kl kc d.length (by omega) W
  have HD := Lib.hid hd
  have HDB := Lib.hid hdb
  clear hd hdb
  go_enter Try.func7, Try.ntmps7
  go_wp2_with (go_at_call 11; refine (awake_any _).mono ?_; rintro e w1 ⟨rfl, hB⟩)
  go_loopw [8] (fun vi wr => ∃ i : Nat, i ≤ d.length ∧ vi = .int .i64 i ∧ Blk wr w1.heap.size 5 (bts (rv d i)) ∧ Below w.heap.size w wr ∧ w1.heap.size + 1 = wr.heap.size) (fun vi _ => d.length - (intOf vi).toNat)
  case atStart => exact ⟨0, by omega, rfl, by rw [rv_zero]; exact heap_alloc_new _ _, hB.alloc hB.size _, by simp⟩
  case round =>
    obtain ⟨i, hi, rfl, hb, hBr, hsz⟩ := hrel
    by_cases hlt : i < d.length
    · obtain ⟨b1, o1, rfl, h2⟩ := HD.out (by omega)
      have hx : d.getD (d.length - 1 - i) 0 < 256 := HDB.out _
      have hc1 : wr.cell? ⟨b1, o1 + (d.length - 1 - i), none⟩ = some (.int .u8 (d.getD (d.length - 1 - i) 0 : Nat)) := (hBr.cell (World.block_lt_of_cell? w _ (h2 _ (by omega)))).trans (h2 _ (by omega))
      clear h2
      have hc3 : wr.cell? ⟨w1.heap.size, i, none⟩ = some (.int .u8 ((rv d i).getD i 0 : Nat)) := by
        rw [cell_of_row wr _ i _ _ _ hb]
        simp [bts, rv, hlt]
      have hf3 : wr.frozen? ⟨w1.heap.size, i, none⟩ = false := frozen_of_row wr _ i _ _ hb
      obtain ⟨x, hX⟩ : ∃ x, x = d.getD (d.length - 1 - i) 0 := ⟨_, rfl⟩
      rw [← hX] at hx hc1
      have HX := Lib.hid hX
      have HSz := Lib.hid hsz
      clear hX hsz
      go_wp2
      go_roundw
      case rel => exact ⟨i + 1, by omega, by go_num, rv_step hlt hb HX.out hx, hBr.setCell hB.size _, by simpa using HSz.out⟩
      case measure => simp [intOf]; omega
    · obtain rfl : i = d.length := by omega
      have hbd : d.length ≤ 140737488351232 := by omega
      have HSA := Lib.hid (rv_AB d d.length HDB.out)
      have HBS := Lib.hid (Bts.of_blk hb)
      have HB0 := Lib.hid hBr
      have HDr := Lib.hid (HD.out.below hBr)
      have HXA := Lib.hid (fz_AB d (rv d d.length) c d.length HDB.out hc)
      have hce := Gf.xor_lt hc he
      clear hb hBr hB hsz hmk hi hlt h1
      obtain ⟨S, hS⟩ : ∃ S, S = rv d d.length := ⟨_, rfl⟩
      obtain ⟨X, hX⟩ : ∃ X, X = fz d S c d.length := ⟨_, rfl⟩
      rw [← hS] at HSA HBS HXA
      rw [← hX] at HXA
      have hlS : d.length = S.length := by rw [hS, rv_length]
      have hlX : d.length = X.length := by rw [hX, fz_length]
      have HLS := Lib.hid hlS
      have HLX := Lib.hid hlX
      have HS := Lib.hid hS
      have HX := Lib.hid hX
      clear hS hX hlS hlX
      go_wp2_with fail
      refine (fused_at d S c d.length wr.heap.size A _ ca d.length wr rfl rfl HLS.out hc HDB.out HSA.out HDr.out HBS.out hbd).mono ?_
      rintro x w2 ⟨rfl, r2, B2⟩
      have HB2 := Lib.hid (HB0.out.trans (B2.mono HB0.out.size))
      have HS2 := Lib.hid (HBS.out.below B2)
      have HX2 := Lib.hid (show Bts w2 (some ⟨wr.heap.size, 0, none⟩) X by rw [HX.out]; exact r2)
      have HD2 := Lib.hid (HDr.out.below B2)
      clear r2 B2
      go_wp2_with fail
      refine (fused_at X S c d.length w2.heap.size _ _ d.length d.length w2 rfl HLX.out HLS.out hc HXA.out HSA.out HX2.out HS2.out hbd).mono ?_
      rintro x w3 ⟨rfl, r3, B3⟩
      have HB3 := Lib.hid (HB2.out.trans (B3.mono HB2.out.size))
      have HS3 := Lib.hid (HS2.out.below B3)
      have HX3 := Lib.hid (HX2.out.below B3)
      have HD3 := Lib.hid (HD2.out.below B3)
      have HY3 := Lib.hid (show Bts w3 (some ⟨w2.heap.size, 0, none⟩) d by have := fz_twice d S c; rw [← HX.out] at this; rw [← this]; exact r3)
      clear r3 B3
      go_wp2_with fail
      refine (fused_at X S e d.length w3.heap.size _ _ d.length d.length w3 rfl HLX.out HLS.out he HXA.out HSA.out HX3.out HS3.out hbd).mono ?_
      rintro x w4 ⟨rfl, r4, B4⟩
      have HB4 := Lib.hid (HB3.out.trans (B4.mono HB3.out.size))
      have HS4 := Lib.hid (HS3.out.below B4)
      have HD4 := Lib.hid (HD3.out.below B4)
      have HY4 := Lib.hid (HY3.out.below B4)
      have HZ4 := Lib.hid (show Bts w4 (some ⟨w3.heap.size, 0, none⟩) (fz d S (c ^^^ e) d.length) by have := fz_sum d S c e hc he; rw [← HX.out] at this; rw [← this]; exact r4)
      clear r4 B4
      go_wp2_with (go_at_call 18; refine (add_any c e hc he _).mono ?_; rintro e w' ⟨rfl, rfl⟩)
      refine (fused_at d S (c ^^^ e) d.length w4.heap.size A _ ca d.length w4 rfl rfl HLS.out hce HDB.out HSA.out HD4.out HS4.out hbd).mono ?_
      rintro x w5 ⟨rfl, r5, B5⟩
      have HB5 := Lib.hid (HB4.out.trans (B5.mono HB4.out.size))
      have HD5 := Lib.hid (HD4.out.below B5)
      have HY5 := Lib.hid (HY4.out.below B5)
      have HZ5 := Lib.hid (HZ4.out.below B5)
      have HW5 := Lib.hid r5
      clear r5 B5
      go_wp2_with (first
        | (go_at_call 16; (with_reducible refine (same_at d d d.length (some ⟨w2.heap.size, 0, none⟩) A d.length ca w5 rfl rfl HDB.out HY5.out HD5.out).mono ?_); rintro e w' ⟨rfl, rfl⟩)
        | (go_at_call 16; (with_reducible refine (same_at (fz d S (c ^^^ e) d.length) (fz d S (c ^^^ e) d.length) d.length (some ⟨w3.heap.size, 0, none⟩) (some ⟨w4.heap.size, 0, none⟩) d.length d.length w5 rfl (fz_length _ _ _ _).symm (fz_AB d S (c ^^^ e) d.length HDB.out hce) HZ5.out HW5.out).mono ?_); rintro e w' ⟨rfl, rfl⟩))
      go_ret
      exact ⟨rfl, HB5.out⟩

/-- a slice of bytes that came in, as a list of numbers -/
theorem bytes_of_row {W : World} {x : Addr} {len cap : Nat} {zs : List Int} (hz : zs.length = cap) (hl : len ≤ cap) (hcell : ∀ i, i < zs.length → W.cell? (x.add i) = some (.int .u8 (zs.getD i 0)))
    (hw : ∀ n ∈ zs, (Lit.int .u8 n).wf = true) : ∃ l : List Nat, len = l.length ∧ AB l ∧ (some x = (none : Option Addr) → cap = 0) ∧ Bts W (some x) l := by
  have hb : ∀ j, 0 ≤ zs.getD j 0 ∧ zs.getD j 0 < 256 := by
    intro j
    by_cases h : j < zs.length
    · have h1 := bounds_u8 (hw _ (List.getElem_mem h))
      have h2 : zs.getD j 0 = zs[j] := by simp [h]
      rw [h2]; omega
    · have h2 : zs.getD j 0 = 0 := by simp [h]
      rw [h2]; omega
  have hg : ∀ j, j < len → ((zs.take len).map Int.toNat).getD j 0 = (zs.getD j 0).toNat := by
    intro j hj
    have h1 : j < zs.length := by omega
    simp [hj, h1]
  refine ⟨(zs.take len).map Int.toNat, by simp; omega, fun j => ?_, (fun h => by cases h), fun h0 => ?_⟩
  · by_cases hj : j < len
    · rw [hg j hj]; have := hb j; omega
    · have h2 : ((zs.take len).map Int.toNat).getD j 0 = 0 := by
        have hlen : ((zs.take len).map Int.toNat).length ≤ j := by simp; omega
        rw [List.getD_eq_getElem?_getD, List.getElem?_eq_none hlen]
        rfl
      omega
  · have hlen : ((zs.take len).map Int.toNat).length = len := by simp; omega
    rw [hlen] at h0 ⊢
    obtain ⟨b, off, rfl, hc⟩ := ints_at hcell (by omega)
    refine ⟨b, off, rfl, fun j hj => ?_⟩
    rw [hc j (by omega), hg j hj]
    have := hb j
    congr 2
    omega
