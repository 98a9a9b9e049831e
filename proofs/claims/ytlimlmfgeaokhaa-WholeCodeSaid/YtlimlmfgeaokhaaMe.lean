/- The walk of gfmatrix.Inverse. -/
import Derived.Test.YtlimlmfgeaokhaaMd
import Derived.Laws.CopyOwn
import Derived.Deep.DeepCutAuto
import Derived.Deep.CutBlock
namespace Go.Proofs.Ytlimlmfgeaokhaa
open Go.RowKit

theorem Boxed.drewB {w : World} {B : Nat} {t : TypeId} {v : Value} (h : Boxed w B t v) : Boxed w.drew B t v := h
/-- the first i rows of a matrix -/
def PM (w : World) (g n d i : Nat) (f : Nat → Nat → Nat) : Prop :=
  ∃ cur : Array Value, w.heap[g]? = some (.cells cur 36 (0, 0)) ∧ cur.size = n ∧ ∀ k, k < i → ∃ rb ro rc : Nat, cur[k]? = some (.slice (some ⟨rb, ro, none⟩) d rc) ∧ rb ≠ g ∧ ∀ j : Nat, j < d → w.cell? ⟨rb, ro + j, none⟩ = some (.int .u8 (f k j : Nat))
theorem PM.below {w w' : World} {g n d i : Nat} {f : Nat → Nat → Nat} (h : PM w g n d i f) (hB : Below w.heap.size w w') : PM w' g n d i f := by
  obtain ⟨cur, h1, h2, h3⟩ := h
  refine ⟨cur, (hB.block g (Array.getElem?_eq_some_iff.1 h1).1).trans h1, h2, fun k hk => ?_⟩
  obtain ⟨rb, ro, rc, x1, x2, x3⟩ := h3 k hk
  exact ⟨rb, ro, rc, x1, x2, fun j hj => (hB.cell (World.block_lt_of_cell? w _ (x3 j hj))).trans (x3 j hj)⟩
theorem PM.next {w : World} {g n d i rb ro rc : Nat} {f : Nat → Nat → Nat} (h : PM w g n d i f) (hi : i < n) (hne : rb ≠ g) (hr : ∀ j : Nat, j < d → w.cell? ⟨rb, ro + j, none⟩ = some (.int .u8 (f i j : Nat))) :
    PM (w.setCell ⟨g, i, none⟩ (.slice (some ⟨rb, ro, none⟩) d rc)) g n d (i + 1) f := by
  obtain ⟨cur, h1, h2, h3⟩ := h
  have far : ∀ b : Nat, b ≠ g → ∀ o v, w.cell? ⟨b, o, none⟩ = some v → (w.setCell ⟨g, i, none⟩ (.slice (some ⟨rb, ro, none⟩) d rc)).cell? ⟨b, o, none⟩ = some v := fun b hb o v hv => (World.cell?_of_block (Below.heap_setCell w ⟨g, i, none⟩ _ b hb)).trans hv
  refine ⟨cur.setIfInBounds i (.slice (some ⟨rb, ro, none⟩) d rc), heap_setCell_same w g i _ _ _ h1, by simpa using h2, fun k hk => ?_⟩
  by_cases e : k = i
  · subst e
    exact ⟨rb, ro, rc, by simp [h2, hi], hne, fun j hj => far rb hne _ _ (hr j hj)⟩
  · obtain ⟨rb', ro', rc', x1, x2, x3⟩ := h3 k (by omega)
    exact ⟨rb', ro', rc', by rw [Array.getElem?_setIfInBounds, if_neg (fun h => e h.symm)]; exact x1, x2, fun j hj => far rb' x2 _ _ (x3 j hj)⟩
theorem PM.mat {w : World} {g n d : Nat} {f : Nat → Nat → Nat} (h : PM w g n d n f) : Mat w (some ⟨g, 0, none⟩) n d f := by
  obtain ⟨cur, h1, h2, h3⟩ := h
  refine ⟨g, 0, rfl, fun k hk => ?_⟩
  obtain ⟨rb, ro, rc, x1, x2, x3⟩ := h3 k hk
  exact ⟨rb, ro, rc, by rw [Nat.zero_add]; exact (cell_of_row w g k _ _ _ h1).trans x1, x3⟩
theorem PM.cell {w : World} {g n d i : Nat} {f : Nat → Nat → Nat} (h : PM w g n d i f) (hi : i < n) : ∃ v, w.cell? ⟨g, i, none⟩ = some v := by
  obtain ⟨cur, h1, hsz, _⟩ := h
  exact ⟨cur[i]'(by omega), (cell_of_row w _ i _ _ _ h1).trans (Array.getElem?_eq_getElem (by omega))⟩
theorem PM.fz {w : World} {g n d i : Nat} {f : Nat → Nat → Nat} (h : PM w g n d i f) : ∀ k, w.frozen? ⟨g, k, none⟩ = false := by
  obtain ⟨cur, h1, _⟩ := h
  exact fun k => frozen_of_row w _ k _ _ h1
theorem mb_far {w : World} {g n d b i : Nat} {R : Nat → Nat} {f : Nat → Nat → Nat} {v : Value} (h : MB w g n d R f) (hg : b ≠ g) (hR : ∀ a, a < n → R a ≠ b) : MB (w.setCell ⟨b, i, none⟩ v) g n d R f := by
  obtain ⟨⟨cur, h1, h2⟩, h3⟩ := h
  exact ⟨⟨cur, (Below.heap_setCell w ⟨b, i, none⟩ v g (fun e => hg e.symm)).trans h1, h2⟩, fun a ha => (h3 a ha).far v (fun e => hR a ha e.symm)⟩
/-- block r alone has changed -/
structure Oth (r : Nat) (w w' : World) : Prop where
  os : w'.os = w.os
  tape : w'.tape = w.tape
  output : w'.output = w.output
  size : w'.heap.size = w.heap.size
  block : ∀ k, k ≠ r → w'.heap[k]? = w.heap[k]?
theorem Oth.below {B r : Nat} {w0 w w' : World} (h : Oth r w w') (hB : Below B w0 w) (hr : B ≤ r) : Below B w0 w' :=
  hB.trans ⟨h.os, h.tape, h.output, by rw [h.size]; exact Nat.le_refl _, fun k hk => h.block k (by omega)⟩
theorem MB.oth {w w' : World} {g n d i : Nat} {R : Nat → Nat} {f : Nat → Nat → Nat} {h : Nat → Nat} (hm : MB w g n d R f) (hi : i < n) (hR : ∀ a b, a < n → b < n → R a = R b → a = b) (ho : Oth (R i) w w') (hr : RB w' (R i) d 5 h) :
    MB w' g n d R (fun k => if k = i then h else f k) := by
  have hne := hm.ne hi
  obtain ⟨⟨cur, h1, h2⟩, h3⟩ := hm
  refine ⟨⟨cur, (ho.block g (fun e => hne e.symm)).trans h1, h2⟩, fun k hk => ?_⟩
  by_cases e : k = i
  · simp only [e, if_true]
    exact hr
  · simp only [e, if_false]
    exact (ho.block (R k) (fun e' => e (hR k i hk hi e'))).trans (h3 k hk)
theorem Try.infoByte1 : (Try.prog.info? 5).map (·.size) = some 1 := by kernel_rfl
/-- copy of n bytes to the head of a row -/
theorem copy_row {w : World} {ops : Array Oper} {rest : List Oper} {o : Oper} {a : Act} {Q : Exit → Act → World → Prop} (hgd : o.guard = none) (x y : Operand)
    (ho : o.op = .call { callee := .builtin .copy, args := #[x, y], argTypes := #[36, 36] }) (r d n dc rb ro rc : Nat) (h u : Nat → Nat) (hx : a.eval x = .slice (some ⟨r, 0, none⟩) d dc) (hy : a.eval y = .slice (some ⟨rb, ro, none⟩) n rc)
    (hnd : n ≤ d) (hr : RB w r d 5 h) (hu : ∀ j : Nat, j < n → w.cell? ⟨rb, ro + j, none⟩ = some (.int .u8 (u j : Nat)))
    (k : ∀ w', RB w' r d 5 (fun j => if j < n then u j else h j) → Oth r w w' → wpList Try.prog ops Q rest (a.put o.dst (goInt n)) w') : wpList Try.prog ops Q (o :: rest) a w := by
  have hl : (brow n u).toList.length = n := by simp [brow]
  refine wpList_copy_own hgd x y 36 36 ho 5 Try.underlying36 Try.infoByte1 r 0 d dc ⟨rb, ro, none⟩ n rc hx hy (brow d h) 5 hr (brow n u).toList (by rw [hl]; exact (Nat.min_eq_left hnd).symm) (fun j v hj => ?_) (by rw [hl]; simp [brow]; omega) (brow_one u n) ?_
  · rw [Go.WideShapes.add_plain]
    have hjn : j < n := by
      have := (List.getElem?_eq_some_iff.1 hj).1
      rwa [hl] at this
    rw [hu j hjn, ← hj]
    simp [brow, hjn]
  · rw [hl]
    refine k _ ?_ ⟨rfl, rfl, rfl, by simp [World.setRow], fun k hk => setRow_other w r k _ hk⟩
    refine (setRow_heap w r _ _ _ _ hr).trans ?_
    congr 2
    apply Array.ext_getElem?
    intro j
    rw [List.getElem?_toArray, List.take_zero, List.nil_append, List.getElem?_append, hl]
    by_cases e : j < n
    · rw [if_pos e]
      simp [brow, e, show j < d by omega]
    · rw [if_neg e, List.getElem?_drop, Nat.zero_add, show n + (j - n) = j by omega]
      by_cases e2 : j < d
      · simp [brow, e, e2]
      · simp [brow, e2]
set_option linter.unusedSimpArgs false in
set_option maxRecDepth 100000 in
set_option maxHeartbeats 2000000 in
theorem inverse_any (M : Nat → Nat → Nat) (A : Option Addr) (n c : Nat) (w : World) (hn1 : 1 ≤ n) (hn : n ≤ 64) (hMl : ∀ i j, M i j < 256) (hA : Mat w A n n M) (hK : NoKer M n) :
    Calls Try.prog 30 #[.slice A n c] w fun e w' => ∃ g T, e = .returned (.tuple #[.slice (some ⟨g, 0, none⟩) n n, .int .i64 0]) ∧ Mat w' (some ⟨g, 0, none⟩) n n T ∧ (∀ i j, T i j < 256) ∧
      (∀ i j, i < n → j < n → dot (T i) (fun k => M k j) n = idm i j) ∧ Below w.heap.size w w' := by
  have HV := Lib.hid (valid_any M A n n c w hn1 hn hn1 hn hA)
  have HA := Lib.hid hA
  obtain ⟨b0, o0, rfl, hrow⟩ := hA
  obtain ⟨rb0, ro0, rc0, r0, _⟩ := hrow 0 (by omega)
  rw [Nat.add_zero] at r0
  clear hrow
  have hbk := blank_any n (2 * n) w (by omega) (by omega)
  rw [show ((2 * n : Nat) : Int) = 2 * (n : Int) by omega] at hbk
  have HBK := Lib.hid hbk
  clear hbk
  go_enter Try.func30, Try.ntmps30
  go_wp2_with (first
    | (go_at_call 49; (with_reducible refine HV.out.mono ?_); rintro e w' ⟨rfl, rfl⟩)
    | (go_at_call 50; (with_reducible refine HBK.out.mono ?_); rintro e w1 ⟨R, rfl, hM, hinj, hR, hBl⟩; have HM := Lib.hid hM; have HBl := Lib.hid hBl; clear hM hBl))
  go_loopw [35] (fun vi wr => ∃ i : Nat, i ≤ n ∧ vi = .int .i64 i ∧ MB wr w.heap.size n (2 * n) R (fun p q => if p < i then aug M n p q else 0) ∧ Below w.heap.size w wr) (fun vi _ => n - (intOf vi).toNat)
  case atStart => exact ⟨0, by omega, rfl, HM.out.congr (fun p _ q _ => by rw [if_neg (by omega)]), HBl.out⟩
  case round =>
    clear HM HBl
    obtain ⟨i, hi, rfl, hM, hW⟩ := hrel
    by_cases hlt : i < n
    · have hlti : (i : Int) < n := by omega
      obtain ⟨rb, ro, rc, hd1', hrow⟩ := HA.out.row i hlt
      have hd1 := (hW.cell (World.block_lt_of_cell? w _ hd1')).trans hd1'
      have y2 := hM.hd i hlt
      have HROW := Lib.hid (fun j (hj : j < n) => (hW.cell (World.block_lt_of_cell? w _ (hrow j hj))).trans (hrow j hj))
      have HM := Lib.hid hM
      have HW := Lib.hid hW
      have hRi := hR i hlt
      have hni : (n : Int) + (i : Int) < 2 * (n : Int) := by omega
      have hwr := IntWalk.i64_in ((n : Int) + (i : Int)) (by omega)
      clear hrow hd1' hM hW
      go_wp2_with (refine copy_row rfl (.tmp 43) (.tmp 44) rfl (R i) (2 * n) n (2 * n) rb ro rc (fun _ => 0) (M i) rfl rfl (by omega) ((HM.out.2 i hlt).congr (fun q _ => by simp)) HROW.out ?_; intro w5 r5 o5; have hm5 := HM.out.oth hlt hinj o5 r5; have z2 := hm5.hd i hlt; have z3 := (hm5.2 i hlt).frozen (n + i); have z4 := (hm5.2 i hlt).cell (n + i) (by omega); have HM5 := Lib.hid hm5; have HW5 := Lib.hid (o5.below HW.out (by omega)); clear r5 o5 hm5)
      refine ⟨⟨i + 1, by omega, by go_num, HM5.out.set (v := 1) hlt hinj (by rw [if_pos (by omega), aug, if_neg (by omega), Nat.add_sub_cancel_left, idm, if_pos rfl]) (fun a ha b hb hne => ?_), Below.setCell (p := ⟨R i, n + i, none⟩) HW5.out (by show w.heap.size ≤ R i; omega) _⟩, by simp [intOf]; omega⟩
      show (if a = i then (fun j => if j < n then M i j else 0) else (fun q => if a < i then aug M n a q else 0)) b = if a < i + 1 then aug M n a b else 0
      by_cases e : a = i
      · rw [if_pos e, if_pos (show a < i + 1 by omega), e]
        show (if b < n then M i b else 0) = aug M n i b
        unfold aug
        by_cases e2 : b < n
        · rw [if_pos e2, if_pos e2]
        · rw [if_neg e2, if_neg e2, idm, if_neg (by omega)]
      · rw [if_neg e]
        show (if a < i then aug M n a b else 0) = _
        by_cases e2 : a < i
        · rw [if_pos e2, if_pos (by omega)]
        · rw [if_neg e2, if_neg (by omega)]
    · obtain rfl : i = n := by omega
      have HM1 := Lib.hid (hM.congr (f' := aug M i) (fun p hp q _ => by rw [if_pos hp]))
      have HW1 := Lib.hid hW
      clear hM hW
      have hgj := gj_start (n := i) hMl
      go_wp2_with fail
      go_loopw [56] (fun vc wr => ∃ (c : Nat) (R : Nat → Nat) (T : Nat → Nat → Nat), c ≤ i ∧ vc = .int .i64 c ∧ MB wr w.heap.size i (2 * i) R T ∧ GJ M i c T ∧ Below w.heap.size w wr) (fun vc _ => i - (intOf vc).toNat)
      case atStart => exact ⟨0, R, aug M i, by omega, rfl, HM1.out, hgj, HW1.out⟩
      case round =>
        clear HM1 HW1 hgj hinj hR
        obtain ⟨c', R, T, hc, rfl, hM, hG, hW⟩ := hrel
        by_cases hlt : c' < i
        · have hlti : (c' : Int) < i := by omega
          have HM := Lib.hid hM
          have HG := Lib.hid hG
          have HW := Lib.hid hW
          have hgl := hM.lt
          clear hM hG hW
          have HIX := Lib.hid (fun W (hB : Boxed W wr.heap.size 3 (.int .i64 c')) hx => index_any c' (2 * i) w.heap.size c' (i - c') (i - c') wr.heap.size (fun q => T (c' + q) c') W (by omega) (by omega) hB hx)
          go_wp2_with fail
          refine (HIX.out _ (heap_alloc_new wr _) (fun q hq => ⟨R (c' + q), 0, 2 * i, (HM.out.below (Go.Joins.below_alloc1 _ _)).hd (c' + q) (by omega), ((HM.out.below (Go.Joins.below_alloc1 _ _)).2 (c' + q) (by omega)).at0 (Nat.le_refl _) c' (by omega)⟩)).mono ?_
          rintro e W1 ⟨hcase, rfl⟩
          rcases hcase with ⟨rfl, hz⟩ | ⟨p, rfl, hp, hpz⟩
          · exact absurd hz (gj_pivot hlt HG.out hK)
          have HM1 := Lib.hid (HM.out.below (Go.Joins.below_alloc1 wr (.cells #[.int .i64 (c' : Int)] 3)))
          have HW1 := Lib.hid (HW.out.alloc HW.out.size (.cells #[.int .i64 (c' : Int)] 3))
          have hbx : (wr.alloc (.cells #[.int .i64 (c' : Int)] 3)).cell? ⟨wr.heap.size, 0, none⟩ = some (.int .i64 c') := cell_of_row _ _ 0 _ _ _ (heap_alloc_new wr _)
          obtain ⟨W1, hW1⟩ : ∃ W1, W1 = wr.alloc (.cells #[.int .i64 (c' : Int)] 3) := ⟨_, rfl⟩
          have hBX : Boxed W1 wr.heap.size 3 (.int .i64 c') := by rw [hW1]; exact heap_alloc_new wr _
          have HBX := Lib.hid hBX
          rw [← hW1] at HM1 HW1 hbx ⊢
          clear hBX
          have hd1 := HM1.out.hd (c' + p) (by omega)
          have hd2 := HM1.out.hd c' (by omega)
          have hfz := HM1.out.fz
          have hwp := IntWalk.i64_in ((c' : Int) + (p : Int)) (by omega)
          have hpi : (c' : Int) + (p : Int) < i := by omega
          have hnp : 0 ≤ (c' : Int) + (p : Int) := by omega
          have hpn : 0 ≤ (p : Int) := by omega
          clear hW1 HIX HM HW
          go_upto_region 17 with fail
          go_cut [] (fun wx => ∃ (R3 : Nat → Nat) (T3 : Nat → Nat → Nat), MB wx w.heap.size i (2 * i) R3 T3 ∧ GJ M i c' T3 ∧ T3 c' c' ≠ 0 ∧ Boxed wx wr.heap.size 3 (.int .i64 c') ∧ Below w.heap.size w wx)
          case first =>
          --SWAP--
            have hS21 : (W1.setCell ⟨w.heap.size, c', none⟩ (.slice (some ⟨R (c' + p), 0, none⟩) (2 * i) (2 * i))).cell? ⟨wr.heap.size, 0, none⟩ = some (.int .i64 (c' : Int)) := (box_far HBX.out (by omega)).cell
            have HM2 := Lib.hid (show MB (W1.setCell ⟨w.heap.size, c', none⟩ (.slice (some ⟨R (c' + p), 0, none⟩) (2 * i) (2 * i))) w.heap.size i (2 * i) _ _ from MB.put HM1.out (HM1.out.2 (c' + p) (by omega)) (HM1.out.ne (by omega)))
            have hS22 : ((W1.setCell ⟨w.heap.size, c', none⟩ (.slice (some ⟨R (c' + p), 0, none⟩) (2 * i) (2 * i))).setCell ⟨w.heap.size, c' + p, none⟩ (.slice (some ⟨R c', 0, none⟩) (2 * i) (2 * i))).cell? ⟨wr.heap.size, 0, none⟩ = some (.int .i64 (c' : Int)) := (box_far (box_far HBX.out (by omega)) (by omega)).cell
            have hB3 := box_far (box_far HBX.out (g := w.heap.size) (p := c') (u := .slice (some ⟨R (c' + p), 0, none⟩) (2 * i) (2 * i)) (by omega)) (g := w.heap.size) (p := c' + p) (u := .slice (some ⟨R c', 0, none⟩) (2 * i) (2 * i)) (by omega)
            have HM3 := Lib.hid (show MB ((W1.setCell ⟨w.heap.size, c', none⟩ (.slice (some ⟨R (c' + p), 0, none⟩) (2 * i) (2 * i))).setCell ⟨w.heap.size, c' + p, none⟩ (.slice (some ⟨R c', 0, none⟩) (2 * i) (2 * i))) w.heap.size i (2 * i) _ _ from MB.put HM2.out (RB.far (HM1.out.2 c' hlt) _ (fun e => HM1.out.ne hlt e.symm)) (HM1.out.ne hlt))
            refine wp_region_held_drew (S := fun W => W.cell? ⟨wr.heap.size, 0, none⟩ = some (.int .i64 (c' : Int))) (by kernel_rfl) hbx (fun hS => ?_)
            refine wpAnyH_take (i := 0) (v := .slice (some ⟨w.heap.size, 0, none⟩) i i) rfl (by kernel_rfl) (by kernel_rfl) (by kernel_rfl) (fun _ _ _ h => h) (Or.inl ⟨by rfl, ?_⟩) hS ?_
            · intro W q0
              go_simp
            try simp only [Act.put, List.setIfInBounds_toArray, List.set_cons_zero, List.set_cons_succ]
            refine wpAnyH_take (i := 1) (v := .int .i64 (c' : Int)) rfl (by kernel_rfl) (by kernel_rfl) (by kernel_rfl) (fun _ _ _ h => h) (Or.inl ⟨by rfl, ?_⟩) hS ?_
            · intro W q0
              go_simp
            try simp only [Act.put, List.setIfInBounds_toArray, List.set_cons_zero, List.set_cons_succ]
            refine wpAnyH_take (i := 2) (v := .slice (some ⟨w.heap.size, 0, none⟩) i i) rfl (by kernel_rfl) (by kernel_rfl) (by kernel_rfl) (fun _ _ _ h => h) (Or.inl ⟨by rfl, ?_⟩) hS ?_
            · intro W q0
              go_simp
            try simp only [Act.put, List.setIfInBounds_toArray, List.set_cons_zero, List.set_cons_succ]
            refine wpAnyH_take (i := 3) (v := .int .i64 (c' : Int)) rfl (by kernel_rfl) (by kernel_rfl) (by kernel_rfl) (fun _ _ _ h => h) (Or.inl ⟨by rfl, ?_⟩) hS ?_
            · intro W q0
              go_simp
            try simp only [Act.put, List.setIfInBounds_toArray, List.set_cons_zero, List.set_cons_succ]
            refine wpAnyH_take (i := 4) (v := .int .i64 (p : Int)) rfl (by kernel_rfl) (by kernel_rfl) (by kernel_rfl) (fun _ _ _ h => h) (Or.inl ⟨by rfl, ?_⟩) hS ?_
            · intro W q0
              go_simp
            try simp only [Act.put, List.setIfInBounds_toArray, List.set_cons_zero, List.set_cons_succ]
            refine wpAnyH_take (i := 5) (v := .int .i64 ((c' : Int) + (p : Int))) rfl (by kernel_rfl) (by kernel_rfl) (by kernel_rfl) (fun _ _ _ h => h) (Or.inl ⟨by rfl, ?_⟩) hS ?_
            · intro W q0
              go_simp
            try simp only [Act.put, List.setIfInBounds_toArray, List.set_cons_zero, List.set_cons_succ]
            refine wpAnyH_take (i := 6) (v := .slice (some ⟨w.heap.size, 0, none⟩) i i) rfl (by kernel_rfl) (by kernel_rfl) (by kernel_rfl) (fun _ _ _ h => h) (Or.inl ⟨by rfl, ?_⟩) hS ?_
            · intro W q0
              go_simp
            try simp only [Act.put, List.setIfInBounds_toArray, List.set_cons_zero, List.set_cons_succ]
            refine wpAnyH_take (i := 7) (v := .int .i64 (c' : Int)) rfl (by kernel_rfl) (by kernel_rfl) (by kernel_rfl) (fun _ _ _ h => h) (Or.inl ⟨by rfl, ?_⟩) hS ?_
            · intro W q0
              go_simp
            try simp only [Act.put, List.setIfInBounds_toArray, List.set_cons_zero, List.set_cons_succ]
            refine wpAnyH_take (i := 8) (v := .int .i64 (p : Int)) rfl (by kernel_rfl) (by kernel_rfl) (by kernel_rfl) (fun _ _ _ h => h) (Or.inl ⟨by rfl, ?_⟩) hS ?_
            · intro W q0
              go_simp
            try simp only [Act.put, List.setIfInBounds_toArray, List.set_cons_zero, List.set_cons_succ]
            refine wpAnyH_take (i := 9) (v := .int .i64 ((c' : Int) + (p : Int))) rfl (by kernel_rfl) (by kernel_rfl) (by kernel_rfl) (fun _ _ _ h => h) (Or.inl ⟨by rfl, ?_⟩) hS ?_
            · intro W q0
              go_simp
            try simp only [Act.put, List.setIfInBounds_toArray, List.set_cons_zero, List.set_cons_succ]
            refine wpAnyH_take (i := 10) (v := .pointer (some ⟨w.heap.size, c' + p, none⟩)) rfl (by kernel_rfl) (by kernel_rfl) (by kernel_rfl) (fun _ _ _ h => h) (Or.inl ⟨by rfl, ?_⟩) hS ?_
            · intro W q0
              go_simp
            try simp only [Act.put, List.setIfInBounds_toArray, List.set_cons_zero, List.set_cons_succ]
            refine wpAnyH_take (i := 12) (v := .slice (some ⟨w.heap.size, 0, none⟩) i i) rfl (by kernel_rfl) (by kernel_rfl) (by kernel_rfl) (fun _ _ _ h => h) (Or.inl ⟨by rfl, ?_⟩) hS ?_
            · intro W q0
              go_simp
            try simp only [Act.put, List.setIfInBounds_toArray, List.set_cons_zero, List.set_cons_succ]
            refine wpAnyH_take (i := 13) (v := .int .i64 (c' : Int)) rfl (by kernel_rfl) (by kernel_rfl) (by kernel_rfl) (fun _ _ _ h => h) (Or.inl ⟨by rfl, ?_⟩) hS ?_
            · intro W q0
              go_simp
            try simp only [Act.put, List.setIfInBounds_toArray, List.set_cons_zero, List.set_cons_succ]
            refine wpAnyH_take (i := 14) (v := .pointer (some ⟨w.heap.size, c', none⟩)) rfl (by kernel_rfl) (by kernel_rfl) (by kernel_rfl) (fun _ _ _ h => h) (Or.inl ⟨by rfl, ?_⟩) hS ?_
            · intro W q0
              go_simp
            try simp only [Act.put, List.setIfInBounds_toArray, List.set_cons_zero, List.set_cons_succ]
            refine wpAnyH_ready (rs := [11, 15]) (by kernel_rfl) (by simp) ?_
            refine AllReadyH.cons rfl (fun K hK => ?_) (AllReadyH.cons rfl (fun K hK => ?_) AllReadyH.nil)
            focus
              go_simp
              refine hK.out _ _ hS (fun hS1 => ?_)
              clear hK K
              try simp only [Act.put, List.setIfInBounds_toArray, List.set_cons_zero, List.set_cons_succ]
              refine wpAnyH_ready (rs := [15]) (by kernel_rfl) (by simp) ?_
              refine AllReadyH.cons rfl (fun K hK => ?_) AllReadyH.nil
              go_simp
              refine hK.out _ _ hS1 (fun hS2 => ?_)
              clear hK K
              try simp only [Act.put, List.setIfInBounds_toArray, List.set_cons_zero, List.set_cons_succ]
              refine wpAnyH_take (i := 16) (v := .pointer (some ⟨w.heap.size, c', none⟩)) rfl (by kernel_rfl) (by kernel_rfl) (by kernel_rfl) (fun _ _ _ h => h) (Or.inl ⟨by rfl, ?_⟩) hS2 ?_
              · intro W q0
                go_simp
              try simp only [Act.put, List.setIfInBounds_toArray, List.set_cons_zero, List.set_cons_succ]
              refine wpAnyH_ready (rs := [17]) (by kernel_rfl) (by simp) ?_
              refine AllReadyH.cons rfl (fun K hK => ?_) AllReadyH.nil
              go_simp
              refine hK.out _ _ hS21 (fun hS3 => ?_)
              clear hK K
              try simp only [Act.put, List.setIfInBounds_toArray, List.set_cons_zero, List.set_cons_succ]
              refine wpAnyH_take (i := 18) (v := .pointer (some ⟨w.heap.size, c' + p, none⟩)) rfl (by kernel_rfl) (by kernel_rfl) (by kernel_rfl) (fun _ _ _ h => h) (Or.inl ⟨by rfl, ?_⟩) hS3 ?_
              · intro W q0
                go_simp
              try simp only [Act.put, List.setIfInBounds_toArray, List.set_cons_zero, List.set_cons_succ]
              have hd3 := HM2.out.hd (c' + p) (by omega)
              have hfz2 := HM2.out.fz
              refine wpAnyH_ready (rs := [19]) (by kernel_rfl) (by simp) ?_
              refine AllReadyH.cons rfl (fun K hK => ?_) AllReadyH.nil
              go_simp
              refine hK.out _ _ hS22 (fun hS4 => ?_)
              clear hK K
              try simp only [Act.put, List.setIfInBounds_toArray, List.set_cons_zero, List.set_cons_succ]
              refine wpAnyH_done (by kernel_rfl) ?_ _
            rotate_left
            focus
              go_simp
              refine hK.out _ _ hS (fun hS1 => ?_)
              clear hK K
              try simp only [Act.put, List.setIfInBounds_toArray, List.set_cons_zero, List.set_cons_succ]
              refine wpAnyH_ready (rs := [11]) (by kernel_rfl) (by simp) ?_
              refine AllReadyH.cons rfl (fun K hK => ?_) AllReadyH.nil
              go_simp
              refine hK.out _ _ hS1 (fun hS2 => ?_)
              clear hK K
              try simp only [Act.put, List.setIfInBounds_toArray, List.set_cons_zero, List.set_cons_succ]
              refine wpAnyH_take (i := 16) (v := .pointer (some ⟨w.heap.size, c', none⟩)) rfl (by kernel_rfl) (by kernel_rfl) (by kernel_rfl) (fun _ _ _ h => h) (Or.inl ⟨by rfl, ?_⟩) hS2 ?_
              · intro W q0
                go_simp
              try simp only [Act.put, List.setIfInBounds_toArray, List.set_cons_zero, List.set_cons_succ]
              refine wpAnyH_ready (rs := [17]) (by kernel_rfl) (by simp) ?_
              refine AllReadyH.cons rfl (fun K hK => ?_) AllReadyH.nil
              go_simp
              refine hK.out _ _ hS21 (fun hS3 => ?_)
              clear hK K
              try simp only [Act.put, List.setIfInBounds_toArray, List.set_cons_zero, List.set_cons_succ]
              refine wpAnyH_take (i := 18) (v := .pointer (some ⟨w.heap.size, c' + p, none⟩)) rfl (by kernel_rfl) (by kernel_rfl) (by kernel_rfl) (fun _ _ _ h => h) (Or.inl ⟨by rfl, ?_⟩) hS3 ?_
              · intro W q0
                go_simp
              try simp only [Act.put, List.setIfInBounds_toArray, List.set_cons_zero, List.set_cons_succ]
              have hd3 := HM2.out.hd (c' + p) (by omega)
              have hfz2 := HM2.out.fz
              refine wpAnyH_ready (rs := [19]) (by kernel_rfl) (by simp) ?_
              refine AllReadyH.cons rfl (fun K hK => ?_) AllReadyH.nil
              go_simp
              refine hK.out _ _ hS22 (fun hS4 => ?_)
              clear hK K
              try simp only [Act.put, List.setIfInBounds_toArray, List.set_cons_zero, List.set_cons_succ]
              refine wpAnyH_done (by kernel_rfl) ?_ _
          --ENDSWAP--
            all_goals
              obtain ⟨W3, hW3⟩ : ∃ W3, W3 = ((W1.setCell ⟨w.heap.size, c', none⟩ (.slice (some ⟨R (c' + p), 0, none⟩) (2 * i) (2 * i))).setCell ⟨w.heap.size, c' + p, none⟩ (.slice (some ⟨R c', 0, none⟩) (2 * i) (2 * i))).drew := ⟨_, rfl⟩
              obtain ⟨T3, hT3⟩ : ∃ T3 : Nat → Nat → Nat, T3 = fun k => T (swp c' (c' + p) k) := ⟨_, rfl⟩
              have hm3 : ∃ R3, MB W3 w.heap.size i (2 * i) R3 T3 := ⟨_, by
                rw [hW3, hT3]
                exact MB.congr HM3.out (fun a _ b _ => by
                  show (if a = c' + p then T c' else if a = c' then T (c' + p) else T a) b = T (swp c' (c' + p) a) b
                  unfold swp
                  by_cases e1 : a = c' + p
                  · rw [if_pos e1]
                    by_cases e2 : a = c'
                    · rw [if_pos e2, ← e1, e2]
                    · rw [if_neg e2, if_pos e1]
                  · rw [if_neg e1]
                    by_cases e2 : a = c'
                    · rw [if_pos e2, if_pos e2]
                    · rw [if_neg e2, if_neg e2, if_neg e1])⟩
              have hg3 : GJ M i c' T3 := by rw [hT3]; exact gj_swap hlt (by omega) (by omega) HG.out
              have hpv : T3 c' c' ≠ 0 := by rw [hT3]; show T (swp c' (c' + p) c') c' ≠ 0; rw [swp, if_pos rfl]; exact hpz
              have hb3 : Boxed W3 wr.heap.size 3 (.int .i64 c') := by rw [hW3]; exact hB3
              have hw3 : Below w.heap.size w W3 := by rw [hW3]; exact (((HW1.out.setCell (p := ⟨w.heap.size, c', none⟩) (Nat.le_refl _) _).setCell (p := ⟨w.heap.size, c' + p, none⟩) (Nat.le_refl _) _).drew)
              obtain ⟨R3, hm3⟩ := hm3
              go_wp2_with fail
              go_meet
              rw [← hW3]
              exact ⟨R3, T3, hm3, hg3, hpv, hb3, hw3⟩
          case rest =>
            obtain ⟨R3, T3, hm3, hg3, hpv, hb3, hw3⟩ := hcut
            clear HBX HM1 HW1 hbx hd1 hd2 hfz hwp hpi hnp hpn HG hpz
            have hbx := cell_of_row wc _ 0 _ _ _ hb3
            have hd := hm3.hd c' hlt
            have hx := (hm3.2 c' hlt).cell c' (by omega)
            have hlt2 : (c' : Int) < 2 * i := by omega
            obtain ⟨x, hxd⟩ : ∃ x, x = T3 c' c' := ⟨_, rfl⟩
            rw [← hxd] at hx hpv
            have hxl : x < 256 := by rw [hxd]; exact hg3.lt _ _
            have HXD := Lib.hid hxd
            have HM3 := Lib.hid hm3
            have HG3 := Lib.hid hg3
            have HB3 := Lib.hid hb3
            have HW3 := Lib.hid hw3
            have HIN := Lib.hid (fun W => inv_any x hxl hpv W)
            clear hm3 hg3 hb3 hw3 hxd
            go_upto_region 18 with fail
            go_cut [10] (fun s10 wx => s10 = .int .u8 (pwr x 254 : Nat) ∧ MB wx w.heap.size i (2 * i) R3 T3 ∧ Boxed wx wr.heap.size 3 (.int .i64 c') ∧ Below w.heap.size w wx)
            case first =>
              go_quiet ((go_at_call 53; exact Calls.quiet_of_same ((HIN.out _).mono fun _ _ h => ⟨h.1, h.2.symm⟩)))
              go_wp2_with fail
              go_meet
              exact ⟨rfl, HM3.out.below (Go.Joins.below_draws _ _ _), ((Go.Joins.below_draws wc.heap.size wc _).block _ (Array.getElem?_eq_some_iff.1 HB3.out).1).trans HB3.out, HW3.out.trans (Go.Joins.below_draws _ _ _)⟩
            case rest =>
              obtain ⟨rfl, hm4, hb4, hw4⟩ := hcut
              obtain ⟨u, hud⟩ : ∃ u, u = pwr x 254 := ⟨_, rfl⟩
              rw [← hud]
              have hul : u < 256 := by rw [hud]; exact pwr_lt _ _ hxl
              have hux : Gf.mul x u = 1 := by rw [hud]; exact mul_inv hxl hpv
              have hmk2 : ∀ kl kc W, _ := fun kl kc W => run_make_bytes kl kc (2 * i) (by omega) W
              rw [show ((2 * i : Nat) : Int) = 2 * (i : Int) by omega] at hmk2
              have hbx4 := cell_of_row wc _ 0 _ _ _ hb4
              have hd4 := hm4.hd c' hlt
              have hgl4 := hm4.lt
              have hRl4 := (hm4.2 c' hlt).lt
              have HM4 := Lib.hid hm4
              have HB4 := Lib.hid hb4
              have HW4 := Lib.hid hw4
              have HFU := Lib.hid (fusedr_any (fun _ => 0) (T3 c') u wc.heap.size 0 (R3 c') 0 (2 * i) (2 * i) (2 * i) (wc.drew.alloc (.cells (brow (2 * i) fun _ => 0) 5)) (by omega) hul (fun _ => Nat.zero_lt_succ _) (HG3.out.lt c') ((RB.new (w := wc.drew)).at0 (Nat.le_refl _)) ((RB.alloc (w := wc.drew) (HM4.out.2 c' hlt) _).at0 (Nat.le_refl _)))
              clear hm4 hb4 hw4 hud HM3 HB3 HW3 hx hd hbx HIN
              have hwr2 := IntWalk.i64_in (2 * (i : Int)) (by omega)
              go_upto_region 19 with fail
              go_cut [] (fun wx => ∃ R4, MB wx w.heap.size i (2 * i) R4 (scl T3 c' u) ∧ Boxed wx wr.heap.size 3 (.int .i64 c') ∧ Below w.heap.size w wx)
              case first =>
                --SCALE--
                have hSa : (wc.drew.alloc (.cells (brow (2 * i) fun _ => 0) 5)).cell? ⟨wr.heap.size, 0, none⟩ = some (.int .i64 (c' : Int)) := keepc (W := wc.drew) hbx4 (Go.Joins.below_alloc1 _ _)
                refine wp_region_held_drew (S := fun W => W.cell? ⟨wr.heap.size, 0, none⟩ = some (.int .i64 (c' : Int))) (by kernel_rfl) hbx4 (fun hS => ?_)
                refine wpAnyH_take (i := 0) (v := .slice (some ⟨w.heap.size, 0, none⟩) i i) rfl (by kernel_rfl) (by kernel_rfl) (by kernel_rfl) (fun _ _ _ h => h) (Or.inl ⟨by rfl, ?_⟩) hS ?_
                · intro W q0
                  go_simp
                try simp only [Act.put, List.setIfInBounds_toArray, List.set_cons_zero, List.set_cons_succ]
                refine wpAnyH_take (i := 1) (v := .int .i64 (c' : Int)) rfl (by kernel_rfl) (by kernel_rfl) (by kernel_rfl) (fun _ _ _ h => h) (Or.inl ⟨by rfl, ?_⟩) hS ?_
                · intro W q0
                  go_simp
                try simp only [Act.put, List.setIfInBounds_toArray, List.set_cons_zero, List.set_cons_succ]
                refine wpAnyH_take (i := 2) (v := .int .i64 (i : Int)) rfl (by kernel_rfl) (by kernel_rfl) (by kernel_rfl) (fun _ _ _ h => h) (Or.inl ⟨by rfl, ?_⟩) hS ?_
                · intro W q0
                  go_simp
                try simp only [Act.put, List.setIfInBounds_toArray, List.set_cons_zero, List.set_cons_succ]
                refine wpAnyH_take (i := 3) (v := .int .i64 (2 * (i : Int))) rfl (by kernel_rfl) (by kernel_rfl) (by kernel_rfl) (fun _ _ _ h => h) (Or.inl ⟨by rfl, ?_⟩) hS ?_
                · intro W q0
                  go_simp
                try simp only [Act.put, List.setIfInBounds_toArray, List.set_cons_zero, List.set_cons_succ]
                refine wpAnyH_take (i := 5) (v := .slice (some ⟨w.heap.size, 0, none⟩) i i) rfl (by kernel_rfl) (by kernel_rfl) (by kernel_rfl) (fun _ _ _ h => h) (Or.inl ⟨by rfl, ?_⟩) hS ?_
                · intro W q0
                  go_simp
                try simp only [Act.put, List.setIfInBounds_toArray, List.set_cons_zero, List.set_cons_succ]
                refine wpAnyH_take (i := 6) (v := .int .i64 (c' : Int)) rfl (by kernel_rfl) (by kernel_rfl) (by kernel_rfl) (fun _ _ _ h => h) (Or.inl ⟨by rfl, ?_⟩) hS ?_
                · intro W q0
                  go_simp
                try simp only [Act.put, List.setIfInBounds_toArray, List.set_cons_zero, List.set_cons_succ]
                refine wpAnyH_take (i := 7) (v := .pointer (some ⟨w.heap.size, c', none⟩)) rfl (by kernel_rfl) (by kernel_rfl) (by kernel_rfl) (fun _ _ _ h => h) (Or.inl ⟨by rfl, ?_⟩) hS ?_
                · intro W q0
                  go_simp
                try simp only [Act.put, List.setIfInBounds_toArray, List.set_cons_zero, List.set_cons_succ]
                refine wpAnyH_take (i := 9) (v := .int .u8 (u : Nat)) rfl (by kernel_rfl) (by kernel_rfl) (by kernel_rfl) (fun _ _ _ h => h) (Or.inl ⟨by rfl, ?_⟩) hS ?_
                · intro W q0
                  go_simp
                try simp only [Act.put, List.setIfInBounds_toArray, List.set_cons_zero, List.set_cons_succ]
                refine wpAnyH_ready (rs := [4, 8]) (by kernel_rfl) (by simp) ?_
                refine AllReadyH.cons rfl (fun K hK => ?_) (AllReadyH.cons rfl (fun K hK => ?_) AllReadyH.nil)
                focus
                  go_simp
                  refine hK.out _ _ hSa (fun hS1 => ?_)
                  clear hK K
                  try simp only [Act.put, List.setIfInBounds_toArray, List.set_cons_zero, List.set_cons_succ]
                  refine wpAnyH_ready (rs := [8]) (by kernel_rfl) (by simp) ?_
                  refine AllReadyH.cons rfl (fun K hK => ?_) AllReadyH.nil
                  go_simp
                  refine hK.out _ _ hSa (fun hS2 => ?_)
                  clear hK K
                  try simp only [Act.put, List.setIfInBounds_toArray, List.set_cons_zero, List.set_cons_succ]
                rotate_left
                focus
                  go_simp
                  refine hK.out _ _ hS (fun hS1 => ?_)
                  clear hK K
                  try simp only [Act.put, List.setIfInBounds_toArray, List.set_cons_zero, List.set_cons_succ]
                  refine wpAnyH_ready (rs := [4]) (by kernel_rfl) (by simp) ?_
                  refine AllReadyH.cons rfl (fun K hK => ?_) AllReadyH.nil
                  go_simp
                  refine hK.out _ _ hSa (fun hS2 => ?_)
                  clear hK K
                  try simp only [Act.put, List.setIfInBounds_toArray, List.set_cons_zero, List.set_cons_succ]
                all_goals
                  refine wpAnyH_ready (rs := [10]) (by kernel_rfl) (by simp) ?_
                  refine AllReadyH.cons rfl (fun K hK => ?_) AllReadyH.nil
                  go_simp
                  refine HFU.out.mono ?_
                  rintro e w5 ⟨rfl, hR5, hB5⟩
                  have hS5 := keepc hSa hB5
                  have hm5 := MB.below (MB.below (w := wc.drew) HM4.out (Go.Joins.below_alloc1 _ _)) hB5
                  have hr5 : RB w5 (wc.heap.size + 1) (2 * i) 5 (fun j => Gf.mul u (T3 c' j)) := by
                    have h := hR5.congr (f' := fun j => Gf.mul u (T3 c' j)) (fun j _ => by rw [Nat.zero_xor])
                    rwa [nblk1] at h
                  have hd5 := hm5.hd c' hlt
                  have hf5 := hm5.fz
                  have hb5 : Boxed w5 wr.heap.size 3 (.int .i64 c') := (hB5.block _ (by rw [nblk1]; exact Nat.lt_succ_of_lt (Array.getElem?_eq_some_iff.1 HB4.out).1)).trans ((Below.heap_alloc wc.drew _ _ (Array.getElem?_eq_some_iff.1 HB4.out).1).trans HB4.out)
                  have hw5 := (Below.alloc (w := wc.drew) HW4.out.drew HW4.out.size (.cells (brow (2 * i) fun _ => 0) 5)).trans (hB5.mono (by rw [nblk1]; exact Nat.le_succ_of_le HW4.out.size))
                  refine hK.out _ _ hS5 (fun hS6 => ?_)
                  clear hK K hB5 hR5
                  try simp only [Act.put, List.setIfInBounds_toArray, List.set_cons_zero, List.set_cons_succ]
                  refine wpAnyH_take (i := 11) (v := .tuple #[.slice (some ⟨wc.heap.size + 1, 0, none⟩) (2 * i) (2 * i), .int .i64 0]) rfl (by kernel_rfl) (by kernel_rfl) (by kernel_rfl) (fun _ _ _ h => h) (Or.inl ⟨by rfl, ?_⟩) hS5 ?_
                  · intro W q0
                    go_simp
                  try simp only [Act.put, List.setIfInBounds_toArray, List.set_cons_zero, List.set_cons_succ]
                  refine wpAnyH_take (i := 12) (v := .slice (some ⟨wc.heap.size + 1, 0, none⟩) (2 * i) (2 * i)) rfl (by kernel_rfl) (by kernel_rfl) (by kernel_rfl) (fun _ _ _ h => h) (Or.inl ⟨by rfl, ?_⟩) hS5 ?_
                  · intro W q0
                    go_simp
                  try simp only [Act.put, List.setIfInBounds_toArray, List.set_cons_zero, List.set_cons_succ]
                  refine wpAnyH_take (i := 13) (v := .int .i64 0) rfl (by kernel_rfl) (by kernel_rfl) (by kernel_rfl) (fun _ _ _ h => h) (Or.inl ⟨by rfl, ?_⟩) hS5 ?_
                  · intro W q0
                    go_simp
                  try simp only [Act.put, List.setIfInBounds_toArray, List.set_cons_zero, List.set_cons_succ]
                  refine wpAnyH_take (i := 14) (v := .pointer (some ⟨w.heap.size, c', none⟩)) rfl (by kernel_rfl) (by kernel_rfl) (by kernel_rfl) (fun _ _ _ h => h) (Or.inl ⟨by rfl, ?_⟩) hS5 ?_
                  · intro W q0
                    go_simp
                  try simp only [Act.put, List.setIfInBounds_toArray, List.set_cons_zero, List.set_cons_succ]
                  refine wpAnyH_ready (rs := [15]) (by kernel_rfl) (by simp) ?_
                  refine AllReadyH.cons rfl (fun K hK => ?_) AllReadyH.nil
                  go_simp
                  have hfin : MB (w5.setCell ⟨w.heap.size, c', none⟩ (.slice (some ⟨wc.heap.size + 1, 0, none⟩) (2 * i) (2 * i))) w.heap.size i (2 * i) _ (scl T3 c' u) := (hm5.put (i := c') hr5 (by omega)).congr (fun a _ b _ => by
                    unfold scl
                    by_cases e : a = c'
                    · rw [if_pos e, if_pos e]
                    · rw [if_neg e, if_neg e])
                  have hbf := box_far hb5 (g := w.heap.size) (p := c') (u := .slice (some ⟨wc.heap.size + 1, 0, none⟩) (2 * i) (2 * i)) (by omega)
                  have hwf := Below.setCell (p := ⟨w.heap.size, c', none⟩) hw5 (Nat.le_refl _) (.slice (some ⟨wc.heap.size + 1, 0, none⟩) (2 * i) (2 * i))
                  refine hK.out _ _ hbf.cell (fun _ => ?_)
                  clear hK K
                  refine wpAnyH_done (by kernel_rfl) ?_ _
                  go_wp2_with fail
                  go_meet
                  exact ⟨_, hfin, hbf, hwf⟩
                --ENDSCALE--
              case rest =>
                obtain ⟨R5, hm5, hb5, hw5⟩ := hcut
                obtain ⟨T5, hT5⟩ : ∃ T5, T5 = scl T3 c' u := ⟨_, rfl⟩
                have hu0 : u ≠ 0 := fun e => by rw [e, Gf.mul_zero] at hux; omega
                have hg5 : GJ M i c' T5 := by rw [hT5]; exact gj_scale hul hu0 hlt hMl HG3.out
                have h51 : T5 c' c' = 1 := by rw [hT5, scl, if_pos rfl, ← HXD.out, Gf.mul_comm _ _ hul hxl, hux]
                rw [← hT5] at hm5
                have HM5 := Lib.hid hm5
                have HG5 := Lib.hid hg5
                have HB5 := Lib.hid hb5
                have HW5 := Lib.hid hw5
                have H51 := Lib.hid h51
                clear hT5 hm5 hg5 hb5 hw5 h51 HM4 HB4 HW4 HFU HG3 hmk2 hbx4 hd4 hwr2 hux hu0 HXD
                obtain ⟨Bx, hBx⟩ : ∃ Bx, Bx = wr.heap.size := ⟨_, rfl⟩
                rw [← hBx] at HB5 hgl ⊢
                clear hBx
                go_wp2_with fail
                go_loopw [112] (fun vr wq => ∃ (r : Nat) (R : Nat → Nat), r ≤ i ∧ vr = .int .i64 r ∧ MB wq w.heap.size i (2 * i) R (elm T5 c' r) ∧ Boxed wq Bx 3 (.int .i64 c') ∧ Below w.heap.size w wq) (fun vr _ => i - (intOf vr).toNat)
                case atStart => exact ⟨0, R5, by omega, rfl, HM5.out.congr (fun a _ b _ => by rw [elm, if_neg (by omega)]), HB5.out, HW5.out⟩
                case round =>
                  clear HM5 HB5 HW5
                  obtain ⟨r, R, hr, rfl, hm, hb, hw⟩ := hrel
                  by_cases hri : r < i
                  · have hrii : (r : Int) < i := by omega
                    have hbx := cell_of_row wr _ 0 _ _ _ hb
                    by_cases hrc : r = c'
                    · have hm' : MB wr w.heap.size i (2 * i) R (elm T5 c' (r + 1)) := hm.congr (fun a _ b _ => by
                        unfold elm
                        by_cases e : a < r ∧ a ≠ c'
                        · rw [if_pos e, if_pos (by omega)]
                        · rw [if_neg e, if_neg (by omega)])
                      clear hm
                      subst hrc
                      go_wp2_with fail
                      go_roundw
                      case rel => exact ⟨r + 1, R, by omega, by go_num, hm', hb, hw⟩
                      case measure => simp [intOf]; omega
                    · have hrc' : ¬ (r : Int) = c' := by omega
                      have hdr := hm.hd r hri
                      have hdc := hm.hd c' hlt
                      have hfz := hm.fz
                      have hxr := (hm.2 r hri).cell c' (by omega)
                      obtain ⟨x, hxd⟩ : ∃ x, x = elm T5 c' r r c' := ⟨_, rfl⟩
                      rw [← hxd] at hxr
                      have hxd2 : x = T5 r c' := by rw [hxd, elm, if_neg (by omega)]
                      have hxl : x < 256 := by rw [hxd2]; exact HG5.out.lt _ _
                      have HFU := Lib.hid (fusedr_any (elm T5 c' r r) (elm T5 c' r c') x (R r) 0 (R c') 0 (2 * i) (2 * i) (2 * i) wr.drew (by omega) hxl (fun j => by rw [elm, if_neg (by omega)]; exact HG5.out.lt _ _) (fun j => by rw [elm, if_neg (by omega)]; exact HG5.out.lt _ _) ((hm.2 r hri).at0 (Nat.le_refl _)) ((hm.2 c' hlt).at0 (Nat.le_refl _)))
                      have HM6 := Lib.hid hm
                      have HB6 := Lib.hid hb
                      have HW6 := Lib.hid hw
                      have HXD := Lib.hid hxd2
                      have hgl6 := hm.lt
                      clear hm hb hw hxd hxd2
                      go_upto_block 5 with fail
                      go_cut [] (fun wx => ∃ R4, MB wx w.heap.size i (2 * i) R4 (elm T5 c' (r + 1)) ∧ Boxed wx Bx 3 (.int .i64 c') ∧ Below w.heap.size w wx)
                      case first =>
                        go_wp2_with fail
                        --CLEAR--
                        refine wp_region_held_drew (S := fun W => W.cell? ⟨Bx, 0, none⟩ = some (.int .i64 (c' : Int)) ∧ W.cell? ⟨w.heap.size, c', none⟩ = some (.slice (some ⟨R c', 0, none⟩) (2 * i) (2 * i)) ∧ W.cell? ⟨R r, c', none⟩ = some (.int .u8 (x : Nat))) (by kernel_rfl) ⟨hbx, hdc, hxr⟩ (fun hS => ?_)
                        refine wpAnyH_take (i := 0) (v := .slice (some ⟨w.heap.size, 0, none⟩) i i) rfl (by kernel_rfl) (by kernel_rfl) (by kernel_rfl) (fun _ _ _ h => h) (Or.inl ⟨by rfl, ?_⟩) hS ?_
                        · rintro W ⟨q0, q1, q2⟩
                          go_simp
                        try simp only [Act.put, List.setIfInBounds_toArray, List.set_cons_zero, List.set_cons_succ]
                        refine wpAnyH_take (i := 1) (v := .int .i64 (r : Int)) rfl (by kernel_rfl) (by kernel_rfl) (by kernel_rfl) (fun _ _ _ h => h) (Or.inl ⟨by rfl, ?_⟩) hS ?_
                        · rintro W ⟨q0, q1, q2⟩
                          go_simp
                        try simp only [Act.put, List.setIfInBounds_toArray, List.set_cons_zero, List.set_cons_succ]
                        refine wpAnyH_take (i := 2) (v := .slice (some ⟨w.heap.size, 0, none⟩) i i) rfl (by kernel_rfl) (by kernel_rfl) (by kernel_rfl) (fun _ _ _ h => h) (Or.inl ⟨by rfl, ?_⟩) hS ?_
                        · rintro W ⟨q0, q1, q2⟩
                          go_simp
                        try simp only [Act.put, List.setIfInBounds_toArray, List.set_cons_zero, List.set_cons_succ]
                        refine wpAnyH_take (i := 3) (v := .int .i64 (r : Int)) rfl (by kernel_rfl) (by kernel_rfl) (by kernel_rfl) (fun _ _ _ h => h) (Or.inl ⟨by rfl, ?_⟩) hS ?_
                        · rintro W ⟨q0, q1, q2⟩
                          go_simp
                        try simp only [Act.put, List.setIfInBounds_toArray, List.set_cons_zero, List.set_cons_succ]
                        refine wpAnyH_take (i := 4) (v := .pointer (some ⟨w.heap.size, r, none⟩)) rfl (by kernel_rfl) (by kernel_rfl) (by kernel_rfl) (fun _ _ _ h => h) (Or.inl ⟨by rfl, ?_⟩) hS ?_
                        · rintro W ⟨q0, q1, q2⟩
                          go_simp
                        try simp only [Act.put, List.setIfInBounds_toArray, List.set_cons_zero, List.set_cons_succ]
                        refine wpAnyH_take (i := 6) (v := .slice (some ⟨w.heap.size, 0, none⟩) i i) rfl (by kernel_rfl) (by kernel_rfl) (by kernel_rfl) (fun _ _ _ h => h) (Or.inl ⟨by rfl, ?_⟩) hS ?_
                        · rintro W ⟨q0, q1, q2⟩
                          go_simp
                        try simp only [Act.put, List.setIfInBounds_toArray, List.set_cons_zero, List.set_cons_succ]
                        refine wpAnyH_take (i := 7) (v := .int .i64 (c' : Int)) rfl (by kernel_rfl) (by kernel_rfl) (by kernel_rfl) (fun _ _ _ h => h) (Or.inl ⟨by rfl, ?_⟩) hS ?_
                        · rintro W ⟨q0, q1, q2⟩
                          go_simp
                        try simp only [Act.put, List.setIfInBounds_toArray, List.set_cons_zero, List.set_cons_succ]
                        refine wpAnyH_take (i := 8) (v := .pointer (some ⟨w.heap.size, c', none⟩)) rfl (by kernel_rfl) (by kernel_rfl) (by kernel_rfl) (fun _ _ _ h => h) (Or.inl ⟨by rfl, ?_⟩) hS ?_
                        · rintro W ⟨q0, q1, q2⟩
                          go_simp
                        try simp only [Act.put, List.setIfInBounds_toArray, List.set_cons_zero, List.set_cons_succ]
                        refine wpAnyH_take (i := 9) (v := .slice (some ⟨R c', 0, none⟩) (2 * i) (2 * i)) rfl (by kernel_rfl) (by kernel_rfl) (by kernel_rfl) (fun _ _ _ h => h) (Or.inl ⟨by rfl, ?_⟩) hS ?_
                        · rintro W ⟨q0, q1, q2⟩
                          go_simp
                        try simp only [Act.put, List.setIfInBounds_toArray, List.set_cons_zero, List.set_cons_succ]
                        refine wpAnyH_take (i := 10) (v := .slice (some ⟨w.heap.size, 0, none⟩) i i) rfl (by kernel_rfl) (by kernel_rfl) (by kernel_rfl) (fun _ _ _ h => h) (Or.inl ⟨by rfl, ?_⟩) hS ?_
                        · rintro W ⟨q0, q1, q2⟩
                          go_simp
                        try simp only [Act.put, List.setIfInBounds_toArray, List.set_cons_zero, List.set_cons_succ]
                        refine wpAnyH_take (i := 11) (v := .int .i64 (r : Int)) rfl (by kernel_rfl) (by kernel_rfl) (by kernel_rfl) (fun _ _ _ h => h) (Or.inl ⟨by rfl, ?_⟩) hS ?_
                        · rintro W ⟨q0, q1, q2⟩
                          go_simp
                        try simp only [Act.put, List.setIfInBounds_toArray, List.set_cons_zero, List.set_cons_succ]
                        refine wpAnyH_take (i := 12) (v := .pointer (some ⟨w.heap.size, r, none⟩)) rfl (by kernel_rfl) (by kernel_rfl) (by kernel_rfl) (fun _ _ _ h => h) (Or.inl ⟨by rfl, ?_⟩) hS ?_
                        · rintro W ⟨q0, q1, q2⟩
                          go_simp
                        try simp only [Act.put, List.setIfInBounds_toArray, List.set_cons_zero, List.set_cons_succ]
                        refine wpAnyH_take (i := 14) (v := .int .i64 (c' : Int)) rfl (by kernel_rfl) (by kernel_rfl) (by kernel_rfl) (fun _ _ _ h => h) (Or.inl ⟨by rfl, ?_⟩) hS ?_
                        · rintro W ⟨q0, q1, q2⟩
                          go_simp
                        try simp only [Act.put, List.setIfInBounds_toArray, List.set_cons_zero, List.set_cons_succ]
                        refine wpAnyH_ready (rs := [5, 13]) (by kernel_rfl) (by simp) ?_
                        refine AllReadyH.cons rfl (fun K hK => ?_) (AllReadyH.cons rfl (fun K hK => ?_) AllReadyH.nil)
                        focus
                          go_simp
                          refine hK.out _ _ hS (fun hS1 => ?_)
                          clear hK K
                          try simp only [Act.put, List.setIfInBounds_toArray, List.set_cons_zero, List.set_cons_succ]
                          refine wpAnyH_ready (rs := [13]) (by kernel_rfl) (by simp) ?_
                          refine AllReadyH.cons rfl (fun K hK => ?_) AllReadyH.nil
                          go_simp
                          refine hK.out _ _ hS (fun hS2 => ?_)
                          clear hK K
                          try simp only [Act.put, List.setIfInBounds_toArray, List.set_cons_zero, List.set_cons_succ]
                          refine wpAnyH_take (i := 15) (v := .pointer (some ⟨R r, c', none⟩)) rfl (by kernel_rfl) (by kernel_rfl) (by kernel_rfl) (fun _ _ _ h => h) (Or.inl ⟨by rfl, ?_⟩) hS ?_
                          · rintro W ⟨q0, q1, q2⟩
                            go_simp
                          try simp only [Act.put, List.setIfInBounds_toArray, List.set_cons_zero, List.set_cons_succ]
                          refine wpAnyH_take (i := 16) (v := .int .u8 (x : Nat)) rfl (by kernel_rfl) (by kernel_rfl) (by kernel_rfl) (fun _ _ _ h => h) (Or.inl ⟨by rfl, ?_⟩) hS ?_
                          · rintro W ⟨q0, q1, q2⟩
                            go_simp
                          try simp only [Act.put, List.setIfInBounds_toArray, List.set_cons_zero, List.set_cons_succ]
                        rotate_left
                        focus
                          go_simp
                          refine hK.out _ _ hS (fun hS1 => ?_)
                          clear hK K
                          try simp only [Act.put, List.setIfInBounds_toArray, List.set_cons_zero, List.set_cons_succ]
                          refine wpAnyH_take (i := 15) (v := .pointer (some ⟨R r, c', none⟩)) rfl (by kernel_rfl) (by kernel_rfl) (by kernel_rfl) (fun _ _ _ h => h) (Or.inl ⟨by rfl, ?_⟩) hS ?_
                          · rintro W ⟨q0, q1, q2⟩
                            go_simp
                          try simp only [Act.put, List.setIfInBounds_toArray, List.set_cons_zero, List.set_cons_succ]
                          refine wpAnyH_take (i := 16) (v := .int .u8 (x : Nat)) rfl (by kernel_rfl) (by kernel_rfl) (by kernel_rfl) (fun _ _ _ h => h) (Or.inl ⟨by rfl, ?_⟩) hS ?_
                          · rintro W ⟨q0, q1, q2⟩
                            go_simp
                          try simp only [Act.put, List.setIfInBounds_toArray, List.set_cons_zero, List.set_cons_succ]
                          refine wpAnyH_ready (rs := [5]) (by kernel_rfl) (by simp) ?_
                          refine AllReadyH.cons rfl (fun K hK => ?_) AllReadyH.nil
                          go_simp
                          refine hK.out _ _ hS (fun hS2 => ?_)
                          clear hK K
                          try simp only [Act.put, List.setIfInBounds_toArray, List.set_cons_zero, List.set_cons_succ]
                        all_goals
                          refine wpAnyH_ready (rs := [17]) (by kernel_rfl) (by simp) ?_
                          refine AllReadyH.cons rfl (fun K hK => ?_) AllReadyH.nil
                          go_simp
                          refine HFU.out.mono ?_
                          rintro e w5 ⟨rfl, hR5, hB5⟩
                          have hS5 : w5.cell? ⟨Bx, 0, none⟩ = some (.int .i64 (c' : Int)) ∧ w5.cell? ⟨w.heap.size, c', none⟩ = some (.slice (some ⟨R c', 0, none⟩) (2 * i) (2 * i)) ∧ w5.cell? ⟨R r, c', none⟩ = some (.int .u8 (x : Nat)) := ⟨keepc (W := wr.drew) hbx hB5, keepc (W := wr.drew) hdc hB5, keepc (W := wr.drew) hxr hB5⟩
                          have hm5 := MB.below (w := wr.drew) HM6.out hB5
                          have hd5 := hm5.hd r hri
                          have hf5 := hm5.fz
                          have hb5 : Boxed w5 Bx 3 (.int .i64 c') := (hB5.block _ (Array.getElem?_eq_some_iff.1 HB6.out).1).trans HB6.out
                          have hw5 := HW6.out.drew.trans (hB5.mono HW6.out.size)
                          have hr5 : RB w5 wr.heap.size (2 * i) 5 (fun j => T5 r j ^^^ Gf.mul (T5 r c') (T5 c' j)) := hR5.congr (fun j _ => by rw [elm, if_neg (by omega), elm, if_neg (by omega), HXD.out])
                          refine hK.out _ _ hS5 (fun hS6 => ?_)
                          clear hK K hB5 hR5
                          try simp only [Act.put, List.setIfInBounds_toArray, List.set_cons_zero, List.set_cons_succ]
                          refine wpAnyH_take (i := 18) (v := .tuple #[.slice (some ⟨wr.heap.size, 0, none⟩) (2 * i) (2 * i), .int .i64 0]) rfl (by kernel_rfl) (by kernel_rfl) (by kernel_rfl) (fun _ _ _ h => h) (Or.inl ⟨by rfl, ?_⟩) hS5 ?_
                          · rintro W ⟨q0, q1, q2⟩
                            go_simp
                          try simp only [Act.put, List.setIfInBounds_toArray, List.set_cons_zero, List.set_cons_succ]
                          refine wpAnyH_take (i := 19) (v := .slice (some ⟨wr.heap.size, 0, none⟩) (2 * i) (2 * i)) rfl (by kernel_rfl) (by kernel_rfl) (by kernel_rfl) (fun _ _ _ h => h) (Or.inl ⟨by rfl, ?_⟩) hS5 ?_
                          · rintro W ⟨q0, q1, q2⟩
                            go_simp
                          try simp only [Act.put, List.setIfInBounds_toArray, List.set_cons_zero, List.set_cons_succ]
                          refine wpAnyH_take (i := 20) (v := .int .i64 0) rfl (by kernel_rfl) (by kernel_rfl) (by kernel_rfl) (fun _ _ _ h => h) (Or.inl ⟨by rfl, ?_⟩) hS5 ?_
                          · rintro W ⟨q0, q1, q2⟩
                            go_simp
                          try simp only [Act.put, List.setIfInBounds_toArray, List.set_cons_zero, List.set_cons_succ]
                          refine wpAnyH_take (i := 21) (v := .pointer (some ⟨w.heap.size, r, none⟩)) rfl (by kernel_rfl) (by kernel_rfl) (by kernel_rfl) (fun _ _ _ h => h) (Or.inl ⟨by rfl, ?_⟩) hS5 ?_
                          · rintro W ⟨q0, q1, q2⟩
                            go_simp
                          try simp only [Act.put, List.setIfInBounds_toArray, List.set_cons_zero, List.set_cons_succ]
                          refine wpAnyH_ready (rs := [22]) (by kernel_rfl) (by simp) ?_
                          refine AllReadyH.cons rfl (fun K hK => ?_) AllReadyH.nil
                          go_simp
                          have hfin : MB (w5.setCell ⟨w.heap.size, r, none⟩ (.slice (some ⟨wr.heap.size, 0, none⟩) (2 * i) (2 * i))) w.heap.size i (2 * i) _ (elm T5 c' (r + 1)) := (hm5.put (i := r) hr5 (by omega)).congr (fun a _ b _ => by
                            show (if a = r then (fun j => T5 r j ^^^ Gf.mul (T5 r c') (T5 c' j)) else elm T5 c' r a) b = elm T5 c' (r + 1) a b
                            by_cases e : a = r
                            · rw [if_pos e, elm, if_pos (by omega), e]
                            · rw [if_neg e]
                              unfold elm
                              by_cases e2 : a < r ∧ a ≠ c'
                              · rw [if_pos e2, if_pos (by omega)]
                              · rw [if_neg e2, if_neg (by omega)])
                          have hbf := box_far hb5 (g := w.heap.size) (p := r) (u := .slice (some ⟨wr.heap.size, 0, none⟩) (2 * i) (2 * i)) (by omega)
                          have hwf := Below.setCell (p := ⟨w.heap.size, r, none⟩) hw5 (Nat.le_refl _) (.slice (some ⟨wr.heap.size, 0, none⟩) (2 * i) (2 * i))
                          have hdf := hfin.hd c' hlt
                          rw [if_neg (show ¬ c' = r by omega)] at hdf
                          have hxf : (w5.setCell ⟨w.heap.size, r, none⟩ (.slice (some ⟨wr.heap.size, 0, none⟩) (2 * i) (2 * i))).cell? ⟨R r, c', none⟩ = some (.int .u8 (x : Nat)) := (World.cell?_of_block (Below.heap_setCell w5 ⟨w.heap.size, r, none⟩ _ (R r) (hm5.ne hri))).trans hS5.2.2
                          refine hK.out _ _ ⟨hbf.cell, hdf, hxf⟩ (fun _ => ?_)
                          clear hK K
                          refine wpAnyH_done (by kernel_rfl) ?_ _
                          go_wp2_with fail
                          go_meet
                          exact ⟨_, hfin, hbf, hwf⟩
                        --ENDCLEAR--
                      case rest =>
                        obtain ⟨R4, hm7, hb7, hw7⟩ := hcut
                        go_wp2_with fail
                        go_roundw
                        case rel => exact ⟨r + 1, R4, by omega, by go_num, hm7, hb7, hw7⟩
                        case measure => simp [intOf]; omega
                  · obtain rfl : r = i := by omega
                    have hg7 := gj_clear hlt hMl H51.out HG5.out
                    go_wp2_with fail
                    go_roundw
                    case rel => exact ⟨c' + 1, R, _, by omega, by go_num, hm, hg7, hw⟩
                    case measure => simp [intOf]; omega
        · obtain rfl : c' = i := by omega
          have hmh : ∀ kl kc W, _ := fun kl kc W => run_make_hdr kl kc c' (by omega) W
          have HM := Lib.hid hM
          have HG := Lib.hid hG
          have HW := Lib.hid hW
          clear hM hG hW
          have hpm : PM (wr.alloc (.cells (Array.replicate c' (.slice none 0 0)) 36)) wr.heap.size c' c' 0 (fun k j => T k (c' + j)) := ⟨_, heap_alloc_new wr _, by simp, fun k hk => by omega⟩
          have HPM := Lib.hid hpm
          have HMa := Lib.hid (HM.out.below (Go.Joins.below_alloc1 wr (.cells (Array.replicate c' (.slice none 0 0)) 36)))
          have HWa := Lib.hid (HW.out.alloc HW.out.size (.cells (Array.replicate c' (.slice none 0 0)) 36))
          have hgl := HM.out.lt
          have hRl := fun k (hk : k < c') => (HM.out.2 k hk).lt
          have HRL := Lib.hid hRl
          clear hpm HM HW hRl
          go_wp2_with fail
          obtain ⟨Gb, hGb⟩ : ∃ Gb, Gb = wr.heap.size := ⟨_, rfl⟩
          rw [← hGb] at HPM HRL hgl ⊢
          have hgb : w.heap.size ≤ Gb := by omega
          clear hGb
          go_loopw [146] (fun vk wq => ∃ k : Nat, k ≤ c' ∧ vk = .int .i64 k ∧ PM wq Gb c' c' k (fun k j => T k (c' + j)) ∧ MB wq w.heap.size c' (2 * c') R T ∧ Below w.heap.size w wq) (fun vk _ => c' - (intOf vk).toNat)
          case atStart => exact ⟨0, by omega, rfl, HPM.out, HMa.out, HWa.out⟩
          case round =>
            clear HPM HMa HWa
            obtain ⟨k, hk, rfl, hp, hm, hw⟩ := hrel
            by_cases hkc : k < c'
            · have hkci : (k : Int) < c' := by omega
              have hd := hm.hd k hkc
              have hcc : (c' : Int) ≤ 2 * c' := by omega
              have hcn : c' ≤ 2 * c' := by omega
              have HCL := Lib.hid (cloneb_any (fun j => T k (c' + j)) (R k) c' c' c' wr (by omega) (by omega) (fun j hj => (hm.2 k hkc).cell (c' + j) (by omega)))
              have hgbl : Gb < wr.heap.size := by obtain ⟨cur, h1, _⟩ := hp; exact (Array.getElem?_eq_some_iff.1 h1).1
              have HP := Lib.hid hp
              have HM := Lib.hid hm
              have HW := Lib.hid hw
              have hne := HRL.out k hkc
              clear hp hm hw
              go_wp2_with fail
              rw [show 2 * c' - c' = c' by omega]
              with_reducible refine HCL.out.mono ?_
              rintro e w5 ⟨g5, cap5, rfl, hg5, hr5, hB5⟩
              have hp5 := HP.out.below hB5
              obtain ⟨v, hv⟩ := hp5.cell hkc
              have hf := hp5.fz
              have HP5 := Lib.hid hp5
              have HM5 := Lib.hid (HM.out.below hB5)
              have HW5 := Lib.hid (HW.out.trans (hB5.mono HW.out.size))
              have HR5 := Lib.hid hr5
              clear hp5 hB5 hr5 hd
              go_wp2_with fail
              go_roundw
              case rel => exact ⟨k + 1, by omega, by go_num, HP5.out.next hkc (by omega) HR5.out, mb_far HM5.out (by omega) (fun a ha => by have := HRL.out a ha; omega), Below.setCell (p := ⟨Gb, k, none⟩) HW5.out hgb _⟩
              case measure => simp [intOf]; omega
            · obtain rfl : k = c' := by omega
              have hfin := hp.mat
              go_wp2_with fail
              go_ret2
              exact ⟨Gb, _, rfl, hfin, fun a b => HG.out.lt _ _, fun a b ha hb => gj_end HG.out a b ha hb, hw⟩
end Go.Proofs.Ytlimlmfgeaokhaa
