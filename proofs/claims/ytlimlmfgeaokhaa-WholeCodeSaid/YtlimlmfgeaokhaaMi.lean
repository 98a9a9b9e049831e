/- The walk of design.Complete. The walk of design.Choose where no plane has the number of disks. The walk of design.formed. Rows of ints; sums; how often two disks share a group. The walk of design.Check. The walks of layout's numbers: data, groups, has, home. Families of rows in blocks of their own; ranks. What the loops of layout.measure hold. -/
import Derived.Test.YtlimlmfgeaokhaaMh
namespace Go.Proofs.Ytlimlmfgeaokhaa
open Go.RowKit Go.Shelf
attribute [local go_sem] Oper.semAt_some

theorem Try.infoInts : (Try.prog.info? 32).map (fun i => (i.zero, i.size, i.bytes)) = some (some (.slice none 0 0), 1, 24) := by kernel_rfl
/-- the groups of a design: a row of rows -/
def Grp (w : World) (gv : Value) (L : List (List Nat)) : Prop :=
  ∃ vs : List Value, w.ownsRow 0 32 1 gv L.length vs ∧ vs.length = L.length ∧ ∀ (i : Nat) (P : List Nat), L[i]? = some P → ∃ v, vs[i]? = some v ∧ w.ownsRow 0 3 1 v P.length (il P)
/-- one slice more, in a region that draws -/
theorem stepG {w : World} {ops : Array Oper} {o : Oper} {a : Act} {K : Act → World → Prop} {Q : Exit → Act → World → Prop} {E : Prop} (hgd : o.guard = none) (s x : Operand)
    (ho : o.op = .call { callee := .builtin .append, args := #[s, x], argTypes := #[42, 42] })
    (base : Nat) (v : Value) (n : Nat) (vs : List Value) (u : Value) (hu : u.oneCell' = true) (hs : a.eval s = v) (hown : w.ownsRow base 32 1 v n vs) (B : Nat) (hx : a.eval x = .slice (some ⟨B, 0, none⟩) 1 1)
    (hb : w.heap[B]? = some (.cells #[u] 32 (0, 0))) (hn : n ≤ 1000000) (hbase : base ≤ w.heap.size) (H : Nat) (hH : w.heap.size = H)
    (K' : ∀ g cap w', w'.ownsRow base 32 1 (.slice (some ⟨g, 0, none⟩) (n + 1) cap) (n + 1) (vs ++ [u]) → w.grownBy w' v.ownBlock → (v.ownBlock = some g ∨ g = H) → g < w'.heap.size → K (a.put o.dst (.slice (some ⟨g, 0, none⟩) (n + 1) cap)) w') :
    if Region.wanted o (yielded ops a.tmps) = true then Oper.wp Try.prog o a w K Q else E := by
  obtain ⟨i0, hi0, hz0, hz1, hz2⟩ := info_parts Try.infoInts
  exact step_append_lies w hgd s x 42 ho base 32 i0 (.slice none 0 0) 1 24 Try.underlying42 hi0 hz0 hz1 hz2 rfl (by decide) v n vs hs hown ⟨B, 0, none⟩ 1 1 [u] hx (by simp)
    (World.news_of_block (cs := #[u]) hb) (by simp [hu]) (by omega) (by unfold maxLen; omega) (by omega) hbase H hH (fun g cap w' h1 h2 h3 h4 => K' g cap w' h1 h2 h3 h4)
theorem appG {F : Fence} {nn : Nat} {w : World} {ops : Array Oper} {rest : List Oper} {o : Oper} {a : Act} {Q : Exit → Act → World → Prop} (hgd : o.guard = none) (s x : Operand)
    (ho : o.op = .call { callee := .builtin .append, args := #[s, x], argTypes := #[42, 42] })
    (base : Nat) (v : Value) (n : Nat) (vs : List Value) (u : Value) (hu : u.oneCell' = true) (hs : a.eval s = v) (hown : w.ownsRow base 32 1 v n vs) (B : Nat) (hx : a.eval x = .slice (some ⟨B, 0, none⟩) 1 1)
    (hb : w.heap[B]? = some (.cells #[u] 32 (0, 0))) (hn : n ≤ 1000000) (hbase : base ≤ w.heap.size) (H : Nat) (hH : w.heap.size = H)
    (K' : ∀ g cap w', w'.ownsRow base 32 1 (.slice (some ⟨g, 0, none⟩) (n + 1) cap) (n + 1) (vs ++ [u]) → w.grownBy w' v.ownBlock → (v.ownBlock = some g ∨ g = H) → g < w'.heap.size → wpListIn F nn Try.prog ops Q rest (a.put o.dst (.slice (some ⟨g, 0, none⟩) (n + 1) cap)) w') :
    wpListIn F nn Try.prog ops Q (o :: rest) a w := by
  obtain ⟨i0, hi0, hz0, hz1, hz2⟩ := info_parts Try.infoInts
  refine wpListIn_plain hgd fun K hK' => ?_
  obtain ⟨g, cap, w', hrun, r1, r2, r3, r4⟩ := run_append_lies (P := Try.prog) w 42 o.type base 32 i0 (.slice none 0 0) 1 24 Try.underlying42 hi0 hz0 hz1 hz2 rfl (by decide) v n vs hown ⟨B, 0, none⟩ 1 1 [u] (by simp) (World.news_of_block (cs := #[u]) hb) (by simp [hu]) (by omega) (by unfold maxLen; omega) (by omega) hbase H hH
  unfold Oper.wpIn
  refine ⟨?_, ?_⟩
  · simp [Oper.about, ho, resolve, Target.leads, Sem.run_pure]
  · rw [Oper.semAt_plain F _ _ (by rw [ho]; intro c hc'; cases hc')]
    simp [execOp, ho, resolve, invoke, builtin, hs, hx, hrun, Result.andThen]
    exact hK' _ _ (K' g cap w' r1 r2 r3 r4)
/-- a group more: what a round of Complete does to the world -/
theorem kr_push {W W2 : World} {Bd B g n : Nat} {x gv : Value} {vs : List Value} {base : Nat} {o : Obj} {ln cp : Nat} (hb : W.heap[Bd]? = some (.cells #[x, gv] 44 (0, 0))) (hr : W.ownsRow base 32 1 gv n vs) (hg : (W.alloc o).grownBy W2 gv.ownBlock) (hl : gv.ownBlock = some g ∨ g = W.heap.size + 1) :
    W2.heap[Bd]? = some (.cells #[x, gv] 44 (0, 0)) ∧ (W2.setCell ⟨Bd, 1, none⟩ (.slice (some ⟨g, 0, none⟩) ln cp)).heap[Bd]? = some (.cells #[x, .slice (some ⟨g, 0, none⟩) ln cp] 44 (0, 0)) ∧
    (∀ k, k < W.heap.size → k ≠ Bd → some k ≠ gv.ownBlock → (W2.setCell ⟨Bd, 1, none⟩ (.slice (some ⟨g, 0, none⟩) ln cp)).heap[k]? = W.heap[k]?) ∧
    Kr Bd B W (W2.setCell ⟨Bd, 1, none⟩ (.slice (some ⟨g, 0, none⟩) ln cp)) := by
  have hlt := (Array.getElem?_eq_some_iff.1 hb).1
  have hne : some Bd ≠ gv.ownBlock := fun e => by
    obtain ⟨cur, hc⟩ := own_at hr e.symm
    rw [hb] at hc
    injection hc with hc
    injection hc with _ h2
    exact absurd h2 (by decide)
  have h1 : W2.heap[Bd]? = some (.cells #[x, gv] 44 (0, 0)) := (hg.block Bd (by simp; omega) hne).trans ((Below.heap_alloc W o Bd hlt).trans hb)
  have hsz : W.heap.size ≤ W2.heap.size := by have := hg.size; simp at this; omega
  have h2 : (W2.setCell ⟨Bd, 1, none⟩ (.slice (some ⟨g, 0, none⟩) ln cp)).heap[Bd]? = some (.cells #[x, .slice (some ⟨g, 0, none⟩) ln cp] 44 (0, 0)) := by
    rw [heap_setCell_same _ _ _ _ _ _ h1]
    rfl
  have h3 : ∀ k, k < W.heap.size → k ≠ Bd → some k ≠ gv.ownBlock → (W2.setCell ⟨Bd, 1, none⟩ (.slice (some ⟨g, 0, none⟩) ln cp)).heap[k]? = W.heap[k]? := fun k hk h h' =>
    (Below.heap_setCell _ _ _ _ h).trans ((hg.block k (by simp; omega) h').trans (Below.heap_alloc W o k hk))
  refine ⟨h1, h2, h3, ⟨by simpa using hsz, ?_, ?_, ?_⟩⟩
  · rintro k hk hf (rfl | ⟨y, l2, c2, e⟩)
    · exact hf (.inl rfl)
    · rw [h2] at e
      injection e with e
      injection e with e _ _
      obtain ⟨_, rfl, _, _⟩ : _ ∧ g = k ∧ _ ∧ _ := by simpa using e
      rcases hl with hl | hl
      · rcases hr.2 with ⟨rfl, _⟩ | ⟨g', cap', cur, rfl, _⟩
        · cases hl
        · cases hl
          exact hf (.inr ⟨x, _, _, hb⟩)
      · omega
  · intro k o2 hf hk _
    refine (h3 k (Array.getElem?_eq_some_iff.1 hk).1 (fun e => hf (.inl e)) (fun e => ?_)).trans hk
    rcases hr.2 with ⟨rfl, _⟩ | ⟨g', cap', cur, rfl, _⟩
    · cases e
    · cases e
      exact hf (.inr ⟨x, _, _, hb⟩)
  · intro k o2 _ hk ho
    refine (h3 k (Array.getElem?_eq_some_iff.1 hk).1 (fun e => ?_) (fun e => ?_)).trans hk
    · subst e; rw [hb] at hk; cases hk; cases ho
    · obtain ⟨cur, hc⟩ := own_at hr e.symm
      rw [hk] at hc; cases hc; cases ho
/-- what the loop of Complete holds -/
structure Cj (w : World) (Bd Br v : Nat) (ys : List Pv) (W : World) : Prop where
  box : ∃ gv, W.heap[Bd]? = some (.cells #[.int .i64 (v : Nat), gv] 44 (0, 0)) ∧ W.ownsRow w.heap.size 32 1 gv ys.length (ys.map (·.1))
  rows : ∀ y ∈ ys, W.ownsRow 0 3 1 y.1 y.2.length (il y.2)
  below : Below w.heap.size w W
  res : ∃ cs, W.heap[Br]? = some (.cells cs 44 (0, 0)) ∧ cs.size = 2
theorem cj_own {w : World} {Bd Br v B : Nat} (hB : w.heap.size ≤ B) : OwnFrom B (Cj w Bd Br v) := fun ys X Y row hs hg hr => by
  have key : ∀ (i : Nat) (cur : Array Value) (t : TypeId) (fz : Nat × Nat), X.heap[i]? = some (.cells cur t fz) → Y.heap[i]? = X.heap[i]? := fun i cur t fz h =>
    hg.block i (Array.getElem?_eq_some_iff.1 h).1 (fun e' => by obtain ⟨_, o, ho, hn⟩ := hr i e'.symm; rw [h] at ho; cases ho; cases hn)
  have ks : ∀ {base size n : Nat} {e : TypeId} {v : Value} {xs : List Value}, X.ownsRow base e size v n xs → Y.ownsRow base e size v n xs := fun h => own_same h (fun g e => by obtain ⟨cur, hc⟩ := own_at h e; exact key g cur _ _ hc)
  obtain ⟨gv, h1, h2⟩ := hs.box
  obtain ⟨cs, h3, h4⟩ := hs.res
  exact ⟨⟨gv, (key _ _ _ _ h1).trans h1, ks h2⟩, fun y hy => ks (hs.rows y hy), ownFrom_below (β := Unit) (Nat.le_refl _) hB () X Y row hs.below hg hr, ⟨cs, (key _ _ _ _ h3).trans h3, h4⟩⟩
theorem cj_ft {w : World} {Bd Br v : Nat} {ys : List Pv} {W : World} (h : Cj w Bd Br v ys W) : ∀ k, Ft Bd W k → k < W.heap.size := fun k hk => by
  obtain ⟨gv, h1, h2⟩ := h.box
  rcases hk with rfl | ⟨x, ln, cp, e⟩
  · exact (Array.getElem?_eq_some_iff.1 h1).1
  · rw [h1] at e
    injection e with e
    injection e with e _ _
    obtain ⟨_, rfl⟩ : _ ∧ gv = _ := by simpa using e
    exact (h2.lt k rfl).2
theorem own_ne_box {w : World} {base size n B : Nat} {e t : TypeId} {v : Value} {xs : List Value} {cs : Array Value} (h : w.ownsRow base e size v n xs) (hb : w.heap[B]? = some (.cells cs t (0, 0))) (ht : t ≠ e) : some B ≠ v.ownBlock := fun e' => by
  obtain ⟨cur, hc⟩ := own_at h e'.symm
  rw [hb] at hc
  injection hc with hc
  injection hc with _ h2
  exact ht h2
theorem cj_next {w U w9 : World} {v g9 c9 B : Nat} {pre : List Pv} {ga : Option Addr} {gc : Nat} {xv : Value} {xl : List Nat} {o : Obj} (hc : Cj w (w.heap.size + 1) w.heap.size v pre U)
    (h1 : U.heap[w.heap.size + 1]? = some (.cells #[.int .i64 (v : Nat), .slice ga pre.length gc] 44 (0, 0))) (h3 : U.ownsRow w.heap.size 32 1 (.slice ga pre.length gc) pre.length (pre.map (·.1)))
    (hx : U.ownsRow 0 3 1 xv xl.length (il xl)) (hg : (U.alloc o).grownBy w9 (Value.slice ga pre.length gc).ownBlock) (hl : (Value.slice ga pre.length gc).ownBlock = some g9 ∨ g9 = U.heap.size + 1)
    (ho : w9.ownsRow w.heap.size 32 1 (.slice (some ⟨g9, 0, none⟩) (pre.length + 1) c9) (pre.length + 1) (pre.map (·.1) ++ [xv])) :
    Kr (w.heap.size + 1) B U (w9.setCell ⟨w.heap.size + 1, 1, none⟩ (.slice (some ⟨g9, 0, none⟩) (pre.length + 1) c9)) ∧ Cj w (w.heap.size + 1) w.heap.size v (pre ++ [(xv, xl)]) (w9.setCell ⟨w.heap.size + 1, 1, none⟩ (.slice (some ⟨g9, 0, none⟩) (pre.length + 1) c9)) := by
  obtain ⟨p1, p2, p3, p4⟩ := kr_push (B := B) (ln := pre.length + 1) (cp := c9) h1 h3 hg hl
  have ks : ∀ {base size n : Nat} {u : Value} {zs : List Value}, U.ownsRow base 3 size u n zs → (w9.setCell ⟨w.heap.size + 1, 1, none⟩ (.slice (some ⟨g9, 0, none⟩) (pre.length + 1) c9)).ownsRow base 3 size u n zs := fun h => own_same h (fun g e => by
    obtain ⟨cur, hcu⟩ := own_at h e
    exact p3 g (Array.getElem?_eq_some_iff.1 hcu).1 (fun e' => own_ne_box h h1 (by decide) (by rw [e, e'])) (own_ne_box h3 hcu (by decide)))
  have hsU := hc.below.size
  refine ⟨p4, ⟨_, p2, ?_⟩, ?_, ?_, ?_⟩
  · have e1 : (pre ++ [(xv, xl)]).length = pre.length + 1 := by simp
    have e2 : (pre ++ [(xv, xl)]).map (·.1) = pre.map (·.1) ++ [xv] := by simp
    rw [e1, e2]
    exact own_same ho (fun g e => by
      refine Below.heap_setCell _ _ _ _ (fun e' => own_ne_box ho p1 (by decide) ?_)
      rw [e, e'])
  · intro y hy
    rcases List.mem_append.1 hy with h | h
    · exact ks (hc.rows y h)
    · obtain rfl : y = (xv, xl) := by simpa using h
      exact ks hx
  · refine Below.setCell ((hc.below.alloc (by omega) o).grown hg (by simp; omega) (fun k e => (h3.lt k e).1)) (by simp) _
  · obtain ⟨cs, h5, h6⟩ := hc.res
    exact ⟨cs, (p3 _ (Array.getElem?_eq_some_iff.1 h5).1 (by omega) (own_ne_box h3 h5 (by decide))).trans h5, h6⟩
/-- the design, read out of the loop's end -/
theorem cj_grp {w U W : World} {Bd Br v : Nat} {ys : List Pv} {gv : Value} {L : List (List Nat)} (hc : Cj w Bd Br v ys U) (_h1 : U.heap[Bd]? = some (.cells #[.int .i64 (v : Nat), gv] 44 (0, 0))) (h3 : U.ownsRow w.heap.size 32 1 gv ys.length (ys.map (·.1))) (hL : ys.map (·.2) = L)
    (hW : ∀ (k : Nat) (cs : Array Value) (t : TypeId), U.heap[k]? = some (.cells cs t (0, 0)) → t ≠ 44 → W.heap[k]? = U.heap[k]?) : Grp W gv L := by
  have ks : ∀ {base size n : Nat} {u : Value} {zs : List Value} {e : TypeId}, e ≠ 44 → U.ownsRow base e size u n zs → W.ownsRow base e size u n zs := fun hne h => own_same h (fun g e => by
    obtain ⟨cur, hcu⟩ := own_at h e
    exact hW g cur _ hcu hne)
  subst hL
  refine ⟨ys.map (·.1), ?_, by simp, fun i P hP => ?_⟩
  · rw [List.length_map]
    exact own_low (ks (by decide) h3) (Nat.zero_le _)
  · rw [List.getElem?_map] at hP
    rcases hy : ys[i]? with _ | y
    · rw [hy] at hP; cases hP
    · rw [hy] at hP
      obtain rfl : y.2 = P := by simpa using hP
      exact ⟨y.1, by rw [List.getElem?_map, hy]; rfl, ks (by decide) (hc.rows y (List.mem_of_getElem? hy))⟩
set_option maxRecDepth 100000 in
set_option maxHeartbeats 4000000 in
theorem complete_any (v k : Nat) (w : World) (h2 : 2 ≤ k) (hk : k ≤ v) (hv : v ≤ 60) (hc : ∀ i, i ≤ min k (v - k) → cf v i ≤ 1099511627776) (hm : cf v (min k (v - k)) ≤ 4096) (hL : (subs v k []).length ≤ 4096) :
    Calls Try.prog 42 #[.int .i64 v, .int .i64 k] w fun e w' => ∃ gv, e = .returned (.tuple #[.agg #[.int .i64 v, gv], .int .i64 0]) ∧ Grp w' gv (subs v k []) ∧ Below w.heap.size w w' := by
  have hv2 : ¬ (v : Int) < 2 := by omega
  have hv3 : ¬ (60 : Int) < v := by omega
  have hk2 : ¬ (k : Int) < 2 := by omega
  have hk3 : ¬ (v : Int) < k := by omega
  obtain ⟨t, ht⟩ : ∃ t, t = v - k := ⟨_, rfl⟩
  have hti : (v : Int) - k = t := by omega
  rw [← ht] at hc hm
  have HT := Lib.hid ht
  have HL := Lib.hid hL
  clear ht hL
  obtain ⟨x, hx, hcs⟩ : ∃ x, x = min k t ∧ ((t : Int) < k ∧ x = t ∨ ¬ (t : Int) < k ∧ x = k) := ⟨_, rfl, by omega⟩
  rw [← hx] at hc hm
  have hct := fun W => count_any v x W (by omega) hv hc
  obtain ⟨y, hy⟩ : ∃ y, y = cf v x := ⟨_, rfl⟩
  rw [← hy] at hm hct
  have hym : ¬ (4096 : Int) < y := by omega
  clear hx hy hc
  refine (callsIn_wide (n := 0)).1 (callsIn_of_wp_marks Try.func42 rfl trivial ?_ rfl)
  simp only [Try.ntmps42, List.size_toArray, List.length_cons, List.length_nil, Nat.reduceAdd, Nat.reduceSub, Array.replicate_succ, Array.replicate_zero, List.push_toArray, List.append_toArray, List.nil_append, List.cons_append]
  rcases hcs with ⟨htk, hxt⟩ | ⟨htk, hxt⟩
  all_goals
   rw [hxt] at hct
   clear hxt
   have HCT := Lib.hid hct
   clear hct
   gi_wp2_with (first
    | (refine ⟨trivial, rfl, ?_⟩; gi_at_call 67; refine (callsIn_wide.2 (HCT.out _)).mono ?_; rintro e w1 ⟨rfl, rfl⟩)
    | (refine ⟨trivial, rfl, ?_⟩; gi_at_call 68; refine (callsIn_wide.2 (sets_any none 0 0 v k _)).mono ?_; rintro e w7 ⟨Bp', Bw', Bv', rfl, b1, b2, b3, l1, l2, l3, hb7⟩))
   obtain ⟨V, hV⟩ : ∃ V, V = (w.alloc (Obj.cells #[.int .i64 0, .slice none 0 0] 44)).alloc (.cells #[.int .i64 v, .slice none 0 0] 44) := ⟨_, rfl⟩
   rw [← hV] at hb7 l1 l2 l3
   have hVs : V.heap.size = w.heap.size + 2 := by rw [hV]; simp
   have hVb : Below w.heap.size w V := by rw [hV]; exact ((Below.refl _ w).alloc (Nat.le_refl _) _).alloc (by simp) _
   have hd0 : V.heap[w.heap.size + 1]? = some (.cells #[.int .i64 v, .slice none 0 0] 44 (0, 0)) := by
     rw [hV]; have := World.alloc_heap_new (w.alloc (Obj.cells #[.int .i64 0, .slice none 0 0] 44)) (.cells #[.int .i64 v, .slice none 0 0] 44); rwa [World.size_alloc] at this
   have hr0 : V.heap[w.heap.size]? = some (.cells #[.int .i64 0, .slice none 0 0] 44 (0, 0)) := by
     rw [hV]; exact (Below.heap_alloc _ _ _ (by simp)).trans (World.alloc_heap_new w _)
   have hb7' : Below w.heap.size w w7 := hVb.trans (hb7.mono (by omega))
   have hd7 := (hb7.block _ (by omega)).trans hd0
   have hr7 := (hb7.block _ (by omega)).trans hr0
   have hcj0 : Cj w (w.heap.size + 1) w.heap.size v [] w7 := ⟨⟨_, hd7, World.ownsRow_nil _ _ _ _⟩, (fun y hy => by cases hy), hb7', _, hr7, rfl⟩
   have hft : ∀ x, V.heap.size ≤ x → ¬ Ft (w.heap.size + 1) w7 x := fun x hx h => by
     rcases h with h | ⟨y, ln, cp, h⟩
     · omega
     · rw [hd7] at h
       simp at h
   have hsq := sets_all v k (w.heap.size + 1) hv hk (by omega) k [] (by simp) (fun x hx => by cases hx) w7 Bp' Bw' Bv' (.slice none 0 0) (Array.getElem?_eq_some_iff.1 hd7).1 b1 b2 b3 (World.ownsRow_nil _ _ _ _) (fun _ => rfl) (hft _ l1) (hft _ l2) (hft _ l3) (fun g e => by cases e)
   have hs7 : w.heap.size + 2 ≤ w7.heap.size := by have := hb7.size; omega
   have HSQ := Lib.hid hsq
   have HCJ := Lib.hid hcj0
   clear hsq hcj0 hft hd0 hr0 hd7 hr7 hVb hb7 hb7' b1 b2 b3 hV
   refine range_all (gf := 81) (I := Cj w (w.heap.size + 1) w.heap.size v) (by rfl) (fun _ _ => rfl) HSQ.out (Below.refl _ _) (fun _ => rfl) (by omega) (cj_own (by omega)) (hs_own _) (fun pre W1 h => cj_ft h) HCJ.out ?_ ?_ ?_ ?_
   case refine_2 =>
     intro l' m' x U K' hK'
     gi_wp2
     exact hK'
   case refine_3 =>
     rintro l' m' pre ⟨xv, xl⟩ U ⟨post, hpost⟩ hcj hx
     have hlen : pre.length < 4096 := by
       have h1 := congrArg List.length hpost
       have h2 := HL.out
       simp at h1
       omega
     obtain ⟨gv, h1, h3⟩ := hcj.box
     have cG : U.cell? ⟨w.heap.size + 1, 1, none⟩ = some gv := cell_of_row U _ 1 _ _ _ h1
     have hx' : U.ownsRow 0 3 1 xv xl.length (il xl) := hx
     obtain ⟨xa, xc, rfl⟩ := own_form hx'
     obtain ⟨ga, gc, rfl⟩ := own_form h3
     have hown : (U.alloc (.cells #[.slice xa xl.length xc] 32)).ownsRow w.heap.size 32 1 (.slice ga pre.length gc) pre.length (pre.map (·.1)) := h3.alloc _
     have HO := Lib.hid hown
     have HN := Lib.hid hlen
     have hwU : w.heap.size ≤ U.heap.size := hcj.below.size
     have HW := Lib.hid hwU
     have hpush := fun (g cap : Nat) (W2 : World) (hg : (U.alloc (.cells #[.slice xa xl.length xc] 32)).grownBy W2 (Value.slice ga pre.length gc).ownBlock) (hl : (Value.slice ga pre.length gc).ownBlock = some g ∨ g = U.heap.size + 1) => kr_push (B := w7.heap.size) (ln := pre.length + 1) (cp := cap) h1 h3 hg hl
     have HP := Lib.hid hpush
     have H1 := Lib.hid h1
     have H3 := Lib.hid h3
     have HX := Lib.hid hx'
     have HC := Lib.hid hcj
     clear hown hlen hwU hpush h1 h3 hx' hx hcj hpost
     gi_wp2_with (gi_at_builtin; refine appG rfl (.tmp 40) (.tmp 42) rfl w.heap.size (.slice ga pre.length gc) pre.length (pre.map (·.1)) (.slice xa xl.length xc) rfl rfl HO.out U.heap.size rfl (World.alloc_heap_new U _) (by have := HN.out; omega) (by have := HW.out; simp; omega) (U.heap.size + 1) (by simp) ?_; intro g9 c9 w9 ho9 hg9 hl9 hlt9; have hp9 := HP.out g9 c9 w9 hg9 hl9; have c9' := cell_of_row w9 _ 1 _ _ _ hp9.1; have f9' := frozen_of_row w9 _ 1 _ _ hp9.1)
     exact cj_next HC.out H1.out H3.out HX.out hg9 hl9 ho9
   case refine_4 =>
     rintro D ys U hD hys hcj hdf
     obtain ⟨gv, h1, h3⟩ := hcj.box
     obtain ⟨cs, h5, h6⟩ := hcj.res
     have a0 := cell_of_row U _ 0 _ _ _ h1
     have a1 := cell_of_row U _ 1 _ _ _ h1
     have hsU := hcj.below.size
     obtain ⟨k0, k1, rfl⟩ : ∃ k0 k1, cs = #[k0, k1] := by
       obtain ⟨l⟩ := cs
       match l, h6 with
       | [x, y], _ => exact ⟨x, y, rfl⟩
     have b0 := cell_of_row U _ 0 _ _ _ h5
     have b1 := cell_of_row U _ 1 _ _ _ h5
     have c0 := frozen_of_row U _ 0 _ _ h5
     have c1 := frozen_of_row U _ 1 _ _ h5
     have H5 := Lib.hid h5
     have HC := Lib.hid hcj
     have HYS := Lib.hid hys
     obtain ⟨ga, gc, rfl⟩ := own_form h3
     have H1 := Lib.hid h1
     have H3 := Lib.hid h3
     have HDF := Lib.hid hdf
     clear h1 h3 h5 h6 hcj hys hdf
     gi_wp2
     obtain ⟨W3, hW3⟩ : ∃ W3, W3 = (U.setCell ⟨w.heap.size, 0, none⟩ (.int .i64 v)).setCell ⟨w.heap.size, 1, none⟩ (.slice ga ys.length gc) := ⟨_, rfl⟩
     rw [← hW3]
     have hk3 : ∀ k, k ≠ w.heap.size → W3.heap[k]? = U.heap[k]? := fun k hk => by rw [hW3]; exact (Below.heap_setCell _ _ _ _ hk).trans (Below.heap_setCell _ _ _ _ hk)
     have hr3 : W3.heap[w.heap.size]? = some (.cells #[.int .i64 v, .slice ga ys.length gc] 44 (0, 0)) := by
       rw [hW3, heap_setCell_same _ _ _ _ _ _ (heap_setCell_same _ _ _ _ _ _ H5.out)]
       rfl
     have hb3 : Below w.heap.size w W3 := by rw [hW3]; exact (HC.out.below.setCell (Nat.le_refl _) _).setCell (Nat.le_refl _) _
     have hsz3 : W3.heap.size = U.heap.size := by rw [hW3]; simp
     clear hW3
     have hdf3 := (hk3 D (by omega)).trans HDF.out
     have hr4 : (W3.putObj D (.deferred none)).heap[w.heap.size]? = _ := (World.putObj_heap_other (by omega)).trans hr3
     have r0 := cell_of_row _ _ 0 _ _ _ hr4
     have r1 := cell_of_row _ _ 1 _ _ _ hr4
     have hb4 : Below w.heap.size w (W3.putObj D (.deferred none)) := hb3.trans (belowK_b (w := w) (Nat.le_refl _) W3 D _ _ (by omega) hdf3 rfl rfl)
     have hgr : Grp (W3.putObj D (.deferred none)) (.slice ga ys.length gc) (subs v k []) := cj_grp HC.out H1.out H3.out HYS.out (fun k cs t h ht => (World.putObj_heap_other (fun e => by subst e; rw [HDF.out] at h; cases h)).trans (hk3 k (fun e => by subst e; rw [H5.out] at h; injection h with h; injection h with _ h; exact ht h.symm)))
     refine ⟨by simp, .inl ⟨_, _, rfl, run_takeDeferred hdf3, ?_⟩⟩
     exact ⟨.tuple #[.agg #[.int .i64 v, .slice ga ys.length gc], .int .i64 0], by simp [results, Try.results42, go_sem, r0, r1], _, rfl, hgr, hb4⟩
end Go.Proofs.Ytlimlmfgeaokhaa
namespace Go.Proofs.Ytlimlmfgeaokhaa
open Go.RowKit Go.Shelf

theorem run_store_func {P : Program} {w : World} {a : Addr} {m : Mode} (f : Fn) (x y : Array Value) : (store a (.func f x y) m).run P w = stored P w a (.func f x y) m := run_store P w a _ m rfl
attribute [local go_sem] run_store_func
theorem grp_form {w : World} {gv : Value} {L : List (List Nat)} (h : Grp w gv L) : ∃ A c, gv = .slice A L.length c := own_form h.choose_spec.1
theorem Grp.kept {w w' : World} {gv : Value} {L : List (List Nat)} (h : Grp w gv L) (hW : ∀ (k : Nat) (cs : Array Value) (t : TypeId), w.heap[k]? = some (.cells cs t (0, 0)) → t ≠ 44 → w'.heap[k]? = w.heap[k]?) : Grp w' gv L := by
  have ks : ∀ {base size n : Nat} {u : Value} {zs : List Value} {e : TypeId}, e ≠ 44 → w.ownsRow base e size u n zs → w'.ownsRow base e size u n zs := fun hne h => own_same h (fun g e => by
    obtain ⟨cur, hcu⟩ := own_at h e
    exact hW g cur _ hcu hne)
  obtain ⟨vs, h1, h2, h3⟩ := h
  exact ⟨vs, ks (by decide) h1, h2, fun i P hP => by obtain ⟨v, a, b⟩ := h3 i P hP; exact ⟨v, a, ks (by decide) b⟩⟩
theorem Grp.below {w w' : World} {gv : Value} {L : List (List Nat)} (h : Grp w gv L) (hB : Below w.heap.size w w') : Grp w' gv L := h.kept (fun k _ _ hk _ => hB.block k (Array.getElem?_eq_some_iff.1 hk).1)
set_option maxRecDepth 100000 in
set_option maxHeartbeats 4000000 in
theorem choose_complete (v k : Nat) (w : World) (h4 : 4 ≤ k) (h16 : k ≤ 16) (hk : k ≤ v) (hv : v ≤ 60) (hp : v + k ≠ k * k + 1) (ha : v ≠ k * k) (hc : ∀ i, i ≤ min k (v - k) → cf v i ≤ 1099511627776) (hm : cf v (min k (v - k)) ≤ 4096) (hL : (subs v k []).length ≤ 4096) :
    Calls Try.prog 21 #[.int .i64 v, .int .i64 k] w fun e w' => ∃ gv, e = .returned (.tuple #[.agg #[.int .i64 v, gv], .int .i64 0]) ∧ Grp w' gv (subs v k []) ∧ Below w.heap.size w w' := by
  have hco := fun W => complete_any v k W (by omega) hk hv hc hm hL
  have hk4 : ¬ (k : Int) < 4 := by omega
  have hk16 : ¬ (16 : Int) < k := by omega
  have hkv : ¬ (v : Int) < k := by omega
  have hv60 : ¬ (60 : Int) < v := by omega
  obtain ⟨q, hq⟩ : ∃ q, q = k * k := ⟨_, rfl⟩
  have hqi : (k : Int) * k = q := by rw [hq]; simp
  have hq4 : q ≤ 256 := by rw [hq]; exact Nat.mul_le_mul h16 h16
  have hqk : k ≤ q := by rw [hq]; exact Nat.le_mul_of_pos_left k (by omega)
  rw [← hq] at hp ha
  have hp' : ¬ ((q : Int) - k + 1 = v) := by omega
  have ha' : ¬ ((q : Int) = v) := by omega
  have HCO := Lib.hid hco
  clear hco hc hm hL hq hp ha
  go_enter Try.func21, Try.ntmps21
  go_wp2_with fail
  obtain ⟨kk, hkk⟩ : ∃ kk : Array Value, kk = #[.int .i64 ((q : Int) - k + 1), .int .i64 ((k : Int) - 1), .func (.func 40) #[] #[], .int .i64 q, .int .i64 k, .func (.func 41) #[] #[]] := ⟨_, rfl⟩
  rw [← hkk]
  obtain ⟨V, hV⟩ : ∃ V, V = (w.alloc (Obj.cells #[.int .i64 0, .slice none 0 0] 44)).alloc (.cells kk 86) := ⟨_, rfl⟩
  rw [← hV]
  have hVs : V.heap.size = w.heap.size + 2 := by rw [hV]; simp
  have hVb : Below w.heap.size w V := by rw [hV]; exact ((Below.refl _ w).alloc (Nat.le_refl _) _).alloc (by simp) _
  have hd0 : V.heap[w.heap.size + 1]? = some (.cells kk 86 (0, 0)) := by
    rw [hV]; have := World.alloc_heap_new (w.alloc (Obj.cells #[.int .i64 0, .slice none 0 0] 44)) (.cells kk 86); rwa [World.size_alloc] at this
  have hr0 : V.heap[w.heap.size]? = some (.cells #[.int .i64 0, .slice none 0 0] 44 (0, 0)) := by
    rw [hV]; exact (Below.heap_alloc _ _ _ (by simp)).trans (World.alloc_heap_new w _)
  clear hV
  have HK := Lib.hid hkk
  go_loopw [44] (fun vi wr => ∃ i : Nat, i ≤ 2 ∧ vi = .int .i64 i ∧ Below V.heap.size V wr) (fun vi _ => 2 - (intOf vi).toNat)
  case atStart => exact ⟨0, by omega, rfl, Below.refl _ _⟩
  case round =>
    obtain ⟨i, hi, rfl, hB⟩ := hrel
    have hd1 := (hB.block _ (by omega)).trans hd0
    have HB := Lib.hid hB
    rw [HK.out] at hd1
    have a0 := cell_of_row wr _ 0 _ _ _ hd1
    have a1 := cell_of_row wr _ 1 _ _ _ hd1
    have a2 := cell_of_row wr _ 2 _ _ _ hd1
    have a3 := cell_of_row wr _ 3 _ _ _ hd1
    have a4 := cell_of_row wr _ 4 _ _ _ hd1
    have a5 := cell_of_row wr _ 5 _ _ _ hd1
    have hr1 := (hB.block _ (by omega)).trans hr0
    have b0 := cell_of_row wr _ 0 _ _ _ hr1
    have b1 := cell_of_row wr _ 1 _ _ _ hr1
    have c0 := frozen_of_row wr _ 0 _ _ hr1
    have c1 := frozen_of_row wr _ 1 _ _ hr1
    have HR1 := Lib.hid hr1
    clear hd1 hr1 hB hd0 hr0
    rcases (show i = 0 ∨ i = 1 ∨ i = 2 by omega) with rfl | rfl | rfl
    · go_wp2_with fail
      exact ⟨⟨1, by omega, rfl, HB.out.alloc HB.out.size _⟩, by simp [intOf]⟩
    · go_wp2_with fail
      exact ⟨⟨2, by omega, rfl, HB.out.alloc HB.out.size _⟩, by simp [intOf]⟩
    · have hb1' : ∀ w1 : World, Below wr.heap.size wr w1 → w1.heap[w.heap.size]? = some (.cells #[.int .i64 0, .slice none 0 0] 44 (0, 0)) := fun w1 h => (h.block _ (Array.getElem?_eq_some_iff.1 HR1.out).1).trans HR1.out
      go_wp2_with (go_at_call 42; (with_reducible refine (HCO.out _).mono ?_); rintro e w1 ⟨gv, rfl, hg1, hb1⟩; obtain ⟨A, c, rfl⟩ := grp_form hg1; have hr2 := hb1' _ hb1; have b0 := cell_of_row w1 _ 0 _ _ _ hr2; have b1 := cell_of_row w1 _ 1 _ _ _ hr2; have c0 := frozen_of_row w1 _ 0 _ _ hr2; have c1 := frozen_of_row w1 _ 1 _ _ hr2)
      have r0 := heap_setCell_same w1 w.heap.size 0 _ _ (.int .i64 (v : Int)) hr2
      have r1 := heap_setCell_same _ w.heap.size 1 _ _ (.slice A (subs v k []).length c) r0
      obtain ⟨W3, hW3⟩ : ∃ W3, W3 = (w1.setCell ⟨w.heap.size, 0, none⟩ (.int .i64 v)).setCell ⟨w.heap.size, 1, none⟩ (.slice A (subs v k []).length c) := ⟨_, rfl⟩
      rw [← hW3] at r1 ⊢
      have hk3 : ∀ x, x ≠ w.heap.size → W3.heap[x]? = w1.heap[x]? := fun x hx => by rw [hW3]; exact (Below.heap_setCell _ _ _ _ hx).trans (Below.heap_setCell _ _ _ _ hx)
      have hwr : w.heap.size ≤ wr.heap.size := by have := HB.out.size; omega
      have hb3 : Below w.heap.size w W3 := by rw [hW3]; exact ((((hVb.trans (HB.out.mono (by omega)))).trans (hb1.mono hwr)).setCell (Nat.le_refl _) _).setCell (Nat.le_refl _) _
      have e0 := cell_of_row _ _ 0 _ _ _ r1
      have e1 := cell_of_row _ _ 1 _ _ _ r1
      refine bodyPost_ret (v := .tuple #[.agg #[.int .i64 v, .slice A (subs v k []).length c], .int .i64 0]) (by simp [results, Try.results21, go_sem, e0, e1]) rfl ⟨_, rfl, hg1.kept (fun x cs t h ht => hk3 x (fun e => by subst e; rw [hr2] at h; injection h with h; injection h with _ h; exact ht h.symm)), hb3⟩
end Go.Proofs.Ytlimlmfgeaokhaa
namespace Go.Proofs.Ytlimlmfgeaokhaa
open Go.RowKit

/-- n rows of k numbers -/
def GM (w : World) (A : Option Addr) (n k : Nat) (G : Nat → Nat → Nat) : Prop := ∃ b off : Nat, A = some ⟨b, off, none⟩ ∧ ∀ i : Nat, i < n → ∃ rb ro rc : Nat, w.cell? ⟨b, off + i, none⟩ = some (.slice (some ⟨rb, ro, none⟩) k rc) ∧ ∀ j : Nat, j < k → w.cell? ⟨rb, ro + j, none⟩ = some (.int .i64 (G i j : Nat))
theorem GM.below {w w' : World} {A : Option Addr} {n k : Nat} {G : Nat → Nat → Nat} (h : GM w A n k G) (hB : Below w.heap.size w w') : GM w' A n k G := by
  obtain ⟨b, off, rfl, h⟩ := h
  refine ⟨b, off, rfl, fun i hi => ?_⟩
  obtain ⟨rb, ro, rc, h1, h2⟩ := h i hi
  exact ⟨rb, ro, rc, (hB.cell (World.block_lt_of_cell? w _ h1)).trans h1, fun j hj => (hB.cell (World.block_lt_of_cell? w _ (h2 j hj))).trans (h2 j hj)⟩
theorem GM.row {w : World} {b off n k : Nat} {G : Nat → Nat → Nat} (h : GM w (some ⟨b, off, none⟩) n k G) (i : Nat) (hi : i < n) : ∃ rb ro rc : Nat, w.cell? ⟨b, off + i, none⟩ = some (.slice (some ⟨rb, ro, none⟩) k rc) ∧ ∀ j : Nat, j < k → w.cell? ⟨rb, ro + j, none⟩ = some (.int .i64 (G i j : Nat)) := by
  obtain ⟨b', off', e, h⟩ := h
  cases e
  exact h i hi
/-- what formed looks for -/
structure Fd (n k v : Nat) (G : Nat → Nat → Nat) : Prop where
  v1 : 2 ≤ v
  v2 : v ≤ 60
  n1 : 1 ≤ n
  n2 : n ≤ 4096
  k1 : 2 ≤ k
  k2 : k ≤ 60
  lt : ∀ i, i < n → ∀ j, j < k → G i j < v
  inc : ∀ i, i < n → ∀ j, j + 1 < k → G i j < G i (j + 1)
set_option maxRecDepth 100000 in
set_option maxHeartbeats 4000000 in
theorem formed_any (G : Nat → Nat → Nat) (A : Option Addr) (n k v c : Nat) (w : World) (hF : Fd n k v G) (hG : GM w A n k G) :
    Calls Try.prog 34 #[.agg #[.int .i64 v, .slice A n c]] w fun e w' => e = .returned (.bool true) ∧ Below w.heap.size w w' := by
  have HF := Lib.hid hF
  have HG := Lib.hid hG
  obtain ⟨b, off, rfl, _⟩ := id hG
  have hv2 : ¬ (v : Int) < 2 := by have := hF.v1; omega
  have hv3 : ¬ (60 : Int) < v := by have := hF.v2; omega
  have hn2 : ¬ (n : Int) < 1 := by have := hF.n1; omega
  have hn3 : ¬ (4096 : Int) < n := by have := hF.n2; omega
  have hk2 : ¬ (k : Int) < 2 := by have := hF.k1; omega
  have hk60 : k ≤ 60 := hF.k2
  have hn0 : (0 : Int) < n := by have := hF.n1; omega
  obtain ⟨r0, o0, c0, h0, _⟩ := hG.row 0 hF.n1
  rw [Nat.add_zero] at h0
  have hlt := World.block_lt_of_cell? w _ h0
  clear hF hG
  go_enter Try.func34, Try.ntmps34
  go_wp2_with fail
  obtain ⟨V, hV⟩ : ∃ V, V = w.alloc (.cells #[.int .i64 v, .slice (some ⟨b, off, none⟩) n c] 44) := ⟨_, rfl⟩
  rw [← hV]
  have hVb : Below w.heap.size w V := by rw [hV]; exact (Below.refl _ w).alloc (Nat.le_refl _) _
  have hx0 : V.heap[w.heap.size]? = some (.cells #[.int .i64 v, .slice (some ⟨b, off, none⟩) n c] 44 (0, 0)) := by rw [hV]; exact World.alloc_heap_new w _
  have x0 := cell_of_row V _ 0 _ _ _ hx0
  have x1 := cell_of_row V _ 1 _ _ _ hx0
  have h0V : V.cell? ⟨b, off, none⟩ = some (.slice (some ⟨r0, o0, none⟩) k c0) := (hVb.cell hlt).trans h0
  have HGV := Lib.hid (HG.out.below hVb)
  have HX := Lib.hid hVb
  clear hV h0 hx0 hVb
  go_loopw [38] (fun vi wr => ∃ i : Nat, i ≤ n ∧ vi = .int .i64 i ∧ V = wr) (fun vi _ => n - (intOf vi).toNat)
  case atStart => exact ⟨0, by omega, rfl, rfl⟩
  case round =>
    obtain ⟨i, hi, rfl, rfl⟩ := hrel
    by_cases hlt2 : i < n
    · obtain ⟨rb, ro, rc, r1, r2⟩ := HGV.out.row i hlt2
      have HR := Lib.hid r2
      clear r2
      have hlti : (i : Int) < n := by omega
      go_wp2_with fail
      go_loopw [52] (fun vj wr => ∃ j : Nat, j ≤ k ∧ vj = .int .i64 j ∧ V = wr) (fun vj _ => k - (intOf vj).toNat)
      case atStart => exact ⟨0, by omega, rfl, rfl⟩
      case round =>
        obtain ⟨j, hj, rfl, rfl⟩ := hrel
        by_cases hjk : j < k
        · have hjki : (j : Int) < k := by omega
          have c1 := HR.out j hjk
          have hl1 := HF.out.lt i hlt2 j hjk
          obtain ⟨y, hy⟩ : ∃ y, y = G i j := ⟨_, rfl⟩
          rw [← hy] at c1 hl1
          have hyv : ¬ (v : Int) ≤ y := by omega
          rcases Nat.eq_zero_or_pos j with hj0 | hj0
          · have hj0i : ¬ (0 : Int) < j := by omega
            clear hj0 hy
            go_wp2_with fail
            go_roundw
            case rel => exact ⟨j + 1, by omega, by go_num, by trivial⟩
            case measure => simp [intOf]; omega
          · have hj0i : (0 : Int) < j := by omega
            obtain ⟨z, hz⟩ : ∃ z : Nat, (j : Int) - 1 = z := ⟨j - 1, by omega⟩
            have hzk : z < k := by omega
            have hzki : (z : Int) < k := by omega
            have c2 := HR.out z hzk
            have hinc := HF.out.inc i hlt2 z (by omega)
            rw [show z + 1 = j by omega, ← hy] at hinc
            obtain ⟨y2, hy2⟩ : ∃ y2, y2 = G i z := ⟨_, rfl⟩
            rw [← hy2] at c2 hinc
            have hyz : ¬ (y : Int) ≤ y2 := by omega
            clear hy hy2 hj0 hinc
            go_wp2_with fail
            go_roundw
            case rel => exact ⟨j + 1, by omega, by go_num, by trivial⟩
            case measure => simp [intOf]; omega
        · obtain rfl : j = k := by omega
          go_wp2_with fail
          go_roundw
          case rel => exact ⟨i + 1, by omega, by go_num, by trivial⟩
          case measure => simp [intOf]; omega
    · obtain rfl : i = n := by omega
      go_wp2_with fail
      go_ret
      exact ⟨rfl, HX.out⟩
end Go.Proofs.Ytlimlmfgeaokhaa
namespace Go.Proofs.Ytlimlmfgeaokhaa
open Go.RowKit

/-- a row of n ints -/
def irow (n : Nat) (f : Nat → Nat) : Array Value := ((List.range n).map fun j => Value.int .i64 (f j : Nat)).toArray
theorem irow_get (n : Nat) (f : Nat → Nat) (j : Nat) (h : j < n) : (irow n f)[j]? = some (.int .i64 (f j : Nat)) := by simp [irow, h]
theorem irow_congr {n : Nat} {f f' : Nat → Nat} (he : ∀ j, j < n → f j = f' j) : irow n f = irow n f' := by
  unfold irow
  congr 1
  exact List.map_congr_left (fun j hj => by rw [he j (by simpa using hj)])
def IB (w : World) (g n : Nat) (t : TypeId) (f : Nat → Nat) : Prop := w.heap[g]? = some (.cells (irow n f) t (0, 0))
theorem IB.cell {w : World} {g n : Nat} {t : TypeId} {f : Nat → Nat} (h : IB w g n t f) (j : Nat) (hj : j < n) : w.cell? ⟨g, j, none⟩ = some (.int .i64 (f j : Nat)) := (cell_of_row w _ j _ _ _ h).trans (irow_get n f j hj)
theorem IB.frozen {w : World} {g n : Nat} {t : TypeId} {f : Nat → Nat} (h : IB w g n t f) (j : Nat) : w.frozen? ⟨g, j, none⟩ = false := frozen_of_row w _ j _ _ h
theorem IB.lt {w : World} {g n : Nat} {t : TypeId} {f : Nat → Nat} (h : IB w g n t f) : g < w.heap.size := (Array.getElem?_eq_some_iff.1 h).1
theorem IB.below {w w' : World} {g n : Nat} {t : TypeId} {f : Nat → Nat} (h : IB w g n t f) (hB : Below w.heap.size w w') : IB w' g n t f := (hB.block g h.lt).trans h
theorem IB.congr {w : World} {g n : Nat} {t : TypeId} {f f' : Nat → Nat} (h : IB w g n t f) (he : ∀ j, j < n → f j = f' j) : IB w g n t f' := by
  rw [IB, ← irow_congr he]; exact h
theorem IB.far {w : World} {g n g' i : Nat} {t : TypeId} {f : Nat → Nat} (h : IB w g n t f) (v : Value) (hne : g' ≠ g) : IB (w.setCell ⟨g', i, none⟩ v) g n t f :=
  (Below.heap_setCell w _ v g (fun e => hne e.symm)).trans h
theorem IB.set {w : World} {g n : Nat} {t : TypeId} {f f' : Nat → Nat} {i v : Nat} (h : IB w g n t f) (hv : f' i = v) (he : ∀ j, j < n → j ≠ i → f j = f' j) : IB (w.setCell ⟨g, i, none⟩ (.int .i64 (v : Int))) g n t f' := by
  have : (irow n f).setIfInBounds i (.int .i64 (v : Int)) = irow n f' := by
    apply Array.ext_getElem?
    intro j
    rw [Array.getElem?_setIfInBounds]
    by_cases hj : j < n
    · by_cases e : i = j
      · subst e; subst hv; simp [irow, hj]
      · rw [if_neg e, irow_get n f j hj, irow_get n f' j hj, he j hj (fun h => e h.symm)]
    · by_cases e : i = j
      · subst e; simp [irow, hj]
      · simp [irow, hj, e]
  rw [IB, ← this]
  exact heap_setCell_same w g i _ _ _ h
theorem IB.new {w : World} {n : Nat} {t : TypeId} {f : Nat → Nat} : IB (w.alloc (.cells (irow n f) t)) w.heap.size n t f := heap_alloc_new w _
theorem IB.alloc {w : World} {g n : Nat} {t : TypeId} {f : Nat → Nat} (h : IB w g n t f) (o : Obj) : IB (w.alloc o) g n t f := (Below.heap_alloc w o g h.lt).trans h
theorem IB.lit {w : World} {cs : Array Value} {n : Nat} {t : TypeId} {f : Nat → Nat} (h : cs = irow n f) : IB (w.alloc (.cells cs t)) w.heap.size n t f := by rw [h]; exact IB.new
/-- the sum of the first n -/
def sm (f : Nat → Nat) : Nat → Nat
  | 0 => 0
  | n + 1 => sm f n + f n
theorem sm_le {f : Nat → Nat} {b n : Nat} (h : ∀ i, i < n → f i ≤ b) : sm f n ≤ n * b := by
  induction n with
  | zero => simp [sm]
  | succ n ih => rw [sm, Nat.succ_mul]; exact Nat.add_le_add (ih (fun i hi => h i (by omega))) (h n (by omega))
/-- how many of the pairs (j, y) of group i, y < m, lie at place p -/
def c3 (G : Nat → Nat → Nat) (i j p m : Nat) : Nat := sm (fun y => if p = G i j * 60 + G i y then 1 else 0) m
def c2 (G : Nat → Nat → Nat) (k i p j : Nat) : Nat := sm (fun x => c3 G i x p k) j
def c1 (G : Nat → Nat → Nat) (k p n : Nat) : Nat := sm (fun i => c2 G k i p k) n
theorem c3_le (G : Nat → Nat → Nat) (i j p m : Nat) : c3 G i j p m ≤ m := by
  have := sm_le (f := fun y => if p = G i j * 60 + G i y then 1 else 0) (b := 1) (n := m) (fun i _ => by split <;> omega)
  unfold c3; omega
theorem c2_le (G : Nat → Nat → Nat) (k i p j : Nat) : c2 G k i p j ≤ j * k := sm_le (fun x _ => c3_le G i x p k)
theorem c1_le (G : Nat → Nat → Nat) (k p n : Nat) : c1 G k p n ≤ n * (k * k) := sm_le (fun i _ => c2_le G k i p k)
theorem Try.z76 : Try.zeroCells76 = irow 3600 (fun _ => 0) := by kernel_rfl
end Go.Proofs.Ytlimlmfgeaokhaa
namespace Go.Proofs.Ytlimlmfgeaokhaa
open Go.RowKit

/-- what is counted: the groups before i, the rows before j of group i, the pairs before m of row j -/
def shc (G : Nat → Nat → Nat) (k i j m p : Nat) : Nat := c1 G k p i + c2 G k i p j + c3 G i j p m
theorem below_drewN {B : Nat} {a w : World} (h : Below B a w) (n : Nat) : Below B a (w.drewN n) := ⟨h.os, h.tape, h.output, h.size, h.block⟩
theorem shc_step {W : World} {g n : Nat} {t : TypeId} {G : Nat → Nat → Nat} {k i j m x y z : Nat} (h : IB W g n t (fun p => shc G k i j m p)) (hx : x = G i j) (hy : y = G i m) (hz : z = shc G k i j m (x * 60 + y)) :
    IB (W.setCell ⟨g, x * 60 + y, none⟩ (.int .i64 ((z : Int) + 1))) g n t (fun p => shc G k i j (m + 1) p) := by
  have e : ∀ p, shc G k i j (m + 1) p = shc G k i j m p + if p = x * 60 + y then 1 else 0 := fun p => by
    rw [hx, hy]
    simp only [shc, c3, sm]
    omega
  have := IB.set (v := z + 1) (i := x * 60 + y) h (f' := fun p => shc G k i j (m + 1) p) (by rw [e, if_pos rfl, hz]) (fun p _ hne => by simp [e, hne])
  simpa using this
set_option maxRecDepth 100000 in
set_option maxHeartbeats 4000000 in
theorem dcheck_any (G : Nat → Nat → Nat) (A : Option Addr) (n k v c r lam : Nat) (w : World) (hF : Fd n k v G) (hG : GM w A n k G) (hbal : ∀ a, a < v → ∀ b, b < v → c1 G k (a * 60 + b) n = if a = b then r else lam) (hlam : 1 ≤ lam) :
    Calls Try.prog 14 #[.agg #[.int .i64 v, .slice A n c]] w fun e w' => e = .returned (.tuple #[.int .i64 r, .int .i64 lam, .int .i64 0]) ∧ Below w.heap.size w w' := by
  have HF := Lib.hid hF
  have HG := Lib.hid hG
  have HBAL := Lib.hid hbal
  obtain ⟨b, off, rfl, _⟩ := id hG
  obtain ⟨U, hU⟩ : ∃ U, U = w.alloc (.cells #[.int .i64 v, .slice (some ⟨b, off, none⟩) n c] 44) := ⟨_, rfl⟩
  have hUb : Below w.heap.size w U := by rw [hU]; exact (Below.refl _ w).alloc (Nat.le_refl _) _
  have hfo := formed_any G (some ⟨b, off, none⟩) n k v c U hF (hG.below hUb)
  have hx0 : ∀ W, Below U.heap.size U W → W.heap[w.heap.size]? = some (.cells #[.int .i64 v, .slice (some ⟨b, off, none⟩) n c] 44 (0, 0)) := fun W h => (h.block _ (by rw [hU]; simp)).trans (by rw [hU]; exact World.alloc_heap_new w _)
  rw [hU] at hfo
  have HFO := Lib.hid hfo
  have HU := Lib.hid (And.intro hU hUb)
  have HX0 := Lib.hid hx0
  clear hF hG hfo hbal hU hUb hx0
  go_enter Try.func14, Try.ntmps14
  go_wp2_with (go_at_call 34; refine Calls.mono HFO.out ?_; rintro e w1 ⟨rfl, hB1⟩; rw [← HU.out.1] at hB1; have hx1 := HX0.out _ hB1; have x0 := cell_of_row w1 _ 0 _ _ _ hx1; have x1 := cell_of_row w1 _ 1 _ _ _ hx1; have hls := (Array.getElem?_eq_some_iff.1 hx1).1)
  obtain ⟨g, hg⟩ : ∃ g, g = w1.heap.size := ⟨_, rfl⟩
  obtain ⟨V, hV⟩ : ∃ V, V = w1.alloc (.cells Try.zeroCells76 76) := ⟨_, rfl⟩
  have hIV : IB V g 3600 76 (fun p => c1 G k p 0) := by rw [hV, hg, Try.z76]; exact IB.new
  have hVb : Below g w1 V := by rw [hV, hg]; exact (Below.refl _ w1).alloc (Nat.le_refl _) _
  rw [← hV, ← hg]
  have hlsg : w.heap.size < g := by omega
  have HG1 := Lib.hid (HG.out.below ((HU.out.2).trans (hB1.mono HU.out.2.size)))
  have HB1 := Lib.hid (HU.out.2.trans (hB1.mono HU.out.2.size))
  have hk60 : k ≤ 60 := HF.out.k2
  have hn4 : n ≤ 4096 := HF.out.n2
  have hv60 : v ≤ 60 := HF.out.v2
  have hkeep : ∀ W, Below g w1 W → W.cell? ⟨w.heap.size, 0, none⟩ = some (.int .i64 v) ∧ W.cell? ⟨w.heap.size, 1, none⟩ = some (.slice (some ⟨b, off, none⟩) n c) := fun W h => ⟨(h.cell (by show w.heap.size < g; omega)).trans x0, (h.cell (by show w.heap.size < g; omega)).trans x1⟩
  have HK := Lib.hid hkeep
  have HGG := Lib.hid hg
  clear hV x0 x1 hx1 hB1 hkeep hg
  go_loopw [23] (fun vi wr => ∃ i : Nat, i ≤ n ∧ vi = .int .i64 i ∧ IB wr g 3600 76 (fun p => c1 G k p i) ∧ Below g w1 wr) (fun vi _ => n - (intOf vi).toNat)
  case atStart => exact ⟨0, by omega, rfl, hIV, hVb⟩
  case round =>
    obtain ⟨i, hi, rfl, hI, hB⟩ := hrel
    by_cases hlt2 : i < n
    · obtain ⟨rb, ro, rc, r1w, r2w⟩ := HG1.out.row i hlt2
      have r1 : wr.cell? ⟨b, off + i, none⟩ = some (.slice (some ⟨rb, ro, none⟩) k rc) := (hB.cell (by rw [HGG.out]; exact World.block_lt_of_cell? w1 _ r1w)).trans r1w
      have hrow : ∀ W, Below g w1 W → ∀ x, x < k → W.cell? ⟨rb, ro + x, none⟩ = some (.int .i64 (G i x : Nat)) := fun W h x hx => (h.cell (by rw [HGG.out]; exact World.block_lt_of_cell? w1 _ (r2w x hx))).trans (r2w x hx)
      have hlti : (i : Int) < n := by omega
      have HROW := Lib.hid hrow
      have HB := Lib.hid hB
      have HI := Lib.hid hI
      clear hrow r1w r2w hI hB hIV hVb
      go_wp2_with fail
      go_loopw [29] (fun vj wr => ∃ j : Nat, j ≤ k ∧ vj = .int .i64 j ∧ IB wr g 3600 76 (fun p => shc G k i j 0 p) ∧ Below g w1 wr) (fun vj _ => k - (intOf vj).toNat)
      case atStart => exact ⟨0, by omega, rfl, HI.out.congr (fun p _ => by simp [shc, c2, c3, sm]), HB.out⟩
      case round =>
        obtain ⟨j, hj, rfl, hI2, hB2⟩ := hrel
        by_cases hjk : j < k
        · have hjki : (j : Int) < k := by omega
          have hl1 := HF.out.lt i hlt2 j hjk
          have c1' := HROW.out _ hB2 j hjk
          have HI2 := Lib.hid hI2
          have HB2 := Lib.hid hB2
          clear hI2 hB2
          obtain ⟨x, hx⟩ : ∃ x, x = G i j := ⟨_, rfl⟩
          rw [← hx] at c1' hl1
          have hx60 : (x : Int) < 60 := by omega
          have HX := Lib.hid hx
          clear hx
          go_wp2_with fail
          go_loopw [35] (fun vm wr => ∃ m : Nat, m ≤ k ∧ vm = .int .i64 m ∧ IB wr g 3600 76 (fun p => shc G k i j m p) ∧ Below g w1 wr) (fun vm _ => k - (intOf vm).toNat)
          case atStart => exact ⟨0, by omega, rfl, HI2.out, HB2.out⟩
          case round =>
            obtain ⟨m, hm, rfl, hI3, hB3⟩ := hrel
            by_cases hmk : m < k
            · have hmki : (m : Int) < k := by omega
              have hl2 := HF.out.lt i hlt2 m hmk
              have c3' := HROW.out _ hB3 m hmk
              obtain ⟨y, hy⟩ : ∃ y, y = G i m := ⟨_, rfl⟩
              rw [← hy] at c3' hl2
              have hy60 : (y : Int) < 60 := by omega
              have c4' := hI3.cell (x * 60 + y) (by omega)
              have f4' := hI3.frozen (x * 60 + y)
              obtain ⟨z, hz⟩ : ∃ z, z = shc G k i j m (x * 60 + y) := ⟨_, rfl⟩
              rw [← hz] at c4'
              have HY := Lib.hid hy
              have HZ := Lib.hid hz
              have HI3 := Lib.hid hI3
              have HB3 := Lib.hid hB3
              clear hy hz hI3 hB3
              have hzb : (z : Int) ≤ 100000000 := by
                have h1 := c1_le G k (x * 60 + y) i
                have h2 := c2_le G k i (x * 60 + y) j
                have h3 := c3_le G i j (x * 60 + y) m
                have h4 : k * k ≤ 60 * 60 := Nat.mul_le_mul hk60 hk60
                have h5 : i * (k * k) ≤ 4096 * (60 * 60) := Nat.mul_le_mul (by omega) h4
                have h6 : j * k ≤ 60 * 60 := Nat.mul_le_mul (by omega) hk60
                rw [HZ.out, shc]
                omega
              go_wp2_with fail
              go_still_tail 8, (by kernel_rfl)
              change wpList _ _ _ _ _ wr.drew
              obtain ⟨w2, hw2⟩ : ∃ w2, w2 = wr.drew := ⟨_, rfl⟩
              rw [← hw2]
              have HI4 := Lib.hid (show IB w2 g 3600 76 (fun p => shc G k i j m p) by rw [hw2]; exact HI3.out)
              have HB4 := Lib.hid (show Below g w1 w2 by rw [hw2]; exact HB3.out.drew)
              have c5' : w2.cell? ⟨g, x * 60 + y, none⟩ = some (.int .i64 (z : Nat)) := by rw [hw2]; exact c4'
              have f5' : w2.frozen? ⟨g, x * 60 + y, none⟩ = false := by rw [hw2]; exact f4'
              clear hw2 c4' f4' HI3 HB3
              go_wp2_with fail
              go_roundw
              case rel => exact ⟨m + 1, by omega, by go_num, shc_step HI4.out HX.out HY.out HZ.out, HB4.out.setCell (Nat.le_refl _) _⟩
              case measure => simp [intOf]; omega
            · obtain rfl : k = m := by omega
              go_wp2_with fail
              go_roundw
              case rel => exact ⟨j + 1, by omega, by go_num, hI3.congr (fun p _ => by simp [shc, c2, c3, sm, Nat.add_assoc]), hB3⟩
              case measure => simp [intOf]; omega
        · obtain rfl : k = j := by omega
          go_wp2_with fail
          go_roundw
          case rel => exact ⟨i + 1, by omega, by go_num, hI2.congr (fun p _ => by simp [shc, c1, c3, sm]), hB2⟩
          case measure => simp [intOf]; omega
    · obtain rfl : n = i := by omega
      have c0 := hI.cell 0 (by omega)
      have c1' := hI.cell 1 (by omega)
      have hv2 := HF.out.v1
      have e0 : c1 G k 0 n = r := by have := HBAL.out 0 (by omega) 0 (by omega); simpa using this
      have e1 : c1 G k 1 n = lam := by have := HBAL.out 0 (by omega) 1 (by omega); simpa using this
      simp only [e0, e1] at c0 c1'
      have HI := Lib.hid hI
      have HB := Lib.hid hB
      clear e0 e1 hI hB hIV hVb
      go_wp2_with fail
      go_quiet (fail)
      obtain ⟨w4, hw4⟩ : ∃ w4, w4 = wr.drewN nq := ⟨_, rfl⟩
      rw [← hw4]
      have hB4 : Below g w1 w4 := by rw [hw4]; exact below_drewN HB.out nq
      have hI4 : IB w4 g 3600 76 (fun p => c1 G k p n) := by rw [hw4]; exact HI.out
      obtain ⟨x0, x1⟩ := HK.out w4 hB4
      have HI4 := Lib.hid hI4
      have HB4 := Lib.hid hB4
      have hl0 : ¬ (lam : Int) < 1 := by omega
      clear hw4 hI4 hB4 HI HB c0 c1'
      go_wp2_with fail
      go_loopw [58] (fun va wr => ∃ a : Nat, a ≤ v ∧ va = .int .i64 a ∧ w4 = wr) (fun va _ => v - (intOf va).toNat)
      case atStart => exact ⟨0, by omega, rfl, rfl⟩
      case round =>
        obtain ⟨a, ha, rfl, rfl⟩ := hrel
        by_cases hav : a < v
        · have havi : (a : Int) < v := by omega
          have ha60 : (a : Int) < 60 := by omega
          go_wp2_with fail
          go_loopw [63] (fun vb wr => ∃ b : Nat, b ≤ v ∧ vb = .int .i64 b ∧ w4 = wr) (fun vb _ => v - (intOf vb).toNat)
          case atStart => exact ⟨0, by omega, rfl, rfl⟩
          case round =>
            obtain ⟨b', hb, rfl, rfl⟩ := hrel
            by_cases hbv : b' < v
            · have hbvi : (b' : Int) < v := by omega
              have hb60 : (b' : Int) < 60 := by omega
              have c4' := HI4.out.cell (a * 60 + b') (by omega)
              rw [HBAL.out a hav b' hbv] at c4'
              by_cases hab : a = b'
              · rw [if_pos hab] at c4'
                subst hab
                go_wp2_with fail
                go_roundw
                case rel => exact ⟨a + 1, by omega, by go_num, by trivial⟩
                case measure => simp [intOf]; omega
              · have habi : ¬ (a : Int) = b' := by omega
                rw [if_neg hab] at c4'
                clear hab
                go_wp2_with fail
                go_roundw
                case rel => exact ⟨b' + 1, by omega, by go_num, by trivial⟩
                case measure => simp [intOf]; omega
            · obtain rfl : v = b' := by omega
              go_wp2_with fail
              go_roundw
              case rel => exact ⟨a + 1, by omega, by go_num, by trivial⟩
              case measure => simp [intOf]; omega
        · obtain rfl : v = a := by omega
          go_wp2_with fail
          refine bodyPost_ret (v := .tuple #[.int .i64 r, .int .i64 lam, .int .i64 0]) (by simp [results, Try.results14, go_sem]) rfl ⟨rfl, HB1.out.trans (HB4.out.mono (by omega))⟩
end Go.Proofs.Ytlimlmfgeaokhaa
namespace Go.Proofs.Ytlimlmfgeaokhaa
open Go.RowKit

/-- the cells of layout.numbers -/
def nvc (v T S k r n h cp : Nat) (gv rv ov : Value) : Array Value := #[.int .i64 v, gv, .int .i64 T, .int .i64 S, .int .i64 k, .int .i64 r, .int .i64 n, rv, ov, .int .i64 h, .int .i64 cp]
set_option maxRecDepth 100000 in
theorem data_any (v T S k r n h cp : Nat) (A B C : Option Addr) (a1 a2 b1 b2 c1 c2 : Nat) (w : World) (hk : k ≤ 60) :
    Calls Try.prog 60 #[.agg (nvc v T S k r n h cp (.slice A a1 a2) (.slice B b1 b2) (.slice C c1 c2))] w fun e w' => e = .returned (.int .i64 ((k : Int) - 3)) ∧ Below w.heap.size w w' := by
  unfold nvc
  go_enter Try.func60, Try.ntmps60
  go_wp2_with fail
  go_ret
  exact ⟨rfl, (Below.refl _ w).alloc (Nat.le_refl _) _⟩
set_option maxRecDepth 100000 in
theorem groups_any (v T S k r n h cp : Nat) (A B C : Option Addr) (a1 a2 b1 b2 c1 c2 : Nat) (w : World) (hT : T * n ≤ 4096) :
    Calls Try.prog 36 #[.agg (nvc v T S k r n h cp (.slice A a1 a2) (.slice B b1 b2) (.slice C c1 c2))] w fun e w' => e = .returned (.int .i64 ((T * n : Nat) : Int)) ∧ Below w.heap.size w w' := by
  obtain ⟨q, hq⟩ : ∃ q, q = T * n := ⟨_, rfl⟩
  have hqi : (T : Int) * n = q := by rw [hq]; simp
  rw [← hq] at hT ⊢
  clear hq
  unfold nvc
  go_enter Try.func36, Try.ntmps36
  go_wp2_with fail
  go_ret
  exact ⟨rfl, (Below.refl _ w).alloc (Nat.le_refl _) _⟩
end Go.Proofs.Ytlimlmfgeaokhaa
namespace Go.Proofs.Ytlimlmfgeaokhaa
open Go.RowKit

/-- rows of ints, each in a block of its own -/
structure Fam (W : World) (N M : Nat) (F : Nat → Value) (X : Nat → List Value) : Prop where
  own : ∀ a, a < M → W.ownsRow N 3 1 (F a) (X a).length (X a)
  dis : ∀ a b, a < M → b < M → a ≠ b → Dis (F a) (F b)
theorem Fam.kept {W W' : World} {N M : Nat} {F : Nat → Value} {X : Nat → List Value} (h : Fam W N M F X) (hk : ∀ (g : Nat) (cs : Array Value), W.heap[g]? = some (.cells cs 3 (0, 0)) → W'.heap[g]? = W.heap[g]?) : Fam W' N M F X :=
  ⟨fun a ha => own_same (h.own a ha) (fun g e => by obtain ⟨cur, hc⟩ := own_at (h.own a ha) e; exact hk g cur hc), h.dis⟩
theorem Fam.alloc {W : World} {N M : Nat} {F : Nat → Value} {X : Nat → List Value} (h : Fam W N M F X) (o : Obj) : Fam (W.alloc o) N M F X := h.kept (fun g _ hc => Below.heap_alloc W o g (Array.getElem?_eq_some_iff.1 hc).1)
theorem Fam.drew {W : World} {N M : Nat} {F : Nat → Value} {X : Nat → List Value} (h : Fam W N M F X) : Fam W.drew N M F X := h.kept (fun _ _ _ => rfl)
theorem Fam.set {W : World} {N M B p : Nat} {F : Nat → Value} {X : Nat → List Value} {cs : Array Value} {t : TypeId} (h : Fam W N M F X) (hb : W.heap[B]? = some (.cells cs t (0, 0))) (ht : t ≠ 3) (u : Value) : Fam (W.setCell ⟨B, p, none⟩ u) N M F X :=
  h.kept (fun g cs' hc => Below.heap_setCell W _ u g (fun e => by
    change g = B at e
    subst e
    rw [hb] at hc
    injection hc with hc
    injection hc with _ h2
    exact ht h2))
def upd {α : Type} (F : Nat → α) (a : Nat) (v : α) : Nat → α := fun b => if b = a then v else F b
theorem upd_same {α : Type} (F : Nat → α) (a : Nat) (v : α) : upd F a v a = v := if_pos rfl
theorem upd_ne {α : Type} (F : Nat → α) {a b : Nat} (v : α) (h : b ≠ a) : upd F a v b = F b := if_neg h
theorem Dis.symm {v v' : Value} (h : Dis v v') : Dis v' v := fun k h1 h2 => h k h2 h1
theorem Dis.nil (v : Value) : Dis (.slice none 0 0) v := fun k h => by cases h
/-- a member grows -/
theorem Fam.push {W W' : World} {N M a g n c H : Nat} {F : Nat → Value} {X : Nat → List Value} {u : Value} (h : Fam W N M F X) (ha : a < M) (hg : W.grownBy W' (F a).ownBlock)
    (ho : W'.ownsRow N 3 1 (.slice (some ⟨g, 0, none⟩) n c) n (X a ++ [u])) (hl : (F a).ownBlock = some g ∨ g = H) (hH : W.heap.size = H) :
    Fam W' N M (upd F a (.slice (some ⟨g, 0, none⟩) n c)) (upd X a (X a ++ [u])) := by
  have hn : n = (X a ++ [u]).length := by have := ho.1; simpa using this.symm
  refine ⟨fun b hb => ?_, fun b b' hb hb' hne => ?_⟩
  · by_cases e : b = a
    · rw [e, upd_same, upd_same, ← hn]; exact ho
    · rw [upd_ne _ _ e, upd_ne _ _ e]
      refine own_same (h.own b hb) (fun x hx => hg.block x (((h.own b hb).lt x hx).2) (fun e' => ?_))
      exact h.dis b a hb ha e x hx e'.symm
  · have key : ∀ b, b < M → b ≠ a → Dis (.slice (some ⟨g, 0, none⟩) n c) (F b) := fun b hb e x hx hx' => by
      simp only [Value.ownBlock, Option.some.injEq] at hx
      subst hx
      rcases hl with hl | hl
      · exact h.dis a b ha hb (fun e' => e e'.symm) g hl hx'
      · have := ((h.own b hb).lt g hx').2
        omega
    by_cases e : b = a
    · by_cases e' : b' = a
      · omega
      · rw [e, upd_same, upd_ne _ _ e']; exact key b' hb' e'
    · by_cases e' : b' = a
      · rw [e', upd_same, upd_ne _ _ e]; exact (key b hb e).symm
      · rw [upd_ne _ _ e, upd_ne _ _ e']; exact h.dis b b' hb hb' hne
/-- an empty member more -/
theorem Fam.more {W : World} {N M : Nat} {F : Nat → Value} {X : Nat → List Value} (h : Fam W N M F X) : Fam W N (M + 1) (upd F M (.slice none 0 0)) (upd X M []) := by
  refine ⟨fun b hb => ?_, fun b b' hb hb' hne => ?_⟩
  · by_cases e : b = M
    · rw [e, upd_same, upd_same]; exact World.ownsRow_nil _ _ _ _
    · rw [upd_ne _ _ e, upd_ne _ _ e]; exact h.own b (by omega)
  · by_cases e : b = M
    · rw [e, upd_same]; exact Dis.nil _
    · by_cases e' : b' = M
      · rw [e', upd_same]; exact (Dis.nil _).symm
      · rw [upd_ne _ _ e, upd_ne _ _ e']; exact h.dis b b' (by omega) (by omega) hne
/-- a row of values -/
def orow (n : Nat) (F : Nat → Value) : Array Value := ((List.range n).map F).toArray
theorem orow_get (n : Nat) (F : Nat → Value) (j : Nat) (h : j < n) : (orow n F)[j]? = some (F j) := by simp [orow, h]
theorem orow_congr {n : Nat} {F F' : Nat → Value} (he : ∀ j, j < n → F j = F' j) : orow n F = orow n F' := by
  unfold orow
  congr 1
  exact List.map_congr_left (fun j hj => he j (by simpa using hj))
theorem orow_set (n : Nat) (F : Nat → Value) (d : Nat) (v : Value) : (orow n F).setIfInBounds d v = orow n (upd F d v) := by
  apply Array.ext_getElem?
  intro j
  rw [Array.getElem?_setIfInBounds]
  by_cases hj : j < n
  · by_cases e : d = j
    · subst e; simp [orow, hj, upd]
    · rw [if_neg e, orow_get n F j hj, orow_get n _ j hj, upd_ne _ _ (fun h => e h.symm)]
  · by_cases e : d = j
    · subst e; simp [orow, hj]
    · simp [orow, hj, e]
theorem Try.infoInts' : (Try.prog.info? 32).map (fun i => (i.zero, i.size, i.bytes)) = some (some (.slice none 0 0), 1, 24) := by kernel_rfl
theorem run_make_rows (kl kc : IntKind) (n : Nat) (hn : n ≤ 1000000) (w : World) :
    (Instr.makeSlice 42 (.int kl (n : Int)) (.int kc (n : Int))).run Try.prog w = .ok (.slice (some ⟨w.heap.size, 0, none⟩) n n) (w.alloc (.cells (orow n fun _ => .slice none 0 0) 32)) := by
  obtain ⟨i0, hi, hz0, hz1, hz2⟩ := info_parts Try.infoInts'
  have h := run_make_rowN (P := Try.prog) 42 32 i0 (.slice none 0 0) Try.underlying42 hi hz0 kl kc n n (Nat.le_refl _) (by rw [hz2]; omega) (by omega) w
  have e : madeCells (Value.slice none 0 0).cells (n * i0.size) = orow n fun _ => .slice none 0 0 := by
    rw [hz1]
    apply Array.ext_getElem?
    intro j
    by_cases hj : j < n
    · simp [madeCells, orow, hj, Value.cells, Nat.mod_one]
    · simp [madeCells, orow, hj]
  rw [e] at h
  exact h
theorem ils_snoc' (f : Nat → Nat) (j : Nat) : ils f j ++ [.int .i64 (f j : Nat)] = ils f (j + 1) := ils_snoc f j
/-- how often disk d stands before place j of group i -/
def oc (G : Nat → Nat → Nat) (i d j : Nat) : Nat := sm (fun x => if d = G i x then 1 else 0) j
def ocs (G : Nat → Nat → Nat) (k d i : Nat) : Nat := sm (fun g => oc G g d k) i
def rk (G : Nat → Nat → Nat) (k i j : Nat) : Nat := ocs G k (G i j) i + oc G i (G i j) j
theorem oc_le (G : Nat → Nat → Nat) (i d j : Nat) : oc G i d j ≤ j := by
  have := sm_le (f := fun x => if d = G i x then 1 else 0) (b := 1) (n := j) (fun i _ => by split <;> omega)
  unfold oc; omega
theorem ocs_le (G : Nat → Nat → Nat) (k d i : Nat) : ocs G k d i ≤ i * k := sm_le (fun g _ => oc_le G g d k)
end Go.Proofs.Ytlimlmfgeaokhaa
namespace Go.Proofs.Ytlimlmfgeaokhaa
open Go.RowKit

/-- a number more, in a plain region -/
theorem appI {w : World} {ops : Array Oper} {rest : List Oper} {o : Oper} {a : Act} {Q : Exit → Act → World → Prop} (hgd : o.guard = none) (s x : Operand)
    (ho : o.op = .call { callee := .builtin .append, args := #[s, x], argTypes := #[32, 32] })
    (base : Nat) (v : Value) (n : Nat) (xs : List Value) (u : Value) (hu : u.oneCell' = true) (hs : a.eval s = v) (hown : w.ownsRow base 3 1 v n xs) (B : Nat) (hx : a.eval x = .slice (some ⟨B, 0, none⟩) 1 1)
    (hb : w.heap[B]? = some (.cells #[u] 3 (0, 0))) (hn : n ≤ 1000000) (hbase : base ≤ w.heap.size) (H : Nat) (hH : w.heap.size = H)
    (K' : ∀ g cap w', w'.ownsRow base 3 1 (.slice (some ⟨g, 0, none⟩) (n + 1) cap) (n + 1) (xs ++ [u]) → w.grownBy w' v.ownBlock → (v.ownBlock = some g ∨ g = H) → g < w'.heap.size → wpList Try.prog ops Q rest (a.put o.dst (.slice (some ⟨g, 0, none⟩) (n + 1) cap)) w') :
    wpList Try.prog ops Q (o :: rest) a w := by
  obtain ⟨i0, hi0, hz0, hz1, hz2⟩ := info_parts Try.infoInt
  exact wpList_append_lies w hgd s x 32 ho base 3 i0 (.int .i64 0) 1 8 Try.underlying32 hi0 hz0 hz1 hz2 rfl (by decide) v n xs hs hown ⟨B, 0, none⟩ 1 1 [u] hx (by simp)
    (World.news_of_block (cs := #[u]) hb) (by simp [hu]) (by omega) (by unfold maxLen; omega) (by omega) hbase H hH K'
theorem stepI {w : World} {ops : Array Oper} {o : Oper} {a : Act} {K : Act → World → Prop} {Q : Exit → Act → World → Prop} {E : Prop} (hgd : o.guard = none) (s x : Operand)
    (ho : o.op = .call { callee := .builtin .append, args := #[s, x], argTypes := #[32, 32] })
    (base : Nat) (v : Value) (n : Nat) (xs : List Value) (u : Value) (hu : u.oneCell' = true) (hs : a.eval s = v) (hown : w.ownsRow base 3 1 v n xs) (B : Nat) (hx : a.eval x = .slice (some ⟨B, 0, none⟩) 1 1)
    (hb : w.heap[B]? = some (.cells #[u] 3 (0, 0))) (hn : n ≤ 1000000) (hbase : base ≤ w.heap.size) (H : Nat) (hH : w.heap.size = H)
    (K' : ∀ g cap w', w'.ownsRow base 3 1 (.slice (some ⟨g, 0, none⟩) (n + 1) cap) (n + 1) (xs ++ [u]) → w.grownBy w' v.ownBlock → (v.ownBlock = some g ∨ g = H) → g < w'.heap.size → K (a.put o.dst (.slice (some ⟨g, 0, none⟩) (n + 1) cap)) w') :
    if Region.wanted o (yielded ops a.tmps) = true then Oper.wp Try.prog o a w K Q else E := by
  obtain ⟨i0, hi0, hz0, hz1, hz2⟩ := info_parts Try.infoInt
  exact step_append_lies w hgd s x 32 ho base 3 i0 (.int .i64 0) 1 8 Try.underlying32 hi0 hz0 hz1 hz2 rfl (by decide) v n xs hs hown ⟨B, 0, none⟩ 1 1 [u] hx (by simp)
    (World.news_of_block (cs := #[u]) hb) (by simp [hu]) (by omega) (by unfold maxLen; omega) (by omega) hbase H hH K'
/-- a slice more, in a plain region -/
theorem appS {w : World} {ops : Array Oper} {rest : List Oper} {o : Oper} {a : Act} {Q : Exit → Act → World → Prop} (hgd : o.guard = none) (s x : Operand)
    (ho : o.op = .call { callee := .builtin .append, args := #[s, x], argTypes := #[42, 42] })
    (base : Nat) (v : Value) (n : Nat) (xs : List Value) (u : Value) (hu : u.oneCell' = true) (hs : a.eval s = v) (hown : w.ownsRow base 32 1 v n xs) (B : Nat) (hx : a.eval x = .slice (some ⟨B, 0, none⟩) 1 1)
    (hb : w.heap[B]? = some (.cells #[u] 32 (0, 0))) (hn : n ≤ 1000000) (hbase : base ≤ w.heap.size) (H : Nat) (hH : w.heap.size = H)
    (K' : ∀ g cap w', w'.ownsRow base 32 1 (.slice (some ⟨g, 0, none⟩) (n + 1) cap) (n + 1) (xs ++ [u]) → w.grownBy w' v.ownBlock → (v.ownBlock = some g ∨ g = H) → g < w'.heap.size → wpList Try.prog ops Q rest (a.put o.dst (.slice (some ⟨g, 0, none⟩) (n + 1) cap)) w') :
    wpList Try.prog ops Q (o :: rest) a w := by
  obtain ⟨i0, hi0, hz0, hz1, hz2⟩ := info_parts Try.infoInts
  exact wpList_append_lies w hgd s x 42 ho base 32 i0 (.slice none 0 0) 1 24 Try.underlying42 hi0 hz0 hz1 hz2 rfl (by decide) v n xs hs hown ⟨B, 0, none⟩ 1 1 [u] hx (by simp)
    (World.news_of_block (cs := #[u]) hb) (by simp [hu]) (by omega) (by unfold maxLen; omega) (by omega) hbase H hH K'
theorem gm_rows {W : World} {base base' n k g c : Nat} {R : Nat → Value} {f : Nat → Nat → Nat} (h : W.ownsRow base 32 1 (.slice (some ⟨g, 0, none⟩) n c) n ((List.range n).map R)) (hr : ∀ a, a < n → W.ownsRow base' 3 1 (R a) k (ils (f a) k)) (hk : 0 < k) : GM W (some ⟨g, 0, none⟩) n k f := by
  refine ⟨g, 0, rfl, fun i hi => ?_⟩
  obtain ⟨gi, ci, hv, _, _⟩ := (hr i hi).form hk
  refine ⟨gi, 0, ci, ?_, fun j hj => ?_⟩
  · rw [Nat.zero_add, h.cellAt i (by omega)]
    simp [hi, hv]
  · have := hr i hi
    rw [hv] at this
    rw [Nat.zero_add, this.cellAt j (by omega)]
    simp [ils, hj]
/-- the numbers are stored, cell by cell -/
def nvset (W : World) (B v T S k r n h cp : Nat) (gv rv ov : Value) : World := ((((((((((W.setCell ⟨B, 0, none⟩ (.int .i64 v)).setCell ⟨B, 1, none⟩ gv).setCell ⟨B, 2, none⟩ (.int .i64 T)).setCell ⟨B, 3, none⟩ (.int .i64 S)).setCell ⟨B, 4, none⟩ (.int .i64 k)).setCell ⟨B, 5, none⟩ (.int .i64 r)).setCell ⟨B, 6, none⟩ (.int .i64 n)).setCell ⟨B, 7, none⟩ rv).setCell ⟨B, 8, none⟩ ov).setCell ⟨B, 9, none⟩ (.int .i64 h)).setCell ⟨B, 10, none⟩ (.int .i64 cp)
theorem nvset_at {W : World} {B v T S k r n h cp v' T' S' k' r' n' h' cp' : Nat} {gv rv ov gv' rv' ov' : Value} {t : TypeId} (hb : W.heap[B]? = some (.cells (nvc v' T' S' k' r' n' h' cp' gv' rv' ov') t (0, 0))) : (nvset W B v T S k r n h cp gv rv ov).heap[B]? = some (.cells (nvc v T S k r n h cp gv rv ov) t (0, 0)) := by
  unfold nvset
  have h0 := heap_setCell_same W B 0 _ _ (.int .i64 v) hb
  have h1 := heap_setCell_same _ B 1 _ _ gv h0
  have h2 := heap_setCell_same _ B 2 _ _ (.int .i64 T) h1
  have h3 := heap_setCell_same _ B 3 _ _ (.int .i64 S) h2
  have h4 := heap_setCell_same _ B 4 _ _ (.int .i64 k) h3
  have h5 := heap_setCell_same _ B 5 _ _ (.int .i64 r) h4
  have h6 := heap_setCell_same _ B 6 _ _ (.int .i64 n) h5
  have h7 := heap_setCell_same _ B 7 _ _ rv h6
  have h8 := heap_setCell_same _ B 8 _ _ ov h7
  have h9 := heap_setCell_same _ B 9 _ _ (.int .i64 h) h8
  have h10 := heap_setCell_same _ B 10 _ _ (.int .i64 cp) h9
  simp only [nvc, List.setIfInBounds_toArray, List.set_cons_zero, List.set_cons_succ] at h10 ⊢
  exact h10
theorem nvset_far {W : World} {B x v T S k r n h cp : Nat} {gv rv ov : Value} (hx : x ≠ B) : (nvset W B v T S k r n h cp gv rv ov).heap[x]? = W.heap[x]? := by
  unfold nvset
  simp only [heap_setCell_other _ _ x _ (show x ≠ (⟨B, _, none⟩ : Addr).block from hx)]
theorem nvset_below {W w : World} {N B v T S k r n h cp : Nat} {gv rv ov : Value} (hw : Below N w W) (hB : N ≤ B) : Below N w (nvset W B v T S k r n h cp gv rv ov) := by
  unfold nvset
  repeat (refine Below.setCell ?_ hB _)
  exact hw
/-- what the loops of measure hold: i groups are done, and j places of the next -/
structure Mi (w1 : World) (B ob v i M : Nat) (G : Nat → Nat → Nat) (k j : Nat) (nv : Array Value) (gv : Value) (F : Nat → Value) (X : Nat → List Value) (W : World) : Prop where
  fam : Fam W B M F X
  len : ∀ d, d < v → (X d).length = ocs G k d i + oc G i d j
  old : ∀ a, a < i → X (v + a) = ils (rk G k a) k
  on : W.heap[ob]? = some (.cells (orow v F) 32 (0, 0))
  gr : W.ownsRow B 32 1 gv i ((List.range i).map fun a => F (v + a))
  ne : gv.ownBlock ≠ some ob
  nb : W.heap[B]? = some (.cells nv 78 (0, 0))
  ob' : B ≤ ob
  below : Below B w1 W
theorem Mi.drew {w1 W : World} {B ob v i M j : Nat} {G : Nat → Nat → Nat} {k : Nat} {nv : Array Value} {gv : Value} {F : Nat → Value} {X : Nat → List Value} (h : Mi w1 B ob v i M G k j nv gv F X W) : Mi w1 B ob v i M G k j nv gv F X W.drew :=
  ⟨h.fam.drew, h.len, h.old, h.on, h.gr, h.ne, h.nb, h.ob', h.below.drew⟩
theorem Mi.ob_ne {w1 W : World} {B ob v i M j : Nat} {G : Nat → Nat → Nat} {k : Nat} {nv : Array Value} {gv : Value} {F : Nat → Value} {X : Nat → List Value} (h : Mi w1 B ob v i M G k j nv gv F X W) : B ≠ ob := fun e => by
  have h1 := h.on
  have h2 := h.nb
  rw [e, h1] at h2
  injection h2 with e
  injection e with _ e
  exact absurd e (by decide)
theorem Mi.open' {w1 W : World} {B ob v i : Nat} {G : Nat → Nat → Nat} {k : Nat} {nv : Array Value} {gv : Value} {F : Nat → Value} {X : Nat → List Value} (h : Mi w1 B ob v i (v + i) G k 0 nv gv F X W) :
    Mi w1 B ob v i (v + i + 1) G k 0 nv gv (upd F (v + i) (.slice none 0 0)) (upd X (v + i) []) W where
  fam := h.fam.more
  len d hd := by rw [upd_ne _ _ (by omega)]; exact h.len d hd
  old a ha := by rw [upd_ne _ _ (by omega)]; exact h.old a ha
  on := by rw [orow_congr (F' := F) (fun j hj => upd_ne _ _ (by omega))]; exact h.on
  gr := by
    rw [show (List.range i).map (fun a => upd F (v + i) (.slice none 0 0) (v + a)) = (List.range i).map (fun a => F (v + a)) from List.map_congr_left (fun a ha => upd_ne _ _ (by have := List.mem_range.1 ha; omega))]
    exact h.gr
  ne := h.ne
  nb := h.nb
  ob' := h.ob'
  below := h.below
theorem grown_cells {W W' : World} {g : Nat} {cs : Array Value} {t e : TypeId} {v : Value} {base size n : Nat} {xs : List Value} (hg : W.grownBy W' v.ownBlock) (ho : W.ownsRow base e size v n xs) (hc : W.heap[g]? = some (.cells cs t (0, 0))) (ht : t ≠ e) : W'.heap[g]? = some (.cells cs t (0, 0)) :=
  (hg.block g (Array.getElem?_eq_some_iff.1 hc).1 (own_ne_box ho hc ht)).trans hc
/-- a rank more -/
theorem Mi.rank {w1 W W' : World} {B ob v i M j g n c : Nat} {G : Nat → Nat → Nat} {k : Nat} {nv : Array Value} {gv : Value} {F : Nat → Value} {X : Nat → List Value} {u : Value} {o : Obj} (h : Mi w1 B ob v i M G k j nv gv F X W) (hM : v + i < M) (hB : B ≤ W.heap.size)
    (hg : (W.alloc o).grownBy W' (F (v + i)).ownBlock) (ho : W'.ownsRow B 3 1 (.slice (some ⟨g, 0, none⟩) n c) n (X (v + i) ++ [u])) (hl : (F (v + i)).ownBlock = some g ∨ g = W.heap.size + 1) :
    Mi w1 B ob v i M G k j nv gv (upd F (v + i) (.slice (some ⟨g, 0, none⟩) n c)) (upd X (v + i) (X (v + i) ++ [u])) W' where
  fam := (h.fam.alloc o).push hM hg ho hl (by simp)
  len d hd := by rw [upd_ne _ _ (by omega)]; exact h.len d hd
  old a ha := by rw [upd_ne _ _ (by omega)]; exact h.old a ha
  on := by
    rw [orow_congr (F' := F) (fun j hj => upd_ne _ _ (by omega))]
    exact grown_cells hg ((h.fam.alloc o).own (v + i) hM) ((Below.heap_alloc W o _ (Array.getElem?_eq_some_iff.1 h.on).1).trans h.on) (by decide)
  gr := by
    rw [show (List.range i).map (fun a => upd F (v + i) (.slice (some ⟨g, 0, none⟩) n c) (v + a)) = (List.range i).map (fun a => F (v + a)) from List.map_congr_left (fun a ha => upd_ne _ _ (by have := List.mem_range.1 ha; omega))]
    exact own_same (h.gr.alloc o) (fun x hx => by obtain ⟨cur, hc⟩ := own_at (h.gr.alloc o) hx; exact (grown_cells hg ((h.fam.alloc o).own (v + i) hM) hc (by decide)).trans hc.symm)
  ne := h.ne
  nb := grown_cells hg ((h.fam.alloc o).own (v + i) hM) ((Below.heap_alloc W o _ (Array.getElem?_eq_some_iff.1 h.nb).1).trans h.nb) (by decide)
  ob' := h.ob'
  below := (h.below.alloc hB o).grown hg (by simp; omega) (fun x hx => ((h.fam.own (v + i) hM).lt x hx).1)
/-- a group more on disk d -/
theorem Mi.onp {w1 W W' : World} {B ob v i M j g n c d : Nat} {G : Nat → Nat → Nat} {k : Nat} {nv : Array Value} {gv : Value} {F : Nat → Value} {X : Nat → List Value} {u : Value} {o : Obj} (h : Mi w1 B ob v i M G k j nv gv F X W) (hM : v + i < M) (hd : d < v) (hdj : d = G i j) (hB : B ≤ W.heap.size)
    (hg : (W.alloc o).grownBy W' (F d).ownBlock) (ho : W'.ownsRow B 3 1 (.slice (some ⟨g, 0, none⟩) n c) n (X d ++ [u])) (hl : (F d).ownBlock = some g ∨ g = W.heap.size + 1) :
    Mi w1 B ob v i M G k (j + 1) nv gv (upd F d (.slice (some ⟨g, 0, none⟩) n c)) (upd X d (X d ++ [u])) (W'.setCell ⟨ob, d, none⟩ (.slice (some ⟨g, 0, none⟩) n c)) := by
  have hon' : W'.heap[ob]? = some (.cells (orow v F) 32 (0, 0)) := grown_cells hg ((h.fam.alloc o).own d (by omega)) ((Below.heap_alloc W o _ (Array.getElem?_eq_some_iff.1 h.on).1).trans h.on) (by decide)
  have hnb' : W'.heap[B]? = some (.cells nv 78 (0, 0)) := grown_cells hg ((h.fam.alloc o).own d (by omega)) ((Below.heap_alloc W o _ (Array.getElem?_eq_some_iff.1 h.nb).1).trans h.nb) (by decide)
  have hne : B ≠ ob := fun e => by subst e; rw [hon'] at hnb'; injection hnb' with e; injection e with _ e; exact absurd e (by decide)
  refine ⟨((h.fam.alloc o).push (by omega) hg ho hl (by simp)).set hon' (by decide) _, ?_, ?_, ?_, ?_, h.ne, ?_, h.ob', ?_⟩
  · intro d' hd'
    have e1 : oc G i d' (j + 1) = oc G i d' j + if d' = G i j then 1 else 0 := rfl
    by_cases e : d' = d
    · subst e
      rw [upd_same, e1, if_pos hdj]
      have := h.len d' hd'
      simp
      omega
    · rw [upd_ne _ _ e, e1, if_neg (by omega)]
      exact h.len d' hd'
  · intro a ha
    rw [upd_ne _ _ (by omega)]
    exact h.old a ha
  · rw [heap_setCell_same _ _ _ _ _ _ hon', orow_set]
  · rw [show (List.range i).map (fun a => upd F d (.slice (some ⟨g, 0, none⟩) n c) (v + a)) = (List.range i).map (fun a => F (v + a)) from List.map_congr_left (fun a _ => upd_ne _ _ (by omega))]
    exact own_same (h.gr.alloc o) (fun x hx => by
      obtain ⟨cur, hc⟩ := own_at (h.gr.alloc o) hx
      exact (Below.heap_setCell W' _ _ x (fun e => by change x = ob at e; exact h.ne (by rw [hx, e]))).trans ((grown_cells hg ((h.fam.alloc o).own d (by omega)) hc (by decide)).trans hc.symm))
  · exact (Below.heap_setCell W' _ _ B hne).trans hnb'
  · exact ((h.below.alloc hB o).grown hg (by simp; omega) (fun x hx => ((h.fam.own d (by omega)).lt x hx).1)).setCell h.ob' _
/-- the ranks of a group are kept -/
theorem Mi.close {w1 W W' : World} {B ob v i g n c : Nat} {G : Nat → Nat → Nat} {k : Nat} {nv nv' : Array Value} {gv : Value} {F : Nat → Value} {X : Nat → List Value} {o : Obj} (h : Mi w1 B ob v i (v + i + 1) G k k nv gv F X W) (hX : X (v + i) = ils (rk G k i) k) (hB : B ≤ W.heap.size) (hob : ob < W.heap.size)
    (hg : (W.alloc o).grownBy W' gv.ownBlock) (ho : W'.ownsRow B 32 1 (.slice (some ⟨g, 0, none⟩) n c) n ((List.range i).map (fun a => F (v + a)) ++ [F (v + i)])) (hl : gv.ownBlock = some g ∨ g = W.heap.size + 1) (hn : n = i + 1)
    (hv : nv.setIfInBounds 7 (.slice (some ⟨g, 0, none⟩) n c) = nv') :
    Mi w1 B ob v (i + 1) (v + (i + 1)) G k 0 nv' (.slice (some ⟨g, 0, none⟩) n c) F X (W'.setCell ⟨B, 7, none⟩ (.slice (some ⟨g, 0, none⟩) n c)) := by
  have hnb' : W'.heap[B]? = some (.cells nv 78 (0, 0)) := grown_cells hg (h.gr.alloc o) ((Below.heap_alloc W o _ (Array.getElem?_eq_some_iff.1 h.nb).1).trans h.nb) (by decide)
  have hon' : W'.heap[ob]? = some (.cells (orow v F) 32 (0, 0)) := (hg.block ob (by simp; omega) (fun e => h.ne e.symm)).trans ((Below.heap_alloc W o _ hob).trans h.on)
  have hne : ob ≠ B := fun e => by subst e; rw [hon'] at hnb'; injection hnb' with e; injection e with _ e; exact absurd e (by decide)
  refine ⟨Fam.set (Fam.kept (h.fam.alloc o) (fun x cs hc => ?_)) hnb' (by decide) _, ?_, ?_, ?_, ?_, ?_, ?_, h.ob', ?_⟩
  · exact (grown_cells hg (h.gr.alloc o) hc (by decide)).trans hc.symm
  · intro d hd
    rw [h.len d hd]
    simp [ocs, oc, sm]
  · intro a ha
    by_cases e : a < i
    · exact h.old a e
    · obtain rfl : a = i := by omega
      exact hX
  · exact (Below.heap_setCell W' _ _ ob hne).trans hon'
  · subst hn
    rw [List.range_succ, List.map_append]
    exact own_same ho (fun x hx => Below.heap_setCell W' _ _ x (fun e => by
      change x = B at e
      exact own_ne_box ho hnb' (by decide) (by rw [hx, e])))
  · intro e
    simp only [Value.ownBlock, Option.some.injEq] at e
    subst e
    rcases hl with hl | hl
    · exact h.ne hl
    · omega
  · rw [heap_setCell_same _ _ _ _ _ _ hnb', hv]
  · exact ((h.below.alloc hB o).grown hg (by simp; omega) (fun x hx => (h.gr.lt x hx).1)).setCell (Nat.le_refl _) _
end Go.Proofs.Ytlimlmfgeaokhaa
