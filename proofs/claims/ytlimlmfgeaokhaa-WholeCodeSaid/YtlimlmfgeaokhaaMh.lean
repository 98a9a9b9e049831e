/- A range over an iterator that itself ranges over iterators (design.sets): the law of the statement, where nobody leaves early. design.count, slices.Clone at ints, design.sets. design.sets: the iterator's contract. design.sets: the step of the induction. -/
import Derived.Test.YtlimlmfgeaokhaaMg
import Derived.RangeFuncNested
import Derived.RangeFuncLeaves
import Derived.RangeFuncBox
import Derived.RangeFuncBound
import Derived.RangeFuncCalls
import Derived.Shelf.Abstract
import Derived.Shelf.RegionOpen
import Derived.OwnWalkIn
import Derived.TacticsInMore
import Derived.LoopNIn
import Derived.LoopIn
import Derived.Deep.RegionHeld3
namespace Go.Proofs.Ytlimlmfgeaokhaa
open Go.RowKit

/-- the blocks that a round may change: the box of the design, and the row of groups that it holds -/
def Ft (Bd : Nat) (W : World) (k : Nat) : Prop := k = Bd ∨ ∃ (x : Value) (ln cp : Nat), W.heap[Bd]? = some (.cells #[x, .slice (some ⟨k, 0, none⟩) ln cp] 44 (0, 0))
theorem Ft.of_same {Bd k : Nat} {W W' : World} (h : W'.heap[Bd]? = W.heap[Bd]?) (hf : Ft Bd W' k) : Ft Bd W k := by
  rcases hf with e | ⟨x, ln, cp, e⟩
  · exact .inl e
  · exact .inr ⟨x, ln, cp, h ▸ e⟩
/-- what a round keeps -/
structure Kr (Bd B : Nat) (W W' : World) : Prop where
  size : W.heap.size ≤ W'.heap.size
  far : ∀ k, k < W.heap.size → ¬ Ft Bd W k → ¬ Ft Bd W' k
  same : ∀ (k : Nat) (o : Obj), ¬ Ft Bd W k → W.heap[k]? = some o → o.isCells = true → W'.heap[k]? = some o
  walks : ∀ (k : Nat) (o : Obj), B ≤ k → W.heap[k]? = some o → o.isCells = false → W'.heap[k]? = some o
theorem Kr.trans {Bd B : Nat} {X Y Z : World} (h : Kr Bd B X Y) (g : Kr Bd B Y Z) : Kr Bd B X Z where
  size := Nat.le_trans h.size g.size
  far k hk hf := g.far k (Nat.lt_of_lt_of_le hk h.size) (h.far k hk hf)
  same k o hf hk ho := g.same k o (h.far k (Array.getElem?_eq_some_iff.1 hk).1 hf) (h.same k o hf hk ho) ho
  walks k o hB hk ho := g.walks k o hB (h.walks k o hB hk ho) ho
theorem Kr.mono {Bd B B' : Nat} {X Y : World} (h : Kr Bd B X Y) (hB : B ≤ B') : Kr Bd B' X Y where
  size := h.size
  far := h.far
  same := h.same
  walks k o hk := h.walks k o (Nat.le_trans hB hk)
/-- the loop's own book-keeping -/
theorem Kr.put {Bd B l : Nat} {W : World} {o : Obj} (o' : Obj) (hl : W.heap[l]? = some o) (ho : o.isCells = false) (hd : Bd ≠ l) (hB : l < B) : Kr Bd B W (W.putObj l o') where
  size := by simp
  far k hk hf h := hf (h.of_same (World.putObj_heap_other hd))
  same k o2 hf hk h2 := (World.putObj_heap_other (fun e => by subst e; rw [hl] at hk; cases hk; rw [ho] at h2; cases h2)).trans hk
  walks k o2 hk h _ := (World.putObj_heap_other (by omega)).trans h
theorem room_none {F : Fence} (hd : F.depth = none) (k : Nat) : F.room k := fun d h => by rw [hd] at h; cases h
theorem RoundIn.any {m : Nat} (m' : Nat) {P : Program} {l : Nat} {f : FuncId} {tmps : Array Value} {assign body : Code} {w : World} {R : Ending → World → Prop} (h : RoundIn Fence.wide m P l f tmps assign body w R) : RoundIn Fence.wide m' P l f tmps assign body w R := ⟨h.1, fun c cs _ => h.2 c cs (room_none rfl _)⟩
theorem YieldAt.any {m : Nat} (m' : Nat) {P : Program} {l : Nat} {args : Array Value} {W : World} {R : Ending → World → Prop} (h : YieldAt Fence.wide m P l args W R) : YieldAt Fence.wide m' P l args W R := by
  obtain ⟨fn, tmps, assign, body, hy, hR⟩ := h
  exact ⟨fn, tmps, assign, body, hy, hR.1, fun c cs _ => hR.2 c cs (room_none rfl _)⟩
theorem own_bel {β : Type} {B : Nat} {J : β → World → Prop} (h : OwnFrom B J) {s : β} {W W' : World} (hs : J s W) (hb : Below W.heap.size W W') : J s W' :=
  h s W W' none hs ⟨hb.os, hb.tape, hb.output, hb.size, fun k hk _ => hb.block k hk⟩ (fun _ e => by cases e)
/-- the contract of an iterator over α: every round goes on -/
def SeqO {α : Type} (P : Program) (Bd gf : Nat) (lb : Array Value) (encs : α → Array Value) (Hx : α → World → Prop) (S : List α → Prop) (w : World) : Prop :=
  ∀ (l n : Nat) (J : List α → World → Prop) (W : World), Below w.heap.size w W → OwnFrom W.heap.size J → (∀ pre W1, J pre W1 → ∀ k, Ft Bd W1 k → k < W1.heap.size) →
    (∀ m pre x W1, (∃ post, S (pre ++ x :: post)) → J pre W1 → Hx x W1 → YieldAt Fence.wide m P l (encs x) W1 fun e W' => e = .returned (.bool true) ∧ J (pre ++ [x]) W' ∧ Kr Bd W.heap.size W1 W') → J [] W →
    CallsIn Fence.wide n P gf (#[.func (.yield l) #[] #[]] ++ lb) W fun e W' => (∃ v, e = .returned v) ∧ ∃ xs, S xs ∧ J xs W'
/-- how the body of a round ends -/
def goesOn (R : World → Prop) : Exit → Act → World → Prop
  | .normal, _, W => R W
  | _, _, _ => False
theorem range_all {α : Type} {P : Program} {g : Operand} {ps : Array Tmp} {assign body : Code} {Q : Exit → Act → World → Prop} {a : Act} {w w0 : World} {n Bd gf : Nat} {lb : Array Value}
    (hg : a.eval g = .func (.func gf) #[] lb) (eg : ∀ args w, (callFunc gf args).run P w = .ok (.enter gf args) w)
    {encs : α → Array Value} {Hx : α → World → Prop} {S : List α → Prop} (hseq : SeqO P Bd gf lb encs Hx S w0) (hb0 : Below w0.heap.size w0 w) (hps : ∀ x, (encs x).size = ps.size) (hBd : Bd < w.heap.size)
    (I : List α → World → Prop) (hI : OwnFrom w.heap.size I) (hH : OwnFrom w.heap.size Hx) (hF : ∀ pre W1, I pre W1 → ∀ k, Ft Bd W1 k → k < W1.heap.size) (h0 : I [] w) (a₁ : α → Act)
    (hassign : ∀ (l m : Nat) (x : α) (W : World) (K : Act → World → Prop), K (a₁ x) W → assign.wpIn (Fence.wide.inRound l) m P (Exit.then K (fun _ _ _ => False)) { tmps := (ps.zip (encs x)).foldl (fun t (p, v) => t.setIfInBounds p v) a.tmps, defers := [] } W)
    (hbody : ∀ (l m : Nat) (pre : List α) (x : α) (W : World), (∃ post, S (pre ++ x :: post)) → I pre W → Hx x W → body.wpIn (Fence.wide.inRound l) m P (goesOn fun W' => Kr Bd w.heap.size W W' ∧ I (pre ++ [x]) W') (a₁ x) W)
    (hdone : ∀ (D : Nat) (xs : List α) (W : World), w.heap.size ≤ D → S xs → I xs W → W.heap[D]? = some (.deferred (some [])) → Q .normal { a with defers := { target := .collected D, args := #[] } :: a.defers } W) :
    (Code.rangeFunc g ps assign body).wpIn Fence.wide n P Q a w := by
  refine wpIn_rangeFunc fun fn _ => ?_
  obtain ⟨rc, hrc⟩ : ∃ rc : LoopState → Option Code → Loop, rc = fun st pe => { state := st, pending := pe, fn, tmps := a.tmps, params := ps, assign, body, defers := w.heap.size } := ⟨_, rfl⟩
  obtain ⟨V, hV⟩ : ∃ V, V = (w.alloc (.deferred (some []))).alloc (.loop (rc .ready none)) := ⟨_, rfl⟩
  have hVs : V.heap.size = w.heap.size + 2 := by rw [hV]; simp
  have hVb : Below w.heap.size w V := by rw [hV]; exact ((Below.refl _ w).alloc (Nat.le_refl _) _).alloc (by simp) _
  have hVl : V.heap[w.heap.size + 1]? = some (.loop (rc .ready none)) := by
    rw [hV]; have := World.alloc_heap_new (w.alloc (.deferred (some []))) (.loop (rc .ready none)); rwa [World.size_alloc] at this
  have hVd : V.heap[w.heap.size]? = some (.deferred (some [])) := by rw [hV]; exact (Below.heap_alloc _ _ _ (by simp)).trans (World.alloc_heap_new w _)
  have hIV : I [] V := own_bel hI h0 hVb
  refine ⟨w.heap.size + 1, [{ target := .collected w.heap.size, args := #[] }], V, { target := .fn (.func gf) lb, args := #[.func (.yield (w.heap.size + 1)) #[] #[]] }, V, gf,
    #[.func (.yield (w.heap.size + 1)) #[] #[]] ++ lb, V, ?_, ?_, (fun _ _ => trivial), ?_, (fun h => by cases h), ?_⟩
  · rw [hV, hrc]; exact run_enterLoop_outer _ _ _ _ _
  · simp only [resolve, hg]
    simp [go_sem]
  · simp [invoke, go_sem, eg]
  clear hV
  refine (hseq (w.heap.size + 1) _ (fun pre W => I pre W ∧ W.heap[w.heap.size + 1]? = some (.loop (rc .ready none)) ∧ W.heap[w.heap.size]? = some (.deferred (some []))) V (hb0.trans (hVb.mono hb0.size)) ?own ?foot ?round ⟨hIV, hVl, hVd⟩).mono ?_
  case own =>
    intro s X Y row hs hg' hr
    refine ⟨hI s X Y row hs.1 hg' (fun r e => ⟨by have := (hr r e).1; omega, (hr r e).2⟩), ?_, ?_⟩
    · exact (hg'.block _ (Array.getElem?_eq_some_iff.1 hs.2.1).1 (fun e => by have := (hr _ e.symm).1; omega)).trans hs.2.1
    · exact (hg'.block _ (Array.getElem?_eq_some_iff.1 hs.2.2).1 (fun e => by have := (hr _ e.symm).1; omega)).trans hs.2.2
  case foot => exact fun pre W1 h => hF pre W1 h.1
  case round =>
    rintro m pre x W hpost ⟨hi, hl, hk⟩ hx
    have hlt := (Array.getElem?_eq_some_iff.1 hl).1
    have hy := run_yield (P := P) (args := encs x) hl (by rw [hrc]; exact hps x)
    refine ⟨_, _, _, _, hy, roundIn_of_wpIn trivial ?_⟩
    have hb := run_beginRound (P := P) hl (by rw [hrc])
    simp only [hrc] at hb ⊢
    refine hassign _ _ x W _ ⟨_, hb, ?_⟩
    clear hb hy
    obtain ⟨U, hU⟩ : ∃ U, U = W.putObj (w.heap.size + 1) (.loop { rc .ready none with state := .busy }) := ⟨_, rfl⟩
    have hUl : U.heap[w.heap.size + 1]? = some (.loop { rc .ready none with state := .busy }) := by rw [hU]; exact World.putObj_heap_same hlt
    have hUd : U.heap[w.heap.size]? = some (.deferred (some [])) := by rw [hU]; exact (World.putObj_heap_other (by omega)).trans hk
    have hUi : I pre U := by rw [hU]; exact hI.putObj _ hi (by omega) hl rfl
    have hUx : Hx x U := by rw [hU]; exact hH.putObj _ hx (by omega) hl rfl
    have hUk : Kr Bd V.heap.size W U := by rw [hU]; exact Kr.put _ hl rfl (by omega) (by omega)
    have hw := wpIn_mono (hbody (w.heap.size + 1) m pre x U hpost hUi hUx) (Q' := roundPost P (w.heap.size + 1) fun e W' => e = .returned (.bool true) ∧ (I (pre ++ [x]) W' ∧ W'.heap[w.heap.size + 1]? = some (.loop (rc .ready none)) ∧ W'.heap[w.heap.size]? = some (.deferred (some []))) ∧ Kr Bd V.heap.size W W') (by
      intro e a3 W3 hp
      cases e with
      | normal =>
        obtain ⟨hk3, hi3⟩ := hp
        have hl3 := hk3.walks _ _ (by omega) hUl rfl
        have hd3 := hk3.walks _ _ (Nat.le_refl _) hUd rfl
        have he := run_endRound (P := P) none hl3
        refine ⟨_, _, he, rfl, ⟨hI.putObj _ hi3 (by omega) hl3 rfl, ?_, (World.putObj_heap_other (by omega)).trans hd3⟩, hUk.trans ((hk3.mono (by omega)).trans (Kr.put _ hl3 rfl (by omega) (by omega)))⟩
        rw [World.putObj_heap_same (Array.getElem?_eq_some_iff.1 hl3).1, hrc]
        rfl
      | exit id => exact hp.elim
      | goto t => exact hp.elim
      | ret => exact hp.elim
      | panic ch => exact hp.elim
      | outgrown => exact hp.elim)
    simp only [hU, hrc] at hw ⊢
    exact hw
  rintro e W2 ⟨⟨v, rfl⟩, xs, hS, hi, hl, hk⟩
  have he := run_endLoop (P := P) hl (by rw [hrc]; simp)
  refine ⟨none, _, by rw [hrc] at he; exact he, hdone _ xs _ (Nat.le_refl _) hS ?_ ?_⟩
  · simp only [hrc] at hl
    exact hI.putObj _ hi (by omega) hl rfl
  · exact (World.putObj_heap_other (by omega)).trans hk
/-- the marks of loops that are over, at a function's end -/
theorem leaves_marks {P : Program} {n : Nat} {fn : Func} {tmps : Array Value} {R : Ending → World → Prop} (J : World → Prop) (B : Nat) (hJ : OwnFrom B (fun (_ : Unit) W => J W))
    (hfin : ∀ W, J W → LeavesInM Fence.wide n P fn tmps R [] .returning W) : ∀ (ds : List Nat) (W : World), ds.Nodup → (∀ D ∈ ds, B ≤ D) → Marks W ds → J W →
    LeavesInM Fence.wide n P fn tmps R (ds.map fun D => { target := .collected D, args := #[] }) .returning W
  | [], W, _, _, _, h => hfin W h
  | D :: ds, W, hn, hB, hM, h => by
    have hD := hM D (by simp)
    refine ⟨by simp, .inl ⟨D, _, rfl, run_takeDeferred hD, leaves_marks J B hJ hfin ds _ (List.nodup_cons.1 hn).2 (fun E hE => hB E (by simp [hE])) (fun E hE => ?_) (hJ.putObj (s := ()) _ h (hB D (by simp)) hD rfl)⟩⟩
    exact (World.putObj_heap_other (fun e => (List.nodup_cons.1 hn).1 (by rw [← e]; exact hE))).trans (hM E (by simp [hE]))
end Go.Proofs.Ytlimlmfgeaokhaa
namespace Go.Proofs.Ytlimlmfgeaokhaa
open Go.RowKit

def il (P : List Nat) : List Value := P.map fun x => Value.int .i64 (x : Nat)
theorem il_length (P : List Nat) : (il P).length = P.length := by simp [il]
theorem il_ils (P : List Nat) : il P = ils (fun j => P.getD j 0) P.length := by
  apply List.ext_getElem
  · simp [il, ils]
  · intro i h1 h2
    have hi : i < P.length := by simpa [il] using h1
    simp [il, ils, hi]
theorem il_snoc_front (P : List Nat) (d : Nat) : ils (fun j => (P ++ [d]).getD j 0) P.length = il P := by
  rw [il_ils]
  refine ils_congr (fun j hj => ?_)
  simp [List.getD, List.getElem?_append_left hj]
theorem il_one (P : List Nat) : ∀ u ∈ il P, u.oneCell' = true := by
  intro u hu
  obtain ⟨x, _, rfl⟩ := List.mem_map.1 hu
  rfl
theorem own_same {w w' : World} {base size n : Nat} {e : TypeId} {v : Value} {xs : List Value} (h : w.ownsRow base e size v n xs) (hs : ∀ g, v.ownBlock = some g → w'.heap[g]? = w.heap[g]?) : w'.ownsRow base e size v n xs := by
  refine ⟨h.1, ?_⟩
  rcases h.2 with h0 | ⟨g, cap, cur, rfl, hb, hg, rest⟩
  · exact .inl h0
  · exact .inr ⟨g, cap, cur, rfl, hb, (hs g rfl).trans hg, rest⟩
theorem own_low {w : World} {base base' size n : Nat} {e : TypeId} {v : Value} {xs : List Value} (h : w.ownsRow base e size v n xs) (hb : base' ≤ base) : w.ownsRow base' e size v n xs := by
  refine ⟨h.1, ?_⟩
  rcases h.2 with h0 | ⟨g, cap, cur, rfl, hb', hg, rest⟩
  · exact .inl h0
  · exact .inr ⟨g, cap, cur, rfl, Nat.le_trans hb hb', hg, rest⟩
/-- how many sets (design.count) -/
def cf (v : Nat) : Nat → Nat
  | 0 => 1
  | i + 1 => cf v i * (v - i) / (i + 1)
set_option maxRecDepth 100000 in
set_option maxHeartbeats 1000000 in
theorem count_any (v k : Nat) (w : World) (hk : k ≤ v) (hv : v ≤ 60) (hc : ∀ i, i ≤ k → cf v i ≤ 1099511627776) :
    Calls Try.prog 67 #[.int .i64 v, .int .i64 k] w fun e w' => e = .returned (.int .i64 (cf v k : Nat)) ∧ w' = w := by
  have HC := Lib.hid hc
  clear hc
  go_enter Try.func67, Try.ntmps67
  go_wp2_with fail
  go_loopw [5, 8] (fun vn vi wr => ∃ i : Nat, i ≤ k ∧ vi = .int .i64 i ∧ vn = .int .i64 (cf v i : Nat) ∧ wr = w) (fun _ vi _ => k - (intOf vi).toNat)
  case atStart => exact ⟨0, by omega, rfl, rfl, rfl⟩
  case round =>
    obtain ⟨i, hi, rfl, rfl, rfl⟩ := hrel
    by_cases hik : i < k
    · have hiki : (i : Int) < k := by omega
      have h1 := HC.out i hi
      have h2 := HC.out (i + 1) hik
      obtain ⟨t, ht⟩ : ∃ t : Nat, (v : Int) - i = t := ⟨v - i, by omega⟩
      obtain ⟨c1, hc1⟩ : ∃ c1, c1 = cf v (i + 1) := ⟨_, rfl⟩
      obtain ⟨c0, hc0⟩ : ∃ c0, c0 = cf v i := ⟨_, rfl⟩
      have ht2 : t = v - i := by omega
      obtain ⟨x, hx⟩ : ∃ x, x = c0 * t := ⟨_, rfl⟩
      have h4 : (c0 : Int) * (t : Int) = x := by rw [hx]; simp
      have h5 : x ≤ 1099511627776 * 60 := by rw [hx]; exact Nat.mul_le_mul (by rw [hc0]; exact h1) (by omega)
      have h6 : Int.tdiv (x : Int) ((i : Int) + 1) = (c1 : Int) := by
        rw [show ((i : Int) + 1) = ((i + 1 : Nat) : Int) by omega, ← Int.ofNat_tdiv, hc1, cf, ← hc0, ← ht2, ← hx]
      have h7 : ¬ (1099511627776 < (c1 : Int)) := by omega
      have HC1 := Lib.hid hc1
      have h8 : (x : Int) ≤ 65970697666560 := by omega
      rw [← hc0]
      clear hc1 hc0 ht2 hx h5 h1 h2
      go_wp2_with fail
      exact ⟨⟨i + 1, by omega, by go_num, by rw [HC1.out], trivial⟩, by simp [intOf]; omega⟩
    · obtain rfl : i = k := by omega
      go_wp2_with fail
      go_ret
      exact ⟨rfl, rfl⟩
theorem own_nil_form {w : World} {base size n : Nat} {e : TypeId} {v : Value} {xs : List Value} (h : w.ownsRow base e size v n xs) (hn : 0 < n) : ∃ g cap, v = .slice (some ⟨g, 0, none⟩) n cap ∧ g < w.heap.size := by
  obtain ⟨g, cap, hv, _, hl⟩ := h.form hn
  exact ⟨g, cap, hv, hl⟩
set_option maxRecDepth 100000 in
theorem clonei_any (P : List Nat) (v : Value) (w : World) (hv : w.ownsRow 0 3 1 v P.length (il P)) (h0 : P = [] → v = .slice none 0 0) (hP : P.length ≤ 1000) :
    Calls Try.prog 82 #[v] w fun e w' => ∃ v', e = .returned v' ∧ w'.ownsRow w.heap.size 3 1 v' P.length (il P) ∧ (P = [] → v' = .slice none 0 0) ∧ Below w.heap.size w w' := by
  by_cases hp : P = []
  · subst hp
    obtain rfl := h0 rfl
    have he : ∀ W : World, (binOp .eql 32 (.slice none 0 0) (.slice none 0 0)).run Try.prog W = .ok (.bool true) W := fun _ => rfl
    go_enter Try.func82, Try.ntmps82
    go_wp2_with fail
    go_ret
    exact ⟨_, rfl, World.ownsRow_nil _ _ _ _, rfl, Below.refl _ _⟩
  · have hl : 0 < P.length := List.length_pos_iff.2 hp
    obtain ⟨g, cap, rfl, hgl⟩ := own_nil_form hv hl
    have he : ∀ W : World, (binOp .eql 32 (.slice (some ⟨g, 0, none⟩) P.length cap) (.slice none 0 0)).run Try.prog W = .ok (.bool false) W := fun _ => rfl
    obtain ⟨i0, hi0, hz0, hz1, hz2⟩ := info_parts Try.infoInt
    have HI0 := Lib.hid (And.intro hi0 (And.intro hz0 (And.intro hz1 hz2)))
    have HV := Lib.hid hv
    clear hv hi0 hz0 hz1 hz2
    have hown : (w.alloc (.cells #[] 3)).ownsRow w.heap.size 3 1 (.slice (some ⟨w.heap.size, 0, none⟩) 0 0) 0 [] := World.ownsRow_lit w #[] 0 (Nat.le_refl _) (by unfold maxLen; omega) rfl
    have HO := Lib.hid hown
    clear hown
    go_enter Try.func82, Try.ntmps82
    go_wp2_with (at_builtin; refine wpList_append_own _ rfl (.tmp 5) (.tmp 6) 32 rfl w.heap.size 3 i0 (.int .i64 0) 1 8 Try.underlying32 HI0.out.1 HI0.out.2.1 HI0.out.2.2.1 HI0.out.2.2.2 rfl (by decide) (.slice (some ⟨w.heap.size, 0, none⟩) 0 0) 0 [] rfl HO.out ⟨g, 0, none⟩ P.length cap (il P) rfl (by rw [il_length, Nat.mul_one]) (fun j u hj => by rw [Go.WideShapes.add_plain, Nat.zero_add]; exact ((HV.out.alloc _).cellAt j (by have := (List.getElem?_eq_some_iff.1 hj).1; rw [il_length] at this; omega)).trans hj) (il_one P) (by unfold maxLen; omega) (by omega) (by simp) ?_; intro v1 w2 o1 g1 _; have HO1 := Lib.hid o1; have HB2 := Lib.hid ((Go.Joins.below_alloc1 w _).grown g1 (by simp) (own_new (Nat.le_refl _))); clear o1 g1)
    go_ret
    have ho := HO1.out
    rw [List.nil_append, Nat.zero_add] at ho
    exact ⟨_, rfl, ho, fun h => absurd h hp, HB2.out⟩
/-- design.sets boxes its arguments -/
theorem sets_any (A : Option Addr) (p c v k : Nat) (w : World) :
    Calls Try.prog 68 #[.slice A p c, .int .i64 v, .int .i64 k] w fun e w' => ∃ Bp Bw Bv, e = .returned (.func (.func 81) #[] #[.pointer (some ⟨Bp, 0, none⟩), .pointer (some ⟨Bw, 0, none⟩), .pointer (some ⟨Bv, 0, none⟩)]) ∧
      Boxed w' Bp 32 (.slice A p c) ∧ Boxed w' Bw 3 (.int .i64 k) ∧ Boxed w' Bv 3 (.int .i64 v) ∧ w.heap.size ≤ Bp ∧ w.heap.size ≤ Bw ∧ w.heap.size ≤ Bv ∧ Below w.heap.size w w' := by
  go_enter Try.func68, Try.ntmps68
  go_wp2_with fail
  go_ret
  refine ⟨w.heap.size, w.heap.size + 1 + 1, w.heap.size + 1, rfl, ((Boxed.new w _ _).alloc _).alloc _, ?_, ?_, Nat.le_refl _, by omega, by omega, ?_⟩
  · have := Boxed.new ((w.alloc (.cells #[.slice A p c] 32)).alloc (.cells #[.int .i64 v] 3)) 3 (.int .i64 k)
    simpa using this
  · have := (Boxed.new (w.alloc (.cells #[.slice A p c] 32)) 3 (.int .i64 v)).alloc (.cells #[.int .i64 k] 3)
    simpa using this
  · exact (((Below.refl _ w).alloc (Nat.le_refl _) _).alloc (by simp) _).alloc (by simp; omega) _
end Go.Proofs.Ytlimlmfgeaokhaa
namespace Go.Proofs.Ytlimlmfgeaokhaa
open Go.RowKit Go.Shelf
attribute [local go_sem] Oper.semAt_some

/-- the first number that may follow -/
def fro (P : List Nat) : Nat := if P.length = 0 then 0 else P.getD (P.length - 1) 0 + 1
/-- the sets of m more numbers, in order -/
def subs (v : Nat) : Nat → List Nat → List (List Nat)
  | 0, P => [P]
  | m + 1, P => ((List.range (v - m - fro P)).map (· + fro P)).flatMap fun d => subs v m (P ++ [d])
abbrev Pv := Value × List Nat
theorem subs_split (v m i f : Nat) (P : List Nat) (hf : f = fro P) (hi : i < v - m - f) : ∃ B, subs v (m + 1) P = (((List.range i).map (· + f)).flatMap fun d => subs v m (P ++ [d])) ++ subs v m (P ++ [f + i]) ++ B := by
  obtain ⟨r, hr⟩ : ∃ r, v - m - f = i + 1 + r := ⟨v - m - f - (i + 1), by omega⟩
  refine ⟨(((List.range r).map (i + 1 + ·)).map (· + f)).flatMap fun d => subs v m (P ++ [d]), ?_⟩
  rw [subs, ← hf, hr, List.range_add, List.range_succ, List.map_append, List.map_append, List.flatMap_append, List.flatMap_append]
  simp [Nat.add_comm]
def Hs (x : Pv) (W : World) : Prop := W.ownsRow 0 3 1 x.1 x.2.length (il x.2)
theorem own_at {w : World} {base size n : Nat} {e : TypeId} {v : Value} {xs : List Value} (h : w.ownsRow base e size v n xs) {g : Nat} (hg : v.ownBlock = some g) : ∃ cur, w.heap[g]? = some (.cells cur e (0, 0)) := by
  rcases h.2 with ⟨rfl, _⟩ | ⟨g', cap, cur, rfl, _, h2, _⟩
  · cases hg
  · cases hg; exact ⟨cur, h2⟩
theorem hs_own (B : Nat) : OwnFrom B Hs := fun s X Y row hs hg hr => own_same hs (fun g e => by
  obtain ⟨cur, hc⟩ := own_at hs e
  exact hg.block g (Array.getElem?_eq_some_iff.1 hc).1 (fun e' => by obtain ⟨o, ho, hn⟩ := (hr g e'.symm).2; rw [hc] at ho; cases ho; cases hn))
/-- what the iterator reads -/
structure Prot (Bd Bp Bw Bv By l v k : Nat) (P : List Nat) (pv : Value) (W : World) : Prop where
  sz : Bd < W.heap.size
  bp : Boxed W Bp 32 pv
  bw : Boxed W Bw 3 (.int .i64 k)
  bv : Boxed W Bv 3 (.int .i64 v)
  by' : Boxed W By 133 (.func (.yield l) #[] #[])
  row : W.ownsRow 0 3 1 pv P.length (il P)
  fp : ¬ Ft Bd W Bp
  fw : ¬ Ft Bd W Bw
  fv : ¬ Ft Bd W Bv
  fy : ¬ Ft Bd W By
  fr : ∀ g, pv.ownBlock = some g → ¬ Ft Bd W g
theorem Prot.below {Bd Bp Bw Bv By l v k : Nat} {P : List Nat} {pv : Value} {W W' : World} (h : Prot Bd Bp Bw Bv By l v k P pv W) (hb : Below W.heap.size W W') : Prot Bd Bp Bw Bv By l v k P pv W' where
  sz := Nat.lt_of_lt_of_le h.sz hb.size
  bp := (hb.block _ h.bp.lt).trans h.bp
  bw := (hb.block _ h.bw.lt).trans h.bw
  bv := (hb.block _ h.bv.lt).trans h.bv
  by' := (hb.block _ h.by'.lt).trans h.by'
  row := own_same h.row (fun g e => by obtain ⟨cur, hc⟩ := own_at h.row e; exact hb.block g (Array.getElem?_eq_some_iff.1 hc).1)
  fp e := h.fp (e.of_same (hb.block _ h.sz))
  fw e := h.fw (e.of_same (hb.block _ h.sz))
  fv e := h.fv (e.of_same (hb.block _ h.sz))
  fy e := h.fy (e.of_same (hb.block _ h.sz))
  fr g e f := h.fr g e (f.of_same (hb.block _ h.sz))
theorem Prot.kr {Bd B Bp Bw Bv By l v k : Nat} {P : List Nat} {pv : Value} {W W' : World} (h : Prot Bd Bp Bw Bv By l v k P pv W) (hk : Kr Bd B W W') : Prot Bd Bp Bw Bv By l v k P pv W' where
  sz := Nat.lt_of_lt_of_le h.sz hk.size
  bp := hk.same _ _ h.fp h.bp rfl
  bw := hk.same _ _ h.fw h.bw rfl
  bv := hk.same _ _ h.fv h.bv rfl
  by' := hk.same _ _ h.fy h.by' rfl
  row := own_same h.row (fun g e => by obtain ⟨cur, hc⟩ := own_at h.row e; rw [hk.same _ _ (h.fr g e) hc rfl, hc])
  fp := hk.far _ h.bp.lt h.fp
  fw := hk.far _ h.bw.lt h.fw
  fv := hk.far _ h.bv.lt h.fv
  fy := hk.far _ h.by'.lt h.fy
  fr g e := hk.far _ (by obtain ⟨cur, hc⟩ := own_at h.row e; exact (Array.getElem?_eq_some_iff.1 hc).1) (h.fr g e)
theorem prot_own {β : Type} {Bd B Bp Bw Bv By l v k : Nat} {P : List Nat} {pv : Value} (hd : Bd < B) : OwnFrom B (fun (_ : β) W => Prot Bd Bp Bw Bv By l v k P pv W) := fun s X Y row hs hg hr => by
  have key : ∀ (i : Nat) (cur : Array Value) (t : TypeId), X.heap[i]? = some (.cells cur t (0, 0)) → Y.heap[i]? = X.heap[i]? := fun i cur t h =>
    hg.block i (Array.getElem?_eq_some_iff.1 h).1 (fun e' => by obtain ⟨_, o, ho, hn⟩ := hr i e'.symm; rw [h] at ho; cases ho; cases hn)
  have hf : ∀ i, ¬ Ft Bd X i → ¬ Ft Bd Y i := fun i h e => h (e.of_same (hg.block Bd hs.sz (fun e' => by have := (hr Bd e'.symm).1; omega)))
  refine ⟨Nat.lt_of_lt_of_le hs.sz hg.size, (key _ _ _ hs.bp).trans hs.bp, (key _ _ _ hs.bw).trans hs.bw, (key _ _ _ hs.bv).trans hs.bv, (key _ _ _ hs.by').trans hs.by', own_same hs.row (fun g e => ?_), hf _ hs.fp, hf _ hs.fw, hf _ hs.fv, hf _ hs.fy, fun g e => hf _ (hs.fr g e)⟩
  obtain ⟨cur, hc⟩ := own_at hs.row e
  exact key g cur _ hc
theorem prot_new {v k l Bd Bp Bw Bv : Nat} {P : List Nat} {pv : Value} {w W : World} (hW : Below w.heap.size w W) (hsz : Bd < w.heap.size) (hbp : Boxed w Bp 32 pv) (hbw : Boxed w Bw 3 (.int .i64 k)) (hbv : Boxed w Bv 3 (.int .i64 v)) (hrow : w.ownsRow 0 3 1 pv P.length (il P))
    (hfp : ¬ Ft Bd w Bp) (hfw : ¬ Ft Bd w Bw) (hfv : ¬ Ft Bd w Bv) (hfr : ∀ g, pv.ownBlock = some g → ¬ Ft Bd w g) (hFt : ∀ k, Ft Bd W k → k < W.heap.size) :
    Prot Bd Bp Bw Bv W.heap.size l v k P pv (W.alloc (.cells #[.func (.yield l) #[] #[]] 133)) := by
  have hd : Bd < W.heap.size := Nat.lt_of_lt_of_le hsz hW.size
  have bP : Boxed W Bp 32 pv := (hW.block _ hbp.lt).trans hbp
  have bW : Boxed W Bw 3 (.int .i64 k) := (hW.block _ hbw.lt).trans hbw
  have bV : Boxed W Bv 3 (.int .i64 v) := (hW.block _ hbv.lt).trans hbv
  have e1 : (W.alloc (.cells #[.func (.yield l) #[] #[]] 133)).heap[Bd]? = W.heap[Bd]? := Below.heap_alloc W _ _ hd
  have e0 := e1.trans (hW.block _ hsz)
  exact ⟨by simp; omega, bP.alloc _, bW.alloc _, bV.alloc _, Boxed.new _ _ _, (own_below hrow hW).alloc _, fun e => hfp (e.of_same e0), fun e => hfw (e.of_same e0), fun e => hfv (e.of_same e0), fun e => by
    have := hFt _ (e.of_same e1)
    omega, fun g e f => hfr g e (f.of_same e0)⟩
/-- one number more, in a region that draws -/
theorem stepL {w : World} {ops : Array Oper} {o : Oper} {a : Act} {K : Act → World → Prop} {Q : Exit → Act → World → Prop} {E : Prop} (hgd : o.guard = none) (s x : Operand)
    (ho : o.op = .call { callee := .builtin .append, args := #[s, x], argTypes := #[32, 32] })
    (base : Nat) (v : Value) (P : List Nat) (d : Nat) (hs : a.eval s = v) (hown : w.ownsRow base 3 1 v P.length (il P)) (B : Nat) (hx : a.eval x = .slice (some ⟨B, 0, none⟩) 1 1)
    (hb : w.heap[B]? = some (.cells #[.int .i64 (d : Nat)] 3 (0, 0))) (hn : P.length ≤ 1000) (hbase : base ≤ w.heap.size)
    (K' : ∀ g cap w', w'.ownsRow base 3 1 (.slice (some ⟨g, 0, none⟩) (P.length + 1) cap) (P.length + 1) (il (P ++ [d])) → w.grownBy w' v.ownBlock → K (a.put o.dst (.slice (some ⟨g, 0, none⟩) (P.length + 1) cap)) w') :
    if Region.wanted o (yielded ops a.tmps) = true then Oper.wp Try.prog o a w K Q else E := by
  have h1 : il (P ++ [d]) = ils (fun j => (P ++ [d]).getD j 0) (P.length + 1) := by rw [il_ils]; simp
  have h2 : (P ++ [d]).getD P.length 0 = d := by simp
  rw [h1] at K'
  exact stepN hgd s x ho base v P.length (fun j => (P ++ [d]).getD j 0) hs (by rw [il_snoc_front]; exact hown) B hx (by rw [h2]; exact hb) hn hbase w.heap.size rfl (fun g cap w' a1 a2 _ _ => K' g cap w' a1 a2)
theorem ownFrom_mono {β : Type} {B B' : Nat} {J : β → World → Prop} (h : OwnFrom B J) (hb : B ≤ B') : OwnFrom B' J := fun s X Y row hs hg hr => h s X Y row hs hg (fun r e => ⟨Nat.le_trans hb (hr r e).1, (hr r e).2⟩)
theorem RoundIn.round {F : Fence} {n : Nat} {P : Program} {l l' : Nat} {f : FuncId} {tmps : Array Value} {assign body : Code} {w : World} {R : Ending → World → Prop} (h : RoundIn F n P l f tmps assign body w R) : RoundIn (F.inRound l') n P l f tmps assign body w R := h
def mk (D : Nat) : Deferred := { target := .collected D, args := #[] }
/-- what the loop of design.sets holds -/
structure Lv (W0 : World) (J : List Pv → World → Prop) (Bd Bp Bw Bv l v k m i : Nat) (P : List Nat) (pv : Value) (ds : List Nat) (xs : List Pv) (W : World) : Prop where
  j : J xs W
  pr : Prot Bd Bp Bw Bv W0.heap.size l v k P pv W
  ms : Marks W ds
  nd : ds.Nodup
  ge : ∀ D ∈ ds, W0.heap.size ≤ D
  out : xs.map (·.2) = ((List.range i).map (· + fro P)).flatMap fun d => subs v m (P ++ [d])
  sz : W0.heap.size ≤ W.heap.size
def SetsAt (v k Bd m : Nat) : Prop := ∀ (P : List Nat), P.length + m = k → (∀ x ∈ P, x < v) → ∀ (w : World) (Bp Bw Bv : Nat) (pv : Value),
    Bd < w.heap.size → Boxed w Bp 32 pv → Boxed w Bw 3 (.int .i64 k) → Boxed w Bv 3 (.int .i64 v) → w.ownsRow 0 3 1 pv P.length (il P) → (P = [] → pv = .slice none 0 0) →
    ¬ Ft Bd w Bp → ¬ Ft Bd w Bw → ¬ Ft Bd w Bv → (∀ g, pv.ownBlock = some g → ¬ Ft Bd w g) →
    SeqO Try.prog Bd 81 #[.pointer (some ⟨Bp, 0, none⟩), .pointer (some ⟨Bw, 0, none⟩), .pointer (some ⟨Bv, 0, none⟩)] (fun x : Pv => #[x.1]) Hs (fun xs => xs.map (·.2) = subs v m P) w
set_option maxRecDepth 100000 in
set_option maxHeartbeats 4000000 in
theorem sets_zero (v k Bd : Nat) (hv : v ≤ 60) (hk : k ≤ v) (h1 : 1 ≤ k) : SetsAt v k Bd 0 := by
  intro P hlen hP w Bp Bw Bv pv hsz hbp hbw hbv hrow hnil hfp hfw hfv hfr l n J W hW hJ hFt hY h0
  have hPk : P.length = k := by omega
  obtain ⟨gp, cp, rfl, hgp⟩ := own_nil_form hrow (by omega)
  have hPr := prot_new (l := l) hW hsz hbp hbw hbv hrow hfp hfw hfv hfr (hFt _ _ h0)
  have HPR := Lib.hid hPr
  have cP := hPr.bp.cell
  have cW := hPr.bw.cell
  have cV := hPr.bv.cell
  have cY := hPr.by'.cell
  have hPki : (P.length : Int) = k := by omega
  clear hPr hfp hfw hfv hbp hbw hbv
  refine callsIn_of_wp_marks Try.func81 rfl trivial ?_ rfl
  simp only [Try.ntmps81, List.size_toArray, List.length_cons, List.length_nil, Nat.reduceAdd, Nat.reduceSub, Array.replicate_succ, Array.replicate_zero, List.push_toArray, List.append_toArray, List.nil_append, List.cons_append]
  have hmx : Try.prog.follows .mixedOrders = true := by kernel_rfl
  have hvk : v < 2 ^ 31 := by omega
  gi_wp2
  have hcl := fun W' (h : W'.ownsRow 0 3 1 (.slice (some ⟨gp, 0, none⟩) P.length cp) P.length (il P)) => clonei_any P (.slice (some ⟨gp, 0, none⟩) P.length cp) W' h hnil (by omega)
  rw [hPk] at hcl
  have HCL := Lib.hid hcl
  have HY := Lib.hid hY
  have HJ := Lib.hid (own_bel hJ h0 (Go.Joins.below_alloc1 W (.cells #[.func (.yield l) #[] #[]] 133)))
  clear hcl hY h0
  gi_region_with_o (first
    | (refine ⟨trivial, fun h => (by cases h), ?_⟩; gi_at_call 82; refine (callsIn_wide.2 (HCL.out _ (by have := HPR.out.row; rw [hPk] at this; exact this))).mono ?_; rintro e w2 ⟨v2, rfl, ho2, _, hb2'⟩; have hb2 := ((Below.refl _ (W.alloc (.cells #[.func (.yield l) #[] #[]] 133))).drew).trans hb2'; have hj2 := own_bel hJ HJ.out hb2; obtain ⟨fn, tmps, assign, body, hy, hR⟩ := HY.out 0 [] (v2, P) w2 ⟨[], rfl⟩ hj2 (by rw [← hPk] at ho2; exact own_low ho2 (Nat.zero_le _)); have cY2 := (HPR.out.below hb2).by'.cell)
    | (refine ⟨fun h => (by cases h), ?_⟩; refine (RoundIn.mono (Go.Proofs.Ytlimlmfgeaokhaa.RoundIn.any _ hR) ?_); rintro e w3 ⟨rfl, hj3, _⟩))
  all_goals
    gi_wp2
    exact ⟨_, results_none rfl _ _ _, ⟨_, rfl⟩, [(v2, P)], rfl, hj3⟩

end Go.Proofs.Ytlimlmfgeaokhaa
namespace Go.Proofs.Ytlimlmfgeaokhaa
open Go.RowKit Go.Shelf
attribute [local go_sem] Oper.semAt_some

theorem step_seq {v k Bd m d : Nat} {P : List Nat} (ih : SetsAt v k Bd m) (hlen : P.length + (m + 1) = k) (hP : ∀ x ∈ P, x < v) (hd : d < v) {W' w6 w7 : World} {g6 c6 Bp' Bw' Bv' : Nat} (hkp : Kp W' w7) (hB : Bd < W'.heap.size) (hF : ∀ x, Ft Bd W' x → x < W'.heap.size)
    (ho6 : w6.ownsRow W'.heap.size 3 1 (.slice (some ⟨g6, 0, none⟩) (P.length + 1) c6) (P.length + 1) (il (P ++ [d]))) (b1 : Boxed w7 Bp' 32 (.slice (some ⟨g6, 0, none⟩) (P.length + 1) c6)) (b2 : Boxed w7 Bw' 3 (.int .i64 k)) (b3 : Boxed w7 Bv' 3 (.int .i64 v))
    (l1 : w6.heap.size ≤ Bp') (l2 : w6.heap.size ≤ Bw') (l3 : w6.heap.size ≤ Bv') (hb7 : Below w6.heap.size w6 w7) :
    SeqO Try.prog Bd 81 #[.pointer (some ⟨Bp', 0, none⟩), .pointer (some ⟨Bw', 0, none⟩), .pointer (some ⟨Bv', 0, none⟩)] (fun x : Pv => #[x.1]) Hs (fun xs => xs.map (·.2) = subs v m (P ++ [d])) w7 := by
  have hg := ho6.lt g6 rfl
  have key : ∀ x, W'.heap.size ≤ x → ¬ Ft Bd w7 x := fun x hx h => by
    have := hF x (h.of_same (hkp.below.block _ hB).symm.symm)
    omega
  have hrow := own_below ho6 hb7
  refine ih (P ++ [d]) (by simp; omega) (fun x hx => ?_) w7 Bp' Bw' Bv' (.slice (some ⟨g6, 0, none⟩) (P ++ [d]).length c6) (Nat.lt_of_lt_of_le hB hkp.below.size) (by rw [show (P ++ [d]).length = P.length + 1 by simp]; exact b1) b2 b3 (own_low (base := W'.heap.size) ?_ (Nat.zero_le _)) (fun h => by simp at h) (key _ (by omega)) (key _ (by omega)) (key _ (by omega)) (fun g e => key _ (by cases e; exact hg.1))
  · rcases List.mem_append.1 hx with h | h
    · exact hP x h
    · simp at h; omega
  · rw [show (P ++ [d]).length = P.length + 1 by simp]; exact hrow
set_option maxRecDepth 100000 in
set_option maxHeartbeats 4000000 in
theorem sets_succ (v k Bd m : Nat) (hv : v ≤ 60) (hk : k ≤ v) (h1 : 1 ≤ k) (ih : SetsAt v k Bd m) : SetsAt v k Bd (m + 1) := by
  intro P hlen hP w Bp Bw Bv pv hsz hbp hbw hbv hrow hnil hfp hfw hfv hfr l n J W hW hJ hFt hY h0
  have hPr := prot_new (l := l) hW hsz hbp hbw hbv hrow hfp hfw hfv hfr (hFt _ _ h0)
  have hJV := own_bel hJ h0 (Go.Joins.below_alloc1 W (.cells #[.func (.yield l) #[] #[]] 133))
  obtain ⟨Ap, cp, rfl⟩ := own_form hrow
  have HPR := Lib.hid hPr
  have HJV := Lib.hid hJV
  have HY := Lib.hid hY
  have HFT := Lib.hid hFt
  have HIH := Lib.hid ih
  have HNL := Lib.hid hnil
  have cP := hPr.bp.cell
  have cW := hPr.bw.cell
  have cV := hPr.bv.cell
  have cY := hPr.by'.cell
  have hmx : Try.prog.follows .mixedOrders = true := by kernel_rfl
  have hPki : ¬ (P.length : Int) = k := by omega
  have hPkn : ¬ P.length = k := by omega
  obtain ⟨t, ht⟩ : ∃ t, t = m + 1 := ⟨_, rfl⟩
  have hkp : (k : Int) - P.length = (t : Int) := by omega
  obtain ⟨q, hq⟩ : ∃ q, q = v - t := ⟨_, rfl⟩
  have hvt : (v : Int) - (t : Int) = (q : Int) := by omega
  obtain ⟨f, hf⟩ : ∃ f, f = fro P := ⟨_, rfl⟩
  have hfv' : f ≤ 60 := by
    rw [hf]; unfold fro
    split
    · omega
    · have := hP _ (List.getElem_mem (show P.length - 1 < P.length by omega))
      simp [List.getD, List.getElem?_eq_getElem (show P.length - 1 < P.length by omega)]; omega
  clear hPr hJV hY hFt ih hnil hfp hfw hfv hfr hbp hbw hbv h0 hrow
  refine callsIn_of_wp_marks Try.func81 rfl trivial ?_ rfl
  simp only [Try.ntmps81, List.size_toArray, List.length_cons, List.length_nil, Nat.reduceAdd, Nat.reduceSub, Array.replicate_succ, Array.replicate_zero, List.push_toArray, List.append_toArray, List.nil_append, List.cons_append]
  have hstart : (P.length = 0 ∧ f = 0 ∨ ∃ z g c, 0 < P.length ∧ (P.length : Int) - 1 = (z : Nat) ∧ Ap = some ⟨g, 0, none⟩ ∧ c = P.getD z 0 ∧ f = c + 1 ∧ (W.alloc (.cells #[.func (.yield l) #[] #[]] 133)).cell? ⟨g, z, none⟩ = some (.int .i64 (c : Nat))) := by
    by_cases hp0 : P.length = 0
    · exact .inl ⟨hp0, by rw [hf, fro, if_pos hp0]⟩
    · obtain ⟨g, c', hv, hl⟩ := own_nil_form HPR.out.row (by omega)
      cases hv
      refine .inr ⟨P.length - 1, g, P.getD (P.length - 1) 0, by omega, by omega, rfl, rfl, by rw [hf, fro, if_neg hp0], ?_⟩
      rw [HPR.out.row.cellAt (P.length - 1) (by omega)]
      simp [il, List.getD, List.getElem?_eq_getElem (show P.length - 1 < P.length by omega)]
  have HEQ := Lib.hid (And.intro ht (And.intro hq hf))
  clear ht hq hf
  rcases hstart with hst | hst
  case' inl =>
    obtain ⟨hp0, hf0⟩ := hst
    have hpi : ¬ (0 : Int) < P.length := by omega
    have HF0 := Lib.hid hf0
    clear hp0 hf0
    gi_wp2
    have hs0 : Value.int .i64 0 = Value.int .i64 ((f + 0 : Nat) : Int) := by rw [HF0.out]; rfl
    rw [hs0]
    clear hs0 HF0
  case' inr =>
    obtain ⟨z, g, c, hp0, hz, rfl, hc, hf1, cz⟩ := hst
    have hpi : (0 : Int) < P.length := by omega
    have HF1 := Lib.hid hf1
    have hcb : (c : Int) ≤ 60 := by omega
    clear hc hf1
    gi_wp2
    have hs0 : Value.int .i64 ((c : Int) + 1) = Value.int .i64 ((f + 0 : Nat) : Int) := by rw [HF1.out]; rfl
    rw [hs0]
    clear hs0 HF1 hcb cz hz
    obtain ⟨Ap, hAp⟩ : ∃ A, A = some (⟨g, 0, none⟩ : Addr) := ⟨_, rfl⟩
    simp only [← hAp] at HPR HNL cP ⊢
    clear hAp
  all_goals
    refine wpIn_loop (fun a' W' => ∃ (i : Nat) (ds : List Nat) (xs : List Pv) (u5 u8 u9 u10 u11 u12 u13 u14 u15 u16 u17 u18 u19 u20 u21 u22 u23 u24 u25 u26 u27 u28 u29 u30 u31 u32 u33 u34 u35 u36 u37 u38 u39 u40 u41 u42 u43 u44 : Value), a' = { tmps := #[.func (.yield l) #[] #[], .pointer (some ⟨Bp, 0, none⟩), .pointer (some ⟨Bw, 0, none⟩), .pointer (some ⟨Bv, 0, none⟩), .pointer (some ⟨W.heap.size, 0, none⟩), u5, .int .i64 ((f + i : Nat) : Int), undef, u8, u9, u10, u11, u12, u13, u14, u15, u16, u17, u18, u19, u20, u21, u22, u23, u24, u25, u26, u27, u28, u29, u30, u31, u32, u33, u34, u35, u36, u37, u38, u39, u40, u41, u42, u43, u44, undef, undef, undef, undef, undef], defers := ds.map mk } ∧
      i ≤ v - m - f ∧ Lv W J Bd Bp Bw Bv l v k m i P (.slice Ap P.length cp) ds xs W') (fun a' _ => v + 1 - (intOf (a'.tmps.getD 6 undef)).toNat) ?_ ?_
    · exact ⟨0, [], [], _, _, _, _, _, _, _, _, _, _, _, _, _, _, _, _, _, _, _, _, _, _, _, _, _, _, _, _, _, _, _, _, _, _, _, _, _, _, rfl, Nat.zero_le _, HJV.out, HPR.out, (fun D h => by cases h), List.nodup_nil, (fun D h => by cases h), rfl, by simp⟩
    rintro a' W' ⟨i, ds, xs, u5, u8, u9, u10, u11, u12, u13, u14, u15, u16, u17, u18, u19, u20, u21, u22, u23, u24, u25, u26, u27, u28, u29, u30, u31, u32, u33, u34, u35, u36, u37, u38, u39, u40, u41, u42, u43, u44, rfl, hi, hL⟩
    obtain ⟨d, hd⟩ : ∃ d, d = f + i := ⟨_, rfl⟩
    rw [← hd]
    clear cP cW cV cY
    have cP := hL.pr.bp.cell
    have cW := hL.pr.bw.cell
    have cV := hL.pr.bv.cell
    have hLs := hL.sz
    have HL := Lib.hid hL
    have HD := Lib.hid hd
    clear hL hd
    by_cases hin : d ≤ q
    · have hini : (d : Int) ≤ q := by omega
      gi_wp2
      have hcl := fun (W2 : World) (h : Kp W' W2) => clonei_any P (.slice Ap P.length cp) W2 (own_same HL.out.pr.row (fun g e => by obtain ⟨cur, hc⟩ := own_at HL.out.pr.row e; exact h.below.block g (Array.getElem?_eq_some_iff.1 hc).1)) HNL.out (by omega)
      have HCL := Lib.hid hcl
      have hks : ∀ W2, Kp W' W2 → Kp W' W2 ∧ W2.cell? ⟨Bp, 0, none⟩ = some (.slice Ap P.length cp) ∧ W2.cell? ⟨Bw, 0, none⟩ = some (.int .i64 k) ∧ W2.cell? ⟨Bv, 0, none⟩ = some (.int .i64 v) := fun W2 h => ⟨h, keepc cP h.below, keepc cW h.below, keepc cV h.below⟩
      have HKS := Lib.hid hks
      obtain ⟨kp0, _, _, _⟩ := hks W' (Kp.refl W')
      have kpd : Kp W' W'.drew := Kp.refl W'
      have HKA := Lib.hid (show Kp W' (W'.drew.alloc (.cells #[.int .i64 (d : Nat)] 3)) from Kp.next (w := W'.drew) (Kp.refl W') (Go.Joins.below_alloc1 W'.drew _))
      clear hcl hks
      refine wpIn_wide.2 ?_
      go_region_held3 (fun W2 => Kp W' W2 ∧ W2.cell? ⟨Bp, 0, none⟩ = some (.slice Ap P.length cp) ∧ W2.cell? ⟨Bw, 0, none⟩ = some (.int .i64 k) ∧ W2.cell? ⟨Bv, 0, none⟩ = some (.int .i64 v))
        (first | (go_split_ands; exact ⟨by assumption, by assumption, by assumption, by assumption⟩) | (go_split_ands; exact HKS.out _ (Kp.grown (by assumption) hg6 hgr)) | (go_split_ands; exact HKS.out _ (Kp.next (by assumption) hb7)) | (go_split_ands; exact HKS.out _ (Kp.next (by assumption) hb5)) | (go_split_ands; exact HKS.out _ (Kp.next (by assumption) (Go.Joins.below_alloc1 _ _))))
        (first
          | (go_at_call 82; (with_reducible refine (HCL.out _ (by assumption)).mono ?_); rintro e w5 ⟨v5, rfl, ho5, _, hb5⟩; have hgr : ∀ q, v5.ownBlock = some q → W'.heap.size ≤ q := fun q hq => (ho5.lt q hq).1)
          | (go_at_call 82; (refine Calls.mono (HCL.out (W'.drew.alloc (.cells #[.int .i64 (d : Nat)] 3)) HKA.out) ?_); rintro e w5 ⟨v5, rfl, ho5, _, hb5⟩; have hgr : ∀ q, v5.ownBlock = some q → W'.heap.size ≤ q := (fun q hq => by have := (ho5.lt q hq).1; simp at this; omega))
          | (refine stepL (by rfl) (.tmp 38) (.tmp 40) (by rfl) W'.heap.size v5 P d (by rfl) (World.ownsRow.alloc ho5 _) w5.heap.size (by rfl) (heap_alloc_new w5 _) (by omega) (by have := hb5.size; simp; exact Nat.le_succ_of_le this) ?_; intro g6 c6 w6 ho6 hg6)
          | (refine stepL (by rfl) (.tmp 38) (.tmp 40) (by rfl) W'.heap.size v5 P d (by rfl) (own_low ho5 (by simp)) W'.heap.size (by rfl) ((hb5.block _ (by simp)).trans (heap_alloc_new W'.drew _)) (by omega) (by have := hb5.size; simp at this; omega) ?_; intro g6 c6 w6 ho6 hg6)
          | (go_at_call 68; (with_reducible refine (sets_any (some ⟨g6, 0, none⟩) (P.length + 1) c6 v k _).mono ?_); rintro e w7 ⟨Bp', Bw', Bv', rfl, b1, b2, b3, l1, l2, l3, hb7⟩))
      all_goals
        rename_i hHeld
        obtain ⟨hkp7, _, _, _⟩ := hHeld
        gi_wp2
        have hdv : d < v := by have := HEQ.out; omega
        have hsq := step_seq HIH.out hlen hP hdv hkp7 HL.out.pr.sz (HFT.out _ _ HL.out.j) ho6 b1 b2 b3 l1 l2 l3 hb7
        have hj7 := own_bel hJ HL.out.j (hkp7.below)
        have hp7 := HL.out.pr.below hkp7.below
        have hm7 : Marks w7 ds := fun D h => (hkp7.below.block _ (Array.getElem?_eq_some_iff.1 (HL.out.ms D h)).1).trans (HL.out.ms D h)
        have hd7 : ∀ D ∈ ds, D < w7.heap.size := fun D h => (Array.getElem?_eq_some_iff.1 (hm7 D h)).1
        have hz7 : W.heap.size ≤ w7.heap.size := Nat.le_trans hLs hkp7.below.size
        have HSQ := Lib.hid hsq
        have H7 := Lib.hid (And.intro hj7 (And.intro hp7 (And.intro hm7 (And.intro hd7 hz7))))
        clear hsq hj7 hp7 hm7 hd7 cP cW cV
        refine range_all (gf := 81) (I := fun ys U => J (xs ++ ys) U ∧ Prot Bd Bp Bw Bv W.heap.size l v k P (.slice Ap P.length cp) U ∧ Marks U ds) (by rfl) (fun _ _ => rfl) HSQ.out (Below.refl _ _) (fun _ => rfl) H7.out.2.1.sz ?_ (hs_own _) (fun pre W1 h => HFT.out _ _ h.1) ⟨by rw [List.append_nil]; exact H7.out.1, H7.out.2.1, H7.out.2.2.1⟩ ?_ ?_ ?_ ?_
        case refine_1 =>
          exact OwnFrom.and (fun s X Y row h hg hr => hJ _ X Y row h hg (fun r e => ⟨by have := (hr r e).1; omega, (hr r e).2⟩)) (OwnFrom.and (prot_own H7.out.2.1.sz) (fun s X Y row h hg hr D hD => (hg.block _ (Array.getElem?_eq_some_iff.1 (h D hD)).1 (fun e => by have := (hr _ e.symm).1; have := H7.out.2.2.2.1 D hD; omega)).trans (h D hD)))
        case refine_3 =>
          intro l' m' x U K' hK'
          gi_wp2
          exact hK'
        case refine_4 =>
          rintro l' m' pre x U ⟨post, hpost⟩ ⟨hju, hpu, hmu⟩ hx
          have cYu := hpu.by'.cell
          obtain ⟨fn, tmps, assign, body, hy, hR⟩ := HY.out 0 (xs ++ pre) x U (by
            obtain ⟨B, hB⟩ := subs_split v m i f P HEQ.out.2.2 (by have := HEQ.out; have := HD.out; omega)
            exact ⟨post ++ B.map fun P => (undef, P), by rw [hB, ← HD.out, ← hpost, HEQ.out.2.2, ← HL.out.out]; simp [Function.comp_def]⟩) hju hx
          gi_wp2_with (refine ⟨fun h => (by cases h), ?_⟩; refine (RoundIn.mono (Go.Proofs.Ytlimlmfgeaokhaa.RoundIn.any _ hR) ?_); rintro e w8 ⟨rfl, hj8, hk8⟩)
          exact ⟨hk8.mono hz7, by rw [← List.append_assoc]; exact hj8, hpu.kr hk8, fun D h => hk8.walks _ _ (HL.out.ge D h) (hmu D h) rfl⟩
        case refine_5 =>
          rintro D ys U hD hys ⟨hju, hpu, hmu⟩ hdf
          have HY2 := Lib.hid hys
          gi_wp2
          have hs1 : Value.int .i64 ((d : Int) + 1) = Value.int .i64 ((f + (i + 1) : Nat) : Int) := by rw [HD.out]; congr 1 <;> omega
          rw [hs1]
          refine ⟨⟨i + 1, D :: ds, xs ++ ys, _, _, _, _, _, _, _, _, _, _, _, _, _, _, _, _, _, _, _, _, _, _, _, _, _, _, _, _, _, _, _, _, _, _, _, _, _, _, rfl, ?_, ?_⟩, ?_⟩
          · have := HEQ.out; have := HD.out; omega
          · refine ⟨hju, hpu, ?_, ?_, ?_, ?_, Nat.le_trans hz7 (by have := (Array.getElem?_eq_some_iff.1 hdf).1; omega)⟩
            · intro E hE
              rcases List.mem_cons.1 hE with h | h
              · rw [h]; exact hdf
              · exact hmu E h
            · exact List.nodup_cons.2 ⟨fun h => by have := H7.out.2.2.2.1 D h; omega, HL.out.nd⟩
            · intro E hE
              rcases List.mem_cons.1 hE with h | h
              · rw [h]; omega
              · exact HL.out.ge E h
            · rw [List.map_append, HL.out.out, HY2.out, List.range_succ, List.map_append, List.flatMap_append]
              simp [← HEQ.out.2.2, HD.out, Nat.add_comm]
          · have h1 := HEQ.out; have h2 := HD.out; simp [intOf]; omega
    · have hini : ¬ (d : Int) ≤ q := by omega
      gi_wp2
      have hii : i = v - m - f := by have := HEQ.out; have := HD.out; omega
      exact leaves_marks (fun W => ∃ xs, xs.map (·.2) = subs v (m + 1) P ∧ J xs W) W.heap.size (fun s X Y row h hg hr => by obtain ⟨ys, y1, y2⟩ := h; exact ⟨ys, y1, hJ ys X Y row y2 hg hr⟩) (fun W h => ⟨_, results_none rfl _ _ _, ⟨_, rfl⟩, h⟩) ds W' HL.out.nd HL.out.ge HL.out.ms ⟨xs, by rw [HL.out.out, hii, subs, HEQ.out.2.2], HL.out.j⟩
theorem sets_all (v k Bd : Nat) (hv : v ≤ 60) (hk : k ≤ v) (h1 : 1 ≤ k) : ∀ m, SetsAt v k Bd m
  | 0 => sets_zero v k Bd hv hk h1
  | m + 1 => sets_succ v k Bd m hv hk h1 (sets_all v k Bd hv hk h1 m)
end Go.Proofs.Ytlimlmfgeaokhaa
