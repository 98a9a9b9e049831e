/- The walk of decode.Decode. The walks of tegulatop.marks and of the comparison of blocks. The walk of the law WholeCode, behind its awake25. -/
import Derived.Test.YtlimlmfgeaokhaaMf
namespace Go.Proofs.Ytlimlmfgeaokhaa
open Go.RowKit

/-- a slice of n truth values -/
def Tv (w : World) (A : Option Addr) (n : Nat) (bd : Nat → Bool) : Prop := ∃ b off : Nat, A = some ⟨b, off, none⟩ ∧ ∀ i : Nat, i < n → w.cell? ⟨b, off + i, none⟩ = some (.bool (bd i))
theorem Tv.below {w w' : World} {A : Option Addr} {n : Nat} {bd : Nat → Bool} (h : Tv w A n bd) (hB : Below w.heap.size w w') : Tv w' A n bd := by
  obtain ⟨b, off, rfl, h⟩ := h
  exact ⟨b, off, rfl, fun i hi => (hB.cell (World.block_lt_of_cell? w _ (h i hi))).trans (h i hi)⟩
/-- how many of the first i are marked -/
def cnt (bd : Nat → Bool) : Nat → Nat
  | 0 => 0
  | i + 1 => cnt bd i + if bd i then 1 else 0
def ils (fr : Nat → Nat) (k : Nat) : List Value := (List.range k).map fun j => Value.int .i64 (fr j : Nat)
theorem ils_length (fr : Nat → Nat) (k : Nat) : (ils fr k).length = k := by simp [ils]
theorem ils_snoc (fr : Nat → Nat) (k : Nat) : ils fr k ++ [.int .i64 (fr k : Nat)] = ils fr (k + 1) := by simp [ils, List.range_succ]
theorem ils_congr {fr fr' : Nat → Nat} {k : Nat} (h : ∀ j, j < k → fr j = fr' j) : ils fr k = ils fr' k := List.map_congr_left (fun j hj => by rw [h j (by simpa using hj)])
theorem Try.infoInt : (Try.prog.info? 3).map (fun i => (i.zero, i.size, i.bytes)) = some (some (.int .i64 0), 1, 8) := by kernel_rfl
theorem own_ne_type {w : World} {b1 b2 s1 s2 n1 n2 : Nat} {e1 e2 : TypeId} {v1 v2 : Value} {x1 x2 : List Value} (h1 : w.ownsRow b1 e1 s1 v1 n1 x1) (h2 : w.ownsRow b2 e2 s2 v2 n2 x2) (hne : e1 ≠ e2) : v1.ownBlock = none ∨ v1.ownBlock ≠ v2.ownBlock := by
  rcases h1.2 with ⟨rfl, _⟩ | ⟨g, _, cur, rfl, _, hg, _⟩
  · exact .inl rfl
  · refine .inr fun e => ?_
    rcases h2.2 with ⟨rfl, _⟩ | ⟨g', _, cur', rfl, _, hg', _⟩
    · cases e
    · simp only [Value.ownBlock, Option.some.injEq] at e
      subst e
      rw [hg] at hg'
      injection hg' with hg'
      injection hg' with _ h4
      exact hne h4
/-- a number more, in a region that draws -/
theorem stepN {w : World} {ops : Array Oper} {o : Oper} {a : Act} {K : Act → World → Prop} {Q : Exit → Act → World → Prop} {E : Prop} (hgd : o.guard = none) (s x : Operand)
    (ho : o.op = .call { callee := .builtin .append, args := #[s, x], argTypes := #[32, 32] })
    (base : Nat) (v : Value) (k : Nat) (fr : Nat → Nat) (hs : a.eval s = v) (hown : w.ownsRow base 3 1 v k (ils fr k)) (B : Nat) (hx : a.eval x = .slice (some ⟨B, 0, none⟩) 1 1)
    (hb : w.heap[B]? = some (.cells #[.int .i64 (fr k : Nat)] 3 (0, 0))) (hn : k ≤ 1000) (hbase : base ≤ w.heap.size) (H : Nat) (hH : w.heap.size = H)
    (K' : ∀ g cap w', w'.ownsRow base 3 1 (.slice (some ⟨g, 0, none⟩) (k + 1) cap) (k + 1) (ils fr (k + 1)) → w.grownBy w' v.ownBlock → (v.ownBlock = some g ∨ g = H) → g < w'.heap.size → K (a.put o.dst (.slice (some ⟨g, 0, none⟩) (k + 1) cap)) w') :
    if Region.wanted o (yielded ops a.tmps) = true then Oper.wp Try.prog o a w K Q else E := by
  obtain ⟨i0, hi0, hz0, hz1, hz2⟩ := info_parts Try.infoInt
  exact step_append_lies w hgd s x 32 ho base 3 i0 (.int .i64 0) 1 8 Try.underlying32 hi0 hz0 hz1 hz2 rfl (by decide) v k (ils fr k) hs hown ⟨B, 0, none⟩ 1 1 [.int .i64 (fr k : Nat)] hx (by simp)
    (World.news_of_block (cs := #[.int .i64 (fr k : Nat)]) hb) (by simp [Value.oneCell']) (by omega) (by unfold maxLen; omega) (by omega) hbase H hH (fun g cap w' h1 h2 h3 h4 => K' g cap w' (by rw [← ils_snoc]; exact h1) h2 h3 h4)
theorem own_form {w : World} {base size n : Nat} {e : TypeId} {v : Value} {xs : List Value} (h : w.ownsRow base e size v n xs) : ∃ A c, v = .slice A n c := by
  rcases h.2 with ⟨rfl, rfl⟩ | ⟨g, cap, cur, rfl, _⟩
  · exact ⟨none, 0, rfl⟩
  · exact ⟨_, cap, rfl⟩
/-- the blocks that were chosen -/
def pick (P fr : Nat → Nat) (p : Nat) : Nat := P (fr (p / 8) * 8 + p % 8)
/-- what holds after i pieces: k are chosen -/
structure Sel (bd : Nat → Bool) (n i k : Nat) (fr : Nat → Nat) : Prop where
  le : k ≤ n
  all : k = n ∨ k + cnt bd i = i
  inc : ∀ a b, a < b → b < k → fr a < fr b
  lt : ∀ a, a < k → fr a < i
  good : ∀ a, a < k → bd (fr a) = false
theorem Sel.skip {bd : Nat → Bool} {n i k : Nat} {fr : Nat → Nat} (h : Sel bd n i k fr) (hb : bd i = true ∨ k = n) : Sel bd n (i + 1) k fr where
  le := h.le
  all := by
    rcases h.all with e | e
    · exact .inl e
    · rcases hb with hb | hb
      · right; rw [cnt, if_pos hb]; omega
      · exact .inl hb
  inc := h.inc
  lt a ha := Nat.lt_succ_of_lt (h.lt a ha)
  good := h.good
theorem Sel.take {bd : Nat → Bool} {n i k : Nat} {fr : Nat → Nat} (h : Sel bd n i k fr) (hb : bd i = false) (hk : k < n) : Sel bd n (i + 1) (k + 1) (fun j => if j = k then i else fr j) where
  le := hk
  all := by
    rcases h.all with e | e
    · omega
    · right; rw [cnt, hb]; simp; omega
  inc a b hab hbk := by
    have ha : a ≠ k := by omega
    by_cases e : b = k
    · simp only [e, if_true, ha, if_false]
      exact h.lt a (by omega)
    · simp only [e, ha, if_false]
      exact h.inc a b hab (by omega)
  lt a ha := by
    by_cases e : a = k
    · simp only [e, if_true]; omega
    · simp only [e, if_false]
      have := h.lt a (by omega); omega
  good a ha := by
    by_cases e : a = k
    · simp only [e, if_true]; exact hb
    · simp only [e, if_false]
      exact h.good a (by omega)
theorem own_set8 {w : World} {base size n g p : Nat} {e : TypeId} {v : Value} {xs : List Value} {h : Nat → Nat} (ho : w.ownsRow base e size v n xs) (hne : v.ownBlock ≠ some g) : (set8 w g p h).ownsRow base e size v n xs := by
  have far : ∀ (w : World) (i : Nat) (u : Value), w.ownsRow base e size v n xs → (w.setCell ⟨g, i, none⟩ u).ownsRow base e size v n xs := fun w i u ho => by
    refine ⟨ho.1, ?_⟩
    rcases ho.2 with h0 | ⟨g', cap, cur, rfl, hb, hg, rest⟩
    · exact .inl h0
    · refine .inr ⟨g', cap, cur, rfl, hb, (Below.heap_setCell w ⟨g, i, none⟩ u g' (fun e => hne (by rw [e]; rfl))).trans hg, rest⟩
  exact far _ _ _ (far _ _ _ (far _ _ _ (far _ _ _ (far _ _ _ (far _ _ _ (far _ _ _ (far _ _ _ ho)))))))
theorem ns_own {w : World} {base n : Nat} {A : Option Addr} {c : Nat} {fr : Nat → Nat} (h : w.ownsRow base 3 1 (.slice A n c) n (ils fr n)) (hn : 0 < n) : Ns w A n fr := by
  obtain ⟨g, cap, hv, _, _⟩ := h.form hn
  cases hv
  exact ⟨g, 0, rfl, fun i hi => by rw [Nat.zero_add, h.cellAt i (by omega)]; simp [ils, hi]⟩
theorem bks_own {w : World} {base n : Nat} {A : Option Addr} {c : Nat} {F : Nat → Nat} (h : w.ownsRow base 25 8 (.slice A n c) n (bkl F n)) : Bks w A n F := by
  obtain ⟨A', c', hv, hb, _, _⟩ := Bks.of_own h
  cases hv
  exact hb
/-- each piece of a group is its row of the generator times the data -/
theorem code_dot (F : Nat → Nat) (hF : ∀ p, F p < 256) (n q kk : Nat) (hq : q < n + 3) (hk : kk < 8) : cat n F (par F n) (q * 8 + kk) = dot (gen n q) (fun a => F (a * 8 + kk)) n := by
  by_cases e : q < n
  · rw [dot_gen_data n q _ (fun _ => hF _) e, cat, if_pos (by omega)]
  · obtain ⟨j, rfl⟩ : ∃ j, q = n + j := ⟨q - n, by omega⟩
    rw [cat, if_neg (by omega), par, show ((n + j) * 8 + kk - n * 8) / 8 = j by omega, show ((n + j) * 8 + kk - n * 8) % 8 = kk by omega, sp_xs]
    refine xs_congr n (fun a _ => ?_)
    rw [gen, if_neg (by omega), Nat.add_sub_cancel_left, Nat.mul_comm j a]
set_option maxRecDepth 100000 in
set_option maxHeartbeats 1000000 in
theorem decode_any (F P : Nat → Nat) (bd : Nat → Bool) (n : Nat) (b1 o1 c1 : Nat) (A2 : Option Addr) (c2 : Nat) (w : World) (h1 : 1 ≤ n) (h13 : n ≤ 13) (hF : ∀ p, F p < 256) (hP : ∀ p, P p < 256) (hc1 : n + 3 ≤ c1)
    (hA : Bks w (some ⟨b1, o1, none⟩) (n + 3) P) (hT : Tv w A2 (n + 3) bd) (hb : cnt bd (n + 3) ≤ 3) (hgood : ∀ p, p < (n + 3) * 8 → bd (p / 8) = false → P p = cat n F (par F n) p) :
    Calls Try.prog 8 #[.slice (some ⟨b1, o1, none⟩) (n + 3 : Nat) c1, .slice A2 (n + 3 : Nat) c2] w fun e w' => ∃ g cg, e = .returned (.tuple #[.slice (some ⟨g, 0, none⟩) (n + 3) cg, .int .i64 0]) ∧ n + 3 ≤ cg ∧ w.heap.size ≤ g ∧ CB w' g ((n + 3) * 8) 25 (cat n F (par F n)) ∧ Below w.heap.size w w' := by
  have hps := possible_any (n + 3) w
  rw [show decide (3 < n + 3 ∧ n + 3 ≤ 16) = true by simp; omega] at hps
  have hcast : ((n + 3 : Nat) : Int) = (n : Int) + 3 := by omega
  simp only [hcast] at hps
  have HPS := Lib.hid hps
  have HA := Lib.hid hA
  have HT := Lib.hid hT
  obtain ⟨b2, o2, rfl, _⟩ := hT
  clear hps hcast hA
  go_enter Try.func8, Try.ntmps8
  go_wp2_with (go_at_call 26; (with_reducible refine HPS.out.mono ?_); rintro e w' ⟨rfl, rfl⟩)
  go_loopw [7, 8, 29] (fun vf vb vi wr => ∃ (i k : Nat) (fr : Nat → Nat), i ≤ n + 3 ∧ vi = .int .i64 i ∧ Sel bd n i k fr ∧ wr.ownsRow w.heap.size 3 1 vf k (ils fr k) ∧ wr.ownsRow w.heap.size 25 8 vb k (bkl (pick P fr) k) ∧ Kp w wr) (fun _ _ vi _ => n + 3 - (intOf vi).toNat)
  case atStart => exact ⟨0, 0, fun _ => 0, by omega, rfl, ⟨by omega, .inr rfl, (fun a b _ h => by omega), (fun a h => by omega), (fun a h => by omega)⟩, World.ownsRow_nil _ _ _ _, World.ownsRow_nil _ _ _ _, Kp.refl w⟩
  case round =>
    obtain ⟨i, k, fr, hi, rfl, hsel, hof, hob, hk⟩ := hrel
    have HS := Lib.hid hsel
    have HF := Lib.hid hof
    have HO := Lib.hid hob
    have HK := Lib.hid hk
    clear hsel hof hob hk
    by_cases hin : i < n + 3
    · have hini : (i : Int) < (n : Int) + 3 := by omega
      obtain ⟨b', o', e', ht⟩ := HT.out.below HK.out.below
      cases e'
      have ht := ht i hin
      obtain ⟨Af, cf, rfl⟩ := own_form HF.out
      have hnn : (n : Int) + 3 - 3 = n := by omega
      by_cases hbi : bd i = true
      · rw [hbi] at ht
        go_wp2_with fail
        exact ⟨⟨i + 1, k, fr, by omega, by go_num, HS.out.skip (.inl hbi), HF.out, HO.out, HK.out⟩, by simp [intOf]; omega⟩
      · have hbf : bd i = false := by simpa using hbi
        rw [hbf] at ht
        by_cases hkn : k = n
        · have hkl : ¬ (k : Int) < n := by omega
          go_wp2_with fail
          exact ⟨⟨i + 1, k, fr, by omega, by go_num, HS.out.skip (.inr hkn), HF.out, HO.out, HK.out⟩, by simp [intOf]; omega⟩
        · have hkl : (k : Int) < n := by have := HS.out.le; omega
          have hkn' : k < n := by have := HS.out.le; omega
          have HS2 := Lib.hid (HS.out.take hbf hkn')
          obtain ⟨fr', hfr'⟩ : ∃ fr' : Nat → Nat, fr' = fun j => if j = k then i else fr j := ⟨_, rfl⟩
          rw [← hfr'] at HS2
          have hfk : fr' k = i := by rw [hfr']; simp
          have hfo : ∀ j, j < k → fr j = fr' j := fun j hj => by rw [hfr']; simp [show j ≠ k by omega]
          have hF' := HF.out
          rw [ils_congr hfo] at hF'
          have hO' := HO.out
          rw [bkl_congr (G := pick P fr') (fun p hp => by unfold pick; rw [hfo (p / 8) (by omega)])] at hO'
          have HF' := Lib.hid hF'
          have HO' := Lib.hid hO'
          obtain ⟨h, hh⟩ : ∃ h : Nat → Nat, h = fun q => P (i * 8 + q) := ⟨_, rfl⟩
          have hhp : ∀ q, q < 8 → h q = pick P fr' (k * 8 + q) := fun q hq => by rw [hh]; unfold pick; rw [show (k * 8 + q) / 8 = k by omega, show (k * 8 + q) % 8 = q by omega, hfk]
          have HHP := Lib.hid hhp
          have hb8 := brow8 h
          have KS : ∀ W, Kp w W → Kp w W ∧ W.cell? ⟨b1, o1 + i * 8, none⟩ = some (.int .u8 (h 0 : Nat)) ∧ W.cell? ⟨b1, o1 + i * 8 + 1, none⟩ = some (.int .u8 (h 1 : Nat)) ∧ W.cell? ⟨b1, o1 + i * 8 + 2, none⟩ = some (.int .u8 (h 2 : Nat)) ∧ W.cell? ⟨b1, o1 + i * 8 + 3, none⟩ = some (.int .u8 (h 3 : Nat)) ∧
              W.cell? ⟨b1, o1 + i * 8 + 4, none⟩ = some (.int .u8 (h 4 : Nat)) ∧ W.cell? ⟨b1, o1 + i * 8 + 5, none⟩ = some (.int .u8 (h 5 : Nat)) ∧ W.cell? ⟨b1, o1 + i * 8 + 6, none⟩ = some (.int .u8 (h 6 : Nat)) ∧ W.cell? ⟨b1, o1 + i * 8 + 7, none⟩ = some (.int .u8 (h 7 : Nat)) := fun W hk => by
            obtain ⟨b', o', e', hcs⟩ := HA.out.below hk.below (by omega)
            cases e'
            rw [hh]
            exact ⟨hk, cellsAt hcs hin⟩
          have HKS := Lib.hid KS
          obtain ⟨hK1, p0, p1, p2, p3, p4, p5, p6, p7⟩ := KS wr HK.out
          have hfkI : ((fr' k : Nat) : Int) = (i : Int) := by rw [hfk]
          have HFK := Lib.hid hfk
          have hsz := HK.out.2.2.2.1
          clear hfr' hfo hF' hO' hhp KS hh hfk hfkI hbi hkn
          go_wp2_with fail
          go_region_held3 (fun W => Kp w W ∧ W.cell? ⟨b1, o1 + i * 8, none⟩ = some (.int .u8 (h 0 : Nat)) ∧ W.cell? ⟨b1, o1 + i * 8 + 1, none⟩ = some (.int .u8 (h 1 : Nat)) ∧ W.cell? ⟨b1, o1 + i * 8 + 2, none⟩ = some (.int .u8 (h 2 : Nat)) ∧ W.cell? ⟨b1, o1 + i * 8 + 3, none⟩ = some (.int .u8 (h 3 : Nat)) ∧ W.cell? ⟨b1, o1 + i * 8 + 4, none⟩ = some (.int .u8 (h 4 : Nat)) ∧ W.cell? ⟨b1, o1 + i * 8 + 5, none⟩ = some (.int .u8 (h 5 : Nat)) ∧ W.cell? ⟨b1, o1 + i * 8 + 6, none⟩ = some (.int .u8 (h 6 : Nat)) ∧ W.cell? ⟨b1, o1 + i * 8 + 7, none⟩ = some (.int .u8 (h 7 : Nat)))
            (first | (go_split_ands; exact ⟨by assumption, by assumption, by assumption, by assumption, by assumption, by assumption, by assumption, by assumption, by assumption⟩) | (go_split_ands; exact HKS.out _ (Kp.grown (by assumption) r2 hgr)) | (go_split_ands; exact HKS.out _ (Kp.grown (by assumption) r1 hgr)) | (go_split_ands; exact HKS.out _ (Kp.next (by assumption) (Go.Joins.below_alloc1 _ _))))
            (first
              | (refine stepN (by rfl) (.tmp 43) (.tmp 45) (by rfl) w.heap.size (.slice Af k cf) k fr' (by rfl) (World.ownsRow.alloc (w := wr.drew) HF'.out (.cells #[.int .i64 (i : Int)] 3)) wr.heap.size (by rfl) (by rw [HFK.out]; exact heap_alloc_new wr.drew _) (by omega) (by simp; omega) _ rfl ?_; intro g1 q1 w1 ow1 r1 l1 t1;  have HFn := Lib.hid ow1; have HOb := Lib.hid ((World.ownsRow.alloc (w := wr.drew) HO'.out (.cells #[.int .i64 (i : Int)] 3)).kept r1 (own_ne_type (World.ownsRow.alloc (w := wr.drew) HO'.out (.cells #[.int .i64 (i : Int)] 3)) (World.ownsRow.alloc (w := wr.drew) HF'.out (.cells #[.int .i64 (i : Int)] 3)) (by decide))); have hgr : ∀ q, (Value.slice Af k cf).ownBlock = some q → w.heap.size ≤ q := (fun q hq => (HF'.out.lt q hq).1); have hz1 := r1.size; clear ow1)
              | (refine stepN (by rfl) (.tmp 43) (.tmp 45) (by rfl) w.heap.size (.slice Af k cf) k fr' (by rfl) (World.ownsRow.alloc (World.ownsRow.alloc (w := wr.drew) HF'.out (.cells #[.int .i64 (i : Int)] 3)) (.cells (brow 8 h) 25)) wr.heap.size (by rfl) (by rw [HFK.out, ← hb8]; exact (Below.heap_alloc (wr.drew.alloc (.cells #[.int .i64 (i : Int)] 3)) _ _ (by simp)).trans (heap_alloc_new wr.drew _)) (by omega) (by simp; omega) _ rfl ?_; intro g1 q1 w1 ow1 r1 l1 t1;  have HFn := Lib.hid ow1; have HOb := Lib.hid ((World.ownsRow.alloc (World.ownsRow.alloc (w := wr.drew) HO'.out (.cells #[.int .i64 (i : Int)] 3)) (.cells (brow 8 h) 25)).kept r1 (own_ne_type (World.ownsRow.alloc (World.ownsRow.alloc (w := wr.drew) HO'.out (.cells #[.int .i64 (i : Int)] 3)) (.cells (brow 8 h) 25)) (World.ownsRow.alloc (World.ownsRow.alloc (w := wr.drew) HF'.out (.cells #[.int .i64 (i : Int)] 3)) (.cells (brow 8 h) 25)) (by decide))); have hq := rb_grown (RB.new (w := wr.drew.alloc (.cells #[.int .i64 (i : Int)] 3)) (n := 8) (t := 25) (f := h)) r1 (own_type (World.ownsRow.alloc (World.ownsRow.alloc (w := wr.drew) HF'.out (.cells #[.int .i64 (i : Int)] 3)) (.cells (brow 8 h) 25)) (RB.new (w := wr.drew.alloc (.cells #[.int .i64 (i : Int)] 3)) (n := 8) (t := 25) (f := h)) (by decide)); rw [nblk1] at hq; have HBQ := Lib.hid (show RB w1 (wr.heap.size + 1) 8 25 h from hq); have hgr : ∀ q, (Value.slice Af k cf).ownBlock = some q → w.heap.size ≤ q := (fun q hq => (HF'.out.lt q hq).1); have hz1 := r1.size; clear ow1)
              | (refine stepN (by rfl) (.tmp 43) (.tmp 45) (by rfl) w.heap.size (.slice Af k cf) k fr' (by rfl) (World.ownsRow.alloc (World.ownsRow.alloc (w := wr.drew) HF'.out (.cells (brow 8 h) 25)) (.cells #[.int .i64 (i : Int)] 3)) (wr.heap.size + 1) (by rfl) (by rw [HFK.out, ← hb8]; have hq := heap_alloc_new (wr.drew.alloc (.cells (brow 8 h) 25)) (.cells #[.int .i64 (i : Int)] 3); rw [nblk1] at hq; exact hq) (by omega) (by simp; omega) _ rfl ?_; intro g1 q1 w1 ow1 r1 l1 t1;  have HFn := Lib.hid ow1; have HOb := Lib.hid ((World.ownsRow.alloc (World.ownsRow.alloc (w := wr.drew) HO'.out (.cells (brow 8 h) 25)) (.cells #[.int .i64 (i : Int)] 3)).kept r1 (own_ne_type (World.ownsRow.alloc (World.ownsRow.alloc (w := wr.drew) HO'.out (.cells (brow 8 h) 25)) (.cells #[.int .i64 (i : Int)] 3)) (World.ownsRow.alloc (World.ownsRow.alloc (w := wr.drew) HF'.out (.cells (brow 8 h) 25)) (.cells #[.int .i64 (i : Int)] 3)) (by decide))); have HBQ := Lib.hid (rb_grown (RB.alloc (RB.new (w := wr.drew) (n := 8) (t := 25) (f := h)) (.cells #[.int .i64 (i : Int)] 3)) r1 (own_type (World.ownsRow.alloc (World.ownsRow.alloc (w := wr.drew) HF'.out (.cells (brow 8 h) 25)) (.cells #[.int .i64 (i : Int)] 3)) (RB.alloc (RB.new (w := wr.drew) (n := 8) (t := 25) (f := h)) (.cells #[.int .i64 (i : Int)] 3)) (by decide))); have hgr : ∀ q, (Value.slice Af k cf).ownBlock = some q → w.heap.size ≤ q := (fun q hq => (HF'.out.lt q hq).1); have hz1 := r1.size; clear ow1)
              | (refine step1 (by rfl) (.tmp 47) (.tmp 52) (by rfl) w.heap.size u8 k (pick P fr') h (by rfl) (World.ownsRow.alloc HOb.out (.cells (brow 8 h) 25)) w1.heap.size (by rfl) (by rw [← hb8]; exact heap_alloc_new w1 _) (fun q hq => HHP.out q hq) (by omega) (by simp at hz1 ⊢; omega) _ rfl ?_; intro g2 q2 w2 ow2 r2 l2 t2;  have HO9 := Lib.hid ow2; have HF9 := Lib.hid ((World.ownsRow.alloc HFn.out (.cells (brow 8 h) 25)).kept r2 (own_ne_type (World.ownsRow.alloc HFn.out (.cells (brow 8 h) 25)) (World.ownsRow.alloc HOb.out (.cells (brow 8 h) 25)) (by decide))); have hgr : ∀ q, u8.ownBlock = some q → w.heap.size ≤ q := (fun q hq => (HO'.out.lt q hq).1); clear ow2)
              | (refine step1 (by rfl) (.tmp 47) (.tmp 52) (by rfl) w.heap.size u8 k (pick P fr') h (by rfl) HOb.out _ (by rfl) HBQ.out (fun q hq => HHP.out q hq) (by omega) (by simp at hz1 ⊢; omega) _ rfl ?_; intro g2 q2 w2 ow2 r2 l2 t2;  have HO9 := Lib.hid ow2; have HF9 := Lib.hid (HFn.out.kept r2 (own_ne_type HFn.out HOb.out (by decide))); have hgr : ∀ q, u8.ownBlock = some q → w.heap.size ≤ q := (fun q hq => (HO'.out.lt q hq).1); clear ow2))
          all_goals
            have hk9 : Kp w w2 := by go_split_ands; assumption
            go_wp2_with fail
            exact ⟨⟨i + 1, k + 1, fr', by omega, by go_num, HS2.out, HF9.out, HO9.out, hk9⟩, by simp [intOf]; omega⟩
    · obtain rfl : i = n + 3 := by omega
      have hkn : k = n := by rcases HS.out.all with e | e; exact e; have := HS.out.le; omega
      subst hkn
      obtain ⟨Af, cf, rfl⟩ := own_form HF.out
      obtain ⟨Ao, co, rfl⟩ := own_form HO.out
      have HCL := Lib.hid (clone_any P b1 o1 (k + 3) c1 wr (by omega) (by omega) hc1 (HA.out.below HK.out.below))
      go_wp2_with (go_at_call 27; (with_reducible refine HCL.out.mono ?_); rintro e w3 ⟨v3, rfl, o3, hB3⟩; obtain ⟨gx, cx, rfl, hcx, hgx, hX⟩ := CB.of_own o3 (by omega); have HX3 := Lib.hid hX; have HF3 := Lib.hid (own_below HF.out hB3); have HO3 := Lib.hid (own_below HO.out hB3); have HK3 := Lib.hid (HK.out.next hB3); clear o3 hX hB3)
      obtain ⟨Q, hQ⟩ : ∃ Q, Q = cat k F (par F k) := ⟨_, rfl⟩
      have hq1 : ∀ q kk, q < k + 3 → kk < 8 → Q (q * 8 + kk) = dot (gen k q) (fun a => F (a * 8 + kk)) k := fun q kk hq hkk => by rw [hQ]; exact code_dot F hF k q kk hq hkk
      rw [← hQ] at hgood
      have HQ := Lib.hid hQ
      have HQ1 := Lib.hid hq1
      have HGOOD := Lib.hid hgood
      have hneF : (Value.slice Af k cf).ownBlock ≠ some gx := fun e => by have := (HF.out.lt gx e).2; omega
      have hneO : (Value.slice Ao k co).ownBlock ≠ some gx := fun e => by have := (HO.out.lt gx e).2; omega
      have hgw : w.heap.size ≤ gx := by have := HK.out.2.2.2.1; omega
      have HB3 := Lib.hid HK3.out.below
      clear hq1 hgood hQ HK3 HCL HK HF HO
      go_loopw [64] (fun vi wq => ∃ i : Nat, i ≤ k + 3 ∧ vi = .int .i64 i ∧ CB wq gx ((k + 3) * 8) 25 (fun p => if p / 8 < i then Q p else P p) ∧ wq.ownsRow w.heap.size 3 1 (.slice Af k cf) k (ils fr k) ∧ wq.ownsRow w.heap.size 25 8 (.slice Ao k co) k (bkl (pick P fr) k) ∧ Below w.heap.size w wq) (fun vi _ => k + 3 - (intOf vi).toNat)
      case atStart => exact ⟨0, by omega, rfl, HX3.out.congr (fun p _ => by simp), HF3.out, HO3.out, HB3.out⟩
      case round =>
        clear HX3 HF3 HO3 HB3
        obtain ⟨i, hi, rfl, hx, hf, ho, hb4⟩ := hrel
        have HX := Lib.hid hx
        have HF := Lib.hid hf
        have HO := Lib.hid ho
        have HB := Lib.hid hb4
        clear hx hf ho hb4
        by_cases hin : i < k + 3
        · have hini : (i : Int) < (k : Int) + 3 := by omega
          obtain ⟨b', o', e', ht⟩ := HT.out.below HB.out
          cases e'
          have ht := ht i hin
          by_cases hbi : bd i = false
          · rw [hbi] at ht
            have hx' : CB wr gx ((k + 3) * 8) 25 (fun p => if p / 8 < i + 1 then Q p else P p) := HX.out.congr (fun p hp => by
              by_cases e : p / 8 < i
              · rw [if_pos e, if_pos (by omega)]
              · rw [if_neg e]
                by_cases e2 : p / 8 = i
                · rw [if_pos (by omega)]
                  exact HGOOD.out p hp (by rw [e2]; exact hbi)
                · rw [if_neg (by omega)])
            have HX' := Lib.hid hx'
            clear hx'
            go_wp2_with fail
            exact ⟨⟨i + 1, by omega, by go_num, HX'.out, HF.out, HO.out, HB.out⟩, by simp [intOf]; omega⟩
          · have hbt : bd i = true := by simpa using hbi
            rw [hbt] at ht
            have hwt := weights_any (k + 3) i fr Af cf wr (by omega) (by omega) hin (fun a b hab hb => HS.out.inc a b hab (by omega)) (fun a ha => HS.out.lt a (by omega)) (by rw [Nat.add_sub_cancel]; exact ns_own HF.out (by omega))
            have hcast : ((k + 3 : Nat) : Int) = (k : Int) + 3 := by omega
            simp only [hcast, Nat.add_sub_cancel] at hwt
            have HWT := Lib.hid hwt
            clear hwt hcast
            go_wp2_with (first
              | (go_at_call 11; (with_reducible refine HWT.out.mono ?_); rintro e w5 ⟨bw, ow, cw, W, rfl, hw5, hwl, hwd, hB5⟩; have HWL := Lib.hid hwl; have HWD := Lib.hid hwd; have HW5 := Lib.hid hw5; have HX5 := Lib.hid (HX.out.below hB5); have HF5 := Lib.hid (own_below HF.out hB5); have HO5 := Lib.hid (own_below HO.out hB5); have HB5 := Lib.hid (HB.out.trans (hB5.mono HB.out.size)); clear hw5 hwl hwd hB5))
            refine (combine_any W (pick P fr) bw ow cw k co Ao w5 h1 (by omega) HWL.out (fun _ => hP _) HW5.out (bks_own HO5.out)).mono ?_
            rintro e w6 ⟨rfl, hB6⟩
            obtain ⟨h, hh⟩ : ∃ h, h = cmb W (pick P fr) k := ⟨_, rfl⟩
            rw [← hh, brow8]
            have hX6 := HX5.out.below hB6
            have f0 := hX6.frozen
            have d0 := hX6.cell (i * 8) (by omega)
            have d1 := hX6.cell (i * 8 + 1) (by omega)
            have d2 := hX6.cell (i * 8 + 2) (by omega)
            have d3 := hX6.cell (i * 8 + 3) (by omega)
            have d4 := hX6.cell (i * 8 + 4) (by omega)
            have d5 := hX6.cell (i * 8 + 5) (by omega)
            have d6 := hX6.cell (i * 8 + 6) (by omega)
            have d7 := hX6.cell (i * 8 + 7) (by omega)
            have hhq : ∀ kk, kk < 8 → h kk = Q (i * 8 + kk) := fun kk hkk => by
              rw [hh, HQ1.out i kk hin hkk, ← HWD.out (fun a => F (a * 8 + kk)) (fun _ => hF _)]
              unfold cmb
              refine xs_congr k (fun a ha => ?_)
              have h1 : pick P fr (a * 8 + kk) = Q (fr a * 8 + kk) := by
                unfold pick
                rw [show (a * 8 + kk) / 8 = a by omega, show (a * 8 + kk) % 8 = kk by omega]
                have hla := HS.out.lt a ha
                exact HGOOD.out _ (by omega) (by rw [show (fr a * 8 + kk) / 8 = fr a by omega]; exact HS.out.good a ha)
              have hla := HS.out.lt a ha
              rw [h1, HQ1.out (fr a) kk (by omega) hkk]
            have HX6 := Lib.hid (CB.congr (set8_cb (j := i) (h := h) hX6) (f' := fun p => if p / 8 < i + 1 then Q p else P p) (fun p hp => by
              show (if p / 8 = i then h (p % 8) else if p / 8 < i then Q p else P p) = _
              by_cases e : p / 8 = i
              · rw [if_pos e, if_pos (by omega), hhq _ (by omega), show i * 8 + p % 8 = p by omega]
              · rw [if_neg e]
                by_cases e2 : p / 8 < i
                · rw [if_pos e2, if_pos (by omega)]
                · rw [if_neg e2, if_neg (by omega)]))
            have HF6 := Lib.hid (own_set8 (g := gx) (p := i * 8) (h := h) (own_below HF5.out hB6) hneF)
            have HO6 := Lib.hid (own_set8 (g := gx) (p := i * 8) (h := h) (own_below HO5.out hB6) hneO)
            have HB6 := Lib.hid (set8_below (g := gx) (p := i * 8) (h := h) (HB5.out.trans (hB6.mono HB5.out.size)) hgw)
            clear hX6 hB6 hhq hh
            go_wp2_with fail
            exact ⟨⟨i + 1, by omega, by go_num, HX6.out, HF6.out, HO6.out, HB6.out⟩, by simp [intOf]; omega⟩
        · obtain rfl : i = k + 3 := by omega
          have hx := HX.out.congr (f' := Q) (fun p hp => by rw [if_pos (by omega)])
          have hbx := HB.out
          have HXQ := Lib.hid hx
          clear hx
          go_wp2_with fail
          go_ret2
          exact ⟨gx, cx, rfl, hcx, hgw, by rw [← HQ.out]; exact HXQ.out, hbx⟩
end Go.Proofs.Ytlimlmfgeaokhaa
namespace Go.Proofs.Ytlimlmfgeaokhaa
open Go.RowKit

theorem Try.infoBool : (Try.prog.info? 4).map (fun i => (i.zero, i.size, i.bytes)) = some (some (.bool false), 1, 1) := by kernel_rfl
def tvs (n : Nat) (bd : Nat → Bool) : Array Value := ((List.range n).map fun j => Value.bool (bd j)).toArray
theorem run_make_bools (kl kc : IntKind) (n : Nat) (hn : n ≤ 1000000) (w : World) :
    (Instr.makeSlice 30 (.int kl (n : Int)) (.int kc (n : Int))).run Try.prog w = .ok (.slice (some ⟨w.heap.size, 0, none⟩) n n) (w.alloc (.cells (tvs n fun _ => false) 4)) := by
  obtain ⟨i0, hi, hz0, hz1, hz2⟩ := info_parts Try.infoBool
  have h := run_make_rowN (P := Try.prog) 30 4 i0 (.bool false) Try.underlying30 hi hz0 kl kc n n (Nat.le_refl _) (by rw [hz2]; omega) (by omega) w
  have e : madeCells (Value.bool false).cells (n * i0.size) = tvs n fun _ => false := by
    rw [hz1, Nat.mul_one]
    apply Array.toList_inj.1
    have := toList_madeCells_one (.bool false) n
    rw [show (Value.bool false).cells = #[.bool false] from rfl, this]
    simp [tvs, List.map_const']
  rw [e] at h
  exact h
theorem cnt_congr {bd bd' : Nat → Bool} : ∀ i, (∀ j, j < i → bd j = bd' j) → cnt bd i = cnt bd' i
  | 0, _ => rfl
  | i + 1, h => by rw [cnt, cnt, cnt_congr i (fun j hj => h j (by omega)), h i (by omega)]
theorem cnt_stay {bd : Nat → Bool} {i m : Nat} (h : cnt bd i = m) (hz : bd i = false) : cnt bd (i + 1) = m := by rw [cnt, h, hz]; simp
theorem cnt_set {bd : Nat → Bool} {i m : Nat} (h : cnt bd i = m) : cnt (fun j => if j = i then true else bd j) (i + 1) = m + 1 := by
  rw [cnt, cnt_congr (bd' := bd) i (fun j hj => by simp [show j ≠ i by omega]), h]
  simp
theorem tvs_set (n i : Nat) (bd : Nat → Bool) : (tvs n bd).setIfInBounds i (.bool true) = tvs n (fun j => if j = i then true else bd j) := by
  apply Array.ext_getElem?
  intro j
  rw [Array.getElem?_setIfInBounds]
  by_cases hj : j < n
  · by_cases e : i = j
    · subst e; simp [tvs, hj]
    · have e2 : ¬ j = i := fun h => e h.symm
      simp [tvs, hj, e, e2]
  · by_cases e : i = j
    · simp [tvs, hj, e]
    · simp [tvs, hj, e]
set_option maxRecDepth 100000 in
theorem marks_any (N s : Nat) (w : World) (hN : N ≤ 16) (_hs : s < 65536) :
    Calls Try.prog 7 #[.int .i64 N, .int .u16 s] w fun e w' => ∃ bd, e = .returned (.slice (some ⟨w.heap.size, 0, none⟩) N N) ∧ w'.heap[w.heap.size]? = some (.cells (tvs N bd) 4 (0, 0)) ∧ cnt bd N ≤ 3 ∧ Below w.heap.size w w' := by
  have hmk := fun kl kc W => run_make_bools kl kc N (by omega) W
  go_enter Try.func7, Try.ntmps7
  go_wp2_with fail
  go_loopw [6, 12] (fun vm vi wr => ∃ (i m : Nat) (bd : Nat → Bool), i ≤ N ∧ vi = .int .i64 i ∧ vm = .int .i64 m ∧ m ≤ 3 ∧ cnt bd i = m ∧ (∀ j, i ≤ j → bd j = false) ∧ wr.heap[w.heap.size]? = some (.cells (tvs N bd) 4 (0, 0)) ∧ Below w.heap.size w wr) (fun _ vi _ => N - (intOf vi).toNat)
  case atStart => exact ⟨0, 0, fun _ => false, by omega, rfl, rfl, by omega, rfl, (fun _ _ => rfl), heap_alloc_new w _, Go.Joins.below_alloc1 w _⟩
  case round =>
    obtain ⟨i, m, bd, hi, rfl, rfl, hm, hc, hz, hh, hB⟩ := hrel
    by_cases hin : i < N
    · have hini : (i : Int) < N := by omega
      have hcl : wr.cell? ⟨w.heap.size, i, none⟩ = some (.bool (bd i)) := (cell_of_row wr _ i _ _ _ hh).trans (by simp [tvs, hin])
      have hfz := frozen_of_row wr w.heap.size i _ _ hh
      have HH := Lib.hid hh
      have HB := Lib.hid hB
      have HC := Lib.hid hc
      have HZ := Lib.hid hz
      clear hh hB hc hz
      by_cases hm3 : m < 3
      · have hm3i : (m : Int) < 3 := by omega
        go_wp2_with fail
        all_goals first | exact ⟨⟨i + 1, m, bd, by omega, by go_num, rfl, hm, cnt_stay HC.out (HZ.out i (Nat.le_refl i)), fun j hj => HZ.out j (by omega), HH.out, HB.out⟩, by simp [intOf]; omega⟩ | exact ⟨⟨i + 1, m + 1, _, by omega, by go_num, by go_num, by omega, cnt_set HC.out, fun j hj => by rw [if_neg (by omega)]; exact HZ.out j (by omega), by rw [← tvs_set]; exact heap_setCell_same wr _ i _ _ _ HH.out, Below.setCell (p := ⟨w.heap.size, i, none⟩) HB.out (Nat.le_refl _) _⟩, by simp [intOf]; omega⟩
      · have hm3i : ¬ (m : Int) < 3 := by omega
        go_wp2_with fail
        all_goals first | exact ⟨⟨i + 1, m, bd, by omega, by go_num, rfl, hm, cnt_stay HC.out (HZ.out i (Nat.le_refl i)), fun j hj => HZ.out j (by omega), HH.out, HB.out⟩, by simp [intOf]; omega⟩ | exact ⟨⟨i + 1, m + 1, _, by omega, by go_num, by go_num, by omega, cnt_set HC.out, fun j hj => by rw [if_neg (by omega)]; exact HZ.out j (by omega), by rw [← tvs_set]; exact heap_setCell_same wr _ i _ _ _ HH.out, Below.setCell (p := ⟨w.heap.size, i, none⟩) HB.out (Nat.le_refl _) _⟩, by simp [intOf]; omega⟩
    · obtain rfl : i = N := by omega
      go_wp2_with fail
      go_ret
      exact ⟨bd, rfl, hh, by omega, hB⟩
set_option maxRecDepth 100000 in
theorem sameblocks_any (F G : Nat → Nat) (A A' : Option Addr) (n ca cb : Nat) (w : World) (hn : n ≤ 1000) (hF : ∀ j, F j < 256) (hG : ∀ j, G j < 256) (hA : Bks w A n F) (hA' : Bks w A' n G) :
    Calls Try.prog 9 #[.slice A n ca, .slice A' n cb] w fun e w' => e = .returned (.bool (eqB (n * 8) F G)) ∧ Below w.heap.size w w' := by
  have HA := Lib.hid hA
  have HB := Lib.hid hA'
  clear hA hA'
  go_enter Try.func9, Try.ntmps9
  go_wp2_with fail
  go_loopw [5] (fun vi wr => ∃ i : Nat, i ≤ n ∧ vi = .int .i64 i ∧ (∀ j, j < i * 8 → F j = G j) ∧ Below w.heap.size w wr) (fun vi _ => n - (intOf vi).toNat)
  case atStart => exact ⟨0, by omega, rfl, fun j hj => by omega, Below.refl _ _⟩
  case round =>
    obtain ⟨i, hi, rfl, hq, hB⟩ := hrel
    have HQ := Lib.hid hq
    have HW := Lib.hid hB
    clear hq hB
    by_cases hlt : i < n
    · obtain ⟨b1, o1, rfl, h1⟩ := HA.out.below HW.out (by omega)
      obtain ⟨b2, o2, rfl, h2⟩ := HB.out.below HW.out (by omega)
      obtain ⟨c0, c1, c2, c3, c4, c5, c6, c7⟩ := cellsAt h1 hlt
      obtain ⟨d0, d1, d2, d3, d4, d5, d6, d7⟩ := cellsAt h2 hlt
      clear h1 h2
      have hne := run_neqB (fun j => F (i * 8 + j)) (fun j => G (i * 8 + j)) (fun j => hF _) (fun j => hG _)
      simp only [brow8, Nat.add_zero] at hne
      by_cases he : ∀ j, j < 8 → F (i * 8 + j) = G (i * 8 + j)
      · rw [eqB_yes he] at hne
        have HE := Lib.hid he
        clear he
        go_wp2_with fail
        go_quiet (fail)
        go_wp2_with fail
        go_roundw
        case rel =>
          refine ⟨i + 1, by omega, by go_num, fun j hj => ?_, HW.out.trans (Go.Joins.below_draws _ _ _)⟩
          by_cases h1 : j < i * 8
          · exact HQ.out j h1
          · have := HE.out (j - i * 8) (by omega)
            rwa [show i * 8 + (j - i * 8) = j by omega] at this
        case measure => simp [intOf]; omega
      · rw [eqB_no he] at hne
        have HE := Lib.hid he
        clear he
        go_wp2_with fail
        go_quiet (fail)
        go_wp2_with fail
        go_ret
        refine ⟨?_, HW.out.trans (Go.Joins.below_draws _ _ _)⟩
        rw [eqB_no (fun h => HE.out (fun j hj => h _ (by omega)))]; rfl
    · obtain rfl : i = n := by omega
      go_wp2_with fail
      go_ret
      exact ⟨by rw [eqB_yes HQ.out]; rfl, HW.out⟩
end Go.Proofs.Ytlimlmfgeaokhaa
namespace Go.Proofs.Ytlimlmfgeaokhaa
open Go.RowKit

theorem tvs_tv {w : World} {g n : Nat} {bd : Nat → Bool} (h : w.heap[g]? = some (.cells (tvs n bd) 4 (0, 0))) : Tv w (some ⟨g, 0, none⟩) n bd :=
  ⟨g, 0, rfl, fun i hi => (cell_of_row w g (0 + i) _ _ _ h).trans (by simp [tvs, hi])⟩
/-- a number more, in a plain region -/
theorem appN {w : World} {ops : Array Oper} {rest : List Oper} {o : Oper} {a : Act} {Q : Exit → Act → World → Prop} (hgd : o.guard = none) (s x : Operand)
    (ho : o.op = .call { callee := .builtin .append, args := #[s, x], argTypes := #[32, 32] })
    (base : Nat) (v : Value) (k : Nat) (fr : Nat → Nat) (hs : a.eval s = v) (hown : w.ownsRow base 3 1 v k (ils fr k)) (B : Nat) (hx : a.eval x = .slice (some ⟨B, 0, none⟩) 1 1)
    (hb : w.heap[B]? = some (.cells #[.int .i64 (fr k : Nat)] 3 (0, 0))) (hn : k ≤ 1000) (hbase : base ≤ w.heap.size)
    (K' : ∀ v' w', w'.ownsRow base 3 1 v' (k + 1) (ils fr (k + 1)) → w.grownBy w' v.ownBlock → wpList Try.prog ops Q rest (a.put o.dst v') w') : wpList Try.prog ops Q (o :: rest) a w := by
  obtain ⟨i0, hi0, hz0, hz1, hz2⟩ := info_parts Try.infoInt
  exact wpList_append_own w hgd s x 32 ho base 3 i0 (.int .i64 0) 1 8 Try.underlying32 hi0 hz0 hz1 hz2 rfl (by decide) v k (ils fr k) hs hown ⟨B, 0, none⟩ 1 1 [.int .i64 (fr k : Nat)] hx (by simp)
    (World.news_of_block (cs := #[.int .i64 (fr k : Nat)]) hb) (by simp [Value.oneCell']) (by unfold maxLen; omega) (by omega) hbase (fun v' w' h1 h2 _ => K' v' w' (by rw [← ils_snoc]; exact h1) h2)
theorem obj_grown {w w' : World} {g : Nat} {o : Obj} {row : Option Nat} (h : w.heap[g]? = some o) (hg : w.grownBy w' row) (hne : some g ≠ row) : w'.heap[g]? = some o := (hg.block g (Array.getElem?_eq_some_iff.1 h).1 hne).trans h
theorem CB.grown {w w' : World} {g n : Nat} {t : TypeId} {f : Nat → Nat} {row : Option Nat} (h : CB w g n t f) (hg : w.grownBy w' row) (hne : some g ≠ row) : CB w' g n t f := by
  have hl := h.lt
  obtain ⟨cur, h1, h2⟩ := h
  exact ⟨cur, (hg.block g hl hne).trans h1, h2⟩
theorem CB.alloc {w : World} {g n : Nat} {t : TypeId} {f : Nat → Nat} (h : CB w g n t f) (o : Obj) : CB (w.alloc o) g n t f := h.below (Go.Joins.below_alloc1 w o)
theorem CB.at0 {w : World} {g n : Nat} {t : TypeId} {f : Nat → Nat} (h : CB w g n t f) (j : Nat) (hj : j < n) : w.cell? ⟨g, 0 + j, none⟩ = some (.int .u8 (f j : Nat)) := by rw [Nat.zero_add]; exact h.cell j hj
theorem set8_obj {w : World} {g p g' : Nat} {h : Nat → Nat} {o : Obj} (hr : w.heap[g']? = some o) (hne : g' ≠ g) : (set8 w g p h).heap[g']? = some o := by
  have e : ∀ (w : World) (i : Nat) (v : Value), w.heap[g']? = some o → (w.setCell ⟨g, i, none⟩ v).heap[g']? = some o := fun w i v h => (Below.heap_setCell w ⟨g, i, none⟩ v g' hne).trans h
  exact e _ _ _ (e _ _ _ (e _ _ _ (e _ _ _ (e _ _ _ (e _ _ _ (e _ _ _ (e _ _ _ hr)))))))
theorem eqB_self (F : Nat → Nat) (n : Nat) : eqB 24 (par (cat n F (par F n)) n) (fun q => cat n F (par F n) (n * 8 + q)) = true := by
  refine eqB_yes (fun p hp => ?_)
  have e1 : par (cat n F (par F n)) n p = par F n p := sp_congr _ _ n (fun q hq hm => by rw [cat, if_pos (by omega)]) (Nat.mod_lt _ (by omega))
  rw [e1, cat, if_neg (by omega), Nat.add_sub_cancel_left]
/-- the group with the marked of its first i pieces spoilt -/
def spo (Q z : Nat → Nat) (bd : Nat → Bool) (i p : Nat) : Nat := if p / 8 < i ∧ bd (p / 8) = true then z (p % 8) else Q p
theorem spo_lt {Q z : Nat → Nat} {bd : Nat → Bool} {i : Nat} (hQ : ∀ p, Q p < 256) (hz : ∀ p, z p < 256) (p : Nat) : spo Q z bd i p < 256 := by
  unfold spo; split; exact hz _; exact hQ _
set_option maxRecDepth 100000 in
set_option maxHeartbeats 2000000 in
theorem wholeCode_of (haw : ∀ W, Calls Try.prog 5 #[] W fun e w' => e = .returned (.bool true) ∧ Below W.heap.size W w') (F z : Nat → Nat) (A : Option Addr) (n c s : Nat) (w : World)
    (hF : ∀ j, F j < 256) (hz : ∀ j, z j < 256) (hs : s < 65536) (hc : n ≤ c) (hI : Bks w A n F) :
    Calls Try.prog 3 #[.slice A n c, .int .u16 s, .agg (brow 8 z)] w fun e w' => e = .returned (.bool true) ∧ Below w.heap.size w w' := by
  have HAW := Lib.hid haw
  clear haw
  simp only [brow8]
  by_cases h40 : n < 1 ∨ 13 < n
  · rcases h40 with h40 | h40
    all_goals (
      go_enter Try.func3, Try.ntmps3
      go_wp2_with (go_at_call 5; (with_reducible refine (HAW.out _).mono ?_); rintro e w1 ⟨rfl, hB⟩)
      go_ret
      exact ⟨rfl, (Go.Joins.below_alloc1 w _).trans (hB.mono (by simp))⟩)
  obtain ⟨b, off, rfl, _⟩ := hI (by omega)
  have HI := Lib.hid hI
  have h1 : 1 ≤ n := by omega
  have h13 : n ≤ 13 := by omega
  clear hI h40
  go_enter Try.func3, Try.ntmps3
  go_wp2_with (go_at_call 5; (with_reducible refine (HAW.out _).mono ?_); rintro e w1 ⟨rfl, hB⟩; have HZ1 := Lib.hid (RB.below (RB.new (w := w) (n := 8) (t := 25) (f := z)) hB); have HB1 := Lib.hid ((Go.Joins.below_alloc1 w (.cells (brow 8 z) 25)).trans (hB.mono (by simp))); have hs1 : w.heap.size < w1.heap.size := (by have := hB.size; simp at this; omega); clear hB)
  obtain ⟨b', o', e, hcs⟩ := HI.out.below HB1.out (by omega)
  cases e
  refine (encode_par F b off n c w1 h1 h13 hF hcs).mono ?_
  clear hcs
  rintro e w2 ⟨rfl, hR2, hB2⟩
  have HP2 := Lib.hid hR2
  have HB2 := Lib.hid (HB1.out.trans (hB2.mono HB1.out.size))
  have HZ2 := Lib.hid (HZ1.out.below hB2)
  have hs2 := hB2.size
  clear hB2 hR2
  have hmk := fun W => marks_any (n + 3) s W (by omega) hs
  have hcast : ((n + 3 : Nat) : Int) = (n : Int) + 3 := by omega
  simp only [hcast] at hmk
  have HMK := Lib.hid hmk
  clear hmk hcast
  go_wp2_with (first
    | (at_builtin; refine app_bks rfl (.tmp 41) (.tmp 42) rfl w2.heap.size (.slice (some ⟨w2.heap.size, 0, none⟩) 0 0) 0 n (fun _ => 0) F rfl (own_bks0 _ (Nat.le_refl _)) (some ⟨b, off, none⟩) c rfl (fun h => by cases h) (HI.out.below (HB2.out.alloc HB2.out.size _)) (by omega) hc (by simp) ?_; intro v1 w3 o1 g1; rw [cat_zero, Nat.zero_add] at o1; have HK3 := Lib.hid ((Go.Joins.below_alloc1 w2 _).grown g1 (by simp) (own_new (Nat.le_refl _))); have HO3 := Lib.hid o1; clear o1 g1)
    | (at_builtin; refine app_bks rfl (.tmp 43) (.tmp 44) rfl w2.heap.size v1 n 3 F (par F n) rfl HO3.out (some ⟨w1.heap.size, 0, none⟩) 3 rfl (fun h => by cases h) ((HP2.out.below HK3.out).bks (by omega)) (by omega) (by omega) HK3.out.size ?_; intro v2 w4 o2 g2; obtain ⟨gg, cg, rfl, hcg, hgg, hG⟩ := CB.of_own o2 (by omega); have HK4 := Lib.hid (HK3.out.grown g2 HK3.out.size (fun k hk => (HO3.out.lt k hk).1)); have HG4 := Lib.hid hG; have HB4 := Lib.hid (HB2.out.trans (HK4.out.mono HB2.out.size)); have HZ4 := Lib.hid (HZ2.out.below HK4.out); clear o2 g2 hG)
    | (go_at_call 7; (with_reducible refine (HMK.out _).mono ?_); rintro e w5 ⟨bd, rfl, hm5, hc5, hB5⟩; have HM5 := Lib.hid hm5; have hml := (Array.getElem?_eq_some_iff.1 hm5).1; have HC5 := Lib.hid hc5; have HG5 := Lib.hid (HG4.out.below hB5); have HZ5 := Lib.hid (HZ4.out.below hB5); have hs5 := hB5.size; have HB5 := Lib.hid (HB4.out.trans (hB5.mono HB4.out.size)); have hgl := HG4.out.lt; have hzl := HZ4.out.lt; clear hm5 hc5 hB5)
    | (at_builtin; refine app_bks rfl (.tmp 50) (.tmp 51) rfl w5.heap.size (.slice (some ⟨w5.heap.size, 0, none⟩) 0 0) 0 (n + 3) (fun _ => 0) (cat n F (par F n)) rfl (own_bks0 _ (Nat.le_refl _)) (some ⟨gg, 0, none⟩) cg rfl (fun h => by cases h) ((HG5.out.below (Go.Joins.below_alloc1 _ _)).bks (by omega)) (by omega) hcg (by simp) ?_; intro v3 w6 o3 g3; rw [cat_zero, Nat.zero_add] at o3; obtain ⟨gs, cs, rfl, hcs, hgs, hS⟩ := CB.of_own o3 (by omega); have HK6 := Lib.hid ((Go.Joins.below_alloc1 w5 _).grown g3 (by simp) (own_new (Nat.le_refl _))); have HS6 := Lib.hid hS; have HG6 := Lib.hid (HG5.out.below HK6.out); have HZ6 := Lib.hid (HZ5.out.below HK6.out); have HM6 := Lib.hid ((HK6.out.block _ hml).trans HM5.out); have hs6 := HK6.out.size; have hsl := HS6.out.lt; have HB6 := Lib.hid (HB5.out.trans (HK6.out.mono HB5.out.size)); clear o3 g3 hS))
  obtain ⟨Q, hQ⟩ : ∃ Q, Q = cat n F (par F n) := ⟨_, rfl⟩
  have hQl : ∀ p, Q p < 256 := by rw [hQ]; exact cat_lt hF (par_lt n)
  rw [← hQ] at HG6 HS6
  have HQ := Lib.hid hQ
  clear hQ HMK HO3 HK3 HK4 HG4 HB4 HZ4 HG5 HZ5 HB5 HK6 HM5 HP2 HB2 HZ2 HZ1 HB1
  go_loopw [12, 55] (fun vf vi wr => ∃ (i k : Nat) (fr : Nat → Nat), i ≤ n + 3 ∧ vi = .int .i64 i ∧ Sel bd n i k fr ∧ wr.ownsRow w6.heap.size 3 1 vf k (ils fr k) ∧ CB wr gs ((n + 3) * 8) 25 (spo Q z bd i) ∧ CB wr gg ((n + 3) * 8) 25 Q ∧ RB wr w.heap.size 8 25 z ∧
      wr.heap[w4.heap.size]? = some (.cells (tvs (n + 3) bd) 4 (0, 0)) ∧ Below w.heap.size w wr ∧ w6.heap.size ≤ wr.heap.size) (fun _ vi _ => n + 3 - (intOf vi).toNat)
  case atStart => exact ⟨0, 0, fun _ => 0, by omega, rfl, ⟨by omega, .inr rfl, (fun a b _ h => by omega), (fun a h => by omega), (fun a h => by omega)⟩, World.ownsRow_nil _ _ _ _, HS6.out.congr (fun p _ => by rw [spo, if_neg (by omega)]), HG6.out, HZ6.out, HM6.out, HB6.out, Nat.le_refl _⟩
  case round =>
    clear HS6 HG6 HZ6 HM6 HB6
    obtain ⟨i, k, fr, hi, rfl, hsel, hf, hsp, hg, hz', hm, hbl, hsz⟩ := hrel
    by_cases hin : i < n + 3
    · have hini : (i : Int) < (n : Int) + 3 := by omega
      have ht := (cell_of_row wr _ i _ _ _ hm).trans (show (tvs (n + 3) bd)[i]? = some (.bool (bd i)) by simp [tvs, hin])
      obtain ⟨Af, cf, rfl⟩ := own_form hf
      have HS := Lib.hid hsel
      have HF := Lib.hid hf
      have HSP := Lib.hid hsp
      have HG := Lib.hid hg
      have HZ := Lib.hid hz'
      have HM := Lib.hid hm
      have HB := Lib.hid hbl
      by_cases hbi : bd i = true
      · rw [hbi] at ht
        obtain ⟨e0, e1, e2, e3, e4, e5, e6, e7⟩ := cells8 hz'
        have f0 := hsp.frozen
        have d0 := hsp.cell (i * 8) (by omega)
        have d1 := hsp.cell (i * 8 + 1) (by omega)
        have d2 := hsp.cell (i * 8 + 2) (by omega)
        have d3 := hsp.cell (i * 8 + 3) (by omega)
        have d4 := hsp.cell (i * 8 + 4) (by omega)
        have d5 := hsp.cell (i * 8 + 5) (by omega)
        have d6 := hsp.cell (i * 8 + 6) (by omega)
        have d7 := hsp.cell (i * 8 + 7) (by omega)
        clear hsel hf hsp hg hz' hm hbl
        go_wp2_with fail
        have n1 : w.heap.size ≤ gs := by have := hs1; omega
        exact ⟨⟨i + 1, k, fr, by omega, by go_num, HS.out.skip (.inl hbi), own_set8 (h := z) HF.out (fun e => by have := (HF.out.lt gs e).1; omega), CB.congr (set8_cb (j := i) (h := z) HSP.out) (fun p hp => by
            show (if p / 8 = i then z (p % 8) else spo Q z bd i p) = spo Q z bd (i + 1) p
            unfold spo
            by_cases e : p / 8 = i
            · rw [if_pos e, if_pos ⟨by omega, by rw [e]; exact hbi⟩]
            · rw [if_neg e]
              by_cases e2 : p / 8 < i ∧ bd (p / 8) = true
              · rw [if_pos e2, if_pos ⟨by omega, e2.2⟩]
              · rw [if_neg e2, if_neg (fun h => e2 ⟨by omega, h.2⟩)]), set8_cbfar (h := z) HG.out (by omega), set8_far (h := z) HZ.out (by omega), set8_obj (h := z) HM.out (by omega), set8_below (h := z) HB.out n1, Nat.le_trans hsz (Below.size (set8_below (g := gs) (p := i * 8) (h := z) (Below.refl 0 wr) (Nat.zero_le _)))⟩, by simp [intOf]; omega⟩
      · have hbf : bd i = false := by simpa using hbi
        rw [hbf] at ht
        have hsp' : CB wr gs ((n + 3) * 8) 25 (spo Q z bd (i + 1)) := hsp.congr (fun p _ => by
          unfold spo
          by_cases e2 : p / 8 < i ∧ bd (p / 8) = true
          · rw [if_pos e2, if_pos ⟨by omega, e2.2⟩]
          · rw [if_neg e2, if_neg (fun h => e2 ⟨by have : p / 8 ≠ i := (fun e => by rw [e] at h; exact hbi h.2); omega, h.2⟩)])
        have HSP' := Lib.hid hsp'
        clear hsel hf hsp hsp' hg hz' hm hbl
        by_cases hkn : k = n
        · have hkl : ¬ (k : Int) < n := by omega
          go_wp2_with fail
          exact ⟨⟨i + 1, k, fr, by omega, by go_num, HS.out.skip (.inr hkn), HF.out, HSP'.out, HG.out, HZ.out, HM.out, HB.out, hsz⟩, by simp [intOf]; omega⟩
        · have hkn' : k < n := by have := HS.out.le; omega
          have hkl : (k : Int) < n := by omega
          have HS2 := Lib.hid (HS.out.take hbf hkn')
          obtain ⟨fr', hfr'⟩ : ∃ fr' : Nat → Nat, fr' = fun j => if j = k then i else fr j := ⟨_, rfl⟩
          rw [← hfr'] at HS2
          have hfk : fr' k = i := by rw [hfr']; simp
          have hF' := HF.out
          rw [ils_congr (fr' := fr') (fun j hj => by rw [hfr']; simp [show j ≠ k by omega])] at hF'
          have HF' := Lib.hid hF'
          have HFK := Lib.hid hfk
          clear hfr' hF' hfk hkn
          go_wp2_with (at_builtin; refine appN rfl (.tmp 71) (.tmp 73) rfl w6.heap.size (.slice Af k cf) k fr' rfl (HF'.out.alloc _) _ rfl (by rw [HFK.out]; exact heap_alloc_new wr _) (by omega) (by simp; omega) ?_; intro v8 w8 o8 r8; have HF8 := Lib.hid o8; have hnr : ∀ q, q < w6.heap.size → some q ≠ (Value.slice Af k cf).ownBlock := (fun q hq e => by have := (HF'.out.lt q e.symm).1; omega); have HSP8 := Lib.hid ((HSP'.out.alloc _).grown r8 (hnr _ (by omega))); have HG8 := Lib.hid ((HG.out.alloc _).grown r8 (hnr _ (by omega))); have HZ8 := Lib.hid (rb_grown (HZ.out.alloc _) r8 (hnr _ (by omega))); have HM8 := Lib.hid (obj_grown ((Below.heap_alloc wr _ _ (Array.getElem?_eq_some_iff.1 HM.out).1).trans HM.out) r8 (hnr _ (by omega))); have HB8 := Lib.hid ((HB.out.alloc HB.out.size _).grown r8 (by have := HB.out.size; simp; omega) (fun q hq => by have := (HF'.out.lt q hq).1; have := hs1; omega)); have hsz8 : w6.heap.size ≤ w8.heap.size := (by have := r8.size; simp at this; omega); clear o8 r8)
          exact ⟨⟨i + 1, k + 1, fr', by omega, by go_num, HS2.out, HF8.out, HSP8.out, HG8.out, HZ8.out, HM8.out, HB8.out, hsz8⟩, by simp [intOf]; omega⟩
    · obtain rfl : i = n + 3 := by omega
      have hkn : k = n := by rcases hsel.all with e | e; exact e; have := hsel.le; have := HC5.out; omega
      have HK7 := Lib.hid hsel
      subst hkn
      have hdec := decode_any F (spo Q z bd (k + 3)) bd k gs 0 cs (some ⟨w4.heap.size, 0, none⟩) (k + 3) wr h1 h13 hF (spo_lt hQl hz) hcs (hsp.bks (by omega)) (tvs_tv hm) HC5.out (fun p _ hb => by rw [spo, if_neg (fun h => by rw [hb] at h; exact absurd h.2 (by simp)), HQ.out])
      rw [← HQ.out] at hdec
      have HDEC := Lib.hid hdec
      have hpc := eqB_self F k
      rw [← HQ.out] at hpc
      have HPC := Lib.hid hpc
      obtain ⟨Af, cf, rfl⟩ := own_form hf
      have HF := Lib.hid hf
      have HG := Lib.hid hg
      have HM := Lib.hid hm
      have HB := Lib.hid hbl
      clear hdec hpc hsel hf hsp hg hz' hm hbl
      go_wp2_with (first
        | (go_at_call 8; (with_reducible refine HDEC.out.mono ?_); rintro e w7 ⟨gx, cx, rfl, hcx, _, hX, hB7⟩; have HX7 := Lib.hid hX; have HF7 := Lib.hid (own_below HF.out hB7); have HG7 := Lib.hid (HG.out.below hB7); have HM7 := Lib.hid ((hB7.block _ (Array.getElem?_eq_some_iff.1 HM.out).1).trans HM.out); have HB7 := Lib.hid (HB.out.trans (hB7.mono HB.out.size)); have hs7 := hB7.size; clear hX hB7)
        | (go_at_call 9; (with_reducible refine (sameblocks_any Q Q _ _ (k + 3) _ _ _ (by omega) hQl hQl (HX7.out.bks (by omega)) (HG7.out.bks (by omega))).mono ?_); rintro e w8 ⟨rfl, hB8⟩; rw [eqB_yes (fun _ _ => rfl)]; have HF8 := Lib.hid (own_below HF7.out hB8); have HG8 := Lib.hid (HG7.out.below hB8); have HM8 := Lib.hid ((hB8.block _ (Array.getElem?_eq_some_iff.1 HM7.out).1).trans HM7.out); have HB8 := Lib.hid (HB7.out.trans (hB8.mono HB7.out.size)); have hs8 := hB8.size; clear hB8)
        | (go_at_call 10; (with_reducible refine (check_par Q gg 0 (k + 3) cg w8 (by omega) (by omega) hcg hQl (fun j hj => HG8.out.at0 j hj)).mono ?_); rintro e w9 ⟨rfl, hB9⟩; simp only [Nat.add_sub_cancel]; rw [HPC.out]; have HF9 := Lib.hid (own_below HF8.out hB9); have HG9 := Lib.hid (HG8.out.below hB9); have HM9 := Lib.hid ((hB9.block _ (Array.getElem?_eq_some_iff.1 HM8.out).1).trans HM8.out); have HB9 := Lib.hid (HB8.out.trans (hB9.mono HB8.out.size)); have hs9 := hB9.size; clear hB9))
      have HFR := Lib.hid (fun j (hj : j < k) => HK7.out.lt j hj)
      obtain ⟨B9, hB9e⟩ : ∃ B9, B9 = w9.heap.size := ⟨_, rfl⟩
      have HS9 := Lib.hid hB9e
      clear HX7 HF7 HG7 HM7 HB7 HF8 HG8 HM8 HB8 HDEC HPC
      go_loopw [16, 97] (fun vh vi wr => ∃ i : Nat, i ≤ k ∧ vi = .int .i64 i ∧ wr.ownsRow B9 25 8 vh i (bkl (pick Q fr) i) ∧ Kp w9 wr) (fun _ vi _ => k - (intOf vi).toNat)
      case atStart => exact ⟨0, by omega, rfl, World.ownsRow_nil _ _ _ _, Kp.refl w9⟩
      case round =>
        obtain ⟨i, hi, rfl, ho, hk⟩ := hrel
        have HO := Lib.hid ho
        have HKK := Lib.hid hk
        clear ho hk
        by_cases hik : i < k
        · have hiki : (i : Int) < k := by omega
          obtain ⟨b', o', e', hn⟩ := ns_own (own_below HF9.out HKK.out.below) (by omega)
          cases e'
          have hni := hn i hik
          have hfl := HFR.out i hik
          have hG := HG9.out.below HKK.out.below
          have d0 := hG.cell (fr i * 8) (by omega)
          have d1 := hG.cell (fr i * 8 + 1) (by omega)
          have d2 := hG.cell (fr i * 8 + 2) (by omega)
          have d3 := hG.cell (fr i * 8 + 3) (by omega)
          have d4 := hG.cell (fr i * 8 + 4) (by omega)
          have d5 := hG.cell (fr i * 8 + 5) (by omega)
          have d6 := hG.cell (fr i * 8 + 6) (by omega)
          have d7 := hG.cell (fr i * 8 + 7) (by omega)
          clear hG hn
          have hhp : ∀ q, q < 8 → (fun q => Q (fr i * 8 + q)) q = pick Q fr (i * 8 + q) := fun q hq => by unfold pick; rw [show (i * 8 + q) / 8 = i by omega, show (i * 8 + q) % 8 = q by omega]
          have HHP := Lib.hid hhp
          have hb8 := brow8 (fun q => Q (fr i * 8 + q))
          simp only [Nat.add_zero] at hb8
          have hsr := HKK.out.2.2.2.1
          clear hhp
          go_wp2_with (at_builtin; (refine app1 rfl _ _ rfl B9 u16 i (pick Q fr) (fun q => Q (fr i * 8 + q)) rfl (HO.out.alloc _) _ rfl (by rw [hb8]; exact heap_alloc_new _ _) HHP.out (by omega) (by rw [HS9.out]; simp; omega) (wr.heap.size + 1) (by simp) ?_); intro g8 c8 w8 o8 r8 l8 t8; have HO8 := Lib.hid o8; have HK8 := Lib.hid (Kp.grown (HKK.out.next (Go.Joins.below_alloc1 _ _)) r8 (fun q hq => by rw [← HS9.out]; exact (HO.out.lt q hq).1)); clear o8 r8 l8)
          exact ⟨⟨i + 1, by omega, by go_num, HO8.out, HK8.out⟩, by simp [intOf]; omega⟩
        · obtain rfl : i = k := by omega
          obtain ⟨Ah, ch, rfl⟩ := own_form HO.out
          obtain ⟨wh, hwh⟩ : ∃ wh, wh = wr := ⟨_, rfl⟩
          subst hwh
          have hq1 : ∀ q kk, q < i + 3 → kk < 8 → Q (q * 8 + kk) = dot (gen i q) (fun a => F (a * 8 + kk)) i := fun q kk hq hkk => by rw [HQ.out]; exact code_dot F hF i q kk hq hkk
          have HQ1 := Lib.hid hq1
          clear hq1
          go_wp2_with fail
          go_loopw [111] (fun vi wr => ∃ j : Nat, j ≤ i + 3 ∧ vi = .int .i64 j ∧ Kp wh wr) (fun vi _ => i + 3 - (intOf vi).toNat)
          case atStart => exact ⟨0, by omega, rfl, Kp.refl wh⟩
          case round =>
            obtain ⟨j, hj, rfl, hk⟩ := hrel
            have HKL := Lib.hid (HKK.out.next hk.below)
            have HKW := Lib.hid hk
            by_cases hji : j < i + 3
            · have hjii : (j : Int) < (i : Int) + 3 := by omega
              have hm := (HKL.out.2.2.2.2 _ (Array.getElem?_eq_some_iff.1 HM9.out).1).trans HM9.out
              have ht := (cell_of_row wr _ j _ _ _ hm).trans (show (tvs (i + 3) bd)[j]? = some (.bool (bd j)) by simp [tvs, hji])
              clear hm hk
              by_cases hbj : bd j = false
              · rw [hbj] at ht
                go_wp2_with fail
                exact ⟨⟨j + 1, by omega, by go_num, HKW.out⟩, by simp [intOf]; omega⟩
              · have hbt : bd j = true := by simpa using hbj
                rw [hbt] at ht
                have hwt := weights_any (i + 3) j fr Af cf wr (by omega) (by omega) hji (fun a b hab hb => HK7.out.inc a b hab (by omega)) (fun a ha => HFR.out a (by omega)) (by rw [Nat.add_sub_cancel]; exact ns_own (own_below HF9.out HKL.out.below) (by omega))
                have hcast : ((i + 3 : Nat) : Int) = (i : Int) + 3 := by omega
                simp only [hcast, Nat.add_sub_cancel] at hwt
                have HWT := Lib.hid hwt
                clear hwt hcast
                go_wp2_with (first
                  | (go_at_call 11; (with_reducible refine HWT.out.mono ?_); rintro e w10 ⟨bw, ow, cw, W, rfl, hw5, hwl, hwd, hB10⟩; have HWL := Lib.hid hwl; have HWD := Lib.hid hwd; have HW5 := Lib.hid hw5; have HO10 := Lib.hid (own_below (own_below HO.out HKW.out.below) hB10); have HK10 := Lib.hid (HKW.out.next hB10); clear hw5 hwl hwd hB10))
                refine (combine_any W (pick Q fr) bw ow cw i ch Ah w10 h1 (by omega) HWL.out (fun _ => hQl _) HW5.out (bks_own HO10.out)).mono ?_
                rintro e w11 ⟨rfl, hB11⟩
                have HK11 := Lib.hid (HK10.out.next hB11)
                have hhq : ∀ kk, kk < 8 → cmb W (pick Q fr) i kk = Q (j * 8 + kk) := fun kk hkk => by
                  rw [HQ1.out j kk hji hkk, ← HWD.out (fun a => F (a * 8 + kk)) (fun _ => hF _)]
                  unfold cmb
                  refine xs_congr i (fun a ha => ?_)
                  have h1 : pick Q fr (a * 8 + kk) = Q (fr a * 8 + kk) := by
                    unfold pick
                    rw [show (a * 8 + kk) / 8 = a by omega, show (a * 8 + kk) % 8 = kk by omega]
                  rw [h1, HQ1.out (fr a) kk (HFR.out a ha) hkk]
                rw [brow_congr (f' := fun kk => Q (j * 8 + kk)) hhq, brow8]
                go_wp2_with fail
                obtain ⟨w12, hw12⟩ : ∃ w12, w12 = w11.alloc (.cells (brow 8 (fun kk => Q (j * 8 + kk))) 25) := ⟨_, rfl⟩
                have hN := RB.new (w := w11) (n := 8) (t := 25) (f := fun kk => Q (j * 8 + kk))
                rw [← hw12] at hN
                have hG := ((HG9.out.below HKK.out.below).below HK11.out.below).below (Go.Joins.below_alloc1 w11 (.cells (brow 8 (fun kk => Q (j * 8 + kk))) 25))
                rw [← hw12] at hG
                have HK12 := HK11.out.next (Go.Joins.below_alloc1 w11 (.cells (brow 8 (fun kk => Q (j * 8 + kk))) 25))
                rw [← hw12] at HK12
                have HK12 := Lib.hid HK12
                rw [brow8] at hw12
                try simp only [Nat.add_zero] at hw12
                try simp only [Nat.add_zero]
                rw [← hw12]
                clear hw12
                obtain ⟨e0, e1, e2, e3, e4, e5, e6, e7⟩ := cells8 hN
                have d0 := hG.cell (j * 8) (by omega)
                have d1 := hG.cell (j * 8 + 1) (by omega)
                have d2 := hG.cell (j * 8 + 2) (by omega)
                have d3 := hG.cell (j * 8 + 3) (by omega)
                have d4 := hG.cell (j * 8 + 4) (by omega)
                have d5 := hG.cell (j * 8 + 5) (by omega)
                have d6 := hG.cell (j * 8 + 6) (by omega)
                have d7 := hG.cell (j * 8 + 7) (by omega)
                have hne := run_neqB (fun q => Q (j * 8 + q)) (fun q => Q (j * 8 + q)) (fun q => hQl _) (fun q => hQl _)
                rw [eqB_yes (fun _ _ => rfl)] at hne
                simp only [brow8, Nat.add_zero] at hne e0
                clear hG hhq hN
                go_quiet (fail)
                go_wp2_with fail
                exact ⟨⟨j + 1, by omega, by go_num, HK12.out.next (Go.Joins.below_draws _ _ _)⟩, by simp [intOf]; omega⟩
            · obtain rfl : j = i + 3 := by omega
              go_wp2_with fail
              go_ret
              exact ⟨rfl, (HB9.out.trans (HKK.out.below.mono HB9.out.size)).trans (hk.below.mono (by have := HB9.out.size; have := HKK.out.2.2.2.1; omega))⟩
end Go.Proofs.Ytlimlmfgeaokhaa
