/- Blocks that came in or were appended to a row of the call's own: how they read. -/
import Derived.Test.YtibhhonmcbbohaaPa14
import Derived.Test.YtibhhonmcbbohaaAgg
import Derived.Deep.Slices
import Derived.OpenShut
import Derived.Laws.AppendOwnNone
namespace Go.Proofs.Ytibhhonmcbbohaa
open Go.RowKit

/-! ### what comes in -/
theorem block_cells {H : Type} {enc : TypeId × Value → H} {W : World} {n b off : Nat} {cs' : List Value} {y : DataW H × List MemPlace}
    (hc : W.cells? 0 ⟨b, off, none⟩ 8 = some cs') (ht : DataW.trod enc Try.prog W 0 (fun _ => true) true n 37 cs' = some y) (j : Nat) (hj : j < 8) :
    ∃ z : Nat, W.cell? ⟨b, off + j, none⟩ = some (.int .u8 (z : Nat)) ∧ z < 256 := by
  obtain ⟨ys, n', _, _, hlen, hyl, hf⟩ := DataW.trod_array Try.underlying37 ht
  obtain ⟨_, hcl, hat⟩ := World.cells?_some hc
  have kc : Try.prog.cellsOf 5 = 1 := by kernel_rfl
  rw [kc] at hf
  have h1 := hf j hj
  have h2 := hat j hj
  rw [Go.WideShapes.add_plain] at h2
  rw [List.getElem?_eq_getElem (show j < ys.length by omega)] at h1
  rw [List.getElem?_eq_getElem (show j < cs'.length by omega)] at h2
  have e : (cs'.drop (j * 1)).take 1 = [cs'[j]'(by omega)] := by
    rw [Nat.mul_one]
    rw [List.drop_eq_getElem_cons (show j < cs'.length by omega), List.take_succ_cons, List.take_zero]
  rw [e] at h1
  obtain ⟨z, hz, _, hwf⟩ := DataW.trod_int Try.underlying5 h1
  have hb := bounds_u8 hwf
  simp only [List.cons.injEq, and_true] at hz
  rw [hz] at h2
  exact ⟨z.toNat, by rw [h2, Int.toNat_of_nonneg (by omega)], by omega⟩
/-- the blocks that came in -/
theorem bks_of_row {H : Type} {enc : TypeId × Value → H} {W : World} {A : Option Addr} {len cap fuel : Nat} {x : DataW H × List MemPlace}
    (h : DataW.trod enc Try.prog W 0 (fun _ => true) true fuel 30 [.slice A len cap] = some x) : ∃ F : Nat → Nat, (∀ j, F j < 256) ∧ (A = none → cap = 0) ∧ len ≤ cap ∧ Bks W A len F := by
  rcases Go.Deep.open_slice Try.underlying30 h with ⟨hcs, _⟩ | ⟨a, ln, cp, m, n, D, Pl, hcs, hb, hl, hm, hmm, hx, hi⟩
  · simp at hcs
    obtain ⟨rfl, rfl, rfl⟩ := hcs
    exact ⟨fun _ => 0, fun _ => Nat.zero_lt_succ _, fun _ => rfl, by omega, fun h => by omega⟩
  · simp at hcs
    obtain ⟨rfl, rfl, rfl⟩ := hcs
    simp only [if_true] at hmm
    subst hmm
    have kc : Try.prog.cellsOf 37 = 8 := by kernel_rfl
    rw [kc] at hi
    obtain ⟨b, off, spot⟩ := a
    by_cases h0 : 0 < len
    · have hspot : spot = none := by
        obtain ⟨cs', hc, ht⟩ := hi 0 (by omega)
        obtain ⟨_, hcl, hat⟩ := World.cells?_some hc
        have h2 := hat 0 (by omega)
        rw [List.getElem?_eq_getElem (by omega)] at h2
        simpa [Addr.add] using World.cell?_spot h2
      subst hspot
      have each : ∀ p : Nat, ∃ z : Nat, z < 256 ∧ (p < len * 8 → W.cell? ⟨b, off + p, none⟩ = some (.int .u8 (z : Nat))) := by
        intro p
        by_cases hlt : p < len * 8
        · obtain ⟨cs', hc, ht⟩ := hi (p / 8) (by omega)
          rw [Go.WideShapes.add_plain] at hc
          obtain ⟨z, h1, h2⟩ := block_cells hc ht (p % 8) (by omega)
          rw [show off + p / 8 * 8 + p % 8 = off + p by omega] at h1
          exact ⟨z, h2, fun _ => h1⟩
        · exact ⟨0, by omega, fun h => absurd h hlt⟩
      exact ⟨fun p => Classical.choose (each p), fun p => (Classical.choose_spec (each p)).1, (fun h => by cases h), hl, fun _ => ⟨b, off, rfl, fun p hp => (Classical.choose_spec (each p)).2 hp⟩⟩
    · exact ⟨fun _ => 0, fun _ => Nat.zero_lt_succ _, (fun h => by cases h), hl, fun h => by omega⟩
/-- an array of bytes by value -/
theorem agg_bytes {w : World} {base n m : Nat} {t e : TypeId} {v : Value} (hu : Try.prog.underlying t = some (.array n e)) (ht : Try.prog.cellTypes Try.prog.depth t = some (List.replicate m 5)) (hsz : Try.prog.cellsOf t = m) (hm : 0 < m)
    (h : Value.okWide Try.prog w .any base t v) : ∃ f : Nat → Nat, v = .agg (brow m f) ∧ ∀ j, f j < 256 := by
  obtain ⟨cs, rfl, h1, h2⟩ := agg_array hu ht (by simpa using hsz) h
  have each : ∀ j : Nat, ∃ z : Nat, z < 256 ∧ (j < m → cs[j]? = some (.int .u8 (z : Nat))) := by
    intro j
    by_cases hj : j < m
    · have hj' : j < cs.size := by rw [h1]; simpa using hj
      obtain ⟨u, hu, ho⟩ := h2 j cs[j] (by simp [hj'])
      have : u = 5 := by
        simp only [List.length_replicate] at hu
        rw [List.getElem?_replicate, if_pos (Nat.mod_lt _ hm)] at hu
        exact (Option.some.inj hu).symm
      subst this
      obtain ⟨z, hz, hb⟩ := cell_u8 Try.underlying5 ho
      exact ⟨z, hb, fun _ => by rw [Array.getElem?_eq_getElem hj', hz]⟩
    · exact ⟨0, by omega, fun h => absurd h hj⟩
  refine ⟨fun p => Classical.choose (each p), ?_, fun p => (Classical.choose_spec (each p)).1⟩
  congr 1
  apply Array.ext_getElem?
  intro j
  by_cases hj : j < m
  · rw [brow_get m _ j hj]
    exact (Classical.choose_spec (each j)).2 hj
  · rw [Array.getElem?_eq_none (by rw [h1]; simpa using hj), Array.getElem?_eq_none (by simp [brow]; omega)]

/-! ### appends -/
def bkl (F : Nat → Nat) (n : Nat) : List Value := (List.range (n * 8)).map fun j => Value.int .u8 (F j : Nat)
theorem bkl_length (F : Nat → Nat) (n : Nat) : (bkl F n).length = n * 8 := by simp [bkl]
/-- n blocks, and then others -/
def cat (n : Nat) (F G : Nat → Nat) (p : Nat) : Nat := if p < n * 8 then F p else G (p - n * 8)
theorem cat_zero (F G : Nat → Nat) : cat 0 F G = G := by
  funext p
  simp [cat]
theorem cat_lt {n : Nat} {F G : Nat → Nat} (hF : ∀ j, F j < 256) (hG : ∀ j, G j < 256) (p : Nat) : cat n F G p < 256 := by
  unfold cat
  split
  · exact hF _
  · exact hG _
theorem bkl_congr {n : Nat} {F G : Nat → Nat} (h : ∀ j, j < n * 8 → F j = G j) : bkl F n = bkl G n :=
  List.map_congr_left (fun j hj => by rw [h j (by simpa using hj)])
theorem bkl_append (n m : Nat) (F G : Nat → Nat) : bkl F n ++ bkl G m = bkl (cat n F G) (n + m) := by
  unfold bkl
  rw [Nat.add_mul, List.range_add, List.map_append, List.map_map]
  congr 1
  · exact List.map_congr_left (fun j hj => by rw [cat, if_pos (by simpa using hj)])
  · refine List.map_congr_left (fun j _ => ?_)
    simp only [Function.comp, cat]
    rw [if_neg (by omega), Nat.add_sub_cancel_left]
theorem bkl_one (F : Nat → Nat) (n : Nat) : ∀ u ∈ bkl F n, u.oneCell' = true := by
  intro u hu
  simp only [bkl, List.mem_map] at hu
  obtain ⟨x, _, rfl⟩ := hu
  rfl
theorem Bks.of_own {w : World} {base n : Nat} {v : Value} {F : Nat → Nat} (h : w.ownsRow base 37 8 v n (bkl F n)) : ∃ A c, v = .slice A n c ∧ Bks w A n F ∧ n ≤ c ∧ (A = none → c = 0) := by
  rcases h.2 with ⟨rfl, rfl⟩ | ⟨g, cap, cur, rfl, _, _, hc, _⟩
  · exact ⟨none, 0, rfl, fun h1 => by omega, by omega, fun _ => rfl⟩
  · refine ⟨_, cap, rfl, fun _ => ⟨g, 0, rfl, fun j hj => ?_⟩, hc, fun h => by cases h⟩
    rw [Nat.zero_add, h.cellAt j (by omega)]
    simp [bkl, hj]
theorem RB.of_own {w : World} {base n : Nat} {v : Value} {F : Nat → Nat} (h : w.ownsRow base 37 8 v n (bkl F n)) (hn : 0 < n) : ∃ g c, v = .slice (some ⟨g, 0, none⟩) n c ∧ n ≤ c ∧ base ≤ g ∧ (∀ j : Nat, j < n * 8 → w.cell? ⟨g, 0 + j, none⟩ = some (.int .u8 (F j : Nat))) ∧ ∀ j : Nat, w.frozen? ⟨g, j, none⟩ = false := by
  rcases h.2 with ⟨rfl, rfl⟩ | ⟨g, cap, cur, rfl, hb, hg, hc, _⟩
  · omega
  · refine ⟨g, cap, rfl, hc, hb, fun j hj => ?_, fun j => frozen_of_row w g j _ _ hg⟩
    rw [Nat.zero_add, h.cellAt j (by omega)]
    simp [bkl, hj]
/-- append of a slice of blocks, whatever its address, onto a row of the call's own -/
theorem app_bks {w : World} {ops : Array Oper} {rest : List Oper} {o : Oper} {a : Act} {Q : Exit → Act → World → Prop} (hgd : o.guard = none) (s x : Operand)
    (ho : o.op = .call { callee := .builtin .append, args := #[s, x], argTypes := #[30, 30] })
    (base : Nat) (v : Value) (n m : Nat) (F G : Nat → Nat) (hs : a.eval s = v) (hown : w.ownsRow base 37 8 v n (bkl F n))
    (A : Option Addr) (c : Nat) (hx : a.eval x = .slice A m c) (hA : A = none → c = 0) (hl : Bks w A m G) (hb : n + m ≤ 1000) (hmc : m ≤ c) (hbase : base ≤ w.heap.size)
    (h : ∀ v' w', w'.ownsRow base 37 8 v' (n + m) (bkl (cat n F G) (n + m)) → w.grownBy w' v.ownBlock → wpList Try.prog ops Q rest (a.put o.dst v') w') : wpList Try.prog ops Q (o :: rest) a w := by
  obtain ⟨i0, hi0, hz0, hz1, hz2⟩ := info_parts Try.infoBlock
  cases A with
  | none =>
    obtain rfl := hA rfl
    obtain rfl : m = 0 := by omega
    exact wpList_append_own_none hgd s x 30 ho base 37 i0 8 Try.underlying30 hi0 v n (bkl F n) hs hown hx (h v w (by rw [← bkl_append]; simpa [bkl] using hown) (World.grownBy.refl w _))
  | some ad =>
    refine wpList_append_own w hgd s x 30 ho base 37 i0 (.agg (brow 8 fun _ => 0)) 8 8 Try.underlying30 hi0 hz0 hz1 hz2 rfl (by decide) v n (bkl F n) hs hown ad m c (bkl G m) hx (bkl_length G m) ?_ (bkl_one G m) (by unfold maxLen; omega) (by omega) hbase (fun v' w' h1 h2 _ => h v' w' (by rw [← bkl_append]; exact h1) h2)
    rcases Nat.eq_zero_or_pos m with rfl | h0
    · intro j u hj; simp [bkl] at hj
    · obtain ⟨b, off, hh, hc⟩ := hl h0
      cases hh
      intro j u hj
      rcases Nat.lt_or_ge j (m * 8) with hlt | hlt
      · have ha : (⟨b, off, none⟩ : Addr).add j = ⟨b, off + j, none⟩ := by unfold Addr.add; split <;> simp_all
        rw [ha, hc j hlt]
        simpa [bkl, hlt] using hj
      · rw [List.getElem?_eq_none (by rw [bkl_length]; omega)] at hj
        cases hj
theorem own_bks0 {w : World} {base : Nat} (F : Nat → Nat) (h : base ≤ w.heap.size) : (w.alloc (.cells #[] 37)).ownsRow base 37 8 (.slice (some ⟨w.heap.size, 0, none⟩) 0 0) 0 (bkl F 0) :=
  World.ownsRow_lit w #[] 0 h (by unfold maxLen; omega) rfl
theorem own_new {w : World} {base : Nat} (h : base ≤ w.heap.size) : ∀ k, (Value.slice (some ⟨w.heap.size, 0, none⟩) 0 0).ownBlock = some k → base ≤ k := by
  intro k hk
  simp only [Value.ownBlock, Option.some.injEq] at hk
  omega
end Go.Proofs.Ytibhhonmcbbohaa
