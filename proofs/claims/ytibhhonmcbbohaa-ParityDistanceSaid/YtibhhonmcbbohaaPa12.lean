/- The walk of parity.Matrix at 1 to 13 data pieces. -/
import Derived.Test.YtibhhonmcbbohaaPa11
import Derived.Laws.OwnMore
import Derived.Laws.Entries
import Derived.Deep.AppendLies
import Derived.Lib.SmallJoins
namespace Go.Proofs.Ytibhhonmcbbohaa
open Go.RowKit

theorem Try.infoByte : (Try.prog.info? 5).map (fun i => (i.zero, i.size, i.bytes)) = some (some (.int .u8 0), 1, 1) := by kernel_rfl
theorem run_make_bytes (kl kc : IntKind) (n : Nat) (hn : n ≤ 1000000) (w : World) :
    (Instr.makeSlice 27 (.int kl (n : Int)) (.int kc (n : Int))).run Try.prog w = .ok (.slice (some ⟨w.heap.size, 0, none⟩) n n) (w.alloc (.cells (brow n fun _ => 0) 5)) := by
  obtain ⟨i0, hi, hz0, hz1, hz2⟩ := info_parts Try.infoByte
  have h := run_make_rowN (P := Try.prog) 27 5 i0 (.int .u8 0) Try.underlying27 hi hz0 kl kc n n (Nat.le_refl _) (by rw [hz2]; omega) (by omega) w
  have e : madeCells (Value.int .u8 0).cells (n * i0.size) = brow n fun _ => 0 := by
    rw [hz1, Nat.mul_one]
    apply Array.toList_inj.1
    have := toList_madeCells_one (.int .u8 0) n
    rw [show (Value.int .u8 0).cells = #[.int .u8 0] from rfl, this]
    simp [brow, List.map_const']
  rw [e] at h
  exact h
theorem own_below {w w' : World} {base size n : Nat} {e : TypeId} {v : Value} {xs : List Value} (h : w.ownsRow base e size v n xs) (hB : Below w.heap.size w w') : w'.ownsRow base e size v n xs := by
  refine ⟨h.1, ?_⟩
  rcases h.2 with h0 | ⟨g, cap, cur, rfl, hg, h1⟩
  · exact .inl h0
  · rcases h1 with ⟨hg1, rest⟩
    exact .inr ⟨g, cap, cur, rfl, hg, (hB.block g (Array.getElem?_eq_some_iff.1 hg1).1).trans hg1, rest⟩
/-- the header cells of rows in blocks of their own -/
def hdr (d : Nat) (gs : List Nat) : List Value := gs.map fun g => Value.slice (some ⟨g, 0, none⟩) d d
theorem hdr_snoc (d : Nat) (gs : List Nat) (g : Nat) : hdr d gs ++ [Value.slice (some ⟨g, 0, none⟩) d d] = hdr d (gs ++ [g]) := by simp [hdr]
theorem Try.infoBytes : (Try.prog.info? 27).map (fun i => (i.zero, i.size, i.bytes)) = some (some (.slice none 0 0), 1, 24) := by kernel_rfl
theorem own_type {w : World} {base size n g c : Nat} {e t : TypeId} {v : Value} {xs : List Value} {f : Nat → Nat} (h : w.ownsRow base e size v n xs) (hg : RB w g c t f) (ht : t ≠ e) : some g ≠ v.ownBlock := by
  rcases h.2 with ⟨rfl, _⟩ | ⟨g', cap, cur, rfl, _, h1, _⟩
  · simp [Value.ownBlock]
  · intro e'
    simp only [Value.ownBlock, Option.some.injEq] at e'
    subst e'
    rw [RB, h1] at hg
    injection hg with hg
    injection hg with _ h2
    exact ht h2.symm
theorem rb_grown {w w' : World} {g c : Nat} {t : TypeId} {row : Option Nat} {f : Nat → Nat} (hg : RB w g c t f) (h : w.grownBy w' row) (hne : some g ≠ row) : RB w' g c t f := (h.block g hg.lt hne).trans hg
/-- a row more -/
theorem app_hdr {w : World} {ops : Array Oper} {rest : List Oper} {o : Oper} {a : Act} {Q : Exit → Act → World → Prop} (hgd : o.guard = none) (s x : Operand)
    (ho : o.op = .call { callee := .builtin .append, args := #[s, x], argTypes := #[23, 23] })
    (base : Nat) (v : Value) (n d g h : Nat) (gs : List Nat) (f : Nat → Nat → Nat) (hs : a.eval s = v) (hown : w.ownsRow base 27 1 v n (hdr d gs)) (hl : gs.length = n)
    (hx : a.eval x = .slice (some ⟨h, 0, none⟩) 1 1) (hh : w.heap[h]? = some (.cells #[.slice (some ⟨g, 0, none⟩) d d] 27 (0, 0))) (hb : n ≤ 1000) (hbase : base ≤ w.heap.size)
    (hr : ∀ q, q < n → RB w (gs.getD q 0) d 5 (f q)) (hg : RB w g d 5 (f n))
    (k : ∀ v' w', w'.ownsRow base 27 1 v' (n + 1) (hdr d (gs ++ [g])) → (∀ q, q < n + 1 → RB w' ((gs ++ [g]).getD q 0) d 5 (f q)) → w.grownBy w' v.ownBlock → wpList Try.prog ops Q rest (a.put o.dst v') w') : wpList Try.prog ops Q (o :: rest) a w := by
  obtain ⟨i0, hi0, hz0, hz1, hz2⟩ := info_parts Try.infoBytes
  refine wpList_append_own w hgd s x 23 ho base 27 i0 (.slice none 0 0) 1 24 Try.underlying23 hi0 hz0 hz1 hz2 rfl (by decide) v n (hdr d gs) hs hown ⟨h, 0, none⟩ 1 1 [.slice (some ⟨g, 0, none⟩) d d] hx (by simp)
    (World.news_of_block (cs := #[.slice (some ⟨g, 0, none⟩) d d]) hh) (by simp [Value.oneCell']) (by unfold maxLen; omega) (by omega) hbase (fun v' w' h1 h2 _ => k v' w' (by rw [← hdr_snoc]; exact h1) (fun q hq => ?_) h2)
  by_cases e : q < n
  · have : (gs ++ [g]).getD q 0 = gs.getD q 0 := by simp [List.getD_eq_getElem?_getD, List.getElem?_append_left (show q < gs.length by omega)]
    rw [this]
    exact rb_grown (hr q e) h2 (own_type hown (hr q e) (by decide))
  · obtain rfl : q = n := by omega
    have : (gs ++ [g]).getD q 0 = g := by simp [List.getD_eq_getElem?_getD, ← hl]
    rw [this]
    exact rb_grown hg h2 (own_type hown hg (by decide))
set_option maxRecDepth 100000 in
set_option maxHeartbeats 1000000 in
theorem matrix_any (d : Nat) (w : World) (h1 : 1 ≤ d) (h2 : d ≤ 13) :
    Calls Try.prog 12 #[.int .i64 d] w fun e w' => ∃ v gs, e = .returned (.tuple #[v, .int .i64 0]) ∧ w'.ownsRow w.heap.size 27 1 v 3 (hdr d gs) ∧ gs.length = 3 ∧
      (∀ j, j < 3 → RB w' (gs.getD j 0) d 5 (fun i => Gf.ex (i * j))) ∧ Below w.heap.size w w' := by
  have hmk := fun kl kc W => run_make_bytes kl kc d (by omega) W
  go_enter Try.func12, Try.ntmps12
  go_wp2_with fail
  go_loopw [4, 14] (fun vo vj wr => ∃ (j : Nat) (gs : List Nat), j ≤ 3 ∧ vj = .int .i64 j ∧ gs.length = j ∧ wr.ownsRow w.heap.size 27 1 vo j (hdr d gs) ∧ (∀ q, q < j → RB wr (gs.getD q 0) d 5 (fun i => Gf.ex (i * q))) ∧ Below w.heap.size w wr) (fun _ vj _ => 3 - (intOf vj).toNat)
  case atStart => exact ⟨0, [], by omega, rfl, rfl, World.ownsRow_nil _ _ _ _, fun q hq => by omega, Below.refl _ _⟩
  case round =>
    obtain ⟨j, gs, hj, rfl, hl, hr, hg, hB⟩ := hrel
    by_cases hj3 : j < 3
    · have hjd : decide ((j : Int) < 3) = true := decide_eq_true (by omega)
      have HR := Lib.hid hr
      have HG := Lib.hid hg
      have HB := Lib.hid hB
      have HL := Lib.hid hl
      clear hr hg hB hl
      go_wp2_with fail
      go_loopw [21] (fun vi wq => ∃ i : Nat, i ≤ d ∧ vi = .int .i64 i ∧ RB wq wr.heap.size d 5 (fun k => if k < i then Gf.ex (k * j) else 0) ∧ Below wr.heap.size wr wq) (fun vi _ => d - (intOf vi).toNat)
      case atStart => exact ⟨0, by omega, rfl, RB.new.congr (fun k _ => by simp), (Below.refl _ _).alloc (Nat.le_refl _) _⟩
      case round =>
        obtain ⟨i, hi, rfl, hr, hB⟩ := hrel
        by_cases hin : i < d
        · have hij : i * j < 1000 := by have := Nat.mul_le_mul (show i ≤ 13 by omega) (show j ≤ 3 by omega); omega
          have hmul : ((i : Int) * (j : Int)) = ((i * j : Nat) : Int) := by simp
          have hex : expo ((i * j : Nat) : Int) = i * j := by unfold expo; have : i * j < 255 := by have := Nat.mul_le_mul (show i ≤ 12 by omega) (show j ≤ 2 by omega); omega
                                                              omega
          have hx := fun W => exp_any ((i * j : Nat) : Int) W
          simp only [hex] at hx
          have hlt63 : (i : Int) * (j : Int) < 1000 := by rw [hmul]; omega
          have hge : 0 ≤ (i : Int) * (j : Int) := by rw [hmul]; omega
          rw [← hmul] at hx
          have HX := Lib.hid hx
          obtain ⟨y, hy⟩ : ∃ y, y = Gf.ex (i * j) := ⟨_, rfl⟩
          rw [← hy] at HX
          have HY := Lib.hid hy
          have hf := hr.frozen i
          have hc := hr.cell i hin
          have HR3 := Lib.hid hr
          have HB3 := Lib.hid hB
          clear hmul hex hx hy hr hB
          go_wp2_with (go_at_call 23; (with_reducible refine (HX.out _).mono ?_); rintro e w' ⟨rfl, rfl⟩)
          go_roundw
          case rel => exact ⟨i + 1, by omega, by go_num, HR3.out.set (by rw [if_pos (by omega)]; exact HY.out.symm) (fun k _ e => by by_cases h : k < i <;> simp [h, show (k < i + 1) = (k < i) by simp; omega]), HB3.out.setCell (Nat.le_refl _) _⟩
          case measure => simp [intOf]; omega
        · obtain rfl : i = d := by omega
          have HR2 := Lib.hid (hr.congr (f' := fun k => Gf.ex (k * j)) (fun k hk => by rw [if_pos hk]))
          have HB2 := Lib.hid hB
          clear hr hB
          have hro := own_below HR.out HB2.out
          have HG2 := Lib.hid (fun q (hq : q < j) => (HG.out q hq).below HB2.out)
          have hbs : w.heap.size ≤ wr.heap.size := Nat.le_trans HB.out.size HB2.out.size
          have HO := Lib.hid hro
          have HBB := Lib.hid (HB.out.trans (HB2.out.mono HB.out.size))
          clear hro
          go_wp2_with (at_builtin; refine app_hdr rfl (.tmp 32) (.tmp 34) rfl w.heap.size _ j i _ _ gs (fun q k => Gf.ex (k * q)) rfl (HO.out.alloc _) HL.out rfl (heap_alloc_new _ _) (by omega) (by simp; omega) (fun q hq => (HG2.out q hq).alloc _) (HR2.out.alloc _) ?_; intro v2 w2 o2 r2 g2; have HO2 := Lib.hid o2; have HR4 := Lib.hid r2; have HG4 := Lib.hid g2; clear o2 r2 g2)
          go_roundw
          case rel => exact ⟨j + 1, gs ++ [_], by omega, by go_num, by have := HL.out; simp [this], HO2.out, HR4.out, (HBB.out.alloc hbs _).grown HG4.out (by simp; omega) (fun k hk => by exact (HO.out.lt k hk).1)⟩
          case measure => simp [intOf]; omega
    · obtain rfl : j = 3 := by omega
      go_wp2_with fail
      go_ret2
      exact ⟨u4, gs, rfl, hr, hl, hg, hB⟩
end Go.Proofs.Ytibhhonmcbbohaa
