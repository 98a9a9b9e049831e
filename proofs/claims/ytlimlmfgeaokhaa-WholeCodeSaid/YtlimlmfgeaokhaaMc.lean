/- The plain law of the parity: Horner's rule over the pieces from the last to the first gives the sum of the powers of the base times the pieces. The walk of parity.Matrix at 1 to 13 data pieces. The comparison of equal byte slices and of equal matrices by the references. The walk of tegulalaw03.awake: the document's examples hold. Structs and arrays that come in by value: their cells, out of what the row says of each argument's form. Blocks that came in or were appended to a row of the call's own: how they read. The walks of the laws ParityEncodes and ParityChecks. The walks of the reference's Group and Check and of the law ParityChecks. The walk of the law ParityShifted. The walks of slices.Clone at blocks and of parity.Update. The law of the parity after a change of one piece, and the walk of the law ParityUpdates. Slot writes that came in, and the walk of the law ParityRows. The laws of sums and multiples of the parity; an array of blocks by value; the walk of the law ParityLinear. The distance of the code, in plain arithmetic: a word that differs from a consistent group in at most three pieces is consistent only where it is the group. -/
import Derived.Test.YtlimlmfgeaokhaaMb
import Derived.Laws.OwnMore
import Derived.Laws.Entries
import Derived.Deep.AppendLies
import Derived.Lib.SmallJoins
import Derived.Lib.Bytes
import Derived.Deep.QuietTactic
import Derived.Test.YtlimlmfgeaokhaaRows
import Derived.WalkKit
import Derived.ProofKit
import Derived.OpenShut
import Derived.Deep.Slices
import Derived.Laws.AppendOwnNone
import Derived.Deep.RegionHeld3
namespace Go.Proofs.Ytlimlmfgeaokhaa
open Go.RowKit

theorem npow_2_2 (m : Nat) : Gf.npow 2 m = Gf.ex m := by
  have h := Gf.npow_ex 1 m
  rw [show Gf.ex 1 = 2 by decide +kernel, Nat.one_mul] at h
  exact h
theorem upto_bwd (n : Nat) : upto (bwd (n + 1)) (n + 1) = n :: upto (bwd n) n := by
  unfold upto bwd
  rw [List.range_succ_eq_map, List.map_cons, List.map_map]
  congr 1
  refine List.map_congr_left (fun j _ => ?_)
  simp only [Function.comp]
  omega
theorem horn_fold (F : Nat → Nat) (j : Nat) (hF : ∀ p, F p < 256) : ∀ (n : Nat) (h : Nat → Nat), (∀ k, h k < 256) → ∀ k,
    (upto (bwd n) n).foldl (fun (h : Nat → Nat) x k => F (x * 8 + k) ^^^ Gf.mul (Gf.ex j) (h k)) h k = sp F j n k ^^^ Gf.mul (Gf.ex (j * n)) (h k)
  | 0, h, hh, k => by
    show h k = 0 ^^^ Gf.mul (Gf.ex 0) (h k)
    rw [show Gf.ex 0 = 1 from rfl, Gf.one_mul _ (hh k), Nat.zero_xor]
  | n + 1, h, hh, k => by
    rw [upto_bwd, List.foldl_cons, horn_fold F j hF n _ (fun k => Nat.xor_lt_two_pow (n := 8) (hF _) (Gf.mul_lt _ _ (Gf.ex_lt j))) k]
    show sp F j n k ^^^ _ = (sp F j n k ^^^ Gf.mul (Gf.npow 2 (j * n)) (F (n * 8 + k))) ^^^ _
    rw [Gf.mul_xor_right _ _ _ (Gf.ex_lt _) (hF _) (Gf.mul_lt _ _ (Gf.ex_lt j)), ← Gf.mul_assoc _ _ _ (Gf.ex_lt _) (Gf.ex_lt _) (hh k), Gf.ex_mul, npow_2_2, ← Nat.xor_assoc]
    rfl
theorem horn_sp (F : Nat → Nat) (j n k : Nat) (hF : ∀ p, F p < 256) : horn F (Gf.ex j) (upto (bwd n) n) k = sp F j n k := by
  unfold horn
  rw [horn_fold F j hF n _ (fun _ => by omega) k, Gf.mul_zero, Nat.xor_zero]
/-- the three parity blocks, flat: block j is the sum of npow 2 (j*i) times the pieces -/
def par (F : Nat → Nat) (n : Nat) (p : Nat) : Nat := sp F (p / 8) n (p % 8)
theorem par_lt {F : Nat → Nat} (n p : Nat) : par F n p < 256 := sp_lt _ _ _
theorem parS_par (F : Nat → Nat) (n p : Nat) (h : p < 24) : parS F n 3 0 0 p = par F n p := by
  unfold parS par
  rw [if_pos (by omega)]
theorem enc3_par (F : Nat → Nat) (n p : Nat) (hF : ∀ p, F p < 256) (h : p < 24) : enc3 F n p = par F n p := by
  unfold enc3 outc par
  by_cases h2 : p / 8 = 2
  · rw [if_pos h2, h2, horn_sp _ _ _ _ hF]
  · rw [if_neg h2]
    by_cases h1 : p / 8 = 1
    · rw [if_pos h1, h1, horn_sp _ _ _ _ hF]
    · rw [if_neg h1, if_pos (by omega), horn_sp _ _ _ _ hF, show p / 8 = 0 by omega]
/-- Encode, with the result of the definition -/
theorem encode_par (F : Nat → Nat) (b off n c : Nat) (w : World) (h1 : 1 ≤ n) (h2 : n ≤ 13) (hF : ∀ j, F j < 256) (hI : ∀ j : Nat, j < n * 8 → w.cell? ⟨b, off + j, none⟩ = some (.int .u8 (F j : Nat))) :
    Calls Try.prog 6 #[.slice (some ⟨b, off, none⟩) n c] w fun e w' => e = .returned (.tuple #[.slice (some ⟨w.heap.size, 0, none⟩) 3 3, .int .i64 0]) ∧ RB w' w.heap.size 24 25 (par F n) ∧ Below w.heap.size w w' :=
  (encode_any F b off n c w h1 h2 hF hI).mono fun _ _ h => ⟨h.1, h.2.1.congr fun p hp => enc3_par F n p hF hp, h.2.2⟩
theorem check_par (F : Nat → Nat) (b off n c : Nat) (w : World) (h1 : 4 ≤ n) (h2 : n ≤ 16) (hc : n ≤ c) (hF : ∀ j, F j < 256) (hI : ∀ j : Nat, j < n * 8 → w.cell? ⟨b, off + j, none⟩ = some (.int .u8 (F j : Nat))) :
    Calls Try.prog 10 #[.slice (some ⟨b, off, none⟩) n c] w fun e w' => e = .returned (.bool (eqB 24 (par F (n - 3)) (fun k => F ((n - 3) * 8 + k)))) ∧ Below w.heap.size w w' :=
  (check_any F b off n c w h1 h2 hc hF hI).mono fun _ _ h => ⟨by
    rw [h.1]
    congr 2
    rw [Bool.eq_iff_iff, eqB_iff, eqB_iff]
    exact forall_congr' fun p => forall_congr' fun hp => by rw [enc3_par F _ p hF hp], h.2⟩
end Go.Proofs.Ytlimlmfgeaokhaa
namespace Go.Proofs.Ytlimlmfgeaokhaa
open Go.RowKit

theorem Try.infoByte : (Try.prog.info? 5).map (fun i => (i.zero, i.size, i.bytes)) = some (some (.int .u8 0), 1, 1) := by kernel_rfl
theorem run_make_bytes (kl kc : IntKind) (n : Nat) (hn : n ≤ 1000000) (w : World) :
    (Instr.makeSlice 36 (.int kl (n : Int)) (.int kc (n : Int))).run Try.prog w = .ok (.slice (some ⟨w.heap.size, 0, none⟩) n n) (w.alloc (.cells (brow n fun _ => 0) 5)) := by
  obtain ⟨i0, hi, hz0, hz1, hz2⟩ := info_parts Try.infoByte
  have h := run_make_rowN (P := Try.prog) 36 5 i0 (.int .u8 0) Try.underlying36 hi hz0 kl kc n n (Nat.le_refl _) (by rw [hz2]; omega) (by omega) w
  have e : madeCells (Value.int .u8 0).cells (n * i0.size) = brow n fun _ => 0 := by
    rw [hz1, Nat.mul_one]
    apply Array.toList_inj.1
    have := toList_madeCells_one (.int .u8 0) n
    rw [show (Value.int .u8 0).cells = #[.int .u8 0] from rfl, this]
    simp [brow, List.map_const']
  rw [e] at h
  exact h
theorem own_below {w w' : World} {base size n : Nat} {e : TypeId} {v : Value} {xs : List Value} (h : w.ownsRow base e size v n xs) (hB : Below w.heap.size w w') : w'.ownsRow base e size v n xs := by
  refine ⟨h.1, ?_⟩
  rcases h.2 with h0 | ⟨g, cap, cur, rfl, hg, h1⟩
  · exact .inl h0
  · rcases h1 with ⟨hg1, rest⟩
    exact .inr ⟨g, cap, cur, rfl, hg, (hB.block g (Array.getElem?_eq_some_iff.1 hg1).1).trans hg1, rest⟩
/-- the header cells of rows in blocks of their own -/
def hdr (d : Nat) (gs : List Nat) : List Value := gs.map fun g => Value.slice (some ⟨g, 0, none⟩) d d
theorem hdr_snoc (d : Nat) (gs : List Nat) (g : Nat) : hdr d gs ++ [Value.slice (some ⟨g, 0, none⟩) d d] = hdr d (gs ++ [g]) := by simp [hdr]
theorem Try.infoBytes : (Try.prog.info? 36).map (fun i => (i.zero, i.size, i.bytes)) = some (some (.slice none 0 0), 1, 24) := by kernel_rfl
theorem own_type {w : World} {base size n g c : Nat} {e t : TypeId} {v : Value} {xs : List Value} {f : Nat → Nat} (h : w.ownsRow base e size v n xs) (hg : RB w g c t f) (ht : t ≠ e) : some g ≠ v.ownBlock := by
  rcases h.2 with ⟨rfl, _⟩ | ⟨g', cap, cur, rfl, _, h1, _⟩
  · simp [Value.ownBlock]
  · intro e'
    simp only [Value.ownBlock, Option.some.injEq] at e'
    subst e'
    rw [RB, h1] at hg
    injection hg with hg
    injection hg with _ h2
    exact ht h2.symm
theorem rb_grown {w w' : World} {g c : Nat} {t : TypeId} {row : Option Nat} {f : Nat → Nat} (hg : RB w g c t f) (h : w.grownBy w' row) (hne : some g ≠ row) : RB w' g c t f := (h.block g hg.lt hne).trans hg
/-- a row more -/
theorem app_hdr {w : World} {ops : Array Oper} {rest : List Oper} {o : Oper} {a : Act} {Q : Exit → Act → World → Prop} (hgd : o.guard = none) (s x : Operand)
    (ho : o.op = .call { callee := .builtin .append, args := #[s, x], argTypes := #[68, 68] })
    (base : Nat) (v : Value) (n d g h : Nat) (gs : List Nat) (f : Nat → Nat → Nat) (hs : a.eval s = v) (hown : w.ownsRow base 36 1 v n (hdr d gs)) (hl : gs.length = n)
    (hx : a.eval x = .slice (some ⟨h, 0, none⟩) 1 1) (hh : w.heap[h]? = some (.cells #[.slice (some ⟨g, 0, none⟩) d d] 36 (0, 0))) (hb : n ≤ 1000) (hbase : base ≤ w.heap.size)
    (hr : ∀ q, q < n → RB w (gs.getD q 0) d 5 (f q)) (hg : RB w g d 5 (f n))
    (k : ∀ v' w', w'.ownsRow base 36 1 v' (n + 1) (hdr d (gs ++ [g])) → (∀ q, q < n + 1 → RB w' ((gs ++ [g]).getD q 0) d 5 (f q)) → w.grownBy w' v.ownBlock → wpList Try.prog ops Q rest (a.put o.dst v') w') : wpList Try.prog ops Q (o :: rest) a w := by
  obtain ⟨i0, hi0, hz0, hz1, hz2⟩ := info_parts Try.infoBytes
  refine wpList_append_own w hgd s x 68 ho base 36 i0 (.slice none 0 0) 1 24 Try.underlying68 hi0 hz0 hz1 hz2 rfl (by decide) v n (hdr d gs) hs hown ⟨h, 0, none⟩ 1 1 [.slice (some ⟨g, 0, none⟩) d d] hx (by simp)
    (World.news_of_block (cs := #[.slice (some ⟨g, 0, none⟩) d d]) hh) (by simp [Value.oneCell']) (by unfold maxLen; omega) (by omega) hbase (fun v' w' h1 h2 _ => k v' w' (by rw [← hdr_snoc]; exact h1) (fun q hq => ?_) h2)
  by_cases e : q < n
  · have : (gs ++ [g]).getD q 0 = gs.getD q 0 := by simp [List.getD_eq_getElem?_getD, List.getElem?_append_left (show q < gs.length by omega)]
    rw [this]
    exact rb_grown (hr q e) h2 (own_type hown (hr q e) (by decide))
  · obtain rfl : q = n := by omega
    have : (gs ++ [g]).getD q 0 = g := by simp [List.getD_eq_getElem?_getD, ← hl]
    rw [this]
    exact rb_grown hg h2 (own_type hown hg (by decide))
set_option maxRecDepth 100000 in
set_option maxHeartbeats 1000000 in
theorem matrix_any (d : Nat) (w : World) (h1 : 1 ≤ d) (h2 : d ≤ 13) :
    Calls Try.prog 48 #[.int .i64 d] w fun e w' => ∃ v gs, e = .returned (.tuple #[v, .int .i64 0]) ∧ w'.ownsRow w.heap.size 36 1 v 3 (hdr d gs) ∧ gs.length = 3 ∧
      (∀ j, j < 3 → RB w' (gs.getD j 0) d 5 (fun i => Gf.ex (i * j))) ∧ Below w.heap.size w w' := by
  have hmk := fun kl kc W => run_make_bytes kl kc d (by omega) W
  go_enter Try.func48, Try.ntmps48
  go_wp2_with fail
  go_loopw [4, 14] (fun vo vj wr => ∃ (j : Nat) (gs : List Nat), j ≤ 3 ∧ vj = .int .i64 j ∧ gs.length = j ∧ wr.ownsRow w.heap.size 36 1 vo j (hdr d gs) ∧ (∀ q, q < j → RB wr (gs.getD q 0) d 5 (fun i => Gf.ex (i * q))) ∧ Below w.heap.size w wr) (fun _ vj _ => 3 - (intOf vj).toNat)
  case atStart => exact ⟨0, [], by omega, rfl, rfl, World.ownsRow_nil _ _ _ _, fun q hq => by omega, Below.refl _ _⟩
  case round =>
    obtain ⟨j, gs, hj, rfl, hl, hr, hg, hB⟩ := hrel
    by_cases hj3 : j < 3
    · have hjd : decide ((j : Int) < 3) = true := decide_eq_true (by omega)
      have HR := Lib.hid hr
      have HG := Lib.hid hg
      have HB := Lib.hid hB
      have HL := Lib.hid hl
      clear hr hg hB hl
      go_wp2_with fail
      go_loopw [21] (fun vi wq => ∃ i : Nat, i ≤ d ∧ vi = .int .i64 i ∧ RB wq wr.heap.size d 5 (fun k => if k < i then Gf.ex (k * j) else 0) ∧ Below wr.heap.size wr wq) (fun vi _ => d - (intOf vi).toNat)
      case atStart => exact ⟨0, by omega, rfl, RB.new.congr (fun k _ => by simp), (Below.refl _ _).alloc (Nat.le_refl _) _⟩
      case round =>
        obtain ⟨i, hi, rfl, hr, hB⟩ := hrel
        by_cases hin : i < d
        · have hij : i * j < 1000 := by have := Nat.mul_le_mul (show i ≤ 13 by omega) (show j ≤ 3 by omega); omega
          have hmul : ((i : Int) * (j : Int)) = ((i * j : Nat) : Int) := by simp
          have hex : expo ((i * j : Nat) : Int) = i * j := by unfold expo; have : i * j < 255 := by have := Nat.mul_le_mul (show i ≤ 12 by omega) (show j ≤ 2 by omega); omega
                                                              omega
          have hx := fun W => exp_any ((i * j : Nat) : Int) W
          simp only [hex] at hx
          have hlt63 : (i : Int) * (j : Int) < 1000 := by rw [hmul]; omega
          have hge : 0 ≤ (i : Int) * (j : Int) := by rw [hmul]; omega
          rw [← hmul] at hx
          have HX := Lib.hid hx
          obtain ⟨y, hy⟩ : ∃ y, y = Gf.ex (i * j) := ⟨_, rfl⟩
          rw [← hy] at HX
          have HY := Lib.hid hy
          have hf := hr.frozen i
          have hc := hr.cell i hin
          have HR3 := Lib.hid hr
          have HB3 := Lib.hid hB
          clear hmul hex hx hy hr hB
          go_wp2_with (go_at_call 25; (with_reducible refine (HX.out _).mono ?_); rintro e w' ⟨rfl, rfl⟩)
          go_roundw
          case rel => exact ⟨i + 1, by omega, by go_num, HR3.out.set (by rw [if_pos (by omega)]; exact HY.out.symm) (fun k _ e => by by_cases h : k < i <;> simp [h, show (k < i + 1) = (k < i) by simp; omega]), HB3.out.setCell (Nat.le_refl _) _⟩
          case measure => simp [intOf]; omega
        · obtain rfl : i = d := by omega
          have HR2 := Lib.hid (hr.congr (f' := fun k => Gf.ex (k * j)) (fun k hk => by rw [if_pos hk]))
          have HB2 := Lib.hid hB
          clear hr hB
          have hro := own_below HR.out HB2.out
          have HG2 := Lib.hid (fun q (hq : q < j) => (HG.out q hq).below HB2.out)
          have hbs : w.heap.size ≤ wr.heap.size := Nat.le_trans HB.out.size HB2.out.size
          have HO := Lib.hid hro
          have HBB := Lib.hid (HB.out.trans (HB2.out.mono HB.out.size))
          clear hro
          go_wp2_with (at_builtin; refine app_hdr rfl (.tmp 32) (.tmp 34) rfl w.heap.size _ j i _ _ gs (fun q k => Gf.ex (k * q)) rfl (HO.out.alloc _) HL.out rfl (heap_alloc_new _ _) (by omega) (by simp; omega) (fun q hq => (HG2.out q hq).alloc _) (HR2.out.alloc _) ?_; intro v2 w2 o2 r2 g2; have HO2 := Lib.hid o2; have HR4 := Lib.hid r2; have HG4 := Lib.hid g2; clear o2 r2 g2)
          go_roundw
          case rel => exact ⟨j + 1, gs ++ [_], by omega, by go_num, by have := HL.out; simp [this], HO2.out, HR4.out, (HBB.out.alloc hbs _).grown HG4.out (by simp; omega) (fun k hk => by exact (HO.out.lt k hk).1)⟩
          case measure => simp [intOf]; omega
    · obtain rfl : j = 3 := by omega
      go_wp2_with fail
      go_ret2
      exact ⟨u4, gs, rfl, hr, hl, hg, hB⟩
end Go.Proofs.Ytlimlmfgeaokhaa
namespace Go.Proofs.Ytlimlmfgeaokhaa
open Go.RowKit

def nums (f : Nat → Nat) (n : Nat) : List Int := (List.range n).map fun j => (f j : Int)
theorem nums_getD (f : Nat → Nat) (n j : Nat) (h : j < n) : (nums f n).getD j 0 = ((f j : Nat) : Int) := by
  simp [nums, List.getD_eq_getElem?_getD, h]
theorem conv_by (f : Nat → Nat) (b off n c : Nat) (w : World) (hd : ∀ j : Nat, j < n → w.cell? ⟨b, off + j, none⟩ = some (.int .u8 (f j : Nat))) :
    (convert 36 9 (.slice (some ⟨b, off, none⟩) n c)).run Try.prog w = .ok (.string (strOfNums (nums f n))) w := by
  have h := run_convert_bytes_arg (P := Try.prog) w 36 5 Try.underlying36 Try.underlying5 b off n c (nums f n) (by simp [nums]) (fun i hi => by rw [nums_getD f n i hi]; exact hd i hi) 9 Try.underlying9
  exact h
/-- a matrix of n rows of d bytes -/
def Mat (w : World) (A : Option Addr) (n d : Nat) (f : Nat → Nat → Nat) : Prop := ∃ b off : Nat, A = some ⟨b, off, none⟩ ∧ ∀ q, q < n → ∃ rb ro rc : Nat, w.cell? ⟨b, off + q, none⟩ = some (.slice (some ⟨rb, ro, none⟩) d rc) ∧
  ∀ i : Nat, i < d → w.cell? ⟨rb, ro + i, none⟩ = some (.int .u8 (f q i : Nat))
theorem Mat.below {w w' : World} {A : Option Addr} {n d : Nat} {f : Nat → Nat → Nat} (h : Mat w A n d f) (hB : Below w.heap.size w w') : Mat w' A n d f := by
  obtain ⟨b, off, rfl, hc⟩ := h
  refine ⟨b, off, rfl, fun q hq => ?_⟩
  obtain ⟨rb, ro, rc, h1, h2⟩ := hc q hq
  exact ⟨rb, ro, rc, (hB.cell (World.block_lt_of_cell? w _ h1)).trans h1, fun i hi => (hB.cell (World.block_lt_of_cell? w _ (h2 i hi))).trans (h2 i hi)⟩
/-- the rows appended to a row of the call's own -/
theorem Mat.of_own {w : World} {base n d : Nat} {v : Value} {gs : List Nat} {f : Nat → Nat → Nat} (h : w.ownsRow base 36 1 v n (hdr d gs)) (hl : gs.length = n) (hn : 0 < n) (hr : ∀ q, q < n → RB w (gs.getD q 0) d 5 (f q)) :
    ∃ A c, v = .slice A n c ∧ Mat w A n d f := by
  obtain ⟨g, cap, rfl, _, _⟩ := h.form hn
  refine ⟨_, cap, rfl, g, 0, rfl, fun q hq => ⟨gs.getD q 0, 0, d, ?_, fun i hi => by rw [Nat.zero_add]; exact (hr q hq).cell i hi⟩⟩
  rw [Nat.zero_add, h.cellAt q (by omega)]
  simp [hdr, show q < gs.length by omega]
end Go.Proofs.Ytlimlmfgeaokhaa
namespace Go.Proofs.Ytlimlmfgeaokhaa
open Go.RowKit

/-- blocks of which the first bytes are given, the others 0 -/
def fst (l : List Nat) (p : Nat) : Nat := if p % 8 = 0 then l.getD (p / 8) 0 else 0
theorem fst_lt {l : List Nat} (h : ∀ x ∈ l, x < 256) (p : Nat) : fst l p < 256 := by
  unfold fst
  split
  · by_cases e : p / 8 < l.length
    · rw [List.getD_eq_getElem?_getD, List.getElem?_eq_getElem e]; exact h _ (List.getElem_mem e)
    · rw [List.getD_eq_getElem?_getD, List.getElem?_eq_none (by omega)]; simp
  · omega
theorem RB.lit {w : World} {cs : Array Value} {n : Nat} {t : TypeId} {f : Nat → Nat} (h : cs = brow n f) : RB (w.alloc (.cells cs t)) w.heap.size n t f := by rw [h]; exact RB.new
theorem RB.at0 {w : World} {g n m : Nat} {t : TypeId} {f : Nat → Nat} (h : RB w g n t f) (hm : m ≤ n) : ∀ j : Nat, j < m → w.cell? ⟨g, 0 + j, none⟩ = some (.int .u8 (f j : Nat)) := fun j hj => by rw [Nat.zero_add]; exact h.cell j (by omega)
theorem RB.bks {w : World} {g n m : Nat} {t : TypeId} {f : Nat → Nat} (h : RB w g n t f) (hm : m * 8 ≤ n) : Bks w (some ⟨g, 0, none⟩) m f := fun _ => ⟨g, 0, rfl, h.at0 hm⟩
theorem lit2 : brow 16 (fst [3, 5]) = #[.int .u8 3, .int .u8 0, .int .u8 0, .int .u8 0, .int .u8 0, .int .u8 0, .int .u8 0, .int .u8 0, .int .u8 5, .int .u8 0, .int .u8 0, .int .u8 0, .int .u8 0, .int .u8 0, .int .u8 0, .int .u8 0] := by kernel_rfl
theorem lit3 : brow 24 (fst [6, 9, 23]) = #[.int .u8 6, .int .u8 0, .int .u8 0, .int .u8 0, .int .u8 0, .int .u8 0, .int .u8 0, .int .u8 0, .int .u8 9, .int .u8 0, .int .u8 0, .int .u8 0, .int .u8 0, .int .u8 0, .int .u8 0, .int .u8 0, .int .u8 23, .int .u8 0, .int .u8 0, .int .u8 0, .int .u8 0, .int .u8 0, .int .u8 0, .int .u8 0] := by kernel_rfl
theorem lit5 : brow 40 (fst [3, 5, 6, 9, 23]) = #[.int .u8 3, .int .u8 0, .int .u8 0, .int .u8 0, .int .u8 0, .int .u8 0, .int .u8 0, .int .u8 0, .int .u8 5, .int .u8 0, .int .u8 0, .int .u8 0, .int .u8 0, .int .u8 0, .int .u8 0, .int .u8 0, .int .u8 6, .int .u8 0, .int .u8 0, .int .u8 0, .int .u8 0, .int .u8 0, .int .u8 0, .int .u8 0, .int .u8 9, .int .u8 0, .int .u8 0, .int .u8 0, .int .u8 0, .int .u8 0, .int .u8 0, .int .u8 0, .int .u8 23, .int .u8 0, .int .u8 0, .int .u8 0, .int .u8 0, .int .u8 0, .int .u8 0, .int .u8 0] := by kernel_rfl
theorem lit5n : brow 40 (fst [3, 5, 6, 9, 24]) = #[.int .u8 3, .int .u8 0, .int .u8 0, .int .u8 0, .int .u8 0, .int .u8 0, .int .u8 0, .int .u8 0, .int .u8 5, .int .u8 0, .int .u8 0, .int .u8 0, .int .u8 0, .int .u8 0, .int .u8 0, .int .u8 0, .int .u8 6, .int .u8 0, .int .u8 0, .int .u8 0, .int .u8 0, .int .u8 0, .int .u8 0, .int .u8 0, .int .u8 9, .int .u8 0, .int .u8 0, .int .u8 0, .int .u8 0, .int .u8 0, .int .u8 0, .int .u8 0, .int .u8 24, .int .u8 0, .int .u8 0, .int .u8 0, .int .u8 0, .int .u8 0, .int .u8 0, .int .u8 0] := by kernel_rfl
theorem nblk1 (w : World) (o : Obj) : (w.alloc o).heap.size = w.heap.size + 1 := by simp
end Go.Proofs.Ytlimlmfgeaokhaa
namespace Go.Proofs.Ytlimlmfgeaokhaa
open Go.ChangeShapes Go.WideShapes Go.RowKit

theorem agg_struct {P : Program} {w : World} {base : Nat} {t : TypeId} {v : Value} {fs : Array Field} (hu : P.underlying t = some (.struct fs)) {ts : List TypeId} (ht : P.cellTypes P.depth t = some ts) (hsz : P.cellsOf t = ts.length)
    (h : Value.okWide P w .any base t v) : ∃ cs : Array Value, v = .agg cs ∧ cs.size = ts.length ∧ ∀ i x, cs[i]? = some x → ∃ u, ts[i % ts.length]? = some u ∧ Cell.okWide P w .any base u x := by
  simp only [Value.okWide, hu] at h
  obtain ⟨cs, rfl, h1, ts', h2, _, h3⟩ := h
  rw [ht] at h2
  cases h2
  exact ⟨cs, rfl, by rw [h1, hsz], h3⟩
theorem agg_array {P : Program} {w : World} {base n : Nat} {t e : TypeId} {v : Value} (hu : P.underlying t = some (.array n e)) {ts : List TypeId} (ht : P.cellTypes P.depth t = some ts) (hsz : P.cellsOf t = ts.length)
    (h : Value.okWide P w .any base t v) : ∃ cs : Array Value, v = .agg cs ∧ cs.size = ts.length ∧ ∀ i x, cs[i]? = some x → ∃ u, ts[i % ts.length]? = some u ∧ Cell.okWide P w .any base u x := by
  simp only [Value.okWide, hu] at h
  obtain ⟨cs, rfl, h1, ts', h2, _, h3⟩ := h
  rw [ht] at h2
  cases h2
  exact ⟨cs, rfl, by rw [h1, hsz], h3⟩
theorem cell_int {P : Program} {w : World} {base : Nat} {u : TypeId} {x : Value} {k : IntKind} (hu : P.underlying u = some (.int k)) (h : Cell.okWide P w .any base u x) : ∃ n : Int, x = .int k n ∧ k.min ≤ n ∧ n ≤ k.max := by
  simp only [Cell.okWide, hu] at h
  cases x <;> simp_all [Cell.ok, IntKind.has]
theorem cell_bool {P : Program} {w : World} {base : Nat} {u : TypeId} {x : Value} (hu : P.underlying u = some .bool) (h : Cell.okWide P w .any base u x) : ∃ b : Bool, x = .bool b := by
  simp only [Cell.okWide, hu] at h
  cases x <;> simp_all [Cell.ok]
theorem cell_u8 {P : Program} {w : World} {base : Nat} {u : TypeId} {x : Value} (hu : P.underlying u = some (.int .u8)) (h : Cell.okWide P w .any base u x) : ∃ n : Nat, x = .int .u8 n ∧ n < 256 := by
  obtain ⟨n, rfl, h1, h2⟩ := cell_int hu h
  have e1 : IntKind.u8.min = 0 := rfl
  have e2 : IntKind.u8.max = 255 := rfl
  exact ⟨n.toNat, by congr 1; omega, by omega⟩
theorem cell_u32 {P : Program} {w : World} {base : Nat} {u : TypeId} {x : Value} (hu : P.underlying u = some (.int .u32)) (h : Cell.okWide P w .any base u x) : ∃ n : Nat, x = .int .u32 n ∧ n < 4294967296 := by
  obtain ⟨n, rfl, h1, h2⟩ := cell_int hu h
  have e1 : IntKind.u32.min = 0 := rfl
  have e2 : IntKind.u32.max = 4294967295 := rfl
  exact ⟨n.toNat, by congr 1; omega, by omega⟩
theorem cell_i32 {P : Program} {w : World} {base : Nat} {u : TypeId} {x : Value} (hu : P.underlying u = some (.int .i32)) (h : Cell.okWide P w .any base u x) : ∃ n : Int, x = .int .i32 n ∧ -2147483648 ≤ n ∧ n ≤ 2147483647 := by
  obtain ⟨n, rfl, h1, h2⟩ := cell_int hu h
  have e1 : IntKind.i32.min = -2147483648 := rfl
  have e2 : IntKind.i32.max = 2147483647 := rfl
  exact ⟨n, rfl, by omega, by omega⟩
theorem cell_i64 {P : Program} {w : World} {base : Nat} {u : TypeId} {x : Value} (hu : P.underlying u = some (.int .i64)) (h : Cell.okWide P w .any base u x) : ∃ n : Int, x = .int .i64 n ∧ -9223372036854775808 ≤ n ∧ n ≤ 9223372036854775807 := by
  obtain ⟨n, rfl, h1, h2⟩ := cell_int hu h
  have e1 : IntKind.i64.min = -9223372036854775808 := rfl
  have e2 : IntKind.i64.max = 9223372036854775807 := rfl
  exact ⟨n, rfl, by omega, by omega⟩
theorem arr1 {α : Type} {cs : Array α} (h : cs.size = 1) : ∃ c0, cs = #[c0] := by
  obtain ⟨l⟩ := cs
  match l, h with
  | [a], _ => exact ⟨a, rfl⟩
theorem arr2 {α : Type} {cs : Array α} (h : cs.size = 2) : ∃ c0 c1, cs = #[c0, c1] := by
  obtain ⟨l⟩ := cs
  match l, h with
  | [a, b], _ => exact ⟨a, b, rfl⟩
theorem arr3 {α : Type} {cs : Array α} (h : cs.size = 3) : ∃ c0 c1 c2, cs = #[c0, c1, c2] := by
  obtain ⟨l⟩ := cs
  match l, h with
  | [a, b, c], _ => exact ⟨a, b, c, rfl⟩
end Go.Proofs.Ytlimlmfgeaokhaa
namespace Go.Proofs.Ytlimlmfgeaokhaa
open Go.RowKit

/-! ### what comes in -/
theorem block_cells {H : Type} {enc : TypeId × Value → H} {W : World} {n b off : Nat} {cs' : List Value} {y : DataW H × List MemPlace}
    (hc : W.cells? 0 ⟨b, off, none⟩ 8 = some cs') (ht : DataW.trod enc Try.prog W 0 (fun _ => true) true n 25 cs' = some y) (j : Nat) (hj : j < 8) :
    ∃ z : Nat, W.cell? ⟨b, off + j, none⟩ = some (.int .u8 (z : Nat)) ∧ z < 256 := by
  obtain ⟨ys, n', _, _, hlen, hyl, hf⟩ := DataW.trod_array Try.underlying25 ht
  obtain ⟨_, hcl, hat⟩ := World.cells?_some hc
  have kc : Try.prog.cellsOf 5 = 1 := by kernel_rfl
  rw [kc] at hf
  have h1 := hf j hj
  have h2 := hat j hj
  rw [Go.WideShapes.add_plain] at h2
  rw [List.getElem?_eq_getElem (show j < ys.length by omega)] at h1
  rw [List.getElem?_eq_getElem (show j < cs'.length by omega)] at h2
  have e : (cs'.drop (j * 1)).take 1 = [cs'[j]'(by omega)] := by
    rw [Nat.mul_one]
    rw [List.drop_eq_getElem_cons (show j < cs'.length by omega), List.take_succ_cons, List.take_zero]
  rw [e] at h1
  obtain ⟨z, hz, _, hwf⟩ := DataW.trod_int Try.underlying5 h1
  have hb := bounds_u8 hwf
  simp only [List.cons.injEq, and_true] at hz
  rw [hz] at h2
  exact ⟨z.toNat, by rw [h2, Int.toNat_of_nonneg (by omega)], by omega⟩
/-- the blocks that came in -/
theorem bks_of_row {H : Type} {enc : TypeId × Value → H} {W : World} {A : Option Addr} {len cap fuel : Nat} {x : DataW H × List MemPlace}
    (h : DataW.trod enc Try.prog W 0 (fun _ => true) true fuel 22 [.slice A len cap] = some x) : ∃ F : Nat → Nat, (∀ j, F j < 256) ∧ (A = none → cap = 0) ∧ len ≤ cap ∧ Bks W A len F := by
  rcases Go.Deep.open_slice Try.underlying22 h with ⟨hcs, _⟩ | ⟨a, ln, cp, m, n, D, Pl, hcs, hb, hl, hm, hmm, hx, hi⟩
  · simp at hcs
    obtain ⟨rfl, rfl, rfl⟩ := hcs
    exact ⟨fun _ => 0, fun _ => Nat.zero_lt_succ _, fun _ => rfl, by omega, fun h => by omega⟩
  · simp at hcs
    obtain ⟨rfl, rfl, rfl⟩ := hcs
    simp only [if_true] at hmm
    subst hmm
    have kc : Try.prog.cellsOf 25 = 8 := by kernel_rfl
    rw [kc] at hi
    obtain ⟨b, off, spot⟩ := a
    by_cases h0 : 0 < len
    · have hspot : spot = none := by
        obtain ⟨cs', hc, ht⟩ := hi 0 (by omega)
        obtain ⟨_, hcl, hat⟩ := World.cells?_some hc
        have h2 := hat 0 (by omega)
        rw [List.getElem?_eq_getElem (by omega)] at h2
        simpa [Addr.add] using World.cell?_spot h2
      subst hspot
      have each : ∀ p : Nat, ∃ z : Nat, z < 256 ∧ (p < len * 8 → W.cell? ⟨b, off + p, none⟩ = some (.int .u8 (z : Nat))) := by
        intro p
        by_cases hlt : p < len * 8
        · obtain ⟨cs', hc, ht⟩ := hi (p / 8) (by omega)
          rw [Go.WideShapes.add_plain] at hc
          obtain ⟨z, h1, h2⟩ := block_cells hc ht (p % 8) (by omega)
          rw [show off + p / 8 * 8 + p % 8 = off + p by omega] at h1
          exact ⟨z, h2, fun _ => h1⟩
        · exact ⟨0, by omega, fun h => absurd h hlt⟩
      exact ⟨fun p => Classical.choose (each p), fun p => (Classical.choose_spec (each p)).1, (fun h => by cases h), hl, fun _ => ⟨b, off, rfl, fun p hp => (Classical.choose_spec (each p)).2 hp⟩⟩
    · exact ⟨fun _ => 0, fun _ => Nat.zero_lt_succ _, (fun h => by cases h), hl, fun h => by omega⟩
set_option maxRecDepth 100000 in
/-- an array of bytes by value -/
theorem agg_bytes {w : World} {base n m : Nat} {t e : TypeId} {v : Value} (hu : Try.prog.underlying t = some (.array n e)) (ht : Try.prog.cellTypes Try.prog.depth t = some (List.replicate m 5)) (hsz : Try.prog.cellsOf t = m) (hm : 0 < m)
    (h : Value.okWide Try.prog w .any base t v) : ∃ f : Nat → Nat, v = .agg (brow m f) ∧ ∀ j, f j < 256 := by
  obtain ⟨cs, rfl, h1, h2⟩ := agg_array hu ht (by simpa using hsz) h
  have each : ∀ j : Nat, ∃ z : Nat, z < 256 ∧ (j < m → cs[j]? = some (.int .u8 (z : Nat))) := by
    intro j
    by_cases hj : j < m
    · have hj' : j < cs.size := by rw [h1]; simpa using hj
      obtain ⟨u, hu, ho⟩ := h2 j cs[j] (by simp [hj'])
      have : u = 5 := by
        simp only [List.length_replicate] at hu
        rw [List.getElem?_replicate, if_pos (Nat.mod_lt _ hm)] at hu
        exact (Option.some.inj hu).symm
      subst this
      obtain ⟨z, hz, hb⟩ := cell_u8 Try.underlying5 ho
      exact ⟨z, hb, fun _ => by rw [Array.getElem?_eq_getElem hj', hz]⟩
    · exact ⟨0, by omega, fun h => absurd h hj⟩
  refine ⟨fun p => Classical.choose (each p), ?_, fun p => (Classical.choose_spec (each p)).1⟩
  congr 1
  apply Array.ext_getElem?
  intro j
  by_cases hj : j < m
  · rw [brow_get m _ j hj]
    exact (Classical.choose_spec (each j)).2 hj
  · rw [Array.getElem?_eq_none (by rw [h1]; simpa using hj), Array.getElem?_eq_none (by simp [brow]; omega)]

/-! ### appends -/
def bkl (F : Nat → Nat) (n : Nat) : List Value := (List.range (n * 8)).map fun j => Value.int .u8 (F j : Nat)
theorem bkl_length (F : Nat → Nat) (n : Nat) : (bkl F n).length = n * 8 := by simp [bkl]
/-- n blocks, and then others -/
def cat (n : Nat) (F G : Nat → Nat) (p : Nat) : Nat := if p < n * 8 then F p else G (p - n * 8)
theorem cat_zero (F G : Nat → Nat) : cat 0 F G = G := by
  funext p
  simp [cat]
theorem cat_lt {n : Nat} {F G : Nat → Nat} (hF : ∀ j, F j < 256) (hG : ∀ j, G j < 256) (p : Nat) : cat n F G p < 256 := by
  unfold cat
  split
  · exact hF _
  · exact hG _
theorem bkl_congr {n : Nat} {F G : Nat → Nat} (h : ∀ j, j < n * 8 → F j = G j) : bkl F n = bkl G n :=
  List.map_congr_left (fun j hj => by rw [h j (by simpa using hj)])
theorem bkl_append (n m : Nat) (F G : Nat → Nat) : bkl F n ++ bkl G m = bkl (cat n F G) (n + m) := by
  unfold bkl
  rw [Nat.add_mul, List.range_add, List.map_append, List.map_map]
  congr 1
  · exact List.map_congr_left (fun j hj => by rw [cat, if_pos (by simpa using hj)])
  · refine List.map_congr_left (fun j _ => ?_)
    simp only [Function.comp, cat]
    rw [if_neg (by omega), Nat.add_sub_cancel_left]
theorem bkl_one (F : Nat → Nat) (n : Nat) : ∀ u ∈ bkl F n, u.oneCell' = true := by
  intro u hu
  simp only [bkl, List.mem_map] at hu
  obtain ⟨x, _, rfl⟩ := hu
  rfl
theorem Bks.of_own {w : World} {base n : Nat} {v : Value} {F : Nat → Nat} (h : w.ownsRow base 25 8 v n (bkl F n)) : ∃ A c, v = .slice A n c ∧ Bks w A n F ∧ n ≤ c ∧ (A = none → c = 0) := by
  rcases h.2 with ⟨rfl, rfl⟩ | ⟨g, cap, cur, rfl, _, _, hc, _⟩
  · exact ⟨none, 0, rfl, fun h1 => by omega, by omega, fun _ => rfl⟩
  · refine ⟨_, cap, rfl, fun _ => ⟨g, 0, rfl, fun j hj => ?_⟩, hc, fun h => by cases h⟩
    rw [Nat.zero_add, h.cellAt j (by omega)]
    simp [bkl, hj]
theorem RB.of_own {w : World} {base n : Nat} {v : Value} {F : Nat → Nat} (h : w.ownsRow base 25 8 v n (bkl F n)) (hn : 0 < n) : ∃ g c, v = .slice (some ⟨g, 0, none⟩) n c ∧ n ≤ c ∧ base ≤ g ∧ (∀ j : Nat, j < n * 8 → w.cell? ⟨g, 0 + j, none⟩ = some (.int .u8 (F j : Nat))) ∧ ∀ j : Nat, w.frozen? ⟨g, j, none⟩ = false := by
  rcases h.2 with ⟨rfl, rfl⟩ | ⟨g, cap, cur, rfl, hb, hg, hc, _⟩
  · omega
  · refine ⟨g, cap, rfl, hc, hb, fun j hj => ?_, fun j => frozen_of_row w g j _ _ hg⟩
    rw [Nat.zero_add, h.cellAt j (by omega)]
    simp [bkl, hj]
/-- append of a slice of blocks, whatever its address, onto a row of the call's own -/
theorem app_bks {w : World} {ops : Array Oper} {rest : List Oper} {o : Oper} {a : Act} {Q : Exit → Act → World → Prop} (hgd : o.guard = none) (s x : Operand)
    (ho : o.op = .call { callee := .builtin .append, args := #[s, x], argTypes := #[22, 22] })
    (base : Nat) (v : Value) (n m : Nat) (F G : Nat → Nat) (hs : a.eval s = v) (hown : w.ownsRow base 25 8 v n (bkl F n))
    (A : Option Addr) (c : Nat) (hx : a.eval x = .slice A m c) (hA : A = none → c = 0) (hl : Bks w A m G) (hb : n + m ≤ 1000) (hmc : m ≤ c) (hbase : base ≤ w.heap.size)
    (h : ∀ v' w', w'.ownsRow base 25 8 v' (n + m) (bkl (cat n F G) (n + m)) → w.grownBy w' v.ownBlock → wpList Try.prog ops Q rest (a.put o.dst v') w') : wpList Try.prog ops Q (o :: rest) a w := by
  obtain ⟨i0, hi0, hz0, hz1, hz2⟩ := info_parts Try.infoBlock
  cases A with
  | none =>
    obtain rfl := hA rfl
    obtain rfl : m = 0 := by omega
    exact wpList_append_own_none hgd s x 22 ho base 25 i0 8 Try.underlying22 hi0 v n (bkl F n) hs hown hx (h v w (by rw [← bkl_append]; simpa [bkl] using hown) (World.grownBy.refl w _))
  | some ad =>
    refine wpList_append_own w hgd s x 22 ho base 25 i0 (.agg (brow 8 fun _ => 0)) 8 8 Try.underlying22 hi0 hz0 hz1 hz2 rfl (by decide) v n (bkl F n) hs hown ad m c (bkl G m) hx (bkl_length G m) ?_ (bkl_one G m) (by unfold maxLen; omega) (by omega) hbase (fun v' w' h1 h2 _ => h v' w' (by rw [← bkl_append]; exact h1) h2)
    rcases Nat.eq_zero_or_pos m with rfl | h0
    · intro j u hj; simp [bkl] at hj
    · obtain ⟨b, off, hh, hc⟩ := hl h0
      cases hh
      intro j u hj
      rcases Nat.lt_or_ge j (m * 8) with hlt | hlt
      · have ha : (⟨b, off, none⟩ : Addr).add j = ⟨b, off + j, none⟩ := by unfold Addr.add; split <;> simp_all
        rw [ha, hc j hlt]
        simpa [bkl, hlt] using hj
      · rw [List.getElem?_eq_none (by rw [bkl_length]; omega)] at hj
        cases hj
theorem own_bks0 {w : World} {base : Nat} (F : Nat → Nat) (h : base ≤ w.heap.size) : (w.alloc (.cells #[] 25)).ownsRow base 25 8 (.slice (some ⟨w.heap.size, 0, none⟩) 0 0) 0 (bkl F 0) :=
  World.ownsRow_lit w #[] 0 h (by unfold maxLen; omega) rfl
theorem own_new {w : World} {base : Nat} (h : base ≤ w.heap.size) : ∀ k, (Value.slice (some ⟨w.heap.size, 0, none⟩) 0 0).ownBlock = some k → base ≤ k := by
  intro k hk
  simp only [Value.ownBlock, Option.some.injEq] at hk
  omega
end Go.Proofs.Ytlimlmfgeaokhaa
namespace Go.Proofs.Ytlimlmfgeaokhaa
open Go.RowKit

end Go.Proofs.Ytlimlmfgeaokhaa
namespace Go.Proofs.Ytlimlmfgeaokhaa
open Go.RowKit

theorem eqB_congr {n : Nat} {f f' g g' : Nat → Nat} (hf : ∀ j, j < n → f j = f' j) (hg : ∀ j, j < n → g j = g' j) : eqB n f g = eqB n f' g' := by
  rw [Bool.eq_iff_iff, eqB_iff, eqB_iff]
  exact forall_congr' fun p => forall_congr' fun hp => by rw [hf p hp, hg p hp]
theorem eqB_symm (n : Nat) (f g : Nat → Nat) : eqB n f g = eqB n g f := by
  rw [Bool.eq_iff_iff, eqB_iff, eqB_iff]
  exact forall_congr' fun p => forall_congr' fun hp => eq_comm
theorem eqB_group (F P : Nat → Nat) (n : Nat) (h : 3 ≤ n) : eqB (n * 8) F (cat (n - 3) F P) = eqB 24 P (fun k => F ((n - 3) * 8 + k)) := by
  rw [Bool.eq_iff_iff, eqB_iff, eqB_iff]
  constructor
  · intro h1 j hj
    have := h1 ((n - 3) * 8 + j) (by omega)
    rw [cat, if_neg (by omega), show (n - 3) * 8 + j - (n - 3) * 8 = j by omega] at this
    exact this.symm
  · intro h1 j hj
    unfold cat
    split
    · rfl
    · rename_i hge
      have := h1 (j - (n - 3) * 8) (by omega)
      rw [this]
      congr 1
      omega
end Go.Proofs.Ytlimlmfgeaokhaa
namespace Go.Proofs.Ytlimlmfgeaokhaa
open Go.RowKit

theorem sp_ex (F : Nat → Nat) (j i k : Nat) : sp F j (i + 1) k = sp F j i k ^^^ Gf.mul (Gf.ex (j * i)) (F (i * 8 + k)) := by rw [sp, npow_2_2]
theorem sp_shift (F : Nat → Nat) (j : Nat) (hF : ∀ p, F p < 256) (k : Nat) (hk : k < 8) : ∀ i, sp (cat 1 (fun _ => 0) F) j (i + 1) k = Gf.mul (Gf.ex j) (sp F j i k)
  | 0 => by
    rw [sp_ex, cat, if_pos (by omega)]
    simp [sp, Gf.mul_zero]
  | i + 1 => by
    rw [sp_ex, sp_shift F j hF k hk i, sp_ex F, Gf.mul_xor_right _ _ _ (Gf.ex_lt _) (sp_lt _ _ _) (Gf.mul_lt _ _ (Gf.ex_lt _)), ← Gf.mul_assoc _ _ _ (Gf.ex_lt _) (Gf.ex_lt _) (hF _), Gf.ex_mul, cat, if_neg (by omega),
      show j + j * i = j * (i + 1) by rw [Nat.mul_add]; omega, show (i + 1) * 8 + k - 1 * 8 = i * 8 + k by omega]
theorem sp_congr {F G : Nat → Nat} (j k : Nat) : ∀ i, (∀ p, p < i * 8 + k → p % 8 = k % 8 → F p = G p) → k < 8 → sp F j i k = sp G j i k
  | 0, _, _ => rfl
  | i + 1, h, hk => by
    rw [sp_ex, sp_ex, sp_congr j k i (fun p hp hm => h p (by omega) hm) hk, h (i * 8 + k) (by omega) (by omega)]
theorem sp_last (F : Nat → Nat) (j n k : Nat) (hk : k < 8) : sp (cat n F fun _ => 0) j (n + 1) k = sp F j n k := by
  rw [sp_ex, cat, if_neg (by omega), Gf.mul_zero, Nat.xor_zero]
  refine sp_congr j k n (fun p hp hm => ?_) hk
  rw [cat, if_pos]
  omega
theorem par_last (F : Nat → Nat) (n p : Nat) : par (cat n F fun _ => 0) (n + 1) p = par F n p := sp_last F _ n _ (Nat.mod_lt _ (by omega))
theorem par_shift (F : Nat → Nat) (n p : Nat) (hF : ∀ p, F p < 256) : par (cat 1 (fun _ => 0) F) (n + 1) p = Gf.mul (Gf.ex (p / 8)) (par F n p) := sp_shift F _ hF _ (Nat.mod_lt _ (by omega)) n
theorem own_bks1 {w : World} {base : Nat} (h : base ≤ w.heap.size) : (w.alloc (.cells (brow 8 fun _ => 0) 25)).ownsRow base 25 8 (.slice (some ⟨w.heap.size, 0, none⟩) 1 1) 1 (bkl (fun _ => 0) 1) :=
  World.ownsRow_lit w (brow 8 fun _ => 0) 1 h (by unfold maxLen; omega) rfl
theorem own_new' {w : World} {base n c : Nat} (h : base ≤ w.heap.size) : ∀ k, (Value.slice (some ⟨w.heap.size, 0, none⟩) n c).ownBlock = some k → base ≤ k := by
  intro k hk
  simp only [Value.ownBlock, Option.some.injEq] at hk
  omega
/-- Below, as a conjunction: a draw leaves it as it is -/
def Kp (w0 w : World) : Prop := w.os = w0.os ∧ w.tape = w0.tape ∧ w.output = w0.output ∧ w0.heap.size ≤ w.heap.size ∧ ∀ k, k < w0.heap.size → w.heap[k]? = w0.heap[k]?
theorem Kp.below {w0 w : World} (h : Kp w0 w) : Below w0.heap.size w0 w := ⟨h.1, h.2.1, h.2.2.1, h.2.2.2.1, h.2.2.2.2⟩
theorem Kp.next {w0 w w' : World} (h : Kp w0 w) (hB : Below w.heap.size w w') : Kp w0 w' :=
  ⟨hB.os.trans h.1, hB.tape.trans h.2.1, hB.output.trans h.2.2.1, Nat.le_trans h.2.2.2.1 hB.size, fun k hk => (hB.block k (Nat.lt_of_lt_of_le hk h.2.2.2.1)).trans (h.2.2.2.2 k hk)⟩
theorem Kp.refl (w : World) : Kp w w := ⟨rfl, rfl, rfl, Nat.le_refl _, fun _ _ => rfl⟩
/-- the cells of a block of n bytes -/
theorem keepAll {w w' : World} {g n : Nat} {p : Nat → Nat} (h : ∀ o : Nat, o < n → w.cell? ⟨g, o, none⟩ = some (.int .u8 (p o : Nat))) (hB : Below w.heap.size w w') : ∀ o : Nat, o < n → w'.cell? ⟨g, o, none⟩ = some (.int .u8 (p o : Nat)) :=
  fun o ho => (hB.cell (World.block_lt_of_cell? w _ (h o ho))).trans (h o ho)
theorem run_eqlB (f g : Nat → Nat) (hf : ∀ j, f j < 256) (hg : ∀ j, g j < 256) (W : World) :
    (binOp .eql 25 (.agg (brow 8 f)) (.agg (brow 8 g))).run Try.prog W = .ok (.bool (eqB 8 f g)) W := by
  rw [run_eql_struct, run_eqB f g hf hg]; rfl
end Go.Proofs.Ytlimlmfgeaokhaa
namespace Go.Proofs.Ytlimlmfgeaokhaa
open Go.RowKit

/-- a block whose first n cells are the bytes f -/
def CB (w : World) (g n : Nat) (t : TypeId) (f : Nat → Nat) : Prop := ∃ cur : Array Value, w.heap[g]? = some (.cells cur t (0, 0)) ∧ ∀ j, j < n → cur[j]? = some (.int .u8 (f j : Nat))
theorem CB.cell {w : World} {g n : Nat} {t : TypeId} {f : Nat → Nat} (h : CB w g n t f) (j : Nat) (hj : j < n) : w.cell? ⟨g, j, none⟩ = some (.int .u8 (f j : Nat)) := by
  obtain ⟨cur, h1, h2⟩ := h
  exact (cell_of_row w _ j _ _ _ h1).trans (h2 j hj)
theorem CB.frozen {w : World} {g n : Nat} {t : TypeId} {f : Nat → Nat} (h : CB w g n t f) (j : Nat) : w.frozen? ⟨g, j, none⟩ = false := by
  obtain ⟨cur, h1, _⟩ := h
  exact frozen_of_row w _ j _ _ h1
theorem CB.lt {w : World} {g n : Nat} {t : TypeId} {f : Nat → Nat} (h : CB w g n t f) : g < w.heap.size := by
  obtain ⟨cur, h1, _⟩ := h
  exact (Array.getElem?_eq_some_iff.1 h1).1
theorem CB.below {w w' : World} {g n : Nat} {t : TypeId} {f : Nat → Nat} (h : CB w g n t f) (hB : Below w.heap.size w w') : CB w' g n t f := by
  have hl := h.lt
  obtain ⟨cur, h1, h2⟩ := h
  exact ⟨cur, (hB.block g hl).trans h1, h2⟩
theorem CB.congr {w : World} {g n : Nat} {t : TypeId} {f f' : Nat → Nat} (h : CB w g n t f) (he : ∀ j, j < n → f j = f' j) : CB w g n t f' := by
  obtain ⟨cur, h1, h2⟩ := h
  exact ⟨cur, h1, fun j hj => by rw [h2 j hj, he j hj]⟩
theorem CB.bks {w : World} {g n m : Nat} {t : TypeId} {f : Nat → Nat} (h : CB w g n t f) (hm : m * 8 ≤ n) : Bks w (some ⟨g, 0, none⟩) m f := fun _ => ⟨g, 0, rfl, fun j hj => by rw [Nat.zero_add]; exact h.cell j (by omega)⟩
theorem CB.upd {w : World} {g n i v : Nat} {t : TypeId} {f : Nat → Nat} (h : CB w g n t f) : CB (w.setCell ⟨g, i, none⟩ (.int .u8 (v : Nat))) g n t (fun j => if j = i then v else f j) := by
  obtain ⟨cur, h1, h2⟩ := h
  refine ⟨cur.setIfInBounds i (.int .u8 (v : Nat)), heap_setCell_same w g i _ _ _ h1, fun j hj => ?_⟩
  rw [Array.getElem?_setIfInBounds]
  by_cases e : i = j
  · subst e
    have : i < cur.size := by
      have := h2 i hj
      exact (Array.getElem?_eq_some_iff.1 this).1
    simp [this]
  · rw [if_neg e, h2 j hj]
    show _ = some (Value.int .u8 ((if j = i then v else f j : Nat) : Int))
    rw [if_neg (fun h => e h.symm)]
theorem CB.far {w : World} {g n g' i : Nat} {t : TypeId} {f : Nat → Nat} (h : CB w g n t f) (v : Value) (hne : g' ≠ g) : CB (w.setCell ⟨g', i, none⟩ v) g n t f := by
  obtain ⟨cur, h1, h2⟩ := h
  exact ⟨cur, (Below.heap_setCell w _ v g (fun e => hne e.symm)).trans h1, h2⟩
theorem RB.cb {w : World} {g n : Nat} {t : TypeId} {f : Nat → Nat} (h : RB w g n t f) : CB w g n t f := ⟨_, h, fun j hj => brow_get n f j hj⟩
theorem CB.of_own {w : World} {base n : Nat} {v : Value} {F : Nat → Nat} (h : w.ownsRow base 25 8 v n (bkl F n)) (hn : 0 < n) : ∃ g c, v = .slice (some ⟨g, 0, none⟩) n c ∧ n ≤ c ∧ base ≤ g ∧ CB w g (n * 8) 25 F := by
  have hx := h.1
  rcases h.2 with ⟨rfl, rfl⟩ | ⟨g, cap, cur, rfl, hb, hg, hc, hm, hs, ht⟩
  · omega
  · refine ⟨g, cap, rfl, hc, hb, cur, hg, fun j hj => ?_⟩
    have h1 : (cur.toList.take (n * 8))[j]? = some (.int .u8 (F j : Nat)) := by rw [ht]; simp [bkl, hj]
    rw [List.getElem?_take_of_lt hj] at h1
    simpa using h1
set_option linter.unusedSimpArgs false in
theorem set8_cb {w : World} {g j n : Nat} {t : TypeId} {f h : Nat → Nat} (hr : CB w g n t f) : CB (set8 w g (j * 8) h) g n t (outc f j h) := by
  refine CB.congr (CB.upd (CB.upd (CB.upd (CB.upd (CB.upd (CB.upd (CB.upd (CB.upd hr)))))))) (fun q hq => ?_)
  unfold outc
  by_cases e : q / 8 = j
  · obtain ⟨m, hm, rfl⟩ : ∃ m, m < 8 ∧ q = j * 8 + m := ⟨q % 8, by omega, by omega⟩
    have e1 : (j * 8 + m) / 8 = j := by omega
    have e2 : (j * 8 + m) % 8 = m := by omega
    match m, hm with
    | 0, _ => simp [e1, e2]
    | 1, _ => simp [e1, e2]
    | 2, _ => simp [e1, e2]
    | 3, _ => simp [e1, e2]
    | 4, _ => simp [e1, e2]
    | 5, _ => simp [e1, e2]
    | 6, _ => simp [e1, e2]
    | 7, _ => simp [e1, e2]
  · have e1 : q ≠ j * 8 := by omega
    have e2 : ∀ m, m < 8 → q ≠ j * 8 + m := fun m hm => by omega
    simp [e, e1, e2 1 (by omega), e2 2 (by omega), e2 3 (by omega), e2 4 (by omega), e2 5 (by omega), e2 6 (by omega), e2 7 (by omega)]
set_option maxRecDepth 100000 in
theorem clone_any (F : Nat → Nat) (b off n c : Nat) (w : World) (h1 : 1 ≤ n) (h2 : n ≤ 40) (hc : n ≤ c) (hI : Bks w (some ⟨b, off, none⟩) n F) :
    Calls Try.prog 27 #[.slice (some ⟨b, off, none⟩) n c] w fun e w' => ∃ v, e = .returned v ∧ w'.ownsRow w.heap.size 25 8 v n (bkl F n) ∧ Below w.heap.size w w' := by
  have HI := Lib.hid hI
  clear hI
  go_enter Try.func27, Try.ntmps27
  have he : ∀ W : World, (binOp .eql 22 (.slice (some ⟨b, off, none⟩) n c) (.slice none 0 0)).run Try.prog W = .ok (.bool false) W := fun _ => rfl
  go_wp2_with (at_builtin; refine app_bks rfl (.tmp 5) (.tmp 6) rfl w.heap.size (.slice (some ⟨w.heap.size, 0, none⟩) 0 0) 0 n (fun _ => 0) F rfl (own_bks0 _ (Nat.le_refl _)) (some ⟨b, off, none⟩) c rfl (fun h => by cases h) (HI.out.below (Go.Joins.below_alloc1 _ _)) (by omega) hc (by simp) ?_; intro v1 w2 o1 g1; rw [cat_zero, Nat.zero_add] at o1; have HB2 := Lib.hid ((Go.Joins.below_alloc1 w _).grown g1 (by simp) (own_new (Nat.le_refl _))); have HO := Lib.hid o1; clear o1 g1)
  go_ret
  exact ⟨v1, rfl, HO.out, HB2.out⟩
/-- the parity P after a change c of piece i, the first j blocks done -/
def updS (P c : Nat → Nat) (i j p : Nat) : Nat := if p / 8 < j then P p ^^^ Gf.mul (Gf.ex (i * (p / 8))) (c (p % 8)) else P p
theorem updS_at (P c : Nat → Nat) (i j k : Nat) (h : k < 8) : updS P c i j (j * 8 + k) = P (j * 8 + k) := by
  unfold updS
  rw [if_neg (by omega)]
theorem updS_next (P c : Nat → Nat) (i j : Nat) (h : Nat → Nat) (hh : ∀ k, k < 8 → h k = P (j * 8 + k) ^^^ Gf.mul (Gf.ex (i * j)) (c k)) (p : Nat) : outc (updS P c i j) j h p = updS P c i (j + 1) p := by
  unfold outc updS
  by_cases e : p / 8 = j
  · have e3 : j * 8 + p % 8 = p := by omega
    rw [if_pos e, if_pos (by omega), hh _ (by omega), e, e3]
  · rw [if_neg e]
    by_cases e1 : p / 8 < j
    · rw [if_pos e1, if_pos (by omega)]
    · rw [if_neg e1, if_neg (by omega)]
theorem set8_rb8 {w : World} {g g' p n : Nat} {t : TypeId} {f h : Nat → Nat} (hr : RB w g' n t f) (hne : g ≠ g') : RB (set8 w g p h) g' n t f := set8_far hr hne
end Go.Proofs.Ytlimlmfgeaokhaa
namespace Go.Proofs.Ytlimlmfgeaokhaa
open Go.RowKit

/-- piece i becomes z -/
def putB (F : Nat → Nat) (i : Nat) (z : Nat → Nat) (p : Nat) : Nat := if p / 8 = i then z (p % 8) else F p
theorem putB_lt {F z : Nat → Nat} {i : Nat} (hF : ∀ p, F p < 256) (hz : ∀ p, z p < 256) (p : Nat) : putB F i z p < 256 := by
  unfold putB
  split
  · exact hz _
  · exact hF _
theorem sp_put_le (F z : Nat → Nat) (i j k : Nat) (hk : k < 8) (n : Nat) (h : n ≤ i) : sp (putB F i z) j n k = sp F j n k :=
  sp_congr j k n (fun p hp _ => by
    unfold putB
    by_cases e : p / 8 = i
    · exfalso
      omega
    · rw [if_neg e]) hk
theorem sp_put (F z : Nat → Nat) (hF : ∀ p, F p < 256) (hz : ∀ p, z p < 256) (i j k : Nat) (hk : k < 8) : ∀ n, i < n → sp (putB F i z) j n k = sp F j n k ^^^ Gf.mul (Gf.ex (i * j)) (F (i * 8 + k) ^^^ z k)
  | 0, h => by omega
  | n + 1, h => by
    rw [sp_ex, sp_ex F]
    by_cases e : i = n
    · subst e
      have e1 : putB F i z (i * 8 + k) = z k := by rw [putB, if_pos (by omega), show (i * 8 + k) % 8 = k by omega]
      rw [sp_put_le F z i j k hk i (Nat.le_refl _), e1, Gf.mul_xor_right _ _ _ (Gf.ex_lt _) (hF _) (hz _), Nat.mul_comm j i]
      generalize Gf.mul (Gf.ex (i * j)) (F (i * 8 + k)) = a
      generalize Gf.mul (Gf.ex (i * j)) (z k) = b
      rw [Nat.xor_assoc, ← Nat.xor_assoc a a b, Nat.xor_self, Nat.zero_xor]
    · have e1 : putB F i z (n * 8 + k) = F (n * 8 + k) := by rw [putB, if_neg (by omega)]
      rw [sp_put F z hF hz i j k hk n (by omega), e1, Nat.xor_assoc, Nat.xor_assoc, Nat.xor_comm (Gf.mul (Gf.ex (i * j)) _)]
theorem par_put (F z : Nat → Nat) (hF : ∀ p, F p < 256) (hz : ∀ p, z p < 256) (i n p : Nat) (hi : i < n) (hp : p < 24) : updS (par F n) (fun k => F (i * 8 + k) ^^^ z k) i 3 p = par (putB F i z) n p := by
  unfold updS
  rw [if_pos (by omega)]
  exact (sp_put F z hF hz i (p / 8) (p % 8) (Nat.mod_lt _ (by omega)) n hi).symm
theorem set8_cbfar {w : World} {g p g' n : Nat} {t : TypeId} {f h : Nat → Nat} (hr : CB w g' n t f) (hne : g ≠ g') : CB (set8 w g p h) g' n t f :=
  (((((((hr.far _ hne).far _ hne).far _ hne).far _ hne).far _ hne).far _ hne).far _ hne).far _ hne
theorem keepFrom {w w' : World} {g n a : Nat} {p : Nat → Nat} (h : ∀ o : Nat, o < n → w.cell? ⟨g, a + o, none⟩ = some (.int .u8 (p o : Nat))) (hB : Below w.heap.size w w') : ∀ o : Nat, o < n → w'.cell? ⟨g, a + o, none⟩ = some (.int .u8 (p o : Nat)) :=
  fun o ho => (hB.cell (World.block_lt_of_cell? w _ (h o ho))).trans (h o ho)
end Go.Proofs.Ytlimlmfgeaokhaa
namespace Go.Proofs.Ytlimlmfgeaokhaa
open Go.RowKit

theorem block_list {H : Type} {enc : TypeId × Value → H} {W : World} {n : Nat} {cs' : List Value} {y : DataW H × List MemPlace} (hcl : cs'.length = 8)
    (ht : DataW.trod enc Try.prog W 0 (fun _ => true) true n 25 cs' = some y) (j : Nat) (hj : j < 8) : ∃ z : Nat, cs'[j]? = some (.int .u8 (z : Nat)) ∧ z < 256 := by
  obtain ⟨ys, n', _, _, hlen, hyl, hf⟩ := DataW.trod_array Try.underlying25 ht
  have kc : Try.prog.cellsOf 5 = 1 := by kernel_rfl
  rw [kc] at hf
  have h1 := hf j hj
  rw [List.getElem?_eq_getElem (show j < ys.length by omega)] at h1
  have e : (cs'.drop (j * 1)).take 1 = [cs'[j]'(by omega)] := by
    rw [Nat.mul_one]
    rw [List.drop_eq_getElem_cons (show j < cs'.length by omega), List.take_succ_cons, List.take_zero]
  rw [e] at h1
  obtain ⟨z, hz, _, hwf⟩ := DataW.trod_int Try.underlying5 h1
  have hb := bounds_u8 hwf
  simp only [List.cons.injEq, and_true] at hz
  exact ⟨z.toNat, by rw [List.getElem?_eq_getElem (show j < cs'.length by omega), hz, Int.toNat_of_nonneg (by omega)], by omega⟩
/-- a slice of slot writes -/
def Sws (w : World) (A : Option Addr) (n : Nat) (p : Nat → Int) (F : Nat → Nat) : Prop := 0 < n → ∃ b off : Nat, A = some ⟨b, off, none⟩ ∧ ∀ j : Nat, j < n →
  w.cell? ⟨b, off + j * 9, none⟩ = some (.int .i64 (p j)) ∧ ∀ k : Nat, k < 8 → w.cell? ⟨b, off + j * 9 + 1 + k, none⟩ = some (.int .u8 (F (j * 8 + k) : Nat))
theorem Sws.below {w w' : World} {A : Option Addr} {n : Nat} {p : Nat → Int} {F : Nat → Nat} (h : Sws w A n p F) (hB : Below w.heap.size w w') : Sws w' A n p F := fun h0 => by
  obtain ⟨b, off, rfl, hc⟩ := h h0
  exact ⟨b, off, rfl, fun j hj => ⟨(hB.cell (World.block_lt_of_cell? w _ (hc j hj).1)).trans (hc j hj).1, fun k hk => (hB.cell (World.block_lt_of_cell? w _ ((hc j hj).2 k hk))).trans ((hc j hj).2 k hk)⟩⟩
end Go.Proofs.Ytlimlmfgeaokhaa
namespace Go.Proofs.Ytlimlmfgeaokhaa
open Go.RowKit

theorem sp_add (F G : Nat → Nat) (hF : ∀ p, F p < 256) (hG : ∀ p, G p < 256) (j k : Nat) : ∀ n, sp (fun p => F p ^^^ G p) j n k = sp F j n k ^^^ sp G j n k
  | 0 => (Nat.xor_self 0).symm
  | n + 1 => by
    rw [sp_ex, sp_ex F, sp_ex G, sp_add F G hF hG j k n, Gf.mul_xor_right _ _ _ (Gf.ex_lt _) (hF _) (hG _)]
    exact Gf.xor4 _ _ _ _
theorem sp_mul (F : Nat → Nat) (c : Nat) (hc : c < 256) (hF : ∀ p, F p < 256) (j k : Nat) : ∀ n, sp (fun p => Gf.mul c (F p)) j n k = Gf.mul c (sp F j n k)
  | 0 => (Gf.mul_zero c).symm
  | n + 1 => by
    rw [sp_ex, sp_ex F, sp_mul F c hc hF j k n, Gf.mul_xor_right _ _ _ hc (sp_lt _ _ _) (Gf.mul_lt _ _ (Gf.ex_lt _)), ← Gf.mul_assoc _ _ _ (Gf.ex_lt _) hc (hF _), ← Gf.mul_assoc _ _ _ hc (Gf.ex_lt _) (hF _), Gf.mul_comm _ c (Gf.ex_lt _) hc]
theorem par_add (F G : Nat → Nat) (hF : ∀ p, F p < 256) (hG : ∀ p, G p < 256) (n p : Nat) : par (fun p => F p ^^^ G p) n p = par F n p ^^^ par G n p := sp_add F G hF hG _ _ n
theorem par_mul (F : Nat → Nat) (c : Nat) (hc : c < 256) (hF : ∀ p, F p < 256) (n p : Nat) : par (fun p => Gf.mul c (F p)) n p = Gf.mul c (par F n p) := sp_mul F c hc hF _ _ n
theorem Kp.grown {w0 w w' : World} {row : Option Nat} (h : Kp w0 w) (hg : w.grownBy w' row) (hr : ∀ k, row = some k → w0.heap.size ≤ k) : Kp w0 w' :=
  ⟨hg.os.trans h.1, hg.tape.trans h.2.1, hg.output.trans h.2.2.1, Nat.le_trans h.2.2.2.1 hg.size, fun k hk => (hg.block k (Nat.lt_of_lt_of_le hk h.2.2.2.1) (fun e => by have := hr k e.symm; omega)).trans (h.2.2.2.2 k hk)⟩
theorem bkl_snoc (F h : Nat → Nat) (n : Nat) (hh : ∀ k, k < 8 → h k = F (n * 8 + k)) : bkl F n ++ (brow 8 h).toList = bkl F (n + 1) := by
  rw [brow_congr hh]
  unfold bkl brow
  rw [Nat.add_mul, List.range_add, List.map_append, List.map_map]
  rfl
theorem brow_one (h : Nat → Nat) (n : Nat) : ∀ u ∈ (brow n h).toList, u.oneCell' = true := by
  intro u hu
  simp only [brow, List.mem_map] at hu
  obtain ⟨x, _, rfl⟩ := hu
  rfl
/-- a block more, in a plain region -/
theorem app1 {w : World} {ops : Array Oper} {rest : List Oper} {o : Oper} {a : Act} {Q : Exit → Act → World → Prop} (hgd : o.guard = none) (s x : Operand)
    (ho : o.op = .call { callee := .builtin .append, args := #[s, x], argTypes := #[22, 22] })
    (base : Nat) (v : Value) (n : Nat) (F h : Nat → Nat) (hs : a.eval s = v) (hown : w.ownsRow base 25 8 v n (bkl F n)) (B : Nat) (hx : a.eval x = .slice (some ⟨B, 0, none⟩) 1 1)
    (hb : w.heap[B]? = some (.cells (brow 8 h) 25 (0, 0))) (hh : ∀ k, k < 8 → h k = F (n * 8 + k)) (hn : n ≤ 1000) (hbase : base ≤ w.heap.size) (H : Nat) (hH : w.heap.size = H)
    (k : ∀ g cap w', w'.ownsRow base 25 8 (.slice (some ⟨g, 0, none⟩) (n + 1) cap) (n + 1) (bkl F (n + 1)) → w.grownBy w' v.ownBlock → (v.ownBlock = some g ∨ g = H) → g < w'.heap.size → wpList Try.prog ops Q rest (a.put o.dst (.slice (some ⟨g, 0, none⟩) (n + 1) cap)) w') : wpList Try.prog ops Q (o :: rest) a w := by
  obtain ⟨i0, hi0, hz0, hz1, hz2⟩ := info_parts Try.infoBlock
  exact wpList_append_lies w hgd s x 22 ho base 25 i0 (.agg (brow 8 fun _ => 0)) 8 8 Try.underlying22 hi0 hz0 hz1 hz2 rfl (by decide) v n (bkl F n) hs hown ⟨B, 0, none⟩ 1 1 (brow 8 h).toList hx (by simp [brow])
    (World.news_of_block hb) (brow_one h 8) (by omega) (by unfold maxLen; omega) (by omega) hbase H hH (fun g cap w' h1 h2 h3 h4 => k g cap w' (by rw [← bkl_snoc F h n hh]; exact h1) h2 h3 h4)
/-- .. in a region that draws -/
theorem step1 {w : World} {ops : Array Oper} {o : Oper} {a : Act} {K : Act → World → Prop} {Q : Exit → Act → World → Prop} {E : Prop} (hgd : o.guard = none) (s x : Operand)
    (ho : o.op = .call { callee := .builtin .append, args := #[s, x], argTypes := #[22, 22] })
    (base : Nat) (v : Value) (n : Nat) (F h : Nat → Nat) (hs : a.eval s = v) (hown : w.ownsRow base 25 8 v n (bkl F n)) (B : Nat) (hx : a.eval x = .slice (some ⟨B, 0, none⟩) 1 1)
    (hb : w.heap[B]? = some (.cells (brow 8 h) 25 (0, 0))) (hh : ∀ k, k < 8 → h k = F (n * 8 + k)) (hn : n ≤ 1000) (hbase : base ≤ w.heap.size) (H : Nat) (hH : w.heap.size = H)
    (k : ∀ g cap w', w'.ownsRow base 25 8 (.slice (some ⟨g, 0, none⟩) (n + 1) cap) (n + 1) (bkl F (n + 1)) → w.grownBy w' v.ownBlock → (v.ownBlock = some g ∨ g = H) → g < w'.heap.size → K (a.put o.dst (.slice (some ⟨g, 0, none⟩) (n + 1) cap)) w') :
    if Region.wanted o (yielded ops a.tmps) = true then Oper.wp Try.prog o a w K Q else E := by
  obtain ⟨i0, hi0, hz0, hz1, hz2⟩ := info_parts Try.infoBlock
  exact step_append_lies w hgd s x 22 ho base 25 i0 (.agg (brow 8 fun _ => 0)) 8 8 Try.underlying22 hi0 hz0 hz1 hz2 rfl (by decide) v n (bkl F n) hs hown ⟨B, 0, none⟩ 1 1 (brow 8 h).toList hx (by simp [brow])
    (World.news_of_block hb) (brow_one h 8) (by omega) (by unfold maxLen; omega) (by omega) hbase H hH (fun g cap w' h1 h2 h3 h4 => k g cap w' (by rw [← bkl_snoc F h n hh]; exact h1) h2 h3 h4)
/-- two rows in blocks of their own -/
def Dis (v v' : Value) : Prop := ∀ k, v.ownBlock = some k → v'.ownBlock ≠ some k
theorem Dis.ne {v v' : Value} (h : Dis v v') : v.ownBlock = none ∨ v.ownBlock ≠ v'.ownBlock := by
  rcases hv : v.ownBlock with _ | k
  · exact .inl rfl
  · exact .inr fun e => h k hv e.symm
theorem Dis.ne' {v v' : Value} (h : Dis v v') : v'.ownBlock = none ∨ v'.ownBlock ≠ v.ownBlock := by
  rcases hv : v'.ownBlock with _ | k
  · exact .inl rfl
  · exact .inr fun e => h k e.symm hv
theorem Dis.left {v v' : Value} {g H n c : Nat} (h : Dis v v') (hl : v'.ownBlock = some g ∨ g = H) (hb : ∀ k, v.ownBlock = some k → k < H) : Dis v (.slice (some ⟨g, 0, none⟩) n c) := fun k hk e => by
  simp only [Value.ownBlock, Option.some.injEq] at e
  rcases hl with hl | hl
  · exact h k hk (by rw [hl, e])
  · have := hb k hk; omega
theorem Dis.right {v v' : Value} {g H n c : Nat} (h : Dis v v') (hl : v.ownBlock = some g ∨ g = H) (hb : ∀ k, v'.ownBlock = some k → k < H) : Dis (.slice (some ⟨g, 0, none⟩) n c) v' := fun k hk e => by
  simp only [Value.ownBlock, Option.some.injEq] at hk
  rcases hl with hl | hl
  · exact h g hl (by rw [e, hk])
  · have := hb k e; omega
end Go.Proofs.Ytlimlmfgeaokhaa
namespace Go.Proofs.Ytlimlmfgeaokhaa
open Go.RowKit

/-- the sum of f 0, .., f (n - 1) -/
def xs (f : Nat → Nat) : Nat → Nat
  | 0 => 0
  | n + 1 => xs f n ^^^ f n
theorem xs_lt {f : Nat → Nat} (h : ∀ i, f i < 256) : ∀ n, xs f n < 256
  | 0 => Nat.zero_lt_succ _
  | n + 1 => Gf.xor_lt (xs_lt h n) (h n)
theorem xs_congr {f g : Nat → Nat} : ∀ n, (∀ i, i < n → f i = g i) → xs f n = xs g n
  | 0, _ => rfl
  | n + 1, h => by rw [xs, xs, xs_congr n (fun i hi => h i (by omega)), h n (by omega)]
theorem xs_xor (f g : Nat → Nat) : ∀ n, xs (fun i => f i ^^^ g i) n = xs f n ^^^ xs g n
  | 0 => (Nat.xor_self 0).symm
  | n + 1 => by rw [xs, xs_xor f g n]; exact Gf.xor4 _ _ _ _
theorem xs_mul (c : Nat) (f : Nat → Nat) (hc : c < 256) (hf : ∀ i, f i < 256) : ∀ n, Gf.mul c (xs f n) = xs (fun i => Gf.mul c (f i)) n
  | 0 => Gf.mul_zero c
  | n + 1 => by rw [xs, Gf.mul_xor_right _ _ _ hc (xs_lt hf n) (hf n), xs_mul c f hc hf n]; rfl
theorem xs_zero {f : Nat → Nat} : ∀ n, (∀ i, i < n → f i = 0) → xs f n = 0
  | 0, _ => rfl
  | n + 1, h => by rw [xs, xs_zero n (fun i hi => h i (by omega)), h n (by omega)]; rfl
theorem xs_one {f : Nat → Nat} (a : Nat) : ∀ n, a < n → (∀ i, i < n → i ≠ a → f i = 0) → xs f n = f a
  | 0, h, _ => by omega
  | n + 1, h, h0 => by
    by_cases e : a = n
    · subst e
      rw [xs, xs_zero a (fun i hi => h0 i (by omega) (by omega)), Nat.zero_xor]
    · rw [xs, xs_one a n (by omega) (fun i hi => h0 i (by omega)), h0 n (by omega) (by omega), Nat.xor_zero]
theorem sp_xs (F : Nat → Nat) (j k : Nat) : ∀ n, sp F j n k = xs (fun i => Gf.mul (Gf.ex (j * i)) (F (i * 8 + k))) n
  | 0 => rfl
  | n + 1 => by rw [sp_ex, sp_xs F j k n]; rfl
/-- the coefficient of piece i in check j, among n data pieces -/
def hc (n j i : Nat) : Nat := if i < n then Gf.ex (j * i) else if i = n + j then 1 else 0
theorem hc_lt (n j i : Nat) : hc n j i < 256 := by
  unfold hc
  split
  · exact Gf.ex_lt _
  · split <;> omega
theorem hc_par (n j q : Nat) : hc n j (n + q) = if q = j then 1 else 0 := by
  unfold hc
  rw [if_neg (by omega)]
  by_cases e : q = j
  · rw [if_pos e, if_pos (by omega)]
  · rw [if_neg e, if_neg (by omega)]
/-- check j of the column e -/
def syn (n : Nat) (e : Nat → Nat) (j : Nat) : Nat := xs (fun i => Gf.mul (hc n j i) (e i)) (n + 3)
theorem syn_sp (F : Nat → Nat) (hF : ∀ p, F p < 256) (n j k : Nat) (hj : j < 3) : syn n (fun i => F (i * 8 + k)) j = sp F j n k ^^^ F ((n + j) * 8 + k) := by
  unfold syn
  rw [xs, xs, xs, sp_xs]
  have e1 : xs (fun i => Gf.mul (hc n j i) (F (i * 8 + k))) n = xs (fun i => Gf.mul (Gf.ex (j * i)) (F (i * 8 + k))) n := xs_congr n (fun i hi => by rw [hc, if_pos hi])
  rw [e1]
  generalize xs (fun i => Gf.mul (Gf.ex (j * i)) (F (i * 8 + k))) n = s
  have h0 := hc_par n j 0
  rw [Nat.add_zero] at h0
  have h1 := hc_par n j 1
  have h2 := hc_par n j 2
  rw [h0, h1, h2]
  match j, hj with
  | 0, _ => rw [if_pos rfl, if_neg (by omega), if_neg (by omega), Gf.zero_mul, Gf.zero_mul, Gf.one_mul _ (hF _), Nat.xor_zero, Nat.xor_zero]; rfl
  | 1, _ => rw [if_neg (by omega), if_pos rfl, if_neg (by omega), Gf.zero_mul, Gf.zero_mul, Gf.one_mul _ (hF _), Nat.xor_zero, Nat.xor_zero]
  | 2, _ => rw [if_neg (by omega), if_neg (by omega), if_pos rfl, Gf.zero_mul, Gf.zero_mul, Gf.one_mul _ (hF _), Nat.xor_zero, Nat.xor_zero]
theorem syn_xor (n : Nat) (e f : Nat → Nat) (he : ∀ i, e i < 256) (hf : ∀ i, f i < 256) (j : Nat) : syn n (fun i => e i ^^^ f i) j = syn n e j ^^^ syn n f j := by
  unfold syn
  rw [← xs_xor]
  exact xs_congr _ (fun i _ => Gf.mul_xor_right _ _ _ (hc_lt n j i) (he i) (hf i))
/-- the coefficients by the piece's place among 13 data pieces and 3 parity pieces -/
def tb (j q : Nat) : Nat := ([[1, 1, 1, 1, 1, 1, 1, 1, 1, 1, 1, 1, 1, 1, 0, 0], [1, 2, 4, 8, 16, 32, 64, 128, 29, 58, 116, 232, 205, 0, 1, 0], [1, 4, 16, 64, 29, 116, 205, 19, 76, 45, 180, 234, 143, 0, 0, 1]].getD j []).getD q 0
def pos (n i : Nat) : Nat := if i < n then i else i - n + 13
theorem tb_ex : ∀ j, j < 3 → ∀ q, q < 13 → tb j q = Gf.ex (j * q) := by decide +kernel
theorem tb_one : ∀ j, j < 3 → ∀ q, q < 3 → tb j (13 + q) = if q = j then 1 else 0 := by decide +kernel
theorem hc_tb (n j i : Nat) (hn : n ≤ 13) (hj : j < 3) (hi : i < n + 3) : hc n j i = tb j (pos n i) := by
  unfold hc pos
  by_cases h : i < n
  · rw [if_pos h, if_pos h, tb_ex j hj i (by omega)]
  · rw [if_neg h, if_neg h, show i - n + 13 = 13 + (i - n) by omega, tb_one j hj (i - n) (by omega)]
    by_cases e : i = n + j
    · rw [if_pos e, if_pos (by omega)]
    · rw [if_neg e, if_neg (by omega)]
/-- the cross product of two columns -/
def crs (b c j : Nat) : Nat := match j with
  | 0 => Gf.mul (tb 1 b) (tb 2 c) ^^^ Gf.mul (tb 2 b) (tb 1 c)
  | 1 => Gf.mul (tb 2 b) (tb 0 c) ^^^ Gf.mul (tb 0 b) (tb 2 c)
  | _ => Gf.mul (tb 0 b) (tb 1 c) ^^^ Gf.mul (tb 1 b) (tb 0 c)
def dotc (b c a : Nat) : Nat := (Gf.mul (crs b c 0) (tb 0 a) ^^^ Gf.mul (crs b c 1) (tb 1 a)) ^^^ Gf.mul (crs b c 2) (tb 2 a)
def mds : Bool := (List.range 16).all fun b => (List.range 16).all fun c => b == c || (dotc b c b == 0 && (dotc b c c == 0 && (List.range 16).all fun a => a == b || (a == c || dotc b c a != 0)))
set_option maxRecDepth 100000 in
theorem mds_true : mds = true := by decide +kernel
theorem mds_at {a b c : Nat} (ha : a < 16) (hb : b < 16) (hcc : c < 16) (hbc : b ≠ c) : dotc b c b = 0 ∧ dotc b c c = 0 ∧ (a ≠ b → a ≠ c → dotc b c a ≠ 0) := by
  have h := mds_true
  unfold mds at h
  rw [List.all_eq_true] at h
  have h := h b (by simpa using hb)
  rw [List.all_eq_true] at h
  have h := h c (by simpa using hcc)
  have e1 : (b == c) = false := by simpa using hbc
  rw [e1, Bool.false_or, Bool.and_eq_true, Bool.and_eq_true, List.all_eq_true] at h
  refine ⟨by simpa using h.1, by simpa using h.2.1, fun x1 x2 => ?_⟩
  have h3 := h.2.2 a (by simpa using ha)
  have e2 : (a == b) = false := by simpa using x1
  have e3 : (a == c) = false := by simpa using x2
  rw [e2, e3, Bool.false_or, Bool.false_or] at h3
  simpa using h3
theorem tb_lt (j q : Nat) (hj : j < 3) (hq : q < 16) : tb j q < 256 := by
  have : ∀ j, j < 3 → ∀ q, q < 16 → tb j q < 256 := by decide +kernel
  exact this j hj q hq
theorem crs_lt (b c j : Nat) (hb : b < 16) : crs b c j < 256 := by
  have t0 := tb_lt 0 b (by omega) hb
  have t1 := tb_lt 1 b (by omega) hb
  have t2 := tb_lt 2 b (by omega) hb
  unfold crs
  split
  · exact Gf.xor_lt (Gf.mul_lt _ _ t1) (Gf.mul_lt _ _ t2)
  · exact Gf.xor_lt (Gf.mul_lt _ _ t2) (Gf.mul_lt _ _ t0)
  · exact Gf.xor_lt (Gf.mul_lt _ _ t0) (Gf.mul_lt _ _ t1)
theorem pos_lt (n i : Nat) (hn : n ≤ 13) (hi : i < n + 3) : pos n i < 16 := by unfold pos; split <;> omega
theorem pos_inj (n i j : Nat) (hn : n ≤ 13) (h : pos n i = pos n j) : i = j := by
  unfold pos at h
  split at h <;> split at h <;> omega
/-- checks that hold of a column with at most three entries: the entries are 0 -/
theorem col_zero (n : Nat) (hn : n ≤ 13) (e : Nat → Nat) (he : ∀ i, e i < 256) (a b c : Nat) (ha : a < n + 3) (hb : b < n + 3) (hcc : c < n + 3) (hab : a ≠ b) (hac : a ≠ c) (hbc : b ≠ c)
    (hs : ∀ i, i < n + 3 → i ≠ a → i ≠ b → i ≠ c → e i = 0) (hy : ∀ j, j < 3 → syn n e j = 0) : e a = 0 := by
  have pa := pos_lt n a hn ha
  have pb := pos_lt n b hn hb
  have pc := pos_lt n c hn hcc
  have hm := mds_at pa pb pc (fun h => hbc (pos_inj n b c hn h))
  obtain ⟨m, hmd⟩ : ∃ m, m = crs (pos n b) (pos n c) := ⟨_, rfl⟩
  have ml : ∀ j, m j < 256 := fun j => by rw [hmd]; exact crs_lt _ _ j pb
  have tl : ∀ j, (∀ i, Gf.mul (hc n j i) (e i) < 256) := fun j i => Gf.mul_lt _ _ (hc_lt n j i)
  have key : (Gf.mul (m 0) (syn n e 0) ^^^ Gf.mul (m 1) (syn n e 1)) ^^^ Gf.mul (m 2) (syn n e 2) = xs (fun i => Gf.mul ((Gf.mul (m 0) (hc n 0 i) ^^^ Gf.mul (m 1) (hc n 1 i)) ^^^ Gf.mul (m 2) (hc n 2 i)) (e i)) (n + 3) := by
    unfold syn
    rw [xs_mul _ _ (ml 0) (tl 0), xs_mul _ _ (ml 1) (tl 1), xs_mul _ _ (ml 2) (tl 2), ← xs_xor, ← xs_xor]
    refine xs_congr _ (fun i _ => ?_)
    have l0 := Gf.mul_lt (m 0) (hc n 0 i) (ml 0)
    have l1 := Gf.mul_lt (m 1) (hc n 1 i) (ml 1)
    have l2 := Gf.mul_lt (m 2) (hc n 2 i) (ml 2)
    rw [Gf.mul_xor_left _ _ _ (Gf.xor_lt l0 l1) l2, Gf.mul_xor_left _ _ _ l0 l1, Gf.mul_assoc _ _ _ (ml 0) (hc_lt n 0 i) (he i), Gf.mul_assoc _ _ _ (ml 1) (hc_lt n 1 i) (he i), Gf.mul_assoc _ _ _ (ml 2) (hc_lt n 2 i) (he i)]
  rw [hy 0 (by omega), hy 1 (by omega), hy 2 (by omega), Gf.mul_zero, Gf.mul_zero, Gf.mul_zero] at key
  have dot : ∀ i, i < n + 3 → (Gf.mul (m 0) (hc n 0 i) ^^^ Gf.mul (m 1) (hc n 1 i)) ^^^ Gf.mul (m 2) (hc n 2 i) = dotc (pos n b) (pos n c) (pos n i) := fun i hi => by
    rw [hmd, hc_tb n 0 i hn (by omega) hi, hc_tb n 1 i hn (by omega) hi, hc_tb n 2 i hn (by omega) hi]
    rfl
  rw [xs_one a (n + 3) ha (fun i hi hia => by
    show Gf.mul _ (e i) = 0
    by_cases e1 : i = b
    · rw [dot i hi, e1, hm.1, Gf.zero_mul]
    · by_cases e2 : i = c
      · rw [dot i hi, e2, hm.2.1, Gf.zero_mul]
      · rw [hs i hi hia e1 e2, Gf.mul_zero]), dot a ha] at key
  have hd := hm.2.2 (fun h => hab (pos_inj n a b hn h)) (fun h => hac (pos_inj n a c hn h))
  have dl : dotc (pos n b) (pos n c) (pos n a) < 256 := by
    rw [← dot a ha]
    exact Gf.xor_lt (Gf.xor_lt (Gf.mul_lt _ _ (ml 0)) (Gf.mul_lt _ _ (ml 1))) (Gf.mul_lt _ _ (ml 2))
  rcases Gf.mul_eq_zero dl (he a) key.symm with h | h
  · exact absurd h hd
  · exact h
/-- two others beside a among at least three, which hold u and v where these are not a -/
theorem two_others (N a u v : Nat) (hN : 3 ≤ N) (hu : u < N) (hv : v < N) : ∃ b c, b < N ∧ c < N ∧ a ≠ b ∧ a ≠ c ∧ b ≠ c ∧ (u = a ∨ u = b ∨ u = c) ∧ (v = a ∨ v = b ∨ v = c) := by
  have fill : ∀ x y : Nat, ∃ z, z < 3 ∧ z ≠ x ∧ z ≠ y := fun x y => by
    by_cases h0 : 0 ≠ x ∧ 0 ≠ y
    · exact ⟨0, by omega, h0⟩
    · by_cases h1 : 1 ≠ x ∧ 1 ≠ y
      · exact ⟨1, by omega, h1⟩
      · exact ⟨2, by omega, by omega⟩
  by_cases hua : u = a
  · by_cases hva : v = a
    · obtain ⟨z, z1, z2, _⟩ := fill a a
      obtain ⟨y, y1, y2, y3⟩ := fill a z
      exact ⟨z, y, by omega, by omega, by omega, by omega, by omega, .inl hua, .inl hva⟩
    · obtain ⟨y, y1, y2, y3⟩ := fill a v
      exact ⟨v, y, by omega, by omega, by omega, by omega, by omega, .inl hua, .inr (.inl rfl)⟩
  · by_cases hva : v = a ∨ v = u
    · obtain ⟨y, y1, y2, y3⟩ := fill a u
      exact ⟨u, y, by omega, by omega, by omega, by omega, by omega, .inr (.inl rfl), by omega⟩
    · exact ⟨u, v, by omega, by omega, by omega, by omega, by omega, .inr (.inl rfl), .inr (.inr rfl)⟩
theorem xor_zero_eq {x y : Nat} (h : x ^^^ y = 0) : x = y := by
  have h1 : x ^^^ (x ^^^ y) = x ^^^ 0 := by rw [h]
  rw [← Nat.xor_assoc, Nat.xor_self, Nat.zero_xor, Nat.xor_zero] at h1
  exact h1.symm
/-- a word that differs from a consistent group in at most three pieces -/
theorem dist_yes (F O : Nat → Nat) (n : Nat) (ks : List Nat) (hn : n ≤ 13) (hF : ∀ p, F p < 256) (hO : ∀ p, O p < 256) (hl : ks.length ≤ 3) (hk : ∀ k ∈ ks, k < n + 3)
    (hs : ∀ p, p < (n + 3) * 8 → p / 8 ∉ ks → O p = cat n F (par F n) p) :
    eqB 24 (par O n) (fun q => O (n * 8 + q)) = eqB ((n + 3) * 8) O (cat n F (par F n)) := by
  obtain ⟨G, hG⟩ : ∃ G, G = cat n F (par F n) := ⟨_, rfl⟩
  rw [← hG] at hs ⊢
  have hGl : ∀ p, G p < 256 := by rw [hG]; exact cat_lt hF (par_lt n)
  -- the group is consistent
  have gs : ∀ j k, j < 3 → k < 8 → sp G j n k = G ((n + j) * 8 + k) := fun j k hj hk8 => by
    have e1 : sp G j n k = sp F j n k := sp_congr j k n (fun p hp hm => by rw [hG, cat, if_pos (by omega)]) hk8
    rw [e1, hG, cat, if_neg (by omega), show (n + j) * 8 + k - n * 8 = j * 8 + k by omega, par, show (j * 8 + k) / 8 = j by omega, show (j * 8 + k) % 8 = k by omega]
  rw [Bool.eq_iff_iff, eqB_iff, eqB_iff]
  constructor
  · intro h p hp
    by_cases hin : p / 8 ∈ ks
    · -- the column
      have hk8 : p % 8 < 8 := Nat.mod_lt _ (by omega)
      have ha := hk _ hin
      obtain ⟨u, v, hu, hv, huv⟩ : ∃ u v, u < n + 3 ∧ v < n + 3 ∧ ∀ k ∈ ks, k = p / 8 ∨ k = u ∨ k = v := by
        match ks, hl, hin, hk with
        | [x], _, hin, _ => exact ⟨p / 8, p / 8, ha, ha, fun k hk => by simp at hk hin; omega⟩
        | [x, y], _, hin, hk =>
          simp only [List.mem_cons, List.not_mem_nil, or_false] at hin hk
          rcases hin with hin | hin
          · exact ⟨y, y, hk y (.inr rfl), hk y (.inr rfl), fun k hk => by simp at hk; omega⟩
          · exact ⟨x, x, hk x (.inl rfl), hk x (.inl rfl), fun k hk => by simp at hk; omega⟩
        | [x, y, z], _, hin, hk =>
          simp only [List.mem_cons, List.not_mem_nil, or_false] at hin hk
          rcases hin with hin | hin | hin
          · exact ⟨y, z, hk y (.inr (.inl rfl)), hk z (.inr (.inr rfl)), fun k hk => by simp at hk; omega⟩
          · exact ⟨x, z, hk x (.inl rfl), hk z (.inr (.inr rfl)), fun k hk => by simp at hk; omega⟩
          · exact ⟨x, y, hk x (.inl rfl), hk y (.inr (.inl rfl)), fun k hk => by simp at hk; omega⟩
      obtain ⟨b, c, hb, hcc, hab, hac, hbc, hub, hvb⟩ := two_others (n + 3) (p / 8) u v (by omega) hu hv
      have z := col_zero n hn (fun i => O (i * 8 + p % 8) ^^^ G (i * 8 + p % 8)) (fun i => Gf.xor_lt (hO _) (hGl _)) (p / 8) b c ha hb hcc hab hac hbc
        (fun i hi h1 h2 h3 => by
          show O (i * 8 + p % 8) ^^^ G (i * 8 + p % 8) = 0
          rw [hs (i * 8 + p % 8) (by omega) (fun hm => by
            rw [show (i * 8 + p % 8) / 8 = i by omega] at hm
            have := huv i hm
            omega), Nat.xor_self])
        (fun j hj => by
          rw [syn_xor n _ _ (fun i => hO _) (fun i => hGl _) j, syn_sp O hO n j (p % 8) hj, syn_sp G hGl n j (p % 8) hj, gs j _ hj hk8, Nat.xor_self, Nat.xor_zero]
          have h4 := h (j * 8 + p % 8) (by omega)
          rw [par, show (j * 8 + p % 8) / 8 = j by omega, show (j * 8 + p % 8) % 8 = p % 8 by omega, show n * 8 + (j * 8 + p % 8) = (n + j) * 8 + p % 8 by omega] at h4
          rw [h4, Nat.xor_self])
      have z : O (p / 8 * 8 + p % 8) ^^^ G (p / 8 * 8 + p % 8) = 0 := z
      rw [show p / 8 * 8 + p % 8 = p by omega] at z
      exact xor_zero_eq z
    · exact hs p hp hin
  · intro h p hp
    have e1 : par O n p = par G n p := sp_congr _ _ n (fun q hq _ => h q (by omega)) (Nat.mod_lt _ (by omega))
    rw [e1, par, gs (p / 8) (p % 8) (by omega) (Nat.mod_lt _ (by omega))]
    show G ((n + p / 8) * 8 + p % 8) = O (n * 8 + p)
    rw [h (n * 8 + p) (by omega), show (n + p / 8) * 8 + p % 8 = n * 8 + p by omega]
end Go.Proofs.Ytlimlmfgeaokhaa
