/- The walk of the law ParityShifted. -/
import Derived.Test.YtibhhonmcbbohaaPa18
import Derived.Deep.RegionHeld3
namespace Go.Proofs.Ytibhhonmcbbohaa
open Go.RowKit

theorem sp_ex (F : Nat → Nat) (j i k : Nat) : sp F j (i + 1) k = sp F j i k ^^^ Gf.mul (Gf.ex (j * i)) (F (i * 8 + k)) := by rw [sp, npow_2_2]
theorem sp_shift (F : Nat → Nat) (j : Nat) (hF : ∀ p, F p < 256) (k : Nat) (hk : k < 8) : ∀ i, sp (cat 1 (fun _ => 0) F) j (i + 1) k = Gf.mul (Gf.ex j) (sp F j i k)
  | 0 => by
    rw [sp_ex, cat, if_pos (by omega)]
    simp [sp, Gf.mul_zero]
  | i + 1 => by
    rw [sp_ex, sp_shift F j hF k hk i, sp_ex F, Gf.mul_xor_right _ _ _ (Gf.ex_lt _) (sp_lt _ _ _) (Gf.mul_lt _ _ (Gf.ex_lt _)), ← Gf.mul_assoc _ _ _ (Gf.ex_lt _) (Gf.ex_lt _) (hF _), Gf.ex_mul, cat, if_neg (by omega),
      show j + j * i = j * (i + 1) by rw [Nat.mul_add]; omega, show (i + 1) * 8 + k - 1 * 8 = i * 8 + k by omega]
theorem sp_congr {F G : Nat → Nat} (j k : Nat) : ∀ i, (∀ p, p < i * 8 + k → p % 8 = k % 8 → F p = G p) → k < 8 → sp F j i k = sp G j i k
  | 0, _, _ => rfl
  | i + 1, h, hk => by
    rw [sp_ex, sp_ex, sp_congr j k i (fun p hp hm => h p (by omega) hm) hk, h (i * 8 + k) (by omega) (by omega)]
theorem sp_last (F : Nat → Nat) (j n k : Nat) (hk : k < 8) : sp (cat n F fun _ => 0) j (n + 1) k = sp F j n k := by
  rw [sp_ex, cat, if_neg (by omega), Gf.mul_zero, Nat.xor_zero]
  refine sp_congr j k n (fun p hp hm => ?_) hk
  rw [cat, if_pos]
  omega
theorem par_last (F : Nat → Nat) (n p : Nat) : par (cat n F fun _ => 0) (n + 1) p = par F n p := sp_last F _ n _ (Nat.mod_lt _ (by omega))
theorem par_shift (F : Nat → Nat) (n p : Nat) (hF : ∀ p, F p < 256) : par (cat 1 (fun _ => 0) F) (n + 1) p = Gf.mul (Gf.ex (p / 8)) (par F n p) := sp_shift F _ hF _ (Nat.mod_lt _ (by omega)) n
theorem own_bks1 {w : World} {base : Nat} (h : base ≤ w.heap.size) : (w.alloc (.cells (brow 8 fun _ => 0) 37)).ownsRow base 37 8 (.slice (some ⟨w.heap.size, 0, none⟩) 1 1) 1 (bkl (fun _ => 0) 1) :=
  World.ownsRow_lit w (brow 8 fun _ => 0) 1 h (by unfold maxLen; omega) rfl
theorem own_new' {w : World} {base n c : Nat} (h : base ≤ w.heap.size) : ∀ k, (Value.slice (some ⟨w.heap.size, 0, none⟩) n c).ownBlock = some k → base ≤ k := by
  intro k hk
  simp only [Value.ownBlock, Option.some.injEq] at hk
  omega
/-- Below, as a conjunction: a draw leaves it as it is -/
def Kp (w0 w : World) : Prop := w.os = w0.os ∧ w.tape = w0.tape ∧ w.output = w0.output ∧ w0.heap.size ≤ w.heap.size ∧ ∀ k, k < w0.heap.size → w.heap[k]? = w0.heap[k]?
theorem Kp.below {w0 w : World} (h : Kp w0 w) : Below w0.heap.size w0 w := ⟨h.1, h.2.1, h.2.2.1, h.2.2.2.1, h.2.2.2.2⟩
theorem Kp.next {w0 w w' : World} (h : Kp w0 w) (hB : Below w.heap.size w w') : Kp w0 w' :=
  ⟨hB.os.trans h.1, hB.tape.trans h.2.1, hB.output.trans h.2.2.1, Nat.le_trans h.2.2.2.1 hB.size, fun k hk => (hB.block k (Nat.lt_of_lt_of_le hk h.2.2.2.1)).trans (h.2.2.2.2 k hk)⟩
theorem Kp.refl (w : World) : Kp w w := ⟨rfl, rfl, rfl, Nat.le_refl _, fun _ _ => rfl⟩
/-- the cells of a block of n bytes -/
theorem keepAll {w w' : World} {g n : Nat} {p : Nat → Nat} (h : ∀ o : Nat, o < n → w.cell? ⟨g, o, none⟩ = some (.int .u8 (p o : Nat))) (hB : Below w.heap.size w w') : ∀ o : Nat, o < n → w'.cell? ⟨g, o, none⟩ = some (.int .u8 (p o : Nat)) :=
  fun o ho => (hB.cell (World.block_lt_of_cell? w _ (h o ho))).trans (h o ho)
theorem run_eqlB (f g : Nat → Nat) (hf : ∀ j, f j < 256) (hg : ∀ j, g j < 256) (W : World) :
    (binOp .eql 37 (.agg (brow 8 f)) (.agg (brow 8 g))).run Try.prog W = .ok (.bool (eqB 8 f g)) W := by
  rw [run_eql_struct, run_eqB f g hf hg]; rfl
set_option maxRecDepth 100000 in
set_option maxHeartbeats 1000000 in
theorem lawShifted_any (F : Nat → Nat) (A : Option Addr) (n c : Nat) (w : World) (hF : ∀ j, F j < 256) (hc : n ≤ c) (hI : Bks w A n F) :
    Calls Try.prog 8 #[.slice A n c] w fun e w' => e = .returned (.bool true) ∧ Below w.heap.size w w' := by
  by_cases h40 : n < 1 ∨ 12 < n
  · rcases h40 with h40 | h40
    all_goals (
      go_enter Try.func8, Try.ntmps8
      go_wp2_with (go_at_call 11; (with_reducible refine (awake_any _).mono ?_); rintro e w1 ⟨rfl, hB⟩)
      go_ret
      exact ⟨rfl, hB⟩)
  obtain ⟨b, off, rfl, hcs⟩ := hI (by omega)
  have HI := Lib.hid hI
  have HC := Lib.hid hcs
  have h1 : 1 ≤ n := by omega
  have h12 : n ≤ 12 := by omega
  clear hI hcs h40
  go_enter Try.func8, Try.ntmps8
  go_wp2_with (first
    | (go_at_call 11; (with_reducible refine (awake_any _).mono ?_); rintro e w1 ⟨rfl, hB⟩)
    | (go_at_call 14; (with_reducible refine (encode_par F b off n c w1 h1 (by omega) hF (fun j hj => (hB.cell (World.block_lt_of_cell? w _ (HC.out j hj))).trans (HC.out j hj))).mono ?_); rintro e w2 ⟨rfl, hR2, hB2⟩; have HP2 := Lib.hid hR2; have HB2 := Lib.hid (hB.trans (hB2.mono hB.size)); clear hB2 hR2 hB)
    | (at_builtin; refine app_bks rfl (.tmp 26) (.tmp 27) rfl w.heap.size (.slice (some ⟨w2.heap.size, 0, none⟩) 1 1) 1 n (fun _ => 0) F rfl (own_bks1 HB2.out.size) (some ⟨b, off, none⟩) c rfl (fun h => by cases h) (HI.out.below (HB2.out.alloc HB2.out.size _)) (by omega) hc (by have := HB2.out.size; simp; omega) ?_; intro v1 w3 o1 g1; have HB3 := Lib.hid ((HB2.out.alloc HB2.out.size _).grown g1 (by have := HB2.out.size; simp; omega) (own_new' HB2.out.size)); have HP3 := Lib.hid (rb_grown (HP2.out.alloc _) g1 (by have := HP2.out.lt; simp [Value.ownBlock]; omega)); have HO := Lib.hid o1; clear o1 g1))
  obtain ⟨g1, c1, rfl, hc1, hg1, hcs1, _⟩ := RB.of_own HO.out (by omega)
  have HE := Lib.hid (encode_par (cat 1 (fun _ => 0) F) g1 0 (1 + n) c1 w3 (by omega) (by omega) (cat_lt (fun _ => by decide +revert) hF) hcs1)
  clear HO hcs1
  with_reducible refine HE.out.mono ?_
  rintro e w4 ⟨rfl, hR4, hB4⟩
  have HB4 := Lib.hid (HB3.out.trans (hB4.mono HB3.out.size))
  have HP4 := Lib.hid (HP3.out.below hB4)
  have HQ4 := Lib.hid (hR4.congr fun p _ => show par _ (1 + n) p = par (cat 1 (fun _ => 0) F) (n + 1) p by rw [Nat.add_comm])
  clear HE hR4 hB4 HP3 HB3 HP2 HB2
  go_wp2_with (first
    | (at_builtin; refine app_bks rfl (.tmp 33) (.tmp 34) rfl w4.heap.size (.slice (some ⟨w4.heap.size, 0, none⟩) 0 0) 0 n (fun _ => 0) F rfl (own_bks0 _ (Nat.le_refl _)) (some ⟨b, off, none⟩) c rfl (fun h => by cases h) (HI.out.below (HB4.out.alloc HB4.out.size _)) (by omega) hc (by simp) ?_; intro v2 w5 o2 g2; rw [cat_zero, Nat.zero_add] at o2; have HB5 := Lib.hid ((Go.Joins.below_alloc1 w4 _).grown g2 (by simp) (own_new (Nat.le_refl _))); have HO := Lib.hid o2; clear o2 g2)
    | (at_builtin; refine app_bks rfl (.tmp 35) (.tmp 37) rfl w4.heap.size v2 n 1 F (fun _ => 0) rfl (HO.out.alloc _) (some ⟨w5.heap.size, 0, none⟩) 1 rfl (fun h => by cases h) ((RB.lit (n := 8) (by kernel_rfl)).bks (by omega)) (by omega) (by omega) (by have := HB5.out.size; simp; omega) ?_; intro v3 w6 o3 g3; have HB6 := Lib.hid ((HB5.out.alloc HB5.out.size _).grown g3 (by have := HB5.out.size; simp; omega) (fun k hk => (HO.out.lt k hk).1)); have HO3 := Lib.hid o3; clear o3 g3))
  obtain ⟨g2, c2, rfl, hc2, hg2, hcs2, _⟩ := RB.of_own HO3.out (by omega)
  have HE := Lib.hid (encode_par (cat n F (fun _ => 0)) g2 0 (n + 1) c2 w6 (by omega) (by omega) (cat_lt hF (fun _ => by decide +revert)) hcs2)
  clear HO3 hcs2 HO
  with_reducible refine HE.out.mono ?_
  rintro e w7 ⟨rfl, hR7, hB7⟩
  have hB := HB6.out.trans (hB7.mono HB6.out.size)
  have HB7 := Lib.hid (HB4.out.trans (hB.mono HB4.out.size))
  have HP7 := Lib.hid (HP4.out.below hB)
  have HQ7 := Lib.hid ((HQ4.out.below hB).congr fun p _ => par_shift F n p hF)
  have HR7 := Lib.hid (hR7.congr fun p _ => par_last F n p)
  clear HE hR7 hB7 hB HP4 HQ4 HB4 HB5 HB6 
  obtain ⟨p, hp⟩ : ∃ p, p = par F n := ⟨_, rfl⟩
  obtain ⟨q, hq⟩ : ∃ q : Nat → Nat, q = fun o => Gf.mul (Gf.ex (o / 8)) (par F n o) := ⟨_, rfl⟩
  rw [← hp] at HP7 HR7
  rw [← hq] at HQ7
  have hpl : ∀ j, p j < 256 := by rw [hp]; exact par_lt n
  have q0 : ∀ k, k < 8 → q k = p k := fun k hk => by rw [hq, hp]; show Gf.mul (Gf.ex (k / 8)) _ = _; rw [show k / 8 = 0 by omega]; exact Gf.one_mul _ (par_lt n _)
  have q1 : ∀ k, k < 8 → q (8 + k) = Gf.mul 2 (p (8 + k)) := fun k hk => by rw [hq, hp]; show Gf.mul (Gf.ex ((8 + k) / 8)) _ = _; rw [show (8 + k) / 8 = 1 by omega]; rfl
  have q2 : ∀ k, k < 8 → q (16 + k) = Gf.mul 4 (p (16 + k)) := fun k hk => by rw [hq, hp]; show Gf.mul (Gf.ex ((16 + k) / 8)) _ = _; rw [show (16 + k) / 8 = 2 by omega]; rfl
  have e0 := run_eqlB q p (fun j => by rw [hq]; exact Gf.mul_lt _ _ (Gf.ex_lt _)) hpl
  rw [eqB_yes q0] at e0
  have e1 := run_eqlB (fun k => q (8 + k)) (fun k => q (8 + k)) (fun j => by rw [hq]; exact Gf.mul_lt _ _ (Gf.ex_lt _)) (fun j => by rw [hq]; exact Gf.mul_lt _ _ (Gf.ex_lt _))
  have e2 := run_eqlB (fun k => q (16 + k)) (fun k => q (16 + k)) (fun j => by rw [hq]; exact Gf.mul_lt _ _ (Gf.ex_lt _)) (fun j => by rw [hq]; exact Gf.mul_lt _ _ (Gf.ex_lt _))
  rw [eqB_yes (fun _ _ => rfl)] at e1 e2
  have s1 := fun W => rscale_any (fun k => p (8 + k)) 2 W (by omega) (fun k => hpl _)
  have s2 := fun W => rscale_any (fun k => p (16 + k)) 4 W (by omega) (fun k => hpl _)
  rw [brow_congr (fun k hk => (q1 k hk).symm)] at s1
  rw [brow_congr (fun k hk => (q2 k hk).symm)] at s2
  simp only [brow8, Nat.reduceAdd, Int.cast_ofNat_Int] at e0 e1 e2 s1 s2
  have S1 := Lib.hid s1
  have S2 := Lib.hid s2
  have S3 := Lib.hid (fun (W : World) (hk : Kp w7 W) => rsame_any p p (some ⟨w6.heap.size, 0, none⟩) (some ⟨w1.heap.size, 0, none⟩) 3 3 3 W (by omega) hpl hpl ((HR7.out.below hk.below).bks (by omega)) ((HP7.out.below hk.below).bks (by omega)))
  rw [eqB_yes (fun _ _ => rfl)] at S3
  have hP := fun (o : Nat) (ho : o < 24) => HP7.out.cell o ho
  have hQ := fun (o : Nat) (ho : o < 24) => HQ7.out.cell o ho
  have hK := Kp.refl w7
  clear q0 q1 q2 s1 s2 HP7 HQ7 HR7 hp hq hpl
  go_wp2_with fail
  go_region_held3 (fun w' => Kp w7 w' ∧ (∀ o : Nat, o < 24 → w'.cell? ⟨w1.heap.size, o, none⟩ = some (.int .u8 (p o : Nat))) ∧ (∀ o : Nat, o < 24 → w'.cell? ⟨w3.heap.size, o, none⟩ = some (.int .u8 (q o : Nat))))
    (first | (go_split_ands; exact ⟨by assumption, by assumption, by assumption⟩) | (go_split_ands; exact ⟨Kp.next (by assumption) hB', keepAll (by assumption) hB', keepAll (by assumption) hB'⟩))
    (first
      | (go_at_call 20; (with_reducible refine (S1.out _).mono ?_); rintro e w' ⟨rfl, hB'⟩)
      | (go_at_call 20; (with_reducible refine (S2.out _).mono ?_); rintro e w' ⟨rfl, hB'⟩)
      | (go_at_call 15; go_split_ands; (with_reducible refine (S3.out _ (by assumption)).mono ?_); rintro e w' ⟨rfl, hB'⟩))
  go_split_ands
  go_wp2_with fail
  go_ret
  exact ⟨rfl, HB7.out.trans ((Kp.below (by assumption)).mono HB7.out.size)⟩
end Go.Proofs.Ytibhhonmcbbohaa
