/- The law of the parity after a change of one piece, and the walk of the law ParityUpdates. -/
import Derived.Test.YtibhhonmcbbohaaPa20
namespace Go.Proofs.Ytibhhonmcbbohaa
open Go.RowKit

theorem update_bad (A : Option Addr) (n c : Nat) (i : Int) (o z : Nat → Nat) (w : World) (h : n ≠ 3 ∨ i < 0 ∨ 13 ≤ i) :
    Calls Try.prog 21 #[.slice A n c, .int .i64 i, .agg (brow 8 o), .agg (brow 8 z)] w fun e w' => e = .returned (.tuple #[.slice none 0 0, .int .i64 1]) ∧ Below w.heap.size w w' := by
  simp only [brow8]
  by_cases h3 : n = 3
  · subst h3
    rcases h with h | h | h
    · exact absurd rfl h
    all_goals (
      go_enter Try.func21, Try.ntmps21
      go_wp2_with fail
      go_ret2
      exact ⟨rfl, (Go.Joins.below_alloc1 w _).alloc (by simp) _⟩)
  · have hne : ((n : Int) != 3) = true := bne_iff_ne.mpr (by omega)
    clear h
    go_enter Try.func21, Try.ntmps21
    go_wp2_with fail
    go_ret2
    exact ⟨rfl, (Go.Joins.below_alloc1 w _).alloc (by simp) _⟩
/-- piece i becomes z -/
def putB (F : Nat → Nat) (i : Nat) (z : Nat → Nat) (p : Nat) : Nat := if p / 8 = i then z (p % 8) else F p
theorem putB_lt {F z : Nat → Nat} {i : Nat} (hF : ∀ p, F p < 256) (hz : ∀ p, z p < 256) (p : Nat) : putB F i z p < 256 := by
  unfold putB
  split
  · exact hz _
  · exact hF _
theorem sp_put_le (F z : Nat → Nat) (i j k : Nat) (hk : k < 8) (n : Nat) (h : n ≤ i) : sp (putB F i z) j n k = sp F j n k :=
  sp_congr j k n (fun p hp _ => by
    unfold putB
    by_cases e : p / 8 = i
    · exfalso
      omega
    · rw [if_neg e]) hk
theorem sp_put (F z : Nat → Nat) (hF : ∀ p, F p < 256) (hz : ∀ p, z p < 256) (i j k : Nat) (hk : k < 8) : ∀ n, i < n → sp (putB F i z) j n k = sp F j n k ^^^ Gf.mul (Gf.ex (i * j)) (F (i * 8 + k) ^^^ z k)
  | 0, h => by omega
  | n + 1, h => by
    rw [sp_ex, sp_ex F]
    by_cases e : i = n
    · subst e
      have e1 : putB F i z (i * 8 + k) = z k := by rw [putB, if_pos (by omega), show (i * 8 + k) % 8 = k by omega]
      rw [sp_put_le F z i j k hk i (Nat.le_refl _), e1, Gf.mul_xor_right _ _ _ (Gf.ex_lt _) (hF _) (hz _), Nat.mul_comm j i]
      generalize Gf.mul (Gf.ex (i * j)) (F (i * 8 + k)) = a
      generalize Gf.mul (Gf.ex (i * j)) (z k) = b
      rw [Nat.xor_assoc, ← Nat.xor_assoc a a b, Nat.xor_self, Nat.zero_xor]
    · have e1 : putB F i z (n * 8 + k) = F (n * 8 + k) := by rw [putB, if_neg (by omega)]
      rw [sp_put F z hF hz i j k hk n (by omega), e1, Nat.xor_assoc, Nat.xor_assoc, Nat.xor_comm (Gf.mul (Gf.ex (i * j)) _)]
theorem par_put (F z : Nat → Nat) (hF : ∀ p, F p < 256) (hz : ∀ p, z p < 256) (i n p : Nat) (hi : i < n) (hp : p < 24) : updS (par F n) (fun k => F (i * 8 + k) ^^^ z k) i 3 p = par (putB F i z) n p := by
  unfold updS
  rw [if_pos (by omega)]
  exact (sp_put F z hF hz i (p / 8) (p % 8) (Nat.mod_lt _ (by omega)) n hi).symm
theorem set8_cbfar {w : World} {g p g' n : Nat} {t : TypeId} {f h : Nat → Nat} (hr : CB w g' n t f) (hne : g ≠ g') : CB (set8 w g p h) g' n t f :=
  (((((((hr.far _ hne).far _ hne).far _ hne).far _ hne).far _ hne).far _ hne).far _ hne).far _ hne
theorem keepFrom {w w' : World} {g n a : Nat} {p : Nat → Nat} (h : ∀ o : Nat, o < n → w.cell? ⟨g, a + o, none⟩ = some (.int .u8 (p o : Nat))) (hB : Below w.heap.size w w') : ∀ o : Nat, o < n → w'.cell? ⟨g, a + o, none⟩ = some (.int .u8 (p o : Nat)) :=
  fun o ho => (hB.cell (World.block_lt_of_cell? w _ (h o ho))).trans (h o ho)
set_option maxRecDepth 100000 in
set_option maxHeartbeats 1000000 in
theorem lawUpdates_any (F z : Nat → Nat) (A : Option Addr) (n c : Nat) (a : Int) (w : World) (ha : -9223372036854775808 ≤ a) (ha' : a ≤ 9223372036854775807) (hF : ∀ j, F j < 256) (hz : ∀ j, z j < 256) (hA : A = none → c = 0) (hc : n ≤ c) (hI : Bks w A n F) :
    Calls Try.prog 9 #[.slice A n c, .int .i64 a, .agg (brow 8 z)] w fun e w' => e = .returned (.bool true) ∧ Below w.heap.size w w' := by
  simp only [brow8]
  by_cases h40 : n < 1 ∨ 13 < n
  · rcases h40 with h40 | h40
    all_goals (
      go_enter Try.func9, Try.ntmps9
      go_wp2_with (go_at_call 11; (with_reducible refine (awake_any _).mono ?_); rintro e w1 ⟨rfl, hB⟩)
      go_ret
      exact ⟨rfl, (Go.Joins.below_alloc1 w _).trans (hB.mono (by simp))⟩)
  have HI := Lib.hid hI
  have HA := Lib.hid hA
  have h1 : 1 ≤ n := by omega
  have h13 : n ≤ 13 := by omega
  clear hI hA h40
  go_enter Try.func9, Try.ntmps9
  go_wp2_with (go_at_call 11; (with_reducible refine (awake_any _).mono ?_); rintro e w1 ⟨rfl, hB⟩; have hz1 := RB.below ((RB.new (w := w) (n := 8) (t := 37) (f := z))) hB; have hb1 := (Go.Joins.below_alloc1 w (.cells (brow 8 z) 37)).trans (hB.mono (by simp)); have HZ1 := Lib.hid hz1; have HB1 := Lib.hid hb1; clear hB hb1 hz1)
  refine (ref_par F A n c w1 (by omega) hF (HI.out.below HB1.out)).mono ?_
  rintro e w2 ⟨rfl, hR2, hB2⟩
  have HB2 := Lib.hid (HB1.out.trans (hB2.mono HB1.out.size))
  have HZ2 := Lib.hid (HZ1.out.below hB2)
  have HR2 := Lib.hid hR2
  clear hR2 hB2 HB1 HZ1
  have hs12 := HR2.out.lt
  obtain ⟨z0, z1, z2, z3, z4, z5, z6, z7⟩ := cells8 HZ2.out
  have hw0 := HZ2.out.lt
  by_cases hbad : a < 0 ∨ n ≤ a
  · have hzero : ∀ j, (fun _ : Nat => (0 : Nat)) j < 256 := fun _ => Nat.zero_lt_succ _
    have hub := fun (A : Option Addr) (m k : Nat) (j : Int) W h => update_bad A m k j (fun _ => 0) z W h
    have hug := fun (g' cg' k : Nat) W h1 h2 h3 => update_any (par F n) (fun _ => 0) z g' 0 cg' k W (par_lt n) hzero hz h1 h2 h3
    simp only [brow8, Int.cast_ofNat_Int] at hub hug
    have HUB := Lib.hid hub
    have HUG := Lib.hid hug
    clear hub hug
    by_cases hc2 : a < 0 ∨ 13 ≤ a
    · rcases hc2 with hc2 | hc2
      · go_wp2_with (first
          | (at_builtin; refine app_bks rfl (.tmp 28) (.tmp 29) rfl w2.heap.size (.slice (some ⟨w2.heap.size, 0, none⟩) 0 0) 0 3 (fun _ => 0) (par F n) rfl (own_bks0 _ (Nat.le_refl _)) (some ⟨w1.heap.size, 0, none⟩) 3 rfl (fun h => by cases h) ((HR2.out.alloc _).bks (by omega)) (by omega) (by omega) (by simp) ?_; intro v1 w3 o1 g1; rw [cat_zero, Nat.zero_add] at o1; have HB3 := Lib.hid ((Go.Joins.below_alloc1 w2 _).grown g1 (by simp) (own_new (Nat.le_refl _))); obtain ⟨g, cg, rfl, hcg, hg, hC⟩ := CB.of_own o1 (by omega); have HC := Lib.hid hC; have zz := HZ2.out.below HB3.out; obtain ⟨z0, z1, z2, z3, z4, z5, z6, z7⟩ := cells8 zz; have HZ3 := Lib.hid zz; have HB13 := Lib.hid (HB2.out.trans (HB3.out.mono HB2.out.size)); clear o1 g1 hC zz)
          | (go_at_call 21; (with_reducible refine (HUB.out (some ⟨g, 0, none⟩) 3 cg a w3 (Or.inr (Or.inl hc2))).mono ?_); rintro e w4 ⟨rfl, hB4⟩; have zz := HZ3.out.below hB4; obtain ⟨z0, z1, z2, z3, z4, z5, z6, z7⟩ := cells8 zz; have HZ4 := Lib.hid zz; have HB4 := Lib.hid (HB13.out.trans (hB4.mono HB13.out.size)); clear zz hB4))
        all_goals
          have hK := Kp.refl w4; have hcg2 : (2 : Int) ≤ (cg : Int) := (by omega); have hcg3 : 2 ≤ cg := Nat.le_of_succ_le hcg
          have kz := fun (o : Nat) (ho : o < 8) => HZ4.out.cell o ho
          have hub2 : ∀ W, _ := fun W => HUB.out (some ⟨g, 0, none⟩) 2 cg 0 W (Or.inl (by omega))
          clear z0 z1 z2 z3 z4 z5 z6 z7
          have HV := Lib.hid hub2
          clear hub2
          go_region_held3 (fun w' => Kp w4 w' ∧ (∀ o : Nat, o < 8 → w'.cell? ⟨w.heap.size, o, none⟩ = some (.int .u8 (z o : Nat))))
            (first | (go_split_ands; exact ⟨by assumption, by assumption⟩) | (go_split_ands; exact ⟨Kp.next (by assumption) hB', keepAll (by assumption) hB'⟩))
            ((go_at_call 21; (with_reducible refine (HV.out _).mono ?_); rintro e w' ⟨rfl, hB'⟩))
          have hk : Kp w4 w' := by go_split_ands; assumption
          have HB5 := Lib.hid (HB4.out.trans (hk.below.mono HB4.out.size))
          go_wp2_with fail
          go_ret
          exact ⟨rfl, HB5.out⟩
      · have x1 : ¬ a < 0 := by omega
        have x2 : 12 < a := by omega
        have x3 : (n : Int) ≤ a := by omega
        go_wp2_with (first
          | (at_builtin; refine app_bks rfl (.tmp 28) (.tmp 29) rfl w2.heap.size (.slice (some ⟨w2.heap.size, 0, none⟩) 0 0) 0 3 (fun _ => 0) (par F n) rfl (own_bks0 _ (Nat.le_refl _)) (some ⟨w1.heap.size, 0, none⟩) 3 rfl (fun h => by cases h) ((HR2.out.alloc _).bks (by omega)) (by omega) (by omega) (by simp) ?_; intro v1 w3 o1 g1; rw [cat_zero, Nat.zero_add] at o1; have HB3 := Lib.hid ((Go.Joins.below_alloc1 w2 _).grown g1 (by simp) (own_new (Nat.le_refl _))); obtain ⟨g, cg, rfl, hcg, hg, hC⟩ := CB.of_own o1 (by omega); have HC := Lib.hid hC; have zz := HZ2.out.below HB3.out; obtain ⟨z0, z1, z2, z3, z4, z5, z6, z7⟩ := cells8 zz; have HZ3 := Lib.hid zz; have HB13 := Lib.hid (HB2.out.trans (HB3.out.mono HB2.out.size)); clear o1 g1 hC zz)
          | (go_at_call 21; (with_reducible refine (HUB.out (some ⟨g, 0, none⟩) 3 cg a w3 (Or.inr (Or.inr hc2))).mono ?_); rintro e w4 ⟨rfl, hB4⟩; have zz := HZ3.out.below hB4; obtain ⟨z0, z1, z2, z3, z4, z5, z6, z7⟩ := cells8 zz; have HZ4 := Lib.hid zz; have HB4 := Lib.hid (HB13.out.trans (hB4.mono HB13.out.size)); clear zz hB4))
        all_goals
          have hK := Kp.refl w4; have hcg2 : (2 : Int) ≤ (cg : Int) := (by omega); have hcg3 : 2 ≤ cg := Nat.le_of_succ_le hcg
          have kz := fun (o : Nat) (ho : o < 8) => HZ4.out.cell o ho
          have hub2 : ∀ W, _ := fun W => HUB.out (some ⟨g, 0, none⟩) 2 cg 0 W (Or.inl (by omega))
          clear z0 z1 z2 z3 z4 z5 z6 z7
          have HV := Lib.hid hub2
          clear hub2
          go_region_held3 (fun w' => Kp w4 w' ∧ (∀ o : Nat, o < 8 → w'.cell? ⟨w.heap.size, o, none⟩ = some (.int .u8 (z o : Nat))))
            (first | (go_split_ands; exact ⟨by assumption, by assumption⟩) | (go_split_ands; exact ⟨Kp.next (by assumption) hB', keepAll (by assumption) hB'⟩))
            ((go_at_call 21; (with_reducible refine (HV.out _).mono ?_); rintro e w' ⟨rfl, hB'⟩))
          have hk : Kp w4 w' := by go_split_ands; assumption
          have HB5 := Lib.hid (HB4.out.trans (hk.below.mono HB4.out.size))
          go_wp2_with fail
          go_ret
          exact ⟨rfl, HB5.out⟩
    · obtain ⟨i, rfl⟩ : ∃ i : Nat, a = i := ⟨a.toNat, by omega⟩
      have hi13 : i < 13 := by omega
      have x1 : ¬ (i : Int) < 0 := by omega
      have x2 : ¬ 12 < (i : Int) := by omega
      have x3 : (n : Int) ≤ i := by omega
      go_wp2_with (first
          | (at_builtin; refine app_bks rfl (.tmp 28) (.tmp 29) rfl w2.heap.size (.slice (some ⟨w2.heap.size, 0, none⟩) 0 0) 0 3 (fun _ => 0) (par F n) rfl (own_bks0 _ (Nat.le_refl _)) (some ⟨w1.heap.size, 0, none⟩) 3 rfl (fun h => by cases h) ((HR2.out.alloc _).bks (by omega)) (by omega) (by omega) (by simp) ?_; intro v1 w3 o1 g1; rw [cat_zero, Nat.zero_add] at o1; have HB3 := Lib.hid ((Go.Joins.below_alloc1 w2 _).grown g1 (by simp) (own_new (Nat.le_refl _))); obtain ⟨g, cg, rfl, hcg, hg, hC⟩ := CB.of_own o1 (by omega); have HC := Lib.hid hC; have zz := HZ2.out.below HB3.out; obtain ⟨z0, z1, z2, z3, z4, z5, z6, z7⟩ := cells8 zz; have HZ3 := Lib.hid zz; have HB13 := Lib.hid (HB2.out.trans (HB3.out.mono HB2.out.size)); clear o1 g1 hC zz)
          | (go_at_call 21; (with_reducible refine (HUG.out g cg i w3 hi13 hcg (HC.out.bks (by omega))).mono ?_); rintro e w4 ⟨g', cg', rfl, _, _, _, hB4⟩; have zz := HZ3.out.below hB4; obtain ⟨z0, z1, z2, z3, z4, z5, z6, z7⟩ := cells8 zz; have HZ4 := Lib.hid zz; have HB4 := Lib.hid (HB13.out.trans (hB4.mono HB13.out.size)); clear zz hB4))
      all_goals
        have hK := Kp.refl w4; have hcg2 : (2 : Int) ≤ (cg : Int) := (by omega); have hcg3 : 2 ≤ cg := Nat.le_of_succ_le hcg
        have kz := fun (o : Nat) (ho : o < 8) => HZ4.out.cell o ho
        have hub2 : ∀ W, _ := fun W => HUB.out (some ⟨g, 0, none⟩) 2 cg 0 W (Or.inl (by omega))
        clear z0 z1 z2 z3 z4 z5 z6 z7
        have HV := Lib.hid hub2
        clear hub2
        go_region_held3 (fun w' => Kp w4 w' ∧ (∀ o : Nat, o < 8 → w'.cell? ⟨w.heap.size, o, none⟩ = some (.int .u8 (z o : Nat))))
          (first | (go_split_ands; exact ⟨by assumption, by assumption⟩) | (go_split_ands; exact ⟨Kp.next (by assumption) hB', keepAll (by assumption) hB'⟩))
          ((go_at_call 21; (with_reducible refine (HV.out _).mono ?_); rintro e w' ⟨rfl, hB'⟩))
        have hk : Kp w4 w' := by go_split_ands; assumption
        have HB5 := Lib.hid (HB4.out.trans (hk.below.mono HB4.out.size))
        go_wp2_with fail
        go_ret
        exact ⟨rfl, HB5.out⟩
  · obtain ⟨i, rfl⟩ : ∃ i : Nat, a = i := ⟨a.toNat, by omega⟩
    have hin : i < n := by omega
    have ha0 : ¬ (i : Int) < 0 := by omega
    have han : ¬ (n : Int) ≤ i := by omega
    clear hbad
    obtain ⟨b, off, rfl, hcs⟩ := HI.out.below HB2.out (by omega)
    obtain ⟨y0, y1, y2, y3, y4, y5, y6, y7⟩ := cellsAt hcs hin
    clear hcs
    go_wp2_with (at_builtin; refine app_bks rfl (.tmp 28) (.tmp 29) rfl w2.heap.size (.slice (some ⟨w2.heap.size, 0, none⟩) 0 0) 0 3 (fun _ => 0) (par F n) rfl (own_bks0 _ (Nat.le_refl _)) (some ⟨w1.heap.size, 0, none⟩) 3 rfl (fun h => by cases h) ((HR2.out.alloc _).bks (by omega)) (by omega) (by omega) (by simp) ?_; intro v1 w3 o1 g1; rw [cat_zero, Nat.zero_add] at o1; have HB3 := Lib.hid ((Go.Joins.below_alloc1 w2 _).grown g1 (by simp) (own_new (Nat.le_refl _))); have HO := Lib.hid o1; clear o1 g1)
    obtain ⟨g, cg, rfl, hcg, hg, hC⟩ := CB.of_own HO.out (by omega)
    have HC3 := Lib.hid hC
    have HB13 := Lib.hid (HB2.out.trans (HB3.out.mono HB2.out.size))
    have HZ3 := HZ2.out.below HB3.out
    have HR3 := Lib.hid (HR2.out.below HB3.out)
    have HI3 := Lib.hid (HI.out.below HB13.out)
    have hK := Kp.refl w3
    have kz : ∀ o : Nat, o < 8 → w3.cell? ⟨w.heap.size, o, none⟩ = some (.int .u8 (z o : Nat)) := fun o ho => HZ3.cell o ho
    have ky : w3.cell? ⟨b, off + i * 8, none⟩ = some (.int .u8 (F (i * 8) : Nat)) ∧ ∀ o : Nat, o < 8 → w3.cell? ⟨b, off + i * 8 + o, none⟩ = some (.int .u8 (F (i * 8 + o) : Nat)) := by
      obtain ⟨b', off', e, hcs⟩ := HI3.out (by omega)
      cases e
      refine ⟨hcs _ (by omega), fun o ho => ?_⟩
      rw [Nat.add_assoc]
      exact hcs _ (by omega)
    obtain ⟨ky0, ky1⟩ := ky
    have hu := fun W h => update_any (par F n) (fun k => F (i * 8 + k)) z g 0 cg i W (par_lt n) (fun k => hF _) hz (by omega) hcg h
    have hu' : ∀ W, Kp w3 W → _ := fun W hk => hu W ((HC3.out.below hk.below).bks (by omega))
    simp only [brow8, Nat.add_zero] at hu'
    have HU := Lib.hid hu'
    clear HO hC hu hu' z0 z1 z2 z3 z4 z5 z6 z7 y0 y1 y2 y3 y4 y5 y6 y7 HZ3 HI HR2 HZ2 HB3 HB2
    go_region_held3 (fun w' => Kp w3 w' ∧ (∀ o : Nat, o < 8 → w'.cell? ⟨w.heap.size, o, none⟩ = some (.int .u8 (z o : Nat))) ∧ w'.cell? ⟨b, off + i * 8, none⟩ = some (.int .u8 (F (i * 8) : Nat)) ∧ (∀ o : Nat, o < 8 → w'.cell? ⟨b, off + i * 8 + o, none⟩ = some (.int .u8 (F (i * 8 + o) : Nat))))
      (first | (go_split_ands; exact ⟨by assumption, by assumption, by assumption, by assumption⟩) | (go_split_ands; exact ⟨Kp.next (by assumption) hB', keepAll (by assumption) hB', keepc (by assumption) hB', keepFrom (by assumption) hB'⟩))
      ((go_at_call 21; go_split_ands; (with_reducible refine (HU.out _ (by assumption)).mono ?_); rintro e w' ⟨g', cg', rfl, hcg', hg', hC', hB'⟩))
    have hk : Kp w3 w' := by go_split_ands; assumption
    have HC4 := Lib.hid (HC3.out.below hk.below)
    have HR4 := Lib.hid (HR3.out.below hk.below)
    have HI4 := Lib.hid (HI3.out.below hk.below)
    have HX4 := Lib.hid (hC'.congr (fun p hp => par_put F z hF hz i n p hin hp))
    have HB4 := Lib.hid (HB13.out.trans (hk.below.mono HB13.out.size))
    have kz4 : ∀ o : Nat, o < 8 → w'.cell? ⟨w.heap.size, o, none⟩ = some (.int .u8 (z o : Nat)) := by go_split_ands; assumption
    clear hK kz ky0 ky1 HU hC' hB' hcg' HC3 HR3 HI3 HB13 hg hg'
    rename_i hx1 hx2 hx3
    clear hx1 hx2 hx3
    go_wp2_with (at_builtin; refine app_bks rfl (.tmp 91) (.tmp 92) rfl w'.heap.size (.slice (some ⟨w'.heap.size, 0, none⟩) 0 0) 0 n (fun _ => 0) F rfl (own_bks0 _ (Nat.le_refl _)) (some ⟨b, off, none⟩) c rfl (fun h => by cases h) (HI4.out.below (Go.Joins.below_alloc1 _ _)) (by omega) (by omega) (by simp) ?_; intro v2 w5 o2 g2; rw [cat_zero, Nat.zero_add] at o2; have hB5 := ((Go.Joins.below_alloc1 w' _).grown g2 (by simp) (own_new (Nat.le_refl _))); obtain ⟨ga, ca, rfl, hca, hga, hCa⟩ := CB.of_own o2 (by omega); have f0 := hCa.frozen; have d0 := hCa.cell (i * 8) (by omega); have d1 := hCa.cell (i * 8 + 1) (by omega); have d2 := hCa.cell (i * 8 + 2) (by omega); have d3 := hCa.cell (i * 8 + 3) (by omega); have d4 := hCa.cell (i * 8 + 4) (by omega); have d5 := hCa.cell (i * 8 + 5) (by omega); have d6 := hCa.cell (i * 8 + 6) (by omega); have d7 := hCa.cell (i * 8 + 7) (by omega); have kz5 := keepAll kz4 hB5; have e0 := kz5 0 (by omega); have e1 := kz5 1 (by omega); have e2 := kz5 2 (by omega); have e3 := kz5 3 (by omega); have e4 := kz5 4 (by omega); have e5 := kz5 5 (by omega); have e6 := kz5 6 (by omega); have e7 := kz5 7 (by omega); have HCA := Lib.hid hCa; have HB5 := Lib.hid (HB4.out.trans (hB5.mono HB4.out.size)); have HC5 := Lib.hid (HC4.out.below hB5); have HR5 := Lib.hid (HR4.out.below hB5); have HX5 := Lib.hid (HX4.out.below hB5); have hl1 := HC4.out.lt; have hl2 := HR4.out.lt; have hl3 := HX4.out.lt; have hl4 := HB4.out.size; clear o2 g2 hB5 hCa kz4 kz5)
    obtain ⟨w6, hw6⟩ : ∃ w6, w6 = set8 w5 ga (i * 8) z := ⟨_, rfl⟩
    have HC6 := Lib.hid (show CB w6 g (3 * 8) 37 (par F n) by rw [hw6]; exact set8_cbfar HC5.out (by omega))
    have HR6 := Lib.hid (show RB w6 w1.heap.size 24 37 (par F n) by rw [hw6]; exact set8_far HR5.out (by omega))
    have HX6 := Lib.hid (show CB w6 g' 24 37 (par (putB F i z) n) by rw [hw6]; exact set8_cbfar HX5.out (by omega))
    have HA6 := Lib.hid (show CB w6 ga (n * 8) 37 (putB F i z) by rw [hw6]; exact set8_cb HCA.out)
    have HB6 := Lib.hid (show Below w.heap.size w w6 by rw [hw6]; exact set8_below HB5.out (by omega))
    rw [set8] at hw6
    rw [← hw6]
    clear hw6 HCA HB5 HC5 HR5 HX5 f0 d0 d1 d2 d3 d4 d5 d6 d7 e0 e1 e2 e3 e4 e5 e6 e7
    refine (rsame_any (par F n) (par F n) _ _ 3 cg 3 w6 (by omega) (par_lt n) (par_lt n) (HC6.out.bks (by omega)) (HR6.out.bks (by omega))).mono ?_
    rw [eqB_yes (fun _ _ => rfl)]
    rintro e w7 ⟨rfl, hB7⟩
    have HB7 := Lib.hid (HB6.out.trans (hB7.mono HB6.out.size))
    have HX7 := Lib.hid (HX6.out.below hB7)
    have HA7 := Lib.hid (HA6.out.below hB7)
    clear HC6 HR6 HX6 HA6 HB6 hB7
    have hpl : ∀ p, putB F i z p < 256 := putB_lt hF hz
    go_wp2_with (first
      | (go_at_call 16; (with_reducible refine (ref_par (putB F i z) (some ⟨ga, 0, none⟩) n ca w7 (by omega) hpl (HA7.out.bks (by omega))).mono ?_); rintro e w8 ⟨rfl, hR8, hB8⟩; have HB8 := Lib.hid (HB7.out.trans (hB8.mono HB7.out.size)); have HQ8 := Lib.hid hR8; have HX8 := Lib.hid (HX7.out.below hB8); clear hB8 hR8)
      | (go_at_call 15; (with_reducible refine (rsame_any (par (putB F i z) n) (par (putB F i z) n) _ _ 3 cg' 3 w8 (by omega) (par_lt n) (par_lt n) (HX8.out.bks (by omega)) (HQ8.out.bks (by omega))).mono ?_); rw [eqB_yes (fun _ _ => rfl)]; rintro e w9 ⟨rfl, hB9⟩; have HB9 := Lib.hid (HB8.out.trans (hB9.mono HB8.out.size)); clear hB9))
    go_ret
    exact ⟨rfl, HB9.out⟩
end Go.Proofs.Ytibhhonmcbbohaa
