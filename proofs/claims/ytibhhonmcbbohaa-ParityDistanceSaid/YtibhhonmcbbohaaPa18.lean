/- The walks of the reference's Group and Check and of the law ParityChecks. -/
import Derived.Test.YtibhhonmcbbohaaPa17
namespace Go.Proofs.Ytibhhonmcbbohaa
open Go.RowKit

set_option maxRecDepth 100000 in
set_option maxHeartbeats 1000000 in
theorem group_any (F : Nat → Nat) (b off n c : Nat) (w : World) (hF : ∀ j, F j < 256) (h1 : 1 ≤ n) (h2 : n ≤ 40) (hc : n ≤ c) (hI : Bks w (some ⟨b, off, none⟩) n F) :
    Calls Try.prog 28 #[.slice (some ⟨b, off, none⟩) n c] w fun e w' => ∃ v, e = .returned v ∧ w'.ownsRow w.heap.size 37 8 v (n + 3) (bkl (cat n F (par F n)) (n + 3)) ∧ Below w.heap.size w w' := by
  have HI := Lib.hid hI
  clear hI
  go_enter Try.func28, Try.ntmps28
  go_wp2_with (first
    | (at_builtin; refine app_bks rfl (.tmp 3) (.tmp 4) rfl w.heap.size (.slice (some ⟨w.heap.size, 0, none⟩) 0 0) 0 n (fun _ => 0) F rfl (own_bks0 _ (Nat.le_refl _)) (some ⟨b, off, none⟩) c rfl (fun h => by cases h) (HI.out.below (Go.Joins.below_alloc1 _ _)) (by omega) hc (by simp) ?_; intro v1 w2 o1 g1; rw [cat_zero, Nat.zero_add] at o1; have HB2 := Lib.hid ((Go.Joins.below_alloc1 w _).grown g1 (by simp) (own_new (Nat.le_refl _))); have HO := Lib.hid o1; clear o1 g1)
    | (go_at_call 16; (with_reducible refine (ref_par F (some ⟨b, off, none⟩) n c w2 h2 hF (HI.out.below HB2.out)).mono ?_); rintro e w3 ⟨rfl, hR3, hB3⟩; have HB3 := Lib.hid (HB2.out.trans (hB3.mono HB2.out.size)); have HO3 := Lib.hid (own_below HO.out hB3); have HR3 := Lib.hid hR3; clear hR3 hB3 HO)
    | (at_builtin; refine app_bks rfl (.tmp 5) (.tmp 7) rfl w.heap.size v1 n 3 F (par F n) rfl HO3.out (some ⟨w2.heap.size, 0, none⟩) 3 rfl (fun h => by cases h) (HR3.out.bks (by omega)) (by omega) (by omega) HB3.out.size ?_; intro v2 w4 o2 g2; have HB4 := Lib.hid (HB3.out.grown g2 HB3.out.size (fun k hk => (HO3.out.lt k hk).1)); have HO4 := Lib.hid o2; clear o2 g2))
  go_ret
  exact ⟨v2, rfl, HO4.out, HB4.out⟩
theorem eqB_congr {n : Nat} {f f' g g' : Nat → Nat} (hf : ∀ j, j < n → f j = f' j) (hg : ∀ j, j < n → g j = g' j) : eqB n f g = eqB n f' g' := by
  rw [Bool.eq_iff_iff, eqB_iff, eqB_iff]
  exact forall_congr' fun p => forall_congr' fun hp => by rw [hf p hp, hg p hp]
theorem eqB_symm (n : Nat) (f g : Nat → Nat) : eqB n f g = eqB n g f := by
  rw [Bool.eq_iff_iff, eqB_iff, eqB_iff]
  exact forall_congr' fun p => forall_congr' fun hp => eq_comm
theorem eqB_group (F P : Nat → Nat) (n : Nat) (h : 3 ≤ n) : eqB (n * 8) F (cat (n - 3) F P) = eqB 24 P (fun k => F ((n - 3) * 8 + k)) := by
  rw [Bool.eq_iff_iff, eqB_iff, eqB_iff]
  constructor
  · intro h1 j hj
    have := h1 ((n - 3) * 8 + j) (by omega)
    rw [cat, if_neg (by omega), show (n - 3) * 8 + j - (n - 3) * 8 = j by omega] at this
    exact this.symm
  · intro h1 j hj
    unfold cat
    split
    · rfl
    · rename_i hge
      have := h1 (j - (n - 3) * 8) (by omega)
      rw [this]
      congr 1
      omega
set_option maxRecDepth 100000 in
set_option maxHeartbeats 1000000 in
theorem rcheck_any (F : Nat → Nat) (b off n c : Nat) (w : World) (hF : ∀ j, F j < 256) (h1 : 4 ≤ n) (h2 : n ≤ 16) (hc : n ≤ c) (hI : Bks w (some ⟨b, off, none⟩) n F) :
    Calls Try.prog 18 #[.slice (some ⟨b, off, none⟩) n c] w fun e w' => e = .returned (.bool (eqB 24 (par F (n - 3)) (fun k => F ((n - 3) * 8 + k)))) ∧ Below w.heap.size w w' := by
  have HI := Lib.hid hI
  have HG := Lib.hid (group_any F b off (n - 3) c w hF (by omega) (by omega) (by omega) (fun _ => by
    obtain ⟨b1, o1, e, h⟩ := hI (by omega)
    exact ⟨b1, o1, e, fun j hj => h j (by omega)⟩))
  rw [show n - 3 + 3 = n by omega] at HG
  clear hI
  go_enter Try.func18, Try.ntmps18
  go_wp2_with fail
  with_reducible refine HG.out.mono ?_
  rintro e w2 ⟨v, rfl, o2, hB2⟩
  obtain ⟨A2, c2, rfl, x2, _, _⟩ := Bks.of_own o2
  have HS := Lib.hid (rsame_any F (cat (n - 3) F (par F (n - 3))) (some ⟨b, off, none⟩) A2 n c c2 w2 (by omega) hF (cat_lt hF (par_lt _)) (HI.out.below hB2) x2)
  have HB2 := Lib.hid hB2
  clear HG o2 x2 hB2
  rw [eqB_group _ _ _ (by omega)] at HS
  go_wp2_with fail
  with_reducible refine HS.out.mono ?_
  rintro e w3 ⟨rfl, hB3⟩
  have HB3 := Lib.hid (HB2.out.trans (hB3.mono HB2.out.size))
  go_wp2_with fail
  go_ret
  exact ⟨rfl, HB3.out⟩
theorem rcheck_bad (A : Option Addr) (n c : Nat) (w : World) (h : n < 4 ∨ 16 < n) (hn : n ≤ 1000000) :
    Calls Try.prog 18 #[.slice A n c] w fun e w' => e = .returned (.bool false) ∧ Below w.heap.size w w' := by
  rcases h with h | h
  all_goals (
    go_enter Try.func18, Try.ntmps18
    go_wp2_with fail
    go_ret
    exact ⟨rfl, Below.refl _ _⟩)
set_option maxRecDepth 100000 in
set_option maxHeartbeats 1000000 in
theorem lawChecks_any (F : Nat → Nat) (A : Option Addr) (n c : Nat) (w : World) (hF : ∀ j, F j < 256) (hA : A = none → c = 0) (hc : n ≤ c) (hI : Bks w A n F) :
    Calls Try.prog 5 #[.slice A n c] w fun e w' => e = .returned (.bool true) ∧ Below w.heap.size w w' := by
  by_cases h40 : 40 < n
  · go_enter Try.func5, Try.ntmps5
    go_wp2_with (go_at_call 11; (with_reducible refine (awake_any _).mono ?_); rintro e w1 ⟨rfl, hB⟩)
    go_ret
    exact ⟨rfl, hB⟩
  have HI := Lib.hid hI
  clear hI
  by_cases hgood : 4 ≤ n ∧ n ≤ 16
  · obtain ⟨b, off, rfl, hcs⟩ := HI.out (by omega)
    have h4 : 4 ≤ n := hgood.1
    have h16 : n ≤ 16 := hgood.2
    have HC := Lib.hid hcs
    clear hcs hA hgood
    go_enter Try.func5, Try.ntmps5
    go_wp2_with (first
      | (go_at_call 11; (with_reducible refine (awake_any _).mono ?_); rintro e w1 ⟨rfl, hB⟩)
      | (go_at_call 17; (with_reducible refine (check_par F b off n c w1 h4 h16 hc hF (fun j hj => (hB.cell (World.block_lt_of_cell? w _ (HC.out j hj))).trans (HC.out j hj))).mono ?_); rintro e w2 ⟨rfl, hB2⟩; have HB2 := Lib.hid (hB.trans (hB2.mono hB.size)); clear hB2)
      | (go_at_call 18; (with_reducible refine (rcheck_any F b off n c w2 hF h4 h16 hc (HI.out.below HB2.out)).mono ?_); rintro e w3 ⟨rfl, hB3⟩; have HB3 := Lib.hid (HB2.out.trans (hB3.mono HB2.out.size)); clear hB3))
    go_ret
    exact ⟨by simp, HB3.out⟩
  · have hbad : n < 4 ∨ 16 < n := by omega
    go_enter Try.func5, Try.ntmps5
    go_wp2_with (first
      | (go_at_call 11; (with_reducible refine (awake_any _).mono ?_); rintro e w1 ⟨rfl, hB⟩)
      | (go_at_call 17; (with_reducible refine (check_bad A n c w1 hbad (by omega)).mono ?_); rintro e w2 ⟨rfl, hB2⟩; have HB2 := Lib.hid (hB.trans (hB2.mono hB.size)); clear hB2)
      | (go_at_call 18; (with_reducible refine (rcheck_bad A n c w2 hbad (by omega)).mono ?_); rintro e w3 ⟨rfl, hB3⟩; have HB3 := Lib.hid (HB2.out.trans (hB3.mono HB2.out.size)); clear hB3))
    go_ret
    exact ⟨rfl, HB3.out⟩
end Go.Proofs.Ytibhhonmcbbohaa
