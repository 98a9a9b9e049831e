/- The walks of the laws ParityEncodes and ParityChecks. -/
import Derived.Test.YtibhhonmcbbohaaPa16
namespace Go.Proofs.Ytibhhonmcbbohaa
open Go.RowKit

set_option maxRecDepth 100000 in
set_option maxHeartbeats 1000000 in
theorem lawEncodes_any (F : Nat → Nat) (A : Option Addr) (n c : Nat) (w : World) (hF : ∀ j, F j < 256) (hA : A = none → c = 0) (hc : n ≤ c) (hI : Bks w A n F) :
    Calls Try.prog 4 #[.slice A n c] w fun e w' => e = .returned (.bool true) ∧ Below w.heap.size w w' := by
  by_cases h40 : 40 < n
  · go_enter Try.func4, Try.ntmps4
    go_wp2_with (go_at_call 11; (with_reducible refine (awake_any _).mono ?_); rintro e w1 ⟨rfl, hB⟩)
    go_ret
    exact ⟨rfl, hB⟩
  have HI := Lib.hid hI
  have HA := Lib.hid hA
  clear hI hA
  go_enter Try.func4, Try.ntmps4
  go_wp2_with (first
    | (go_at_call 11; (with_reducible refine (awake_any _).mono ?_); rintro e w1 ⟨rfl, hB⟩)
    | (at_builtin; refine app_bks rfl (.tmp 11) (.tmp 12) rfl w.heap.size (.slice (some ⟨w1.heap.size, 0, none⟩) 0 0) 0 n (fun _ => 0) F rfl (own_bks0 _ hB.size) A c rfl HA.out (HI.out.below (hB.alloc hB.size _)) (by omega) hc (by have := hB.size; simp; omega) ?_; intro v1 w2 o1 g1; rw [cat_zero, Nat.zero_add] at o1; have HB2 := Lib.hid ((hB.alloc hB.size _).grown g1 (by have := hB.size; simp; omega) (own_new hB.size)); have HO := Lib.hid o1; clear o1 g1 hB))
  have HI2 := Lib.hid (HI.out.below HB2.out)
  by_cases hgood : 1 ≤ n ∧ n ≤ 13
  · obtain ⟨g, c1, rfl, hc1, hg, hcs, hfz⟩ := RB.of_own HO.out (by omega)
    have HE := Lib.hid (encode_par F g 0 n c1 w2 hgood.1 hgood.2 hF hcs)
    have HX := Lib.hid (show Bks w2 (some ⟨g, 0, none⟩) n F from fun _ => ⟨g, 0, rfl, hcs⟩)
    clear hcs hfz HO
    refine HE.out.mono ?_
    rintro e w3 ⟨rfl, hR3, hB3⟩
    have HB3 := Lib.hid (HB2.out.trans (hB3.mono HB2.out.size))
    have HI3 := Lib.hid (HI2.out.below hB3)
    have HX3 := Lib.hid (HX.out.below hB3)
    have HR3 := Lib.hid hR3
    clear HE HI HX HI2 HB2 hR3 hB3
    have h1 : 1 ≤ n := hgood.1
    have h13 : n ≤ 13 := hgood.2
    go_wp2_with (first
      | (go_at_call 15; (with_reducible refine (rsame_any F F _ A n c1 c w3 (by omega) hF hF HX3.out HI3.out).mono ?_); rw [eqB_yes (fun _ _ => rfl)]; rintro e w4 ⟨rfl, hB4⟩; have HB4 := Lib.hid (HB3.out.trans (hB4.mono HB3.out.size)); have HI4 := Lib.hid (HI3.out.below hB4); have HR4 := Lib.hid (HR3.out.below hB4); clear hB4)
      | (go_at_call 16; (with_reducible refine (ref_par F A n c w4 (by omega) hF HI4.out).mono ?_); rintro e w5 ⟨rfl, hR5, hB5⟩; have HB5 := Lib.hid (HB4.out.trans (hB5.mono HB4.out.size)); have HQ5 := Lib.hid hR5; have HR5 := Lib.hid (HR4.out.below hB5); clear hB5 hR5)
      | (go_at_call 15; (with_reducible refine (rsame_any (par F n) (par F n) _ _ 3 3 3 w5 (by omega) (par_lt n) (par_lt n) (HR5.out.bks (by omega)) (HQ5.out.bks (by omega))).mono ?_); rw [eqB_yes (fun _ _ => rfl)]; rintro e w6 ⟨rfl, hB6⟩; have HB6 := Lib.hid (HB5.out.trans (hB6.mono HB5.out.size)); clear hB6))
    go_ret
    exact ⟨rfl, HB6.out⟩
  · obtain ⟨A1, c1, rfl, hx, hc1, hA1⟩ := Bks.of_own HO.out
    have HX := Lib.hid hx
    clear HO hx
    have hbad : n < 1 ∨ 13 < n := by omega
    refine (encode_bad A1 n c1 w2 hbad (by omega)).mono ?_
    rintro e w3 ⟨rfl, hB3⟩
    have HB3 := Lib.hid (HB2.out.trans (hB3.mono HB2.out.size))
    have HI3 := Lib.hid (HI2.out.below hB3)
    have HX3 := Lib.hid (HX.out.below hB3)
    clear HI HX HI2 HB2 hB3
    rcases hbad with hbad | hbad
    all_goals (
      go_wp2_with (go_at_call 15; (with_reducible refine (rsame_any F F _ A n c1 c w3 (by omega) hF hF HX3.out HI3.out).mono ?_); rw [eqB_yes (fun _ _ => rfl)]; rintro e w4 ⟨rfl, hB4⟩; have HB4 := Lib.hid (HB3.out.trans (hB4.mono HB3.out.size)); clear hB4)
      go_ret
      exact ⟨rfl, HB4.out⟩)
end Go.Proofs.Ytibhhonmcbbohaa
