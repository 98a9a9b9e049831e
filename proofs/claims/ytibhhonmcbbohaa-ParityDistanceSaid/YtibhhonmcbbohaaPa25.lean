/- The changes that come in, and the walk of the law ParityDistance. -/
import Derived.Test.YtibhhonmcbbohaaPa24
namespace Go.Proofs.Ytibhhonmcbbohaa
open Go.RowKit

/-- the cells of three changes -/
def chv (c : Nat → Int) (f : Nat → Nat) (q : Nat) : Value := if q % 9 = 0 then .int .i64 (c (q / 9)) else .int .u8 (f (q / 9 * 8 + (q % 9 - 1)) : Nat)
def chr (c : Nat → Int) (f : Nat → Nat) : Array Value := ((List.range 27).map (chv c f)).toArray
theorem chr_get (c : Nat → Int) (f : Nat → Nat) (q : Nat) (h : q < 27) : (chr c f)[q]? = some (chv c f q) := by simp [chr, h]
theorem chv_int (c : Nat → Int) (f : Nat → Nat) (i : Nat) : chv c f (i * 9) = .int .i64 (c i) := by
  unfold chv
  rw [if_pos (by omega), show i * 9 / 9 = i by omega]
theorem chv_byte (c : Nat → Int) (f : Nat → Nat) (i k : Nat) (hk : k < 8) : chv c f (i * 9 + 1 + k) = .int .u8 (f (i * 8 + k) : Nat) := by
  unfold chv
  rw [if_neg (by omega), show (i * 9 + 1 + k) / 9 * 8 + ((i * 9 + 1 + k) % 9 - 1) = i * 8 + k by omega]
theorem agg_chg {w : World} {base : Nat} {v : Value} (h : Value.okWide Try.prog w .any base 40 v) :
    ∃ (c : Nat → Int) (f : Nat → Nat), v = .agg (chr c f) ∧ (∀ j, -9223372036854775808 ≤ c j ∧ c j ≤ 9223372036854775807) ∧ ∀ j, f j < 256 := by
  obtain ⟨cs, rfl, h1, h2⟩ := agg_array (ts := (List.range 27).map fun q => if q % 9 = 0 then 3 else 5) Try.underlying40 (by kernel_rfl) (by kernel_rfl) h
  have hsz : cs.size = 27 := by rw [h1]; simp
  have ea : ∀ i : Nat, ∃ z : Int, (-9223372036854775808 ≤ z ∧ z ≤ 9223372036854775807) ∧ ∀ q, q < 27 → q % 9 = 0 → q / 9 = i → cs[q]? = some (.int .i64 z) := by
    intro i
    by_cases hi : i < 3
    · have hj : i * 9 < cs.size := by omega
      obtain ⟨u, hu, ho⟩ := h2 (i * 9) cs[i * 9] (by simp [hj])
      have : u = 3 := by
        have hm : i * 9 % 27 = i * 9 := Nat.mod_eq_of_lt (by omega)
        simp only [List.length_map, List.length_range, hm, List.getElem?_map] at hu
        rw [List.getElem?_range (by omega)] at hu
        simp only [Option.map_some, Option.some.injEq] at hu
        rw [if_pos (by omega)] at hu
        exact hu.symm
      subst this
      obtain ⟨z, hz, b1, b2⟩ := cell_i64 Try.underlying3 ho
      refine ⟨z, ⟨b1, b2⟩, fun q hq h0 he => ?_⟩
      rw [show q = i * 9 by omega, Array.getElem?_eq_getElem hj, hz]
    · exact ⟨0, ⟨by decide, by decide⟩, fun q hq h0 he => by omega⟩
  have eb : ∀ p : Nat, ∃ z : Nat, z < 256 ∧ ∀ q, q < 27 → q % 9 ≠ 0 → p = q / 9 * 8 + (q % 9 - 1) → cs[q]? = some (.int .u8 (z : Nat)) := by
    intro p
    by_cases hp : p < 24
    · have hj : p / 8 * 9 + 1 + p % 8 < cs.size := by omega
      obtain ⟨u, hu, ho⟩ := h2 (p / 8 * 9 + 1 + p % 8) cs[p / 8 * 9 + 1 + p % 8] (by simp [hj])
      have : u = 5 := by
        have hm : (p / 8 * 9 + 1 + p % 8) % 27 = p / 8 * 9 + 1 + p % 8 := Nat.mod_eq_of_lt (by omega)
        simp only [List.length_map, List.length_range, hm, List.getElem?_map] at hu
        rw [List.getElem?_range (by omega)] at hu
        simp only [Option.map_some, Option.some.injEq] at hu
        rw [if_neg (by omega)] at hu
        exact hu.symm
      subst this
      obtain ⟨z, hz, b1⟩ := cell_u8 Try.underlying5 ho
      refine ⟨z, b1, fun q hq h0 he => ?_⟩
      rw [show q = p / 8 * 9 + 1 + p % 8 by omega, Array.getElem?_eq_getElem hj, hz]
    · exact ⟨0, by omega, fun q hq h0 he => by omega⟩
  refine ⟨fun i => Classical.choose (ea i), fun p => Classical.choose (eb p), ?_, fun i => (Classical.choose_spec (ea i)).1, fun p => (Classical.choose_spec (eb p)).1⟩
  congr 1
  apply Array.ext_getElem?
  intro q
  by_cases hq : q < 27
  · rw [chr_get _ _ q hq]
    unfold chv
    by_cases e : q % 9 = 0
    · rw [if_pos e]
      exact (Classical.choose_spec (ea (q / 9))).2 q hq e rfl
    · rw [if_neg e]
      exact (Classical.choose_spec (eb (q / 9 * 8 + (q % 9 - 1)))).2 q hq e rfl
  · rw [Array.getElem?_eq_none (by omega), Array.getElem?_eq_none (by simp [chr]; omega)]
theorem eqB_self (F : Nat → Nat) (n : Nat) (_hn : n ≤ 13) : eqB 24 (par (cat n F (par F n)) n) (fun q => cat n F (par F n) (n * 8 + q)) = true := by
  refine eqB_yes (fun p hp => ?_)
  have e1 : par (cat n F (par F n)) n p = par F n p := sp_congr _ _ n (fun q hq hm => by rw [cat, if_pos (by omega)]) (Nat.mod_lt _ (by omega))
  rw [e1, cat, if_neg (by omega), Nat.add_sub_cancel_left]
theorem set8_obj {w : World} {g p g' : Nat} {h : Nat → Nat} {o : Obj} (hr : w.heap[g']? = some o) (hne : g' ≠ g) : (set8 w g p h).heap[g']? = some o := by
  have e : ∀ (w : World) (i : Nat) (v : Value), w.heap[g']? = some o → (w.setCell ⟨g, i, none⟩ v).heap[g']? = some o := fun w i v h => (Below.heap_setCell w ⟨g, i, none⟩ v g' hne).trans h
  exact e _ _ _ (e _ _ _ (e _ _ _ (e _ _ _ (e _ _ _ (e _ _ _ (e _ _ _ (e _ _ _ hr)))))))
set_option maxRecDepth 100000 in
set_option maxHeartbeats 1000000 in
theorem lawDistance_any (F : Nat → Nat) (A : Option Addr) (n c : Nat) (C : Nat → Int) (f : Nat → Nat) (w : World) (hF : ∀ j, F j < 256) (hA : A = none → c = 0) (hc : n ≤ c) (hI : Bks w A n F)
    (hC : ∀ j, -9223372036854775808 ≤ C j ∧ C j ≤ 9223372036854775807) (hf : ∀ j, f j < 256) :
    Calls Try.prog 6 #[.slice A n c, .agg (chr C f)] w fun e w' => e = .returned (.bool true) ∧ Below w.heap.size w w' := by
  by_cases h40 : n < 1 ∨ 13 < n
  · rcases h40 with h40 | h40
    all_goals (
      go_enter Try.func6, Try.ntmps6
      go_wp2_with (go_at_call 11; (with_reducible refine (awake_any _).mono ?_); rintro e w1 ⟨rfl, hB⟩)
      go_ret
      exact ⟨rfl, (Go.Joins.below_alloc1 w _).trans (hB.mono (by simp))⟩)
  have h1 : 1 ≤ n := by omega
  have h13 : n ≤ 13 := by omega
  obtain ⟨b, off, rfl, hcs⟩ := hI (by omega)
  have HI := Lib.hid hI
  have HC := Lib.hid hC
  clear hI hC hA hcs h40
  go_enter Try.func6, Try.ntmps6
  go_wp2_with (first
    | (go_at_call 11; (with_reducible refine (awake_any _).mono ?_); rintro e w1 ⟨rfl, hB⟩; have HX1 := Lib.hid ((heap_alloc_new w (.cells (chr C f) 40)) |> (hB.block w.heap.size (by simp)).trans); have HB1 := Lib.hid ((Go.Joins.below_alloc1 w (.cells (chr C f) 40)).trans (hB.mono (by simp))); have hs1 : w.heap.size < w1.heap.size := (by have := hB.size; simp at this; omega); clear hB))
  obtain ⟨b', o', e, hcs⟩ := HI.out.below HB1.out (by omega)
  cases e
  refine (encode_par F b off n c w1 h1 h13 hF hcs).mono ?_
  clear hcs
  rintro e w2 ⟨rfl, hR2, hB2⟩
  have HP2 := Lib.hid hR2
  have HB2 := Lib.hid (HB1.out.trans (hB2.mono HB1.out.size))
  have HX2 := Lib.hid ((hB2.block w.heap.size hs1).trans HX1.out)
  have hs2 := hB2.size
  clear hB2 hR2
  go_wp2_with (first
    | (at_builtin; refine app_bks rfl (.tmp 33) (.tmp 34) rfl w2.heap.size (.slice (some ⟨w2.heap.size, 0, none⟩) 0 0) 0 n (fun _ => 0) F rfl (own_bks0 _ (Nat.le_refl _)) (some ⟨b, off, none⟩) c rfl (fun h => by cases h) (HI.out.below (HB2.out.alloc HB2.out.size _)) (by omega) hc (by simp) ?_; intro v1 w3 o1 g1; rw [cat_zero, Nat.zero_add] at o1; have HK3 := Lib.hid ((Go.Joins.below_alloc1 w2 _).grown g1 (by simp) (own_new (Nat.le_refl _))); have HO3 := Lib.hid o1; clear o1 g1)
    | (at_builtin; refine app_bks rfl (.tmp 35) (.tmp 36) rfl w2.heap.size v1 n 3 F (par F n) rfl HO3.out (some ⟨w1.heap.size, 0, none⟩) 3 rfl (fun h => by cases h) ((HP2.out.below HK3.out).bks (by omega)) (by omega) (by omega) HK3.out.size ?_; intro v2 w4 o2 g2; obtain ⟨gg, cg, rfl, hcg, hgg, hG⟩ := CB.of_own o2 (by omega); have HK4 := Lib.hid (HK3.out.grown g2 HK3.out.size (fun k hk => (HO3.out.lt k hk).1)); have HG4 := Lib.hid hG; have HB4 := Lib.hid (HB2.out.trans (HK4.out.mono HB2.out.size)); have HX4 := Lib.hid ((HK4.out.block w.heap.size (by omega)).trans HX2.out); clear o2 g2 hG)
    | (go_at_call 17; (with_reducible refine (check_par (cat n F (par F n)) gg 0 (n + 3) cg w4 (by omega) (by omega) hcg (cat_lt hF (par_lt n)) (fun j hj => by rw [Nat.zero_add]; exact HG4.out.cell j hj)).mono ?_); rw [Nat.add_sub_cancel, eqB_self F n h13]; rintro e w5 ⟨rfl, hB5⟩; have HB5 := Lib.hid (HB4.out.trans (hB5.mono HB4.out.size)); have HG5 := Lib.hid (HG4.out.below hB5); have hs4 := HK4.out.size; have HX5 := Lib.hid ((hB5.block w.heap.size (by omega)).trans HX4.out); have hs5 := hB5.size; clear hB5)
    | (at_builtin; refine app_bks rfl (.tmp 41) (.tmp 42) rfl w5.heap.size (.slice (some ⟨w5.heap.size, 0, none⟩) 0 0) 0 (n + 3) (fun _ => 0) (cat n F (par F n)) rfl (own_bks0 _ (Nat.le_refl _)) (some ⟨gg, 0, none⟩) cg rfl (fun h => by cases h) ((HG5.out.below (Go.Joins.below_alloc1 _ _)).bks (by omega)) (by omega) hcg (by simp) ?_; intro v3 w6 o3 g3; rw [cat_zero, Nat.zero_add] at o3; obtain ⟨go, co, rfl, hco, hgo, hO⟩ := CB.of_own o3 (by omega); have HK6 := Lib.hid ((Go.Joins.below_alloc1 w5 _).grown g3 (by simp) (own_new (Nat.le_refl _))); have HO6 := Lib.hid hO; have HG6 := Lib.hid (HG5.out.below HK6.out); have HB6 := Lib.hid (HB5.out.trans (HK6.out.mono HB5.out.size)); have HX6 := Lib.hid ((HK6.out.block w.heap.size (by omega)).trans HX5.out); have hs6 := HK6.out.size; have hgl := HG5.out.lt; clear o3 g3 hO))
  obtain ⟨G, hG⟩ : ∃ G, G = cat n F (par F n) := ⟨_, rfl⟩
  have hGl : ∀ p, G p < 256 := by rw [hG]; exact cat_lt hF (par_lt n)
  rw [← hG] at HG6 HO6
  have HGE := Lib.hid hG
  have hdec := fun O ks hO hl hk hs => dist_yes F O n ks h13 hF hO hl hk hs
  rw [← hG] at hdec
  have HDEC := Lib.hid hdec
  have hgo1 : gg < go := Nat.lt_of_lt_of_le hgl hgo
  have hgo2 : w.heap.size < go := by omega
  clear hG hdec HK3 HO3 HK4 HG4 HB4 HX4 HB5 HG5 HX5 HK6 HX2 HB2 HP2 HX1 HB1 HI
  go_loopw [9] (fun vi wr => ∃ (i : Nat) (O : Nat → Nat) (ks : List Nat), i ≤ 3 ∧ vi = .int .i64 i ∧ (∀ p, O p < 256) ∧ ks.length ≤ i ∧ (∀ k ∈ ks, k < n + 3) ∧ (∀ p, p < (n + 3) * 8 → p / 8 ∉ ks → O p = G p) ∧
      CB wr go ((n + 3) * 8) 37 O ∧ CB wr gg ((n + 3) * 8) 37 G ∧ wr.heap[w.heap.size]? = some (.cells (chr C f) 40 (0, 0)) ∧ Below w.heap.size w wr) (fun vi _ => 3 - (intOf vi).toNat)
  case atStart => exact ⟨0, G, [], by omega, rfl, hGl, by simp, (fun k hk => by cases hk), (fun _ _ _ => rfl), HO6.out, HG6.out, HX6.out, HB6.out⟩
  case round =>
    clear HO6 HG6 HX6 HB6
    obtain ⟨i, O, ks, hi, rfl, hO, hl, hk, hs, hco', hcg', hx, hB⟩ := hrel
    have HO := Lib.hid hO
    have HL := Lib.hid hl
    have HK := Lib.hid hk
    have HS := Lib.hid hs
    have HCO := Lib.hid hco'
    have HCG := Lib.hid hcg'
    have HX := Lib.hid hx
    have HB := Lib.hid hB
    clear hO hl hk hs hco' hcg' hx hB
    by_cases hi3 : i < 3
    · have hjd : decide ((i : Int) < 3) = true := decide_eq_true (by omega)
      have hi3i : (i : Int) < 3 := by omega
      have hcb := HC.out i
      have x0 := (cell_of_row wr _ (i * 9) _ _ _ HX.out).trans ((chr_get C f (i * 9) (by omega)).trans (congrArg some (chv_int C f i)))
      have xz : ∀ o : Nat, o < 8 → wr.cell? ⟨w.heap.size, i * 9 + 1 + o, none⟩ = some (.int .u8 (f (i * 8 + o) : Nat)) := fun o ho => (cell_of_row wr _ (i * 9 + 1 + o) _ _ _ HX.out).trans ((chr_get C f (i * 9 + 1 + o) (by omega)).trans (congrArg some (chv_byte C f i o ho)))
      have hnz : ((n : Int) + 3 == 0) = false := by rw [beq_eq_false_iff_ne]; omega
      have t1 : (C i).tmod ((n : Int) + 3) < n + 3 := Int.tmod_lt_of_pos _ (by omega)
      have t2 : -((n : Int) + 3) < (C i).tmod ((n : Int) + 3) := Int.lt_tmod_of_pos _ (by omega)
      by_cases hneg : (C i).tmod ((n : Int) + 3) < 0
      · obtain ⟨kk, hkk⟩ : ∃ kk, (C i).tmod ((n : Int) + 3) = kk := ⟨_, rfl⟩
        rw [hkk] at t1 t2 hneg
        have hwr := IntWalk.i64_in kk (by omega)
        clear xz
        go_wp2_with fail
        exact ⟨⟨i + 1, O, ks, by omega, by go_num, HO.out, by have := HL.out; omega, HK.out, HS.out, HCO.out, HCG.out, HX.out, HB.out⟩, by simp [intOf]; omega⟩
      · obtain ⟨k, hkk⟩ : ∃ k : Nat, (C i).tmod ((n : Int) + 3) = (k : Int) := ⟨((C i).tmod ((n : Int) + 3)).toNat, by omega⟩
        rw [hkk] at t1 t2 hneg
        have hkn : k < n + 3 := by omega
        have hwr := IntWalk.i64_in (k : Int) (by omega)
        have z0 := xz 0 (by omega)
        rw [Nat.add_zero, Nat.add_zero] at z0
        have z1 := xz 1 (by omega)
        have z2 := xz 2 (by omega)
        have z3 := xz 3 (by omega)
        have z4 := xz 4 (by omega)
        have z5 := xz 5 (by omega)
        have z6 := xz 6 (by omega)
        have z7 := xz 7 (by omega)
        have y0 := HCO.out.cell (k * 8) (by omega)
        have y1 := HCO.out.cell (k * 8 + 1) (by omega)
        have y2 := HCO.out.cell (k * 8 + 2) (by omega)
        have y3 := HCO.out.cell (k * 8 + 3) (by omega)
        have y4 := HCO.out.cell (k * 8 + 4) (by omega)
        have y5 := HCO.out.cell (k * 8 + 5) (by omega)
        have y6 := HCO.out.cell (k * 8 + 6) (by omega)
        have y7 := HCO.out.cell (k * 8 + 7) (by omega)
        have hxr := fun W => rxor_any (fun o => O (k * 8 + o)) (fun o => f (i * 8 + o)) W (fun _ => HO.out _) (fun _ => hf _)
        obtain ⟨h, hh⟩ : ∃ h : Nat → Nat, h = fun o => O (k * 8 + o) ^^^ f (i * 8 + o) := ⟨_, rfl⟩
        rw [← hh] at hxr
        have hhl : ∀ o, h o < 256 := fun o => by rw [hh]; exact Gf.xor_lt (HO.out _) (hf _)
        have HH := Lib.hid hh
        simp only [brow8, Nat.add_zero] at hxr
        have HXR := Lib.hid hxr
        clear hxr hh xz
        go_wp2_with fail
        go_region_with (first
          | (go_simp; go_at_call 19; (with_reducible refine (HXR.out _).mono ?_); rintro e w7 ⟨rfl, hB7⟩; have hC7 := HCO.out.below (w := wr.drew) hB7; have f0 := hC7.frozen; have d0 := hC7.cell (k * 8)  (by omega); have d1 := hC7.cell (k * 8 + 1) (by omega); have d2 := hC7.cell (k * 8 + 2) (by omega); have d3 := hC7.cell (k * 8 + 3) (by omega); have d4 := hC7.cell (k * 8 + 4) (by omega); have d5 := hC7.cell (k * 8 + 5) (by omega); have d6 := hC7.cell (k * 8 + 6) (by omega); have d7 := hC7.cell (k * 8 + 7) (by omega); have HC7 := Lib.hid hC7; have HG7 := Lib.hid (HCG.out.below (w := wr.drew) hB7); have HB7 := Lib.hid (HB.out.drew.trans (hB7.mono HB.out.size)); have HX7 := Lib.hid ((hB7.block w.heap.size (Nat.lt_of_lt_of_le hgo2 (Nat.le_of_lt HCO.out.lt))).trans HX.out); clear hC7 hB7))
        all_goals
          clear z0 z1 z2 z3 z4 z5 z6 z7 y0 y1 y2 y3 y4 y5 y6 y7 d0 d1 d2 d3 d4 d5 d6 d7 f0
          have b1 : CB (set8 w7 go (k * 8) h) go ((n + 3) * 8) 37 (putB O k h) := set8_cb HC7.out
          have b2 : CB (set8 w7 go (k * 8) h) gg ((n + 3) * 8) 37 G := set8_cbfar HG7.out (by omega)
          have b3 : Below w.heap.size w (set8 w7 go (k * 8) h) := set8_below HB7.out (by omega)
          have b4 : (set8 w7 go (k * 8) h).heap[w.heap.size]? = some (.cells (chr C f) 40 (0, 0)) := set8_obj HX7.out (by omega)
          have b5 : ∀ q ∈ k :: ks, q < n + 3 := fun q hq => by
            rcases List.mem_cons.1 hq with rfl | hq
            · exact hkn
            · exact HK.out q hq
          have b6 : ∀ p, p < (n + 3) * 8 → p / 8 ∉ k :: ks → putB O k h p = G p := fun p hp hm => by
            simp only [List.mem_cons, not_or] at hm
            rw [putB, if_neg hm.1]
            exact HS.out p hp hm.2
          have b7 : (k :: ks).length ≤ i + 1 := by have := HL.out; simp; omega
          go_wp2_with fail
          exact ⟨⟨i + 1, putB O k h, k :: ks, by omega, by go_num, putB_lt HO.out hhl, b7, b5, b6, b1, b2, b4, b3⟩, by simp [intOf]; omega⟩
    · obtain rfl : i = 3 := by omega
      have hd := HDEC.out O ks HO.out HL.out HK.out HS.out
      have HD := Lib.hid hd
      have HCK := Lib.hid (check_par O go 0 (n + 3) co wr (by omega) (by omega) hco HO.out (fun j hj => by rw [Nat.zero_add]; exact HCO.out.cell j hj))
      rw [Nat.add_sub_cancel] at HCK
      clear hd
      go_wp2_with (first
        | (go_at_call 17; (with_reducible refine HCK.out.mono ?_); rintro e w8 ⟨rfl, hB8⟩; have HB8 := Lib.hid (HB.out.trans (hB8.mono HB.out.size)); have HO8 := Lib.hid (HCO.out.below hB8); have HG8 := Lib.hid (HCG.out.below hB8); clear hB8)
        | (go_at_call 15; (with_reducible refine (rsame_any O G _ _ (n + 3) co cg w8 (by omega) HO.out hGl (HO8.out.bks (by omega)) (HG8.out.bks (by omega))).mono ?_); rintro e w9 ⟨rfl, hB9⟩; have HB9 := Lib.hid (HB8.out.trans (hB9.mono HB8.out.size)); clear hB9))
      go_ret
      exact ⟨by rw [HD.out]; simp, HB9.out⟩
end Go.Proofs.Ytibhhonmcbbohaa
