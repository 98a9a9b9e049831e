/- Slot writes that came in, and the walk of the law ParityRows. -/
import Derived.Test.YtibhhonmcbbohaaPa21
namespace Go.Proofs.Ytibhhonmcbbohaa
open Go.RowKit

theorem block_list {H : Type} {enc : TypeId × Value → H} {W : World} {n : Nat} {cs' : List Value} {y : DataW H × List MemPlace} (hcl : cs'.length = 8)
    (ht : DataW.trod enc Try.prog W 0 (fun _ => true) true n 37 cs' = some y) (j : Nat) (hj : j < 8) : ∃ z : Nat, cs'[j]? = some (.int .u8 (z : Nat)) ∧ z < 256 := by
  obtain ⟨ys, n', _, _, hlen, hyl, hf⟩ := DataW.trod_array Try.underlying37 ht
  have kc : Try.prog.cellsOf 5 = 1 := by kernel_rfl
  rw [kc] at hf
  have h1 := hf j hj
  rw [List.getElem?_eq_getElem (show j < ys.length by omega)] at h1
  have e : (cs'.drop (j * 1)).take 1 = [cs'[j]'(by omega)] := by
    rw [Nat.mul_one]
    rw [List.drop_eq_getElem_cons (show j < cs'.length by omega), List.take_succ_cons, List.take_zero]
  rw [e] at h1
  obtain ⟨z, hz, _, hwf⟩ := DataW.trod_int Try.underlying5 h1
  have hb := bounds_u8 hwf
  simp only [List.cons.injEq, and_true] at hz
  exact ⟨z.toNat, by rw [List.getElem?_eq_getElem (show j < cs'.length by omega), hz, Int.toNat_of_nonneg (by omega)], by omega⟩
/-- a slice of slot writes -/
def Sws (w : World) (A : Option Addr) (n : Nat) (p : Nat → Int) (F : Nat → Nat) : Prop := 0 < n → ∃ b off : Nat, A = some ⟨b, off, none⟩ ∧ ∀ j : Nat, j < n →
  w.cell? ⟨b, off + j * 9, none⟩ = some (.int .i64 (p j)) ∧ ∀ k : Nat, k < 8 → w.cell? ⟨b, off + j * 9 + 1 + k, none⟩ = some (.int .u8 (F (j * 8 + k) : Nat))
theorem Sws.below {w w' : World} {A : Option Addr} {n : Nat} {p : Nat → Int} {F : Nat → Nat} (h : Sws w A n p F) (hB : Below w.heap.size w w') : Sws w' A n p F := fun h0 => by
  obtain ⟨b, off, rfl, hc⟩ := h h0
  exact ⟨b, off, rfl, fun j hj => ⟨(hB.cell (World.block_lt_of_cell? w _ (hc j hj).1)).trans (hc j hj).1, fun k hk => (hB.cell (World.block_lt_of_cell? w _ ((hc j hj).2 k hk))).trans ((hc j hj).2 k hk)⟩⟩
theorem sw_cells {H : Type} {enc : TypeId × Value → H} {W : World} {n b off : Nat} {cs' : List Value} {y : DataW H × List MemPlace}
    (hc : W.cells? 0 ⟨b, off, none⟩ 9 = some cs') (ht : DataW.trod enc Try.prog W 0 (fun _ => true) true n 52 cs' = some y) :
    (∃ z : Int, W.cell? ⟨b, off, none⟩ = some (.int .i64 z) ∧ -9223372036854775808 ≤ z ∧ z ≤ 9223372036854775807) ∧ ∀ k, k < 8 → ∃ z : Nat, W.cell? ⟨b, off + 1 + k, none⟩ = some (.int .u8 (z : Nat)) ∧ z < 256 := by
  obtain ⟨ys, n', _, _, hlen, hyl, hf⟩ := DataW.trod_struct Try.underlying52 ht
  obtain ⟨_, hcl, hat⟩ := World.cells?_some hc
  have kc : Try.prog.cellsOf 37 = 8 := by kernel_rfl
  have ki : Try.prog.cellsOf 3 = 1 := by kernel_rfl
  match ys, hyl with
  | [y0, y1], _ =>
    have h0 : DataW.trod enc Try.prog W 0 (fun _ => true) true n' 3 ((cs'.drop 0).take (Try.prog.cellsOf 3)) = some y0 := hf 0 _ rfl
    have h1 : DataW.trod enc Try.prog W 0 (fun _ => true) true n' 37 ((cs'.drop 1).take (Try.prog.cellsOf 37)) = some y1 := hf 1 _ rfl
    rw [ki, List.drop_zero] at h0
    rw [kc] at h1
    refine ⟨?_, fun k hk => ?_⟩
    · have e0 := hat 0 (by omega)
      rw [Go.WideShapes.add_plain, Nat.add_zero, List.getElem?_eq_getElem (by omega)] at e0
      have e : cs'.take 1 = [cs'[0]'(by omega)] := by
        match cs', hcl with
        | c :: cs, _ => rfl
      rw [e] at h0
      obtain ⟨z, hz, _, hwf⟩ := DataW.trod_int Try.underlying3 h0
      have hb := bounds_i64 hwf
      simp only [List.cons.injEq, and_true] at hz
      rw [hz] at e0
      exact ⟨z, e0, by omega, by omega⟩
    · obtain ⟨z, hz, hb⟩ := block_list (by simp; omega) h1 k hk
      have e1 := hat (1 + k) (by omega)
      rw [Go.WideShapes.add_plain, ← Nat.add_assoc] at e1
      rw [List.getElem?_take_of_lt hk, List.getElem?_drop] at hz
      exact ⟨z, e1.trans hz, hb⟩
/-- the slot writes that came in -/
theorem sws_of_row {H : Type} {enc : TypeId × Value → H} {W : World} {A : Option Addr} {len cap fuel : Nat} {x : DataW H × List MemPlace}
    (h : DataW.trod enc Try.prog W 0 (fun _ => true) true fuel 50 [.slice A len cap] = some x) :
    ∃ (p : Nat → Int) (F : Nat → Nat), (∀ j, F j < 256) ∧ (∀ j, -9223372036854775808 ≤ p j ∧ p j ≤ 9223372036854775807) ∧ Sws W A len p F := by
  rcases Go.Deep.open_slice Try.underlying50 h with ⟨hcs, _⟩ | ⟨a, ln, cp, m, n, D, Pl, hcs, hb, hl, hm, hmm, hx, hi⟩
  · simp at hcs
    obtain ⟨rfl, rfl, rfl⟩ := hcs
    exact ⟨fun _ => 0, fun _ => 0, fun _ => Nat.zero_lt_succ _, fun _ => ⟨by show (-9223372036854775808 : Int) ≤ 0; decide, by show (0 : Int) ≤ _; decide⟩, fun h => by omega⟩
  · simp at hcs
    obtain ⟨rfl, rfl, rfl⟩ := hcs
    simp only [if_true] at hmm
    subst hmm
    have kc : Try.prog.cellsOf 52 = 9 := by kernel_rfl
    rw [kc] at hi
    obtain ⟨b, off, spot⟩ := a
    by_cases h0 : 0 < len
    · have hspot : spot = none := by
        obtain ⟨cs', hc, ht⟩ := hi 0 (by omega)
        obtain ⟨_, hcl, hat⟩ := World.cells?_some hc
        have h2 := hat 0 (by omega)
        rw [List.getElem?_eq_getElem (by omega)] at h2
        simpa [Addr.add] using World.cell?_spot h2
      subst hspot
      have each : ∀ j : Nat, ∃ z : Int, (-9223372036854775808 ≤ z ∧ z ≤ 9223372036854775807) ∧ (j < len → W.cell? ⟨b, off + j * 9, none⟩ = some (.int .i64 z)) := by
        intro j
        by_cases hlt : j < len
        · obtain ⟨cs', hc, ht⟩ := hi j (by omega)
          rw [Go.WideShapes.add_plain] at hc
          obtain ⟨⟨z, h1, h2⟩, _⟩ := sw_cells hc ht
          exact ⟨z, h2, fun _ => h1⟩
        · exact ⟨0, ⟨by decide, by decide⟩, fun h => absurd h hlt⟩
      have each2 : ∀ p : Nat, ∃ z : Nat, z < 256 ∧ ∀ j k, p = j * 8 + k → k < 8 → j < len → W.cell? ⟨b, off + j * 9 + 1 + k, none⟩ = some (.int .u8 (z : Nat)) := by
        intro p
        by_cases hlt : p < len * 8
        · obtain ⟨cs', hc, ht⟩ := hi (p / 8) (by omega)
          rw [Go.WideShapes.add_plain] at hc
          obtain ⟨_, h2⟩ := sw_cells hc ht
          obtain ⟨z, h1, h2⟩ := h2 (p % 8) (by omega)
          refine ⟨z, h2, fun j k e hk hj => ?_⟩
          rw [show p / 8 = j by omega, show p % 8 = k by omega] at h1
          exact h1
        · exact ⟨0, by omega, fun j k e hk hj => by omega⟩
      refine ⟨fun j => Classical.choose (each j), fun p => Classical.choose (each2 p), fun p => (Classical.choose_spec (each2 p)).1, fun j => (Classical.choose_spec (each j)).1, fun _ => ⟨b, off, rfl, fun j hj => ⟨(Classical.choose_spec (each j)).2 hj, fun k hk => (Classical.choose_spec (each2 (j * 8 + k))).2 j k rfl hk hj⟩⟩⟩
    · exact ⟨fun _ => 0, fun _ => 0, fun _ => Nat.zero_lt_succ _, fun _ => ⟨by show (-9223372036854775808 : Int) ≤ 0; decide, by show (0 : Int) ≤ _; decide⟩, fun h => by omega⟩
set_option maxRecDepth 100000 in
set_option maxHeartbeats 1000000 in
theorem lawRows_any (F : Nat → Nat) (A : Option Addr) (n c : Nat) (P : Nat → Int) (G : Nat → Nat) (A' : Option Addr) (m c' : Nat) (w : World) (hF : ∀ j, F j < 256) (hG : ∀ j, G j < 256) (hP : ∀ j, -9223372036854775808 ≤ P j ∧ P j ≤ 9223372036854775807)
    (hA : A = none → c = 0) (hc : n ≤ c) (hI : Bks w A n F) (hJ : Sws w A' m P G) :
    Calls Try.prog 10 #[.slice A n c, .slice A' m c'] w fun e w' => e = .returned (.bool true) ∧ Below w.heap.size w w' := by
  by_cases h40 : n < 1 ∨ 13 < n ∨ 20 < m
  · rcases h40 with h40 | h40 | h40
    · go_enter Try.func10, Try.ntmps10
      go_wp2_with (go_at_call 11; (with_reducible refine (awake_any _).mono ?_); rintro e w1 ⟨rfl, hB⟩)
      all_goals (go_ret; exact ⟨rfl, hB⟩)
    · go_enter Try.func10, Try.ntmps10
      go_wp2_with (go_at_call 11; (with_reducible refine (awake_any _).mono ?_); rintro e w1 ⟨rfl, hB⟩)
      all_goals (go_ret; exact ⟨rfl, hB⟩)
    · go_enter Try.func10, Try.ntmps10
      go_wp2_with (go_at_call 11; (with_reducible refine (awake_any _).mono ?_); rintro e w1 ⟨rfl, hB⟩)
      all_goals (go_ret; exact ⟨rfl, hB⟩)
  have HI := Lib.hid hI
  have HJ := Lib.hid hJ
  have HA := Lib.hid hA
  have HP := Lib.hid hP
  have h1 : 1 ≤ n := by omega
  have h13 : n ≤ 13 := by omega
  have h20 : m ≤ 20 := by omega
  clear hI hA hJ hP h40
  go_enter Try.func10, Try.ntmps10
  go_wp2_with (first
    | (go_at_call 11; (with_reducible refine (awake_any _).mono ?_); rintro e w1 ⟨rfl, hB⟩)
    | (at_builtin; refine app_bks rfl (.tmp 27) (.tmp 28) rfl w.heap.size (.slice (some ⟨w1.heap.size, 0, none⟩) 0 0) 0 n (fun _ => 0) F rfl (own_bks0 _ hB.size) A c rfl HA.out (HI.out.below (hB.alloc hB.size _)) (by omega) hc (by have := hB.size; simp; omega) ?_; intro v1 w2 o1 g1; rw [cat_zero, Nat.zero_add] at o1; obtain ⟨gn, cn, rfl, hcn, hgn, hN⟩ := CB.of_own o1 (by omega); have HN2 := Lib.hid hN; have HB2 := Lib.hid ((hB.alloc hB.size _).grown g1 (by have := hB.size; simp; omega) (own_new hB.size)); have HJ2 := Lib.hid (HJ.out.below HB2.out); clear o1 g1 hB hN)
    | (go_at_call 14; (with_reducible refine (encode_par F gn 0 n cn w2 h1 h13 hF (fun j hj => by rw [Nat.zero_add]; exact HN2.out.cell j hj)).mono ?_); rintro e w3 ⟨rfl, hR3, hB3⟩; have HP3 := Lib.hid hR3.cb; have HB3 := Lib.hid (HB2.out.trans (hB3.mono HB2.out.size)); have HN3 := Lib.hid (HN2.out.below hB3); have HJ3 := Lib.hid (HJ2.out.below hB3); have hgl := HN2.out.lt; clear hB3 hR3 HB2 HN2 HJ2))
  go_loopw [6, 7, 8] (fun vp ve vi wr => ∃ (i gp cp : Nat) (H : Nat → Nat), i ≤ m ∧ vi = .int .i64 i ∧ ve = .int .i64 0 ∧ vp = .slice (some ⟨gp, 0, none⟩) 3 cp ∧ 3 ≤ cp ∧ gp ≠ gn ∧ (∀ j, H j < 256) ∧ CB wr gn (n * 8) 37 H ∧ CB wr gp 24 37 (par H n) ∧ Below w.heap.size w wr) (fun _ _ vi _ => m - (intOf vi).toNat)
  case atStart => exact ⟨0, w2.heap.size, 3, F, by omega, rfl, rfl, rfl, by omega, by omega, hF, HN3.out, HP3.out, HB3.out⟩
  case round =>
    clear HN3 HP3 HB3 HJ3 HI HA
    obtain ⟨i, gp, cp, H, hi, rfl, rfl, rfl, hcp, hne, hH, hN, hQ, hB⟩ := hrel
    have HN := Lib.hid hN
    have HQ := Lib.hid hQ
    have HB := Lib.hid hB
    have HH := Lib.hid hH
    clear hN hQ hB hH
    by_cases him : i < m
    · obtain ⟨b, off, rfl, hsw⟩ := HJ.out.below HB.out (by omega)
      obtain ⟨s0, s1⟩ := hsw i him
      clear hsw
      have hpb := HP.out i
      have hnz : ((n : Int) == 0) = false := by rw [beq_eq_false_iff_ne]; omega
      have t1 : (P i).tmod n < n := Int.tmod_lt_of_pos _ (by omega)
      have t2 : -(n : Int) < (P i).tmod n := Int.lt_tmod_of_pos _ (by omega)
      by_cases hneg : (P i).tmod n < 0
      · obtain ⟨kk, hkk⟩ : ∃ kk, (P i).tmod n = kk := ⟨_, rfl⟩
        rw [hkk] at t1 t2 hneg
        have hwr := IntWalk.i64_in kk (by omega)
        go_wp2_with fail
        exact ⟨⟨i + 1, gp, cp, H, by omega, by go_num, rfl, rfl, hcp, hne, HH.out, HN.out, HQ.out, HB.out⟩, by simp [intOf]; omega⟩
      · obtain ⟨k, hkk⟩ : ∃ k : Nat, (P i).tmod n = (k : Int) := ⟨((P i).tmod n).toNat, by omega⟩
        rw [hkk] at t1 t2 hneg
        have hkn : k < n := by omega
        have hwr := IntWalk.i64_in (k : Int) (by omega)
        have hK := Kp.refl wr
        have kz : ∀ o : Nat, o < 8 → wr.cell? ⟨b, off + i * 9 + 1 + o, none⟩ = some (.int .u8 (G (i * 8 + o) : Nat)) := s1
        have kz0 := s1 0 (by omega)
        have ky0 := HN.out.cell (k * 8) (by omega)
        have ky1 : ∀ o : Nat, o < 8 → wr.cell? ⟨gn, k * 8 + o, none⟩ = some (.int .u8 (H (k * 8 + o) : Nat)) := fun o ho => HN.out.cell _ (by omega)
        rw [Nat.add_zero, Nat.add_zero] at kz0
        have hu := fun W h => update_any (par H n) (fun o => H (k * 8 + o)) (fun o => G (i * 8 + o)) gp 0 cp k W (par_lt n) (fun o => HH.out _) (fun o => hG _) (by omega) hcp h
        have hu' : ∀ W, Kp wr W → _ := fun W hk => hu W ((HQ.out.below hk.below).bks (by omega))
        simp only [brow8, Nat.add_zero] at hu'
        have HU := Lib.hid hu'
        clear hu hu' s1
        have him' : (i : Int) < m := by omega
        go_wp2_with fail
        go_region_held3 (fun w' => Kp wr w' ∧ w'.cell? ⟨b, off + i * 9 + 1, none⟩ = some (.int .u8 (G (i * 8) : Nat)) ∧ (∀ o : Nat, o < 8 → w'.cell? ⟨b, off + i * 9 + 1 + o, none⟩ = some (.int .u8 (G (i * 8 + o) : Nat))) ∧ w'.cell? ⟨gn, k * 8, none⟩ = some (.int .u8 (H (k * 8) : Nat)) ∧ (∀ o : Nat, o < 8 → w'.cell? ⟨gn, k * 8 + o, none⟩ = some (.int .u8 (H (k * 8 + o) : Nat))))
          (first | (go_split_ands; exact ⟨by assumption, by assumption, by assumption, by assumption, by assumption⟩) | (go_split_ands; exact ⟨Kp.next (by assumption) hB', keepc (by assumption) hB', keepFrom (by assumption) hB', keepc (by assumption) hB', keepFrom (by assumption) hB'⟩))
          ((go_at_call 21; go_split_ands; (with_reducible refine (HU.out _ (by assumption)).mono ?_); rintro e w' ⟨g', cg', rfl, hcg', hg', hC', hB'⟩))
        have hk : Kp wr w' := by go_split_ands; assumption
        have HN4 := Lib.hid (HN.out.below hk.below)
        have hgs := HN.out.lt
        have hks := hk.2.2.2.1
        have HX4 := Lib.hid (hC'.congr (fun p hp => par_put H (fun o => G (i * 8 + o)) HH.out (fun o => hG _) k n p hkn hp))
        have HB4 := Lib.hid (HB.out.trans (hk.below.mono HB.out.size))
        have e0 : w'.cell? ⟨b, off + i * 9 + 1, none⟩ = some (.int .u8 (G (i * 8) : Nat)) := by go_split_ands; assumption
        have ez : ∀ o : Nat, o < 8 → w'.cell? ⟨b, off + i * 9 + 1 + o, none⟩ = some (.int .u8 (G (i * 8 + o) : Nat)) := by go_split_ands; assumption
        have e1 := ez 1 (by omega)
        have e2 := ez 2 (by omega)
        have e3 := ez 3 (by omega)
        have e4 := ez 4 (by omega)
        have e5 := ez 5 (by omega)
        have e6 := ez 6 (by omega)
        have e7 := ez 7 (by omega)
        have f0 := HN4.out.frozen
        have d0 := HN4.out.cell (k * 8) (by omega)
        have d1 := HN4.out.cell (k * 8 + 1) (by omega)
        have d2 := HN4.out.cell (k * 8 + 2) (by omega)
        have d3 := HN4.out.cell (k * 8 + 3) (by omega)
        have d4 := HN4.out.cell (k * 8 + 4) (by omega)
        have d5 := HN4.out.cell (k * 8 + 5) (by omega)
        have d6 := HN4.out.cell (k * 8 + 6) (by omega)
        have d7 := HN4.out.cell (k * 8 + 7) (by omega)
        rename_i hx1 hx2 hx3
        clear hx1 hx2 hx3 ez kz kz0 ky0 ky1 HU hK hC' hB'
        go_wp2_with fail
        have hgn' : gn < g' := Nat.lt_of_lt_of_le hgs hg'
        exact ⟨⟨i + 1, g', cg', putB H k (fun o => G (i * 8 + o)), by omega, by go_num, rfl, rfl, hcg', by omega, putB_lt HH.out (fun o => hG _), set8_cb (h := fun o => G (i * 8 + o)) HN4.out, set8_cbfar (h := fun o => G (i * 8 + o)) HX4.out (by omega), set8_below (h := fun o => G (i * 8 + o)) HB4.out (by omega)⟩, by simp [intOf]; omega⟩
    · obtain rfl : i = m := by omega
      go_wp2_with (first
        | (go_at_call 14; (with_reducible refine (encode_par H gn 0 n cn wr h1 h13 HH.out (fun j hj => by rw [Nat.zero_add]; exact HN.out.cell j hj)).mono ?_); rintro e w4 ⟨rfl, hR4, hB4⟩; have HR4 := Lib.hid hR4; have HQ4 := Lib.hid (HQ.out.below hB4); have HB4 := Lib.hid (HB.out.trans (hB4.mono HB.out.size)); clear hR4 hB4)
        | (go_at_call 15; (with_reducible refine (rsame_any (par H n) (par H n) _ _ 3 cp 3 w4 (by omega) (par_lt n) (par_lt n) (HQ4.out.bks (by omega)) (HR4.out.bks (by omega))).mono ?_); rw [eqB_yes (fun _ _ => rfl)]; rintro e w5 ⟨rfl, hB5⟩; have HB5 := Lib.hid (HB4.out.trans (hB5.mono HB4.out.size)); clear hB5))
      go_ret
      exact ⟨rfl, HB5.out⟩
end Go.Proofs.Ytibhhonmcbbohaa
