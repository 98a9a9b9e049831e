/- The laws of sums and multiples of the parity; an array of blocks by value; the walk of the law ParityLinear. -/
import Derived.Test.YtibhhonmcbbohaaPa22
namespace Go.Proofs.Ytibhhonmcbbohaa
open Go.RowKit

theorem sp_add (F G : Nat → Nat) (hF : ∀ p, F p < 256) (hG : ∀ p, G p < 256) (j k : Nat) : ∀ n, sp (fun p => F p ^^^ G p) j n k = sp F j n k ^^^ sp G j n k
  | 0 => (Nat.xor_self 0).symm
  | n + 1 => by
    rw [sp_ex, sp_ex F, sp_ex G, sp_add F G hF hG j k n, Gf.mul_xor_right _ _ _ (Gf.ex_lt _) (hF _) (hG _)]
    exact Gf.xor4 _ _ _ _
theorem sp_mul (F : Nat → Nat) (c : Nat) (hc : c < 256) (hF : ∀ p, F p < 256) (j k : Nat) : ∀ n, sp (fun p => Gf.mul c (F p)) j n k = Gf.mul c (sp F j n k)
  | 0 => (Gf.mul_zero c).symm
  | n + 1 => by
    rw [sp_ex, sp_ex F, sp_mul F c hc hF j k n, Gf.mul_xor_right _ _ _ hc (sp_lt _ _ _) (Gf.mul_lt _ _ (Gf.ex_lt _)), ← Gf.mul_assoc _ _ _ (Gf.ex_lt _) hc (hF _), ← Gf.mul_assoc _ _ _ hc (Gf.ex_lt _) (hF _), Gf.mul_comm _ c (Gf.ex_lt _) hc]
theorem par_add (F G : Nat → Nat) (hF : ∀ p, F p < 256) (hG : ∀ p, G p < 256) (n p : Nat) : par (fun p => F p ^^^ G p) n p = par F n p ^^^ par G n p := sp_add F G hF hG _ _ n
theorem par_mul (F : Nat → Nat) (c : Nat) (hc : c < 256) (hF : ∀ p, F p < 256) (n p : Nat) : par (fun p => Gf.mul c (F p)) n p = Gf.mul c (par F n p) := sp_mul F c hc hF _ _ n
theorem Kp.grown {w0 w w' : World} {row : Option Nat} (h : Kp w0 w) (hg : w.grownBy w' row) (hr : ∀ k, row = some k → w0.heap.size ≤ k) : Kp w0 w' :=
  ⟨hg.os.trans h.1, hg.tape.trans h.2.1, hg.output.trans h.2.2.1, Nat.le_trans h.2.2.2.1 hg.size, fun k hk => (hg.block k (Nat.lt_of_lt_of_le hk h.2.2.2.1) (fun e => by have := hr k e.symm; omega)).trans (h.2.2.2.2 k hk)⟩
theorem bkl_snoc (F h : Nat → Nat) (n : Nat) (hh : ∀ k, k < 8 → h k = F (n * 8 + k)) : bkl F n ++ (brow 8 h).toList = bkl F (n + 1) := by
  rw [brow_congr hh]
  unfold bkl brow
  rw [Nat.add_mul, List.range_add, List.map_append, List.map_map]
  rfl
theorem brow_one (h : Nat → Nat) (n : Nat) : ∀ u ∈ (brow n h).toList, u.oneCell' = true := by
  intro u hu
  simp only [brow, List.mem_map] at hu
  obtain ⟨x, _, rfl⟩ := hu
  rfl
/-- a block more, in a plain region -/
theorem app1 {w : World} {ops : Array Oper} {rest : List Oper} {o : Oper} {a : Act} {Q : Exit → Act → World → Prop} (hgd : o.guard = none) (s x : Operand)
    (ho : o.op = .call { callee := .builtin .append, args := #[s, x], argTypes := #[30, 30] })
    (base : Nat) (v : Value) (n : Nat) (F h : Nat → Nat) (hs : a.eval s = v) (hown : w.ownsRow base 37 8 v n (bkl F n)) (B : Nat) (hx : a.eval x = .slice (some ⟨B, 0, none⟩) 1 1)
    (hb : w.heap[B]? = some (.cells (brow 8 h) 37 (0, 0))) (hh : ∀ k, k < 8 → h k = F (n * 8 + k)) (hn : n ≤ 1000) (hbase : base ≤ w.heap.size) (H : Nat) (hH : w.heap.size = H)
    (k : ∀ g cap w', w'.ownsRow base 37 8 (.slice (some ⟨g, 0, none⟩) (n + 1) cap) (n + 1) (bkl F (n + 1)) → w.grownBy w' v.ownBlock → (v.ownBlock = some g ∨ g = H) → g < w'.heap.size → wpList Try.prog ops Q rest (a.put o.dst (.slice (some ⟨g, 0, none⟩) (n + 1) cap)) w') : wpList Try.prog ops Q (o :: rest) a w := by
  obtain ⟨i0, hi0, hz0, hz1, hz2⟩ := info_parts Try.infoBlock
  exact wpList_append_lies w hgd s x 30 ho base 37 i0 (.agg (brow 8 fun _ => 0)) 8 8 Try.underlying30 hi0 hz0 hz1 hz2 rfl (by decide) v n (bkl F n) hs hown ⟨B, 0, none⟩ 1 1 (brow 8 h).toList hx (by simp [brow])
    (World.news_of_block hb) (brow_one h 8) (by omega) (by unfold maxLen; omega) (by omega) hbase H hH (fun g cap w' h1 h2 h3 h4 => k g cap w' (by rw [← bkl_snoc F h n hh]; exact h1) h2 h3 h4)
/-- .. in a region that draws -/
theorem step1 {w : World} {ops : Array Oper} {o : Oper} {a : Act} {K : Act → World → Prop} {Q : Exit → Act → World → Prop} {E : Prop} (hgd : o.guard = none) (s x : Operand)
    (ho : o.op = .call { callee := .builtin .append, args := #[s, x], argTypes := #[30, 30] })
    (base : Nat) (v : Value) (n : Nat) (F h : Nat → Nat) (hs : a.eval s = v) (hown : w.ownsRow base 37 8 v n (bkl F n)) (B : Nat) (hx : a.eval x = .slice (some ⟨B, 0, none⟩) 1 1)
    (hb : w.heap[B]? = some (.cells (brow 8 h) 37 (0, 0))) (hh : ∀ k, k < 8 → h k = F (n * 8 + k)) (hn : n ≤ 1000) (hbase : base ≤ w.heap.size) (H : Nat) (hH : w.heap.size = H)
    (k : ∀ g cap w', w'.ownsRow base 37 8 (.slice (some ⟨g, 0, none⟩) (n + 1) cap) (n + 1) (bkl F (n + 1)) → w.grownBy w' v.ownBlock → (v.ownBlock = some g ∨ g = H) → g < w'.heap.size → K (a.put o.dst (.slice (some ⟨g, 0, none⟩) (n + 1) cap)) w') :
    if Region.wanted o (yielded ops a.tmps) = true then Oper.wp Try.prog o a w K Q else E := by
  obtain ⟨i0, hi0, hz0, hz1, hz2⟩ := info_parts Try.infoBlock
  exact step_append_lies w hgd s x 30 ho base 37 i0 (.agg (brow 8 fun _ => 0)) 8 8 Try.underlying30 hi0 hz0 hz1 hz2 rfl (by decide) v n (bkl F n) hs hown ⟨B, 0, none⟩ 1 1 (brow 8 h).toList hx (by simp [brow])
    (World.news_of_block hb) (brow_one h 8) (by omega) (by unfold maxLen; omega) (by omega) hbase H hH (fun g cap w' h1 h2 h3 h4 => k g cap w' (by rw [← bkl_snoc F h n hh]; exact h1) h2 h3 h4)
/-- two rows in blocks of their own -/
def Dis (v v' : Value) : Prop := ∀ k, v.ownBlock = some k → v'.ownBlock ≠ some k
theorem Dis.ne {v v' : Value} (h : Dis v v') : v.ownBlock = none ∨ v.ownBlock ≠ v'.ownBlock := by
  rcases hv : v.ownBlock with _ | k
  · exact .inl rfl
  · exact .inr fun e => h k hv e.symm
theorem Dis.ne' {v v' : Value} (h : Dis v v') : v'.ownBlock = none ∨ v'.ownBlock ≠ v.ownBlock := by
  rcases hv : v'.ownBlock with _ | k
  · exact .inl rfl
  · exact .inr fun e => h k e.symm hv
theorem Dis.left {v v' : Value} {g H n c : Nat} (h : Dis v v') (hl : v'.ownBlock = some g ∨ g = H) (hb : ∀ k, v.ownBlock = some k → k < H) : Dis v (.slice (some ⟨g, 0, none⟩) n c) := fun k hk e => by
  simp only [Value.ownBlock, Option.some.injEq] at e
  rcases hl with hl | hl
  · exact h k hk (by rw [hl, e])
  · have := hb k hk; omega
theorem Dis.right {v v' : Value} {g H n c : Nat} (h : Dis v v') (hl : v.ownBlock = some g ∨ g = H) (hb : ∀ k, v'.ownBlock = some k → k < H) : Dis (.slice (some ⟨g, 0, none⟩) n c) v' := fun k hk e => by
  simp only [Value.ownBlock, Option.some.injEq] at hk
  rcases hl with hl | hl
  · exact h g hl (by rw [e, hk])
  · have := hb k e; omega
set_option maxRecDepth 100000 in
set_option maxHeartbeats 1000000 in
theorem lawLinear_any (F G : Nat → Nat) (s : Nat) (w : World) (hF : ∀ j, F j < 256) (hG : ∀ j, G j < 256) (hs : s < 65536) :
    Calls Try.prog 7 #[.agg (brow 104 F), .agg (brow 104 G), .int .u16 s] w fun e w' => e = .returned (.bool true) ∧ Below w.heap.size w w' := by
  obtain ⟨n, hn⟩ : ∃ n : Nat, n = 1 + s / 256 % 13 := ⟨_, rfl⟩
  obtain ⟨c, hc⟩ : ∃ c : Nat, c = s % 256 := ⟨_, rfl⟩
  have hni : (1 + (s : Int) / 256 % 13) = (n : Int) := by omega
  have hci : (s : Int) % 256 = (c : Int) := by omega
  have h1 : 1 ≤ n := by omega
  have h13 : n ≤ 13 := by omega
  have hcl : c < 256 := by omega
  have HNI := Lib.hid hni
  have HCI := Lib.hid hci
  clear hn hc hni hci
  go_enter Try.func7, Try.ntmps7
  go_wp2_with (go_at_call 11; (with_reducible refine (awake_any _).mono ?_); rintro e w1 ⟨rfl, hB⟩)
  rw [HNI.out, HCI.out]
  have hA1 := ((RB.new (w := w) (n := 104) (t := 43) (f := F)).alloc (.cells (brow 104 G) 43)).below hB
  have hG1 := (RB.new (w := w.alloc (.cells (brow 104 F) 43)) (n := 104) (t := 43) (f := G)).below hB
  rw [nblk1] at hG1
  have HB1 := Lib.hid (((Go.Joins.below_alloc1 w (.cells (brow 104 F) 43)).alloc (by simp) (.cells (brow 104 G) 43)).trans (hB.mono (by simp; omega)))
  have HA1 := Lib.hid hA1
  have HG1 := Lib.hid hG1
  have hl1 := hG1.lt
  clear hB hA1 hG1
  go_loopw [9, 10, 11] (fun vs vm vi wr => ∃ i : Nat, i ≤ n ∧ vi = .int .i64 i ∧ wr.ownsRow w1.heap.size 37 8 vs i (bkl (fun p => F p ^^^ G p) i) ∧ wr.ownsRow w1.heap.size 37 8 vm i (bkl (fun p => Gf.mul c (F p)) i) ∧ Dis vm vs ∧ Kp w1 wr) (fun _ _ vi _ => n - (intOf vi).toNat)
  case atStart => exact ⟨0, by omega, rfl, World.ownsRow_nil _ _ _ _, World.ownsRow_nil _ _ _ _, (fun k h => by cases h), Kp.refl w1⟩
  case round =>
    obtain ⟨i, hi, rfl, hvs, hvm, hd, hk⟩ := hrel
    have HS := Lib.hid hvs
    have HM := Lib.hid hvm
    have HD := Lib.hid hd
    have HK := Lib.hid hk
    clear hvs hvm hd hk
    by_cases hin : i < n
    · have hin' : (i : Int) < n := by omega
      have h13' : (i : Int) < 13 := by omega
      have KS : ∀ W, Kp w1 W → Kp w1 W ∧ W.cell? ⟨w.heap.size, i * 8, none⟩ = some (.int .u8 (F (i * 8) : Nat)) ∧ (∀ o : Nat, o < 8 → W.cell? ⟨w.heap.size, i * 8 + o, none⟩ = some (.int .u8 (F (i * 8 + o) : Nat))) ∧
          W.cell? ⟨w.heap.size + 1, i * 8, none⟩ = some (.int .u8 (G (i * 8) : Nat)) ∧ (∀ o : Nat, o < 8 → W.cell? ⟨w.heap.size + 1, i * 8 + o, none⟩ = some (.int .u8 (G (i * 8 + o) : Nat))) := fun W hk =>
        ⟨hk, (HA1.out.below hk.below).cell _ (by omega), fun o ho => (HA1.out.below hk.below).cell _ (by omega), (HG1.out.below hk.below).cell _ (by omega), fun o ho => (HG1.out.below hk.below).cell _ (by omega)⟩
      obtain ⟨hK1, cf0, cf, cg0, cg⟩ := KS wr HK.out
      have HKS := Lib.hid KS
      have hxr := fun W => rxor_any (fun k => F (i * 8 + k)) (fun k => G (i * 8 + k)) W (fun k => hF _) (fun k => hG _)
      obtain ⟨h, hh⟩ : ∃ h : Nat → Nat, h = fun k => F (i * 8 + k) ^^^ G (i * 8 + k) := ⟨_, rfl⟩
      rw [← hh] at hxr
      have HH := Lib.hid hh
      have hb8 := brow8 h
      simp only [brow8, Nat.add_zero] at hxr
      have HX := Lib.hid hxr
      clear hxr hh KS
      have hsz := HK.out.2.2.2.1
      go_wp2_with fail
      go_region_held3 (fun W => Kp w1 W ∧ W.cell? ⟨w.heap.size, i * 8, none⟩ = some (.int .u8 (F (i * 8) : Nat)) ∧ (∀ o : Nat, o < 8 → W.cell? ⟨w.heap.size, i * 8 + o, none⟩ = some (.int .u8 (F (i * 8 + o) : Nat))) ∧
          W.cell? ⟨w.heap.size + 1, i * 8, none⟩ = some (.int .u8 (G (i * 8) : Nat)) ∧ (∀ o : Nat, o < 8 → W.cell? ⟨w.heap.size + 1, i * 8 + o, none⟩ = some (.int .u8 (G (i * 8 + o) : Nat))))
        (first | (go_split_ands; exact ⟨by assumption, by assumption, by assumption, by assumption, by assumption⟩) | (go_split_ands; exact HKS.out _ (Kp.grown (by assumption) hgrow (fun k hk => (HS.out.lt k hk).1))) | (go_split_ands; exact HKS.out _ (Kp.next (by assumption) hB')) | (go_split_ands; exact HKS.out _ (Kp.next (by assumption) (Go.Joins.below_alloc1 _ _))))
        (first
          | (refine step1 (by rfl) _ _ (by rfl) w1.heap.size u9 i (fun p => F p ^^^ G p) h (by rfl) ((own_below (w := wr.drew) HS.out hB').alloc _) _ (by rfl) (by rw [hb8]; exact heap_alloc_new _ _) (fun k _ => by rw [HH.out]) (by omega) (by have := hB'.size; simp; exact Nat.le_succ_of_le (Nat.le_trans hsz this)) (w5.heap.size + 1) (by simp) ?_; intro gg cap w6 hown hgrow hlie hltt)
          | (go_at_call 19; (with_reducible refine (HX.out _).mono ?_); rintro e w5 ⟨rfl, hB'⟩))
      have hk6 : Kp w1 w6 := by go_split_ands; assumption
      have hsz5 : wr.heap.size ≤ w5.heap.size := hB'.size
      have HS6 := Lib.hid hown
      have HM6 := Lib.hid (((own_below (w := wr.drew) HM.out hB').alloc _).kept hgrow HD.out.ne)
      have HD6 := Lib.hid (HD.out.left (n := i + 1) (c := cap) hlie (fun k hk => by have := (HM.out.lt k hk).2; omega))
      obtain ⟨_, df0, df, _, _⟩ := HKS.out _ hk6
      have HK6 := Lib.hid hk6
      have d1 := df 1 (by omega)
      have d2 := df 2 (by omega)
      have d3 := df 3 (by omega)
      have d4 := df 4 (by omega)
      have d5 := df 5 (by omega)
      have d6 := df 6 (by omega)
      have d7 := df 7 (by omega)
      have hsc := fun W => rscale_any (fun k => F (i * 8 + k)) c W hcl (fun k => hF _)
      obtain ⟨h', hh'⟩ : ∃ h' : Nat → Nat, h' = fun k => Gf.mul c (F (i * 8 + k)) := ⟨_, rfl⟩
      rw [← hh'] at hsc
      have HH' := Lib.hid hh'
      have hb8' := brow8 h'
      simp only [brow8, Nat.add_zero] at hsc
      have HSC := Lib.hid hsc
      rename_i y1 y2 y3 y4 y5 y6 y7 y8 y9
      clear hsc hh' df hown hgrow hlie hb8 HX HH cf cg cf0 cg0 hK1 hB'
      go_wp2_with (first
        | (go_at_call 20; (with_reducible refine (HSC.out _).mono ?_); rintro e w7 ⟨rfl, hB7⟩)
        | (at_builtin; (refine app1 rfl _ _ rfl w1.heap.size u10 i (fun p => Gf.mul c (F p)) h' rfl ((own_below HM6.out hB7).alloc _) _ rfl (by rw [hb8']; exact heap_alloc_new _ _) (fun k _ => by rw [HH'.out]) (by omega) (by have h9 := hB7.size; have h8 := HK6.out.2.2.2.1; simp; omega) (w7.heap.size + 1) (by simp) ?_); intro g8 c8 w8 o8 r8 l8 t8; have HM8 := Lib.hid o8; have HS8 := Lib.hid (((own_below HS6.out hB7).alloc _).kept r8 HD6.out.ne'); have HK8 := Lib.hid (Kp.grown ((HK6.out.next hB7).next (Go.Joins.below_alloc1 _ _)) r8 (fun k hk => (HM6.out.lt k hk).1)); have HD8 := Lib.hid (HD6.out.right (n := i + 1) (c := c8) l8 (fun k hk => by have := (HS6.out.lt k hk).2; have := hB7.size; omega)); clear o8 r8 l8 hB7))
      exact ⟨⟨i + 1, by omega, by go_num, HS8.out, HM8.out, HD8.out, HK8.out⟩, by simp [intOf]; omega⟩
    · obtain rfl : i = n := by omega
      obtain ⟨gs, cs, rfl, hcs, _, hCs⟩ := CB.of_own HS.out (by omega)
      obtain ⟨gm, cm, rfl, hcm, _, hCm⟩ := CB.of_own HM.out (by omega)
      have HCS := Lib.hid hCs
      have HCM := Lib.hid hCm
      have n13 : (i : Int) ≤ 13 := by omega
      have HA := Lib.hid (HA1.out.below HK.out.below)
      have HG := Lib.hid (HG1.out.below HK.out.below)
      have HB := Lib.hid (HB1.out.trans (HK.out.below.mono HB1.out.size))
      clear hCs hCm HS HM HD HA1 HG1 HB1 HK
      go_wp2_with (first
        | (go_at_call 14; (with_reducible refine (encode_par F w.heap.size 0 i 13 wr h1 h13 hF (HA.out.at0 (by omega))).mono ?_); rintro e w2 ⟨rfl, hR2, hB2⟩; have HP2 := Lib.hid hR2; have HG2 := Lib.hid (HG.out.below hB2); have HCS2 := Lib.hid (HCS.out.below hB2); have HCM2 := Lib.hid (HCM.out.below hB2); have HB2 := Lib.hid (HB.out.trans (hB2.mono HB.out.size)); clear hR2 hB2)
        | (go_at_call 14; (with_reducible refine (encode_par G (w.heap.size + 1) 0 i 13 w2 h1 h13 hG (HG2.out.at0 (by omega))).mono ?_); rintro e w3 ⟨rfl, hR3, hB3⟩; have HQ3 := Lib.hid hR3; have HP3 := Lib.hid (HP2.out.below hB3); have HCS3 := Lib.hid (HCS2.out.below hB3); have HCM3 := Lib.hid (HCM2.out.below hB3); have HB3 := Lib.hid (HB2.out.trans (hB3.mono HB2.out.size)); clear hR3 hB3)
        | (go_at_call 14; (with_reducible refine (encode_par (fun p => F p ^^^ G p) gs 0 i cs w3 h1 h13 (fun p => Gf.xor_lt (hF p) (hG p)) (fun j hj => by rw [Nat.zero_add]; exact HCS3.out.cell j hj)).mono ?_); rintro e w4 ⟨rfl, hR4, hB4⟩; have HR4 := Lib.hid hR4; have HP4 := Lib.hid (HP3.out.below hB4); have HQ4 := Lib.hid (HQ3.out.below hB4); have HCM4 := Lib.hid (HCM3.out.below hB4); have HB4 := Lib.hid (HB3.out.trans (hB4.mono HB3.out.size)); clear hR4 hB4)
        | (go_at_call 14; (with_reducible refine (encode_par (fun p => Gf.mul c (F p)) gm 0 i cm w4 h1 h13 (fun p => Gf.mul_lt _ _ hcl) (fun j hj => by rw [Nat.zero_add]; exact HCM4.out.cell j hj)).mono ?_); rintro e w5 ⟨rfl, hR5, hB5⟩; have HS5 := Lib.hid hR5; have HP5 := Lib.hid (HP4.out.below hB5); have HQ5 := Lib.hid (HQ4.out.below hB5); have HR5 := Lib.hid (HR4.out.below hB5); have HB5 := Lib.hid (HB4.out.trans (hB5.mono HB4.out.size)); clear hR5 hB5))
      obtain ⟨wx, hwx⟩ : ∃ wx, wx = wr := ⟨_, rfl⟩
      subst hwx
      obtain ⟨p, hp⟩ : ∃ p, p = par F i := ⟨_, rfl⟩
      obtain ⟨q, hq⟩ : ∃ q, q = par G i := ⟨_, rfl⟩
      obtain ⟨r, hr⟩ : ∃ r, r = par (fun p => F p ^^^ G p) i := ⟨_, rfl⟩
      obtain ⟨t, ht⟩ : ∃ t, t = par (fun p => Gf.mul c (F p)) i := ⟨_, rfl⟩
      have hrp : ∀ o, r o = p o ^^^ q o := fun o => by rw [hr, hp, hq]; exact par_add F G hF hG i o
      have htp : ∀ o, t o = Gf.mul c (p o) := fun o => by rw [ht, hp]; exact par_mul F c hcl hF i o
      have hpl : ∀ o, p o < 256 := by rw [hp]; exact par_lt i
      have hql : ∀ o, q o < 256 := by rw [hq]; exact par_lt i
      have hrl : ∀ o, r o < 256 := by rw [hr]; exact par_lt i
      have htl : ∀ o, t o < 256 := by rw [ht]; exact par_lt i
      rw [← hp] at HP5
      rw [← hq] at HQ5
      rw [← hr] at HR5
      rw [← ht] at HS5
      clear hp hq hr ht HA HG HB HCS HCM HP2 HG2 HCS2 HCM2 HB2 HQ3 HP3 HCS3 HCM3 HB3 HR4 HP4 HQ4 HCM4 HB4
      go_loopw [20] (fun vj wq => ∃ j : Nat, j ≤ 3 ∧ vj = .int .i64 j ∧ Kp w5 wq) (fun vj _ => 3 - (intOf vj).toNat)
      case atStart => exact ⟨0, by omega, rfl, Kp.refl w5⟩
      case round =>
        obtain ⟨j, hj, rfl, hk⟩ := hrel
        have HK := Lib.hid hk
        by_cases hj3 : j < 3
        · have hj3i : (j : Int) < 3 := by omega
          have KS : ∀ W, Kp w5 W → Kp w5 W ∧ W.cell? ⟨wx.heap.size, j * 8, none⟩ = some (.int .u8 (p (j * 8) : Nat)) ∧ (∀ o : Nat, o < 8 → W.cell? ⟨wx.heap.size, j * 8 + o, none⟩ = some (.int .u8 (p (j * 8 + o) : Nat))) ∧ W.cell? ⟨w2.heap.size, j * 8, none⟩ = some (.int .u8 (q (j * 8) : Nat)) ∧ (∀ o : Nat, o < 8 → W.cell? ⟨w2.heap.size, j * 8 + o, none⟩ = some (.int .u8 (q (j * 8 + o) : Nat))) ∧ W.cell? ⟨w3.heap.size, j * 8, none⟩ = some (.int .u8 (r (j * 8) : Nat)) ∧ (∀ o : Nat, o < 8 → W.cell? ⟨w3.heap.size, j * 8 + o, none⟩ = some (.int .u8 (r (j * 8 + o) : Nat))) ∧ W.cell? ⟨w4.heap.size, j * 8, none⟩ = some (.int .u8 (t (j * 8) : Nat)) ∧ (∀ o : Nat, o < 8 → W.cell? ⟨w4.heap.size, j * 8 + o, none⟩ = some (.int .u8 (t (j * 8 + o) : Nat))) := fun W hk =>
            ⟨hk, (HP5.out.below hk.below).cell _ (by omega), (fun o ho => (HP5.out.below hk.below).cell _ (by omega)), (HQ5.out.below hk.below).cell _ (by omega), (fun o ho => (HQ5.out.below hk.below).cell _ (by omega)),
              (HR5.out.below hk.below).cell _ (by omega), (fun o ho => (HR5.out.below hk.below).cell _ (by omega)), (HS5.out.below hk.below).cell _ (by omega), (fun o ho => (HS5.out.below hk.below).cell _ (by omega))⟩
          obtain ⟨hK1, cp0, cp, cq0, cq, cr0, cr, ct0, ct⟩ := KS wr HK.out
          have HKS := Lib.hid KS
          have hxr := fun W => rxor_any (fun k => p (j * 8 + k)) (fun k => q (j * 8 + k)) W (fun k => hpl _) (fun k => hql _)
          have hsc := fun W => rscale_any (fun k => p (j * 8 + k)) c W hcl (fun k => hpl _)
          rw [brow_congr (f := fun k => p (j * 8 + k) ^^^ q (j * 8 + k)) (f' := fun k => r (j * 8 + k)) (fun k _ => (hrp _).symm)] at hxr
          rw [brow_congr (f := fun k => Gf.mul c (p (j * 8 + k))) (f' := fun k => t (j * 8 + k)) (fun k _ => (htp _).symm)] at hsc
          have n1 := run_neqB (fun k => r (j * 8 + k)) (fun k => r (j * 8 + k)) (fun k => hrl _) (fun k => hrl _)
          have n2 := run_neqB (fun k => t (j * 8 + k)) (fun k => t (j * 8 + k)) (fun k => htl _) (fun k => htl _)
          have m1 := run_eqB (fun k => r (j * 8 + k)) (fun k => r (j * 8 + k)) (fun k => hrl _) (fun k => hrl _)
          have m2 := run_eqB (fun k => t (j * 8 + k)) (fun k => t (j * 8 + k)) (fun k => htl _) (fun k => htl _)
          rw [eqB_yes (fun _ _ => rfl)] at n1 n2 m1 m2
          simp only [brow8, Nat.add_zero, Bool.not_true] at hxr hsc n1 n2 m1 m2
          have HX := Lib.hid hxr
          have HSC := Lib.hid hsc
          clear hxr hsc KS hk hrp htp n1 n2
          go_wp2_with fail
          go_region_held3 (fun W => Kp w5 W ∧ W.cell? ⟨wx.heap.size, j * 8, none⟩ = some (.int .u8 (p (j * 8) : Nat)) ∧ (∀ o : Nat, o < 8 → W.cell? ⟨wx.heap.size, j * 8 + o, none⟩ = some (.int .u8 (p (j * 8 + o) : Nat))) ∧ W.cell? ⟨w2.heap.size, j * 8, none⟩ = some (.int .u8 (q (j * 8) : Nat)) ∧ (∀ o : Nat, o < 8 → W.cell? ⟨w2.heap.size, j * 8 + o, none⟩ = some (.int .u8 (q (j * 8 + o) : Nat))) ∧ W.cell? ⟨w3.heap.size, j * 8, none⟩ = some (.int .u8 (r (j * 8) : Nat)) ∧ (∀ o : Nat, o < 8 → W.cell? ⟨w3.heap.size, j * 8 + o, none⟩ = some (.int .u8 (r (j * 8 + o) : Nat))) ∧ W.cell? ⟨w4.heap.size, j * 8, none⟩ = some (.int .u8 (t (j * 8) : Nat)) ∧ (∀ o : Nat, o < 8 → W.cell? ⟨w4.heap.size, j * 8 + o, none⟩ = some (.int .u8 (t (j * 8 + o) : Nat))))
            (first | (go_split_ands; exact ⟨by assumption, by assumption, by assumption, by assumption, by assumption, by assumption, by assumption, by assumption, by assumption⟩) | (go_split_ands; exact HKS.out _ (Kp.next (by assumption) hB')))
            (first
              | (go_at_call 19; (with_reducible refine (HX.out _).mono ?_); rintro e w' ⟨rfl, hB'⟩)
              | (go_at_call 20; (with_reducible refine (HSC.out _).mono ?_); rintro e w' ⟨rfl, hB'⟩))
          have hk' : Kp w5 w' := by go_split_ands; assumption
          go_wp2_with fail
          go_roundw
          case rel => exact ⟨j + 1, by omega, by go_num, hk'⟩
          case measure => simp [intOf]; omega
        · obtain rfl : j = 3 := by omega
          go_wp2_with fail
          go_ret
          exact ⟨rfl, HB5.out.trans (hk.below.mono HB5.out.size)⟩
end Go.Proofs.Ytibhhonmcbbohaa
