/- The walks of decode.possible and decode.generator. Any n rows of the generator have a kernel of 0 alone; the weights give the piece. In plain arithmetic. The walk of decode.Weights. The walk of decode.Combine. -/
import Derived.Test.YtlimlmfgeaokhaaMe
import Derived.ArgAppend
namespace Go.Proofs.Ytlimlmfgeaokhaa
open Go.RowKit

/-- the generator of a code of n data pieces -/
def gen (n i k : Nat) : Nat := if i < n then idm i k else Gf.ex (k * (i - n))
theorem gen_lt (n i k : Nat) : gen n i k < 256 := by unfold gen; split; exact idm_lt _ _; exact Gf.ex_lt _
set_option linter.unusedSimpArgs false in
theorem possible_any (N : Nat) (w : World) : Calls Try.prog 26 #[.int .i64 N] w fun e w' => e = .returned (.bool (decide (3 < N ∧ N ≤ 16))) ∧ w = w' := by
  by_cases h3 : 3 < N
  · by_cases h16 : N ≤ 16
    · have a1 : (3 : Int) < N := by omega
      have a2 : (N : Int) ≤ 16 := by omega
      go_enter Try.func26, Try.ntmps26
      go_wp2_with fail
      go_ret
      exact ⟨by simp [h3, h16], rfl⟩
    · have a1 : (3 : Int) < N := by omega
      have a2 : ¬ (N : Int) ≤ 16 := by omega
      go_enter Try.func26, Try.ntmps26
      go_wp2_with fail
      go_ret
      exact ⟨by simp [h16], rfl⟩
  · have a1 : ¬ (3 : Int) < N := by omega
    go_enter Try.func26, Try.ntmps26
    go_wp2_with fail
    go_ret
    exact ⟨by simp [h3], rfl⟩
theorem gen_mat {w : World} {base n cap : Nat} {v : Value} {R : Nat → Nat} {gs : List Nat} (h : w.ownsRow base 36 1 v (n + 3) ((List.range n).map (fun i => Value.slice (some ⟨R i, 0, none⟩) n n) ++ hdr n gs)) (hl : gs.length = 3)
    (h1 : ∀ i, i < n → RB w (R i) n 5 (idm i)) (h2 : ∀ j, j < 3 → RB w (gs.getD j 0) n 5 (fun i => Gf.ex (i * j))) (_hc : cap = 0) : ∃ A c, v = .slice A (n + 3) c ∧ Mat w A (n + 3) n (gen n) := by
  obtain ⟨g, cap, rfl, _, _⟩ := h.form (by omega)
  refine ⟨_, cap, rfl, g, 0, rfl, fun q hq => ?_⟩
  rw [Nat.zero_add, h.cellAt q (by omega)]
  by_cases e : q < n
  · refine ⟨R q, 0, n, ?_, fun i hi => by rw [Nat.zero_add, gen, if_pos e]; exact (h1 q e).cell i hi⟩
    rw [List.getElem?_append_left (by simpa using e)]
    simp [e]
  · refine ⟨gs.getD (q - n) 0, 0, n, ?_, fun i hi => by rw [Nat.zero_add, gen, if_neg e]; exact (h2 (q - n) (by omega)).cell i hi⟩
    rw [List.getElem?_append_right (by simp; omega)]
    simp [hdr, show q - n < gs.length by omega]
theorem mb_olds {w : World} {g n d : Nat} {R : Nat → Nat} {f : Nat → Nat → Nat} (h : MB w g n d R f) : ∀ b, some (⟨g, 0, none⟩ : Addr) = some b → ∀ j u, ((List.range n).map (fun i => Value.slice (some ⟨R i, 0, none⟩) d d))[j]? = some u → w.cell? (b.add j) = some u := fun b hb j u hj => by
  cases hb
  have hjn : j < n := by
    have := (List.getElem?_eq_some_iff.1 hj).1
    simpa using this
  rw [Go.WideShapes.add_plain, Nat.zero_add, h.hd j hjn, ← hj]
  simp [hjn]
theorem hdr_one (d : Nat) (gs : List Nat) : ∀ u ∈ hdr d gs, u.oneCell' = true := fun u hu => by
  simp only [hdr, List.mem_map] at hu
  obtain ⟨x, _, rfl⟩ := hu
  rfl
set_option maxRecDepth 100000 in
set_option maxHeartbeats 1000000 in
theorem generator_any (N : Nat) (w : World) (h3 : 3 < N) (h16 : N ≤ 16) :
    Calls Try.prog 29 #[.int .i64 N] w fun e w' => ∃ A c, e = .returned (.slice A N c) ∧ Mat w' A N (N - 3) (gen (N - 3)) ∧ Below w.heap.size w w' := by
  obtain ⟨n, rfl⟩ : ∃ n, N = n + 3 := ⟨N - 3, by omega⟩
  rw [Nat.add_sub_cancel]
  obtain ⟨i0, hi0, hz0, hz1, hz2⟩ := info_parts Try.infoBytes
  have HI0 := Lib.hid (And.intro hi0 (And.intro hz0 (And.intro hz1 hz2)))
  clear hi0 hz0 hz1 hz2
  have hid := fun W => identity_any n W (by omega) (by omega)
  have hma := fun W => matrix_any n W (by omega) (by omega)
  have HID := Lib.hid hid
  have HMA := Lib.hid hma
  clear hid hma
  go_enter Try.func29, Try.ntmps29
  go_wp2_with (first
    | (go_at_call 47; (with_reducible refine (HID.out _).mono ?_); rintro e w1 ⟨R, rfl, hM1, hB1⟩; have HM1 := Lib.hid hM1; have HB1 := Lib.hid hB1; clear hM1 hB1)
    | (go_at_call 48; (with_reducible refine (HMA.out _).mono ?_); rintro e w2 ⟨v, gs, rfl, o2, l2, r2, hB2⟩; obtain ⟨gm, cm, rfl, _, _⟩ := o2.form (by omega); have HO2 := Lib.hid o2; have HL2 := Lib.hid l2; have HR2 := Lib.hid r2; have HM2 := Lib.hid (HM1.out.below hB2); have HB2 := Lib.hid (HB1.out.trans (hB2.mono HB1.out.size)); clear o2 l2 r2 hB2)
    | (at_builtin; refine wpList_append_grows _ rfl (.tmp 19) (.tmp 20) 68 rfl 36 i0 (.slice none 0 0) 1 24 Try.underlying68 HI0.out.1 HI0.out.2.1 HI0.out.2.2.1 HI0.out.2.2.2 rfl (by decide) (some ⟨w.heap.size, 0, none⟩) n n ((List.range n).map (fun i => Value.slice (some ⟨R i, 0, none⟩) n n)) rfl (fun h => by cases h) (by simp) (mb_olds HM2.out) ⟨gm, 0, none⟩ 3 cm (hdr n gs) rfl (by have := HL2.out; simp [hdr, this]) (HO2.out.cells rfl) (hdr_one n gs) (by omega) (by unfold maxLen; omega) (by omega) ?_; intro v3 w3 o3 g3; have HO3 := Lib.hid o3; have HG3 := Lib.hid g3; clear o3 g3))
  obtain ⟨A, c, hv, hm⟩ := gen_mat (cap := 0) HO3.out HL2.out (fun i hi => rb_grown (HM2.out.2 i hi) HG3.out (by simp)) (fun j hj => rb_grown (HR2.out j hj) HG3.out (by simp)) rfl
  subst hv
  have hbl := HB2.out.grown HG3.out HB2.out.size (fun k hk => by cases hk)
  go_ret
  exact ⟨A, c, rfl, hm, hbl⟩
end Go.Proofs.Ytlimlmfgeaokhaa
namespace Go.Proofs.Ytlimlmfgeaokhaa
open Go.RowKit

theorem xs_swap (f : Nat → Nat → Nat) (m : Nat) : ∀ n, xs (fun i => xs (fun j => f i j) m) n = xs (fun j => xs (fun i => f i j) n) m
  | 0 => (xs_zero m (fun _ _ => rfl)).symm
  | n + 1 => by
    rw [xs, xs_swap f m n, ← xs_xor]
    rfl
/-- what a rising list of places leaves out -/
theorem left_out (fr : Nat → Nat) : ∀ (M m : Nat), (∀ i j, i < j → j < m → fr i < fr j) → (∀ i, i < m → fr i < M) → ∃ L : List Nat, L.length + m = M ∧ (∀ x ∈ L, x < M) ∧ ∀ x, x < M → (∃ i, i < m ∧ x = fr i) ∨ x ∈ L
  | 0, m, _, h => by
    have : m = 0 := by
      rcases Nat.eq_zero_or_pos m with h0 | h0
      · exact h0
      · exact absurd (h 0 h0) (by omega)
    subst this
    exact ⟨[], rfl, (fun x hx => by cases hx), fun x hx => by omega⟩
  | M + 1, m, hi, h => by
    by_cases e : 0 < m ∧ fr (m - 1) = M
    · obtain ⟨L, l1, l2, l3⟩ := left_out fr M (m - 1) (fun i j hij hj => hi i j hij (by omega)) (fun i hi' => by rw [← e.2]; exact hi i (m - 1) hi' (by omega))
      refine ⟨L, by omega, (fun x hx => by have := l2 x hx; omega), fun x hx => ?_⟩
      by_cases e2 : x = M
      · exact .inl ⟨m - 1, by omega, by rw [e2, e.2]⟩
      · rcases l3 x (by omega) with ⟨i, h1, h2⟩ | h1
        · exact .inl ⟨i, by omega, h2⟩
        · exact .inr h1
    · obtain ⟨L, l1, l2, l3⟩ := left_out fr M m hi (fun i hi' => by
        have h1 := h i hi'
        by_cases e2 : i = m - 1
        · rw [e2] at h1 ⊢
          have : fr (m - 1) ≠ M := fun h => e ⟨by omega, h⟩
          omega
        · have h2 := hi i (m - 1) (by omega) (by omega)
          have h3 := h (m - 1) (by omega)
          omega)
      refine ⟨M :: L, by simp; omega, (fun x hx => ?_), fun x hx => ?_⟩
      · rcases List.mem_cons.1 hx with rfl | hx
        · omega
        · have := l2 x hx; omega
      · by_cases e2 : x = M
        · exact .inr (by rw [e2]; exact List.mem_cons_self)
        · rcases l3 x (by omega) with h1 | h1
          · exact .inl h1
          · exact .inr (List.mem_cons_of_mem _ h1)
theorem dot_gen_data (n q : Nat) (v : Nat → Nat) (hv : ∀ j, v j < 256) (hq : q < n) : dot (gen n q) v n = v q := by
  rw [dot_congr n (s := idm q) (fun k _ => by rw [gen, if_pos hq]), dot_idm v hv q n hq]
/-- a word of the code satisfies the checks -/
theorem syn_code (n j : Nat) (v : Nat → Nat) (hv : ∀ k, v k < 256) (hj : j < 3) : syn n (fun q => dot (gen n q) v n) j = 0 := by
  have hl : ∀ q, dot (gen n q) v n < 256 := fun q => dot_lt (gen_lt n q) n
  have h := syn_sp (fun p => dot (gen n (p / 8)) v n) (fun p => hl _) n j 0 hj
  rw [show (fun i => (fun p => dot (gen n (p / 8)) v n) (i * 8 + 0)) = fun q => dot (gen n q) v n by funext q; show dot (gen n ((q * 8 + 0) / 8)) v n = _; rw [show (q * 8 + 0) / 8 = q by omega]] at h
  rw [h, sp_xs]
  show xs (fun i => Gf.mul (Gf.ex (j * i)) (dot (gen n ((i * 8 + 0) / 8)) v n)) n ^^^ dot (gen n (((n + j) * 8 + 0) / 8)) v n = 0
  rw [show ((n + j) * 8 + 0) / 8 = n + j by omega]
  have e : xs (fun i => Gf.mul (Gf.ex (j * i)) (dot (gen n ((i * 8 + 0) / 8)) v n)) n = dot (gen n (n + j)) v n := by
    unfold dot
    refine xs_congr n (fun i hi => ?_)
    rw [show (i * 8 + 0) / 8 = i by omega]
    have := dot_gen_data n i v hv hi
    unfold dot at this
    rw [this, gen, if_neg (by omega), Nat.add_sub_cancel_left, Nat.mul_comm j i]
  rw [e, Nat.xor_self]
theorem noker_gen (n : Nat) (fr : Nat → Nat) (hn : n ≤ 13) (hi : ∀ i j, i < j → j < n → fr i < fr j) (hlt : ∀ i, i < n → fr i < n + 3) : NoKer (fun i => gen n (fr i)) n := by
  intro v hv h0 a ha
  obtain ⟨L, l1, l2, l3⟩ := left_out fr (n + 3) n hi hlt
  have hl : ∀ q, dot (gen n q) v n < 256 := fun q => dot_lt (gen_lt n q) n
  rw [← dot_gen_data n a v hv ha]
  rcases l3 a (by omega) with ⟨i, h1, h2⟩ | hL
  · rw [h2]; exact h0 i h1
  · obtain ⟨u, x, hu, hx, hux⟩ : ∃ u x, u < n + 3 ∧ x < n + 3 ∧ ∀ k ∈ L, k = a ∨ k = u ∨ k = x := by
      match L, l1, hL, l2 with
      | [x, y, z], _, hin, hk =>
        simp only [List.mem_cons, List.not_mem_nil, or_false] at hin hk
        rcases hin with hin | hin | hin
        · exact ⟨y, z, hk y (.inr (.inl rfl)), hk z (.inr (.inr rfl)), fun k hk => by simp at hk; omega⟩
        · exact ⟨x, z, hk x (.inl rfl), hk z (.inr (.inr rfl)), fun k hk => by simp at hk; omega⟩
        · exact ⟨x, y, hk x (.inl rfl), hk y (.inr (.inl rfl)), fun k hk => by simp at hk; omega⟩
      | [], h, _, _ => simp at h <;> omega
      | [_], h, _, _ => simp at h <;> omega
      | [_, _], h, _, _ => simp at h <;> omega
      | _ :: _ :: _ :: _ :: _, h, _, _ => simp at h <;> omega
    obtain ⟨b, c, hb, hcc, hab, hac, hbc, hub, hvb⟩ := two_others (n + 3) a u x (by omega) hu hx
    exact col_zero n hn (fun q => dot (gen n q) v n) hl a b c (by omega) hb hcc hab hac hbc (fun i hin h1 h2 h3 => by
      rcases l3 i hin with ⟨k, hk1, hk2⟩ | hk
      · show dot (gen n i) v n = 0
        rw [hk2]; exact h0 k hk1
      · have := hux i hk
        omega) (fun j hj => syn_code n j v hv hj)
/-- the weights of the pieces fr 0, .., fr (n - 1) give piece tq -/
theorem weights_ok (n tq : Nat) (fr : Nat → Nat) (T : Nat → Nat → Nat) (d : Nat → Nat) (hd : ∀ k, d k < 256) (hT : ∀ i j, T i j < 256)
    (h : ∀ i j, i < n → j < n → dot (T i) (fun k => gen n (fr k) j) n = idm i j) :
    xs (fun j => Gf.mul (dot (gen n tq) (fun k => T k j) n) (dot (gen n (fr j)) d n)) n = dot (gen n tq) d n := by
  have gl := gen_lt n
  have wl : ∀ j, dot (gen n tq) (fun k => T k j) n < 256 := fun j => dot_lt (gl tq) n
  have wl2 : ∀ j, xs (fun k => Gf.mul (gen n tq k) (T k j)) n < 256 := wl
  -- W_j * sum_i A_ji d_i = sum_i (W_j A_ji) d_i
  have e1 : ∀ j, Gf.mul (dot (gen n tq) (fun k => T k j) n) (dot (gen n (fr j)) d n) = xs (fun i => Gf.mul (Gf.mul (dot (gen n tq) (fun k => T k j) n) (gen n (fr j) i)) (d i)) n := fun j => by
    show Gf.mul _ (xs _ n) = _
    rw [xs_mul _ _ (wl j) (fun i => Gf.mul_lt _ _ (gl _ _))]
    exact xs_congr n (fun i _ => (Gf.mul_assoc _ _ _ (wl j) (gl _ _) (hd i)).symm)
  rw [xs_congr n (fun j _ => e1 j), xs_swap]
  unfold dot
  refine xs_congr n (fun i hi => ?_)
  -- sum_j (W_j A_ji) d_i = (sum_j W_j A_ji) d_i
  have e2 : xs (fun j => Gf.mul (Gf.mul (xs (fun k => Gf.mul (gen n tq k) (T k j)) n) (gen n (fr j) i)) (d i)) n = Gf.mul (d i) (xs (fun j => Gf.mul (xs (fun k => Gf.mul (gen n tq k) (T k j)) n) (gen n (fr j) i)) n) := by
    rw [xs_mul _ _ (hd i) (fun j => Gf.mul_lt _ _ (wl2 j))]
    exact xs_congr n (fun j _ => Gf.mul_comm _ _ (Gf.mul_lt _ _ (wl2 j)) (hd i))
  rw [e2]
  -- sum_j W_j A_ji = gen tq i
  have e3 : xs (fun j => Gf.mul (xs (fun k => Gf.mul (gen n tq k) (T k j)) n) (gen n (fr j) i)) n = gen n tq i := by
    have e4 : ∀ j, Gf.mul (xs (fun k => Gf.mul (gen n tq k) (T k j)) n) (gen n (fr j) i) = xs (fun k => Gf.mul (gen n tq k) (Gf.mul (T k j) (gen n (fr j) i))) n := fun j => by
      rw [Gf.mul_comm _ _ (wl2 j) (gl _ _), xs_mul _ _ (gl _ _) (fun k => Gf.mul_lt _ _ (gl _ _))]
      refine xs_congr n (fun k _ => ?_)
      rw [Gf.mul_comm _ _ (gl (fr j) i) (Gf.mul_lt _ _ (gl tq k)), Gf.mul_assoc _ _ _ (gl _ _) (hT _ _) (gl _ _)]
    rw [xs_congr n (fun j _ => e4 j), xs_swap]
    have e5 : ∀ k, k < n → xs (fun j => Gf.mul (gen n tq k) (Gf.mul (T k j) (gen n (fr j) i))) n = Gf.mul (gen n tq k) (idm k i) := fun k hk => by
      rw [← h k i hk hi]
      exact (xs_mul _ _ (gl tq k) (fun j => Gf.mul_lt _ _ (hT k j)) n).symm
    rw [xs_congr n (fun k hk => e5 k hk)]
    exact dot_idm_right (gen n tq) (gl tq) i n hi
  rw [e3, Gf.mul_comm _ _ (hd i) (gl _ _)]
end Go.Proofs.Ytlimlmfgeaokhaa
namespace Go.Proofs.Ytlimlmfgeaokhaa
open Go.RowKit

/-- a slice of n numbers -/
def Ns (w : World) (A : Option Addr) (n : Nat) (fr : Nat → Nat) : Prop := ∃ b off : Nat, A = some ⟨b, off, none⟩ ∧ ∀ i : Nat, i < n → w.cell? ⟨b, off + i, none⟩ = some (.int .i64 (fr i : Nat))
theorem Ns.below {w w' : World} {A : Option Addr} {n : Nat} {fr : Nat → Nat} (h : Ns w A n fr) (hB : Below w.heap.size w w') : Ns w' A n fr := by
  obtain ⟨b, off, rfl, h⟩ := h
  exact ⟨b, off, rfl, fun i hi => (hB.cell (World.block_lt_of_cell? w _ (h i hi))).trans (h i hi)⟩
/-- the rows of g that were chosen, the first k -/
def Chosen (w : World) (n k : Nat) (fr : Nat → Nat) (l : List Value) : Prop := l.length = k ∧ ∀ i, i < k → ∃ rb ro rc : Nat, l[i]? = some (.slice (some ⟨rb, ro, none⟩) n rc) ∧ ∀ j : Nat, j < n → w.cell? ⟨rb, ro + j, none⟩ = some (.int .u8 (gen n (fr i) j : Nat))
theorem Chosen.next {w : World} {n k : Nat} {fr : Nat → Nat} {l : List Value} {rb ro rc : Nat} (h : Chosen w n k fr l) (hr : ∀ j : Nat, j < n → w.cell? ⟨rb, ro + j, none⟩ = some (.int .u8 (gen n (fr k) j : Nat))) : Chosen w n (k + 1) fr (l ++ [.slice (some ⟨rb, ro, none⟩) n rc]) := by
  obtain ⟨h1, h2⟩ := h
  refine ⟨by simp [h1], fun i hi => ?_⟩
  by_cases e : i < k
  · obtain ⟨a, b, c, x1, x2⟩ := h2 i e
    exact ⟨a, b, c, by rw [List.getElem?_append_left (by omega)]; exact x1, x2⟩
  · obtain rfl : i = k := by omega
    exact ⟨rb, ro, rc, by simp [← h1], hr⟩
theorem Chosen.one {w : World} {n k : Nat} {fr : Nat → Nat} {l : List Value} (h : Chosen w n k fr l) : ∀ u ∈ l, u.oneCell' = true := fun u hu => by
  obtain ⟨i, hi, rfl⟩ := List.getElem_of_mem hu
  obtain ⟨a, b, c, x1, _⟩ := h.2 i (by rw [← h.1]; exact hi)
  rw [List.getElem?_eq_getElem hi] at x1
  have h3 : l[i] = _ := Option.some.inj x1
  show (l[i]).oneCell' = true
  rw [h3]
  rfl
theorem Chosen.mat {w w' : World} {base n k : Nat} {fr : Nat → Nat} {l : List Value} {v : Value} (h : Chosen w n k fr l) (ho : w'.ownsRow base 36 1 v k l) (hk : 0 < k) (hB : Below w.heap.size w w') : ∃ A c, v = .slice A k c ∧ Mat w' A k n (fun i => gen n (fr i)) := by
  obtain ⟨g, cap, rfl, _, _⟩ := ho.form hk
  refine ⟨_, cap, rfl, g, 0, rfl, fun q hq => ?_⟩
  obtain ⟨a, b, c, x1, x2⟩ := h.2 q hq
  exact ⟨a, b, c, by rw [Nat.zero_add, ho.cellAt q (by omega)]; exact x1, fun j hj => (hB.cell (World.block_lt_of_cell? w _ (x2 j hj))).trans (x2 j hj)⟩
set_option maxRecDepth 100000 in
set_option maxHeartbeats 1000000 in
theorem weights_any (N tq : Nat) (fr : Nat → Nat) (A : Option Addr) (c : Nat) (w : World) (h3 : 3 < N) (h16 : N ≤ 16) (ht : tq < N) (hinc : ∀ i j, i < j → j < N - 3 → fr i < fr j) (hlt : ∀ i, i < N - 3 → fr i < N) (hA : Ns w A (N - 3) fr) :
    Calls Try.prog 11 #[.int .i64 N, .slice A (N - 3) c, .int .i64 tq] w fun e w' => ∃ (b off c' : Nat) (W : Nat → Nat), e = .returned (.tuple #[.slice (some ⟨b, off, none⟩) (N - 3) c', .int .i64 0]) ∧ (∀ j : Nat, j < N - 3 → w'.cell? ⟨b, off + j, none⟩ = some (.int .u8 (W j : Nat))) ∧ (∀ j, W j < 256) ∧
      (∀ d : Nat → Nat, (∀ k, d k < 256) → xs (fun j => Gf.mul (W j) (dot (gen (N - 3) (fr j)) d (N - 3))) (N - 3) = dot (gen (N - 3) tq) d (N - 3)) ∧ Below w.heap.size w w' := by
  obtain ⟨n, rfl⟩ : ∃ n, N = n + 3 := ⟨N - 3, by omega⟩
  simp only [Nat.add_sub_cancel] at *
  have hps := possible_any (n + 3) w
  rw [show decide (3 < n + 3 ∧ n + 3 ≤ 16) = true by simp; omega] at hps
  have hge := fun W => generator_any (n + 3) W h3 h16
  have hcast : ((n + 3 : Nat) : Int) = (n : Int) + 3 := by omega
  simp only [hcast, Nat.add_sub_cancel] at hps hge
  have HPS := Lib.hid hps
  have HGE := Lib.hid hge
  clear hge hcast
  have HA := Lib.hid hA
  have HINC := Lib.hid hinc
  have HLT := Lib.hid hlt
  obtain ⟨b0, o0, rfl, _⟩ := hA
  have ht1 : ¬ (tq : Int) < 0 := by omega
  have ht2 : (tq : Int) < (n : Int) + 3 := by omega
  obtain ⟨i0, hi0, hz0, hz1, hz2⟩ := info_parts Try.infoBytes
  have HI0 := Lib.hid (And.intro hi0 (And.intro hz0 (And.intro hz1 hz2)))
  clear hps hinc hlt hi0 hz0 hz1 hz2
  go_enter Try.func11, Try.ntmps11
  go_wp2_with (first
    | (go_at_call 26; (with_reducible refine HPS.out.mono ?_); rintro e w' ⟨rfl, rfl⟩))
  go_loopw [39] (fun vi wr => ∃ i : Nat, i ≤ n ∧ vi = .int .i64 i ∧ Below w.heap.size w wr) (fun vi _ => n - (intOf vi).toNat)
  case atStart => exact ⟨0, by omega, rfl, Below.refl _ _⟩
  case round =>
    obtain ⟨i, hi, rfl, hB⟩ := hrel
    have HB := Lib.hid hB
    by_cases hin : i < n
    · have hini : (i : Int) < n := by omega
      obtain ⟨b', o', e', hcs⟩ := HA.out.below hB
      cases e'
      have c1 := hcs i hin
      have f1 : ¬ ((fr i : Nat) : Int) < 0 := by omega
      have f2 : ¬ (n : Int) + 3 ≤ ((fr i : Nat) : Int) := by have := HLT.out i hin; omega
      by_cases h0 : i = 0
      · subst h0
        rw [Nat.add_zero] at c1
        clear hB hcs
        go_wp2_with fail
        exact ⟨⟨1, by omega, by go_num, HB.out⟩, by simp [intOf]; omega⟩
      · obtain ⟨k, rfl⟩ : ∃ k, i = k + 1 := ⟨i - 1, by omega⟩
        have c2 := hcs k (by omega)
        have f3 : ¬ ((fr (k + 1) : Nat) : Int) ≤ ((fr k : Nat) : Int) := by have := HINC.out k (k + 1) (by omega) hin; omega
        have hwk := IntWalk.i64_in ((k : Int) + 1 - 1) (by omega)
        rw [show (k : Int) + 1 - 1 = k by omega] at hwk
        have hk1 : (k : Int) < n := by omega
        have hk2 : (0 : Int) < (k : Int) + 1 := by omega
        clear hB hcs h0
        go_wp2_with fail
        exact ⟨⟨k + 1 + 1, by omega, by go_num, HB.out⟩, by simp [intOf]; omega⟩
    · obtain rfl : i = n := by omega
      clear hB
      go_wp2_with (go_at_call 29; (with_reducible refine (HGE.out _).mono ?_); rintro e w2 ⟨Ag, cg, rfl, hM2, hB2⟩; have HM2 := Lib.hid hM2; have HB2 := Lib.hid (HB.out.trans (hB2.mono HB.out.size)); obtain ⟨bg, og, rfl, _⟩ := hM2; clear hB2)
      have HA2 := Lib.hid (HA.out.below HB2.out)
      go_loopw [11, 69] (fun vo vk wr => ∃ (k : Nat) (l : List Value), k ≤ i ∧ vk = .int .i64 k ∧ wr.ownsRow w2.heap.size 36 1 vo k l ∧ Chosen w2 i k fr l ∧ Below w2.heap.size w2 wr) (fun _ vk _ => i - (intOf vk).toNat)
      case atStart => exact ⟨0, [], by omega, rfl, World.ownsRow_nil _ _ _ _, ⟨rfl, fun q hq => by omega⟩, Below.refl _ _⟩
      case round =>
        obtain ⟨k, l, hk, rfl, ho, hch, hw⟩ := hrel
        have HO := Lib.hid ho
        have HCH := Lib.hid hch
        have HW := Lib.hid hw
        clear ho hch
        by_cases hki : k < i
        · have hkii : (k : Int) < i := by omega
          obtain ⟨b', o', e', hcs⟩ := HA2.out.below hw
          cases e'
          have c1 := hcs k hki
          have hf := HLT.out k hki
          obtain ⟨rb, ro, rc, r1, r2⟩ := HM2.out.row (fr k) (by omega)
          have d1 := (hw.cell (World.block_lt_of_cell? w2 _ r1)).trans r1
          have hfi : ((fr k : Nat) : Int) < (i : Int) + 3 := by omega
          have HR2 := Lib.hid r2
          have hsz := HW.out.size
          clear hcs r1 r2 hw
          go_wp2_with (at_builtin; refine wpList_append_own _ rfl (.tmp 73) (.tmp 78) 68 rfl w2.heap.size 36 i0 (.slice none 0 0) 1 24 Try.underlying68 HI0.out.1 HI0.out.2.1 HI0.out.2.2.1 HI0.out.2.2.2 rfl (by decide) u11 k l rfl (HO.out.alloc _) ⟨wr.heap.size, 0, none⟩ 1 1 [.slice (some ⟨rb, ro, none⟩) i rc] rfl (by simp) (World.news_of_block (cs := #[.slice (some ⟨rb, ro, none⟩) i rc]) (heap_alloc_new wr _)) (by simp [Value.oneCell']) (by unfold maxLen; omega) (by omega) (by simp; omega) ?_; intro v5 w5 o5 g5 _; have HO5 := Lib.hid o5; have HW5 := Lib.hid ((HW.out.alloc HW.out.size _).grown g5 (by simp; omega) (fun q hq => (HO.out.lt q hq).1)); clear o5 g5)
          exact ⟨⟨k + 1, _, by omega, by go_num, HO5.out, HCH.out.next HR2.out, HW5.out⟩, by simp [intOf]; omega⟩
        · obtain rfl : k = i := by omega
          obtain ⟨Ar, cr, rfl, hmr⟩ := HCH.out.mat HO.out (by omega) hw
          have HIV := Lib.hid (inverse_any (fun q => gen k (fr q)) Ar k cr wr (by omega) (by omega) (fun _ _ => gen_lt _ _ _) hmr (noker_gen k fr (by omega) HINC.out HLT.out))
          obtain ⟨rb, ro, rc, r1, r2⟩ := HM2.out.row tq (by omega)
          clear hmr hw HO HCH
          go_wp2_with (go_at_call 30; (with_reducible refine HIV.out.mono ?_); rintro e w6 ⟨gi, T, rfl, hM6, hT6, hD6, hB6⟩; have HM6 := Lib.hid hM6; have HT6 := Lib.hid hT6; have HD6 := Lib.hid hD6; have HW6 := Lib.hid (HW.out.trans (hB6.mono HW.out.size)); have d1 := (HW6.out.cell (World.block_lt_of_cell? w2 _ r1)).trans r1; clear hM6 hT6 hD6 hB6)
          have hA1 : Mat (w6.alloc (.cells #[.slice (some ⟨rb, ro, none⟩) k rc] 36)) (some ⟨w6.heap.size, 0, none⟩) 1 k (fun _ q => gen k tq q) := ⟨w6.heap.size, 0, rfl, fun q hq => by
            obtain rfl : q = 0 := by omega
            refine ⟨rb, ro, rc, cell_of_row _ _ 0 _ _ _ (heap_alloc_new w6 _), fun j hj => ?_⟩
            have hb := (HW6.out.cell (World.block_lt_of_cell? w2 _ (r2 j hj))).trans (r2 j hj)
            exact ((Go.Joins.below_alloc1 w6 _).cell (World.block_lt_of_cell? w6 _ hb)).trans hb⟩
          have hA2 := Mat.below HM6.out (Go.Joins.below_alloc1 w6 (.cells #[.slice (some ⟨rb, ro, none⟩) k rc] 36))
          refine (matmul_any (fun _ q => gen k tq q) T _ _ 1 k k 1 k _ (by omega) (by omega) (by omega) (by omega) (by omega) (by omega) (fun _ _ => gen_lt _ _ _) HT6.out hA1 hA2).mono ?_
          rintro e w7 ⟨R7, rfl, hM7, hB7⟩
          have h70 := hM7.hd 0 (by omega)
          have hr7 := hM7.2 0 (by omega)
          rw [nblk1] at h70
          have HR7 := Lib.hid hr7
          have HW7 := Lib.hid (HB2.out.trans ((HW6.out.alloc HW6.out.size (.cells #[.slice (some ⟨rb, ro, none⟩) k rc] 36)).trans (hB7.mono (by rw [nblk1]; exact Nat.le_succ_of_le HW6.out.size)) |>.mono HB2.out.size))
          clear hA1 hA2 hM7 hr7 hB7
          rw [nblk1]
          go_wp2_with fail
          go_ret2
          exact ⟨R7 0, 0, k, _, rfl, HR7.out.at0 (Nat.le_refl _), fun j => prod_lt (fun _ _ => gen_lt _ _ _) k 0 j, fun d hd => weights_ok k tq fr T d hd HT6.out HD6.out, HW7.out⟩
end Go.Proofs.Ytlimlmfgeaokhaa
namespace Go.Proofs.Ytlimlmfgeaokhaa
open Go.RowKit

/-- the combination of n blocks -/
def cmb (W F : Nat → Nat) (n k : Nat) : Nat := xs (fun i => Gf.mul (W i) (F (i * 8 + k))) n
theorem cmb_lt {W F : Nat → Nat} (hW : ∀ i, W i < 256) (n k : Nat) : cmb W F n k < 256 := xs_lt (fun i => Gf.mul_lt _ _ (hW i)) n
set_option maxRecDepth 100000 in
set_option maxHeartbeats 1000000 in
theorem combine_any (W F : Nat → Nat) (b1 o1 c1 n c2 : Nat) (A : Option Addr) (w : World) (hn1 : 1 ≤ n) (hn : n ≤ 100) (hW : ∀ i, W i < 256) (hF : ∀ p, F p < 256) (hw : ∀ i : Nat, i < n → w.cell? ⟨b1, o1 + i, none⟩ = some (.int .u8 (W i : Nat))) (hA : Bks w A n F) :
    Calls Try.prog 12 #[.slice (some ⟨b1, o1, none⟩) n c1, .slice A n c2] w fun e w' => e = .returned (.tuple #[.agg (brow 8 (cmb W F n)), .int .i64 0]) ∧ Below w.heap.size w w' := by
  have HWC := Lib.hid hw
  have HA := Lib.hid hA
  clear hw hA
  go_enter Try.func12, Try.ntmps12
  go_wp2_with fail
  go_loopw [18] (fun vi wr => ∃ i : Nat, i ≤ n ∧ vi = .int .i64 i ∧ RB wr (w.heap.size + 1) 8 25 (cmb W F i) ∧ RB wr w.heap.size 8 25 (fun _ => 0) ∧ Below w.heap.size w wr) (fun vi _ => n - (intOf vi).toNat)
  case atStart => exact ⟨0, by omega, rfl, (two_newB (w := w) (f := fun _ => 0) (t := 25)).2.1, (two_newB (w := w) (f := fun _ => 0) (t := 25)).1, (two_newB (w := w) (f := fun _ => 0) (t := 25)).2.2⟩
  case round =>
    obtain ⟨i, hi, rfl, hr, hz, hB⟩ := hrel
    by_cases hin : i < n
    · have hini : (i : Int) < n := by omega
      obtain ⟨b2, o2, rfl, hcs⟩ := HA.out.below hB (by omega)
      obtain ⟨y0, y1, y2, y3, y4, y5, y6, y7⟩ := cellsAt hcs hin
      have hwl := hr.lt
      have HR := Lib.hid hr
      have HB := Lib.hid hB
      have HZa := Lib.hid (hz.alloc (.cells (brow 8 fun k => F (i * 8 + k)) 25))
      have hbr : RB (wr.alloc (.cells (brow 8 fun k => F (i * 8 + k)) 25)) wr.heap.size 8 25 (fun k => F (i * 8 + k)) := RB.new
      have HBR := Lib.hid hbr
      have HRa := Lib.hid (hr.alloc (.cells (brow 8 fun k => F (i * 8 + k)) 25))
      have HBa := Lib.hid (hB.alloc hB.size (.cells (brow 8 fun k => F (i * 8 + k)) 25))
      clear hr hz hB hcs hbr
      simp only [brow8, Nat.add_zero] at HBR HRa HBa HZa
      go_wp2_with fail
      obtain ⟨Bb, hBb⟩ : ∃ Bb, Bb = wr.heap.size := ⟨_, rfl⟩
      rw [← hBb] at HBR hwl ⊢
      clear hBb
      go_loopw [23] (fun vk wq => ∃ k : Nat, k ≤ 8 ∧ vk = .int .i64 k ∧ RB wq (w.heap.size + 1) 8 25 (fun j => if j < k then cmb W F (i + 1) j else cmb W F i j) ∧ RB wq w.heap.size 8 25 (fun _ => 0) ∧ RB wq Bb 8 25 (fun k => F (i * 8 + k)) ∧ Below w.heap.size w wq) (fun vk _ => 8 - (intOf vk).toNat)
      case atStart => exact ⟨0, by omega, rfl, HRa.out.congr (fun j _ => by simp), HZa.out, HBR.out, HBa.out⟩
      case round =>
        clear HRa HBR HBa HZa HR HB y0 y1 y2 y3 y4 y5 y6 y7
        obtain ⟨k, hk, rfl, hr, hz, hb, hB⟩ := hrel
        by_cases hk8 : k < 8
        · have hk8i : (k : Int) < 8 := by omega
          have c0 := hr.cell k hk8
          have f0 := hr.frozen k
          rw [if_neg (Nat.lt_irrefl k)] at c0
          have c1 := hb.cell k hk8
          have c2 := (hB.cell (World.block_lt_of_cell? w _ (HWC.out i hin))).trans (HWC.out i hin)
          obtain ⟨x, hX⟩ : ∃ x, x = cmb W F i k := ⟨_, rfl⟩
          obtain ⟨y, hY⟩ : ∃ y, y = F (i * 8 + k) := ⟨_, rfl⟩
          obtain ⟨u, hU⟩ : ∃ u, u = W i := ⟨_, rfl⟩
          have hx : x < 256 := by rw [hX]; exact cmb_lt hW i k
          have hy : y < 256 := by rw [hY]; exact hF _
          have hu : u < 256 := by rw [hU]; exact hW i
          rw [← hX] at c0
          rw [← hY] at c1
          rw [← hU] at c2
          have HX := Lib.hid hX
          have HY := Lib.hid hY
          have HU := Lib.hid hU
          have HR := Lib.hid hr
          have HBb := Lib.hid hb
          have HB := Lib.hid hB
          have HZ := Lib.hid hz
          clear hX hY hU hr hb hB hz
          go_wp2_with fail
          go_still_tail 12, (by kernel_rfl)
          still_call ((mul_any u y hu hy _).mono fun _ _ h => ⟨h.1, h.2.symm⟩)
          repeat still_step
          refine wpStill_nil ?_
          change wpList _ _ _ _ _ wr.drew
          obtain ⟨w2, hw2⟩ : ∃ w2, w2 = wr.drew := ⟨_, rfl⟩
          rw [← hw2]
          have HZ2 := Lib.hid (show RB w2 w.heap.size 8 25 (fun _ => 0) by rw [hw2]; exact HZ.out)
          have HR2 := Lib.hid (show RB w2 (w.heap.size + 1) 8 25 (fun j => if j < k then cmb W F (i + 1) j else cmb W F i j) by rw [hw2]; exact HR.out)
          have HBb2 := Lib.hid (show RB w2 Bb 8 25 (fun k => F (i * 8 + k)) by rw [hw2]; exact HBb.out)
          have HB2 := Lib.hid (show Below w.heap.size w w2 by rw [hw2]; exact HB.out.drew)
          have d0 : w2.cell? ⟨w.heap.size + 1, k, none⟩ = some (.int .u8 (x : Nat)) := by rw [hw2]; exact c0
          have e0 : w2.frozen? ⟨w.heap.size + 1, k, none⟩ = false := by rw [hw2]; exact f0
          clear c0 c1 c2 f0 hw2 HR HBb HB HZ
          go_wp2
          go_roundw
          case rel =>
            refine ⟨k + 1, by omega, by go_num, ?_, HZ2.out.far _ (by omega), HBb2.out.far _ (by omega), Below.setCell (p := ⟨w.heap.size + 1, k, none⟩) HB2.out (Nat.le_succ _) _⟩
            rw [u8_xor_nat x (Gf.mul u y) hx (Gf.mul_lt u y hu)]
            refine HR2.out.set ?_ (fun j _ e => ?_)
            · rw [if_pos (by omega), HX.out, HY.out, HU.out]
              rfl
            · by_cases e2 : j < k
              · rw [if_pos e2, if_pos (by omega)]
              · rw [if_neg e2, if_neg (by omega)]
          case measure => simp [intOf]; omega
        · obtain rfl : k = 8 := by omega
          have hr' := hr.congr (f' := cmb W F (i + 1)) (fun j hj => by rw [if_pos hj])
          clear hr
          go_wp2_with fail
          go_roundw
          case rel => exact ⟨i + 1, by omega, by go_num, hr', hz, hB⟩
          case measure => simp [intOf]; omega
    · obtain rfl : i = n := by omega
      obtain ⟨y0, y1, y2, y3, y4, y5, y6, y7⟩ := cells8 hr
      obtain ⟨z0, z1, z2, z3, z4, z5, z6, z7⟩ := cells8 hz
      have hfz := hz.frozen
      have HZ := Lib.hid hz
      have HB := Lib.hid hB
      clear hr hB hz
      go_wp2_with fail
      obtain ⟨W8, hW8⟩ : ∃ W8, W8 = ((((((((wr.setCell ⟨w.heap.size, 0, none⟩ (.int .u8 (cmb W F i 0 : Nat))).setCell ⟨w.heap.size, 1, none⟩ (.int .u8 (cmb W F i 1 : Nat))).setCell ⟨w.heap.size, 2, none⟩ (.int .u8 (cmb W F i 2 : Nat))).setCell ⟨w.heap.size, 3, none⟩ (.int .u8 (cmb W F i 3 : Nat))).setCell ⟨w.heap.size, 4, none⟩ (.int .u8 (cmb W F i 4 : Nat))).setCell ⟨w.heap.size, 5, none⟩ (.int .u8 (cmb W F i 5 : Nat))).setCell ⟨w.heap.size, 6, none⟩ (.int .u8 (cmb W F i 6 : Nat))).setCell ⟨w.heap.size, 7, none⟩ (.int .u8 (cmb W F i 7 : Nat))) := ⟨_, rfl⟩
      have hR8 : RB W8 w.heap.size 8 25 (cmb W F i) := by
        rw [hW8]
        refine RB.congr (RB.upd (RB.upd (RB.upd (RB.upd (RB.upd (RB.upd (RB.upd (RB.upd HZ.out)))))))) (fun q hq => ?_)
        match q, hq with
        | 0, _ => simp
        | 1, _ => simp
        | 2, _ => simp
        | 3, _ => simp
        | 4, _ => simp
        | 5, _ => simp
        | 6, _ => simp
        | 7, _ => simp
      have hB8 : Below w.heap.size w W8 := by
        rw [hW8]
        exact (((((((HB.out.setCell (p := ⟨w.heap.size, 0, none⟩) (Nat.le_refl _) _).setCell (p := ⟨w.heap.size, 1, none⟩) (Nat.le_refl _) _).setCell (p := ⟨w.heap.size, 2, none⟩) (Nat.le_refl _) _).setCell (p := ⟨w.heap.size, 3, none⟩) (Nat.le_refl _) _).setCell (p := ⟨w.heap.size, 4, none⟩) (Nat.le_refl _) _).setCell (p := ⟨w.heap.size, 5, none⟩) (Nat.le_refl _) _).setCell (p := ⟨w.heap.size, 6, none⟩) (Nat.le_refl _) _).setCell (p := ⟨w.heap.size, 7, none⟩) (Nat.le_refl _) _
      rw [← hW8]
      clear hW8 y0 y1 y2 y3 y4 y5 y6 y7 z0 z1 z2 z3 z4 z5 z6 z7
      obtain ⟨x0, x1, x2, x3, x4, x5, x6, x7⟩ := cells8 hR8
      exact bodyPost_ret (v := .tuple #[.agg (brow 8 (cmb W F i)), .int .i64 0]) (by simp [results, Try.results12, go_sem, brow8, x0, x1, x2, x3, x4, x5, x6, x7]) rfl ⟨rfl, hB8⟩
end Go.Proofs.Ytlimlmfgeaokhaa
