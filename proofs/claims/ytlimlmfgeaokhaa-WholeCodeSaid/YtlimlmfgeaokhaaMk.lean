/- The walks of layout.Groups, Data, Slots, Valid, Width, Blocks. A design as a list of lists; the numbers of the complete designs. The walk of tegulatop.awake25. -/
import Derived.Test.YtlimlmfgeaokhaaMj
import Derived.Deep.DeepCutAuto
import Derived.Deep.CutBlock
namespace Go.Proofs.Ytlimlmfgeaokhaa
open Go.RowKit

/-- a balanced design of n groups of k on v disks, T tiles of it and S spare blocks -/
structure Lay (G : Nat → Nat → Nat) (n k v r lam T S : Nat) : Prop where
  fd : Fd n k v G
  bal : ∀ a, a < v → ∀ b, b < v → c1 G k (a * 60 + b) n = if a = b then r else lam
  lam1 : 1 ≤ lam
  k3 : 3 < k
  k16 : k ≤ 16
  T1 : 1 ≤ T
  T2 : T ≤ 256
  S1 : S ≤ 65536
  Tn : T * n ≤ 4096
  Td : T * n * (k - 3) ≤ 65536
  Tr : T * r + S ≤ 65536
theorem meas_any {G : Nat → Nat → Nat} {n k v r lam T S : Nat} (L : Lay G n k v r lam T S) {A : Option Addr} (c q3 q4 : Nat) (h3 : q3 = T * r) (h4 : q4 = T * r + S) {w : World} (hG : GM w A n k G) :
    Calls Try.prog 35 #[.agg #[.int .i64 v, .slice A n c, .int .i64 T, .int .i64 S]] w fun e w' => ∃ rb rc ob, e = .returned (.tuple #[.agg #[.int .i64 v, .slice A n c, .int .i64 T, .int .i64 S, .int .i64 k, .int .i64 r, .int .i64 n, .slice (some ⟨rb, 0, none⟩) n rc, .slice (some ⟨ob, 0, none⟩) v v, .int .i64 q3, .int .i64 q4], .bool true]) ∧ GM w' (some ⟨rb, 0, none⟩) n k (rk G k) ∧ Below w.heap.size w w' := by
  subst h3 h4
  exact measure_any G A n k v c r lam T S w L.fd hG L.bal L.lam1 L.k3 L.k16 L.T1 L.T2 L.S1 L.Tn L.Td L.Tr
set_option maxRecDepth 100000 in
theorem lgroups_any {G : Nat → Nat → Nat} {n k v r lam T S : Nat} (L : Lay G n k v r lam T S) {A : Option Addr} (c : Nat) {w : World} (hG : GM w A n k G) :
    Calls Try.prog 17 #[.agg #[.int .i64 v, .slice A n c, .int .i64 T, .int .i64 S]] w fun e w' => e = .returned (.int .i64 ((T * n : Nat) : Int)) ∧ Below w.heap.size w w' := by
  obtain ⟨q3, hq3⟩ : ∃ q, q = T * r := ⟨_, rfl⟩
  obtain ⟨q4, hq4⟩ : ∃ q, q = T * r + S := ⟨_, rfl⟩
  have hme := fun W (h : Below w.heap.size w W) => meas_any L c q3 q4 hq3 hq4 (hG.below h)
  obtain ⟨b, off, rfl, _⟩ := id hG
  have hgr := fun rb rc ob W => groups_any v T S k r n q3 q4 (some ⟨b, off, none⟩) (some ⟨rb, 0, none⟩) (some ⟨ob, 0, none⟩) n c n rc v v W L.Tn
  simp only [nvc] at hgr
  obtain ⟨q, hq⟩ : ∃ q, q = T * n := ⟨_, rfl⟩
  rw [← hq] at hgr ⊢
  have HGR := Lib.hid hgr
  clear hgr hq
  have HME := Lib.hid hme
  clear hme hG hq3 hq4
  go_enter Try.func17, Try.ntmps17
  go_wp2_with (first
    | (go_at_call 35; refine Calls.mono (HME.out _ ((Below.refl _ w).alloc (Nat.le_refl _) _)) ?_; rintro e w1 ⟨rb, rc, ob, rfl, hG1, hB1⟩; have hb1 : Below w.heap.size w w1 := ((Below.refl _ w).alloc (Nat.le_refl _) _).trans (hB1.mono (by simp)); have HB1 := Lib.hid hb1; clear hB1 hb1 hG1)
    | (go_at_call 36; (with_reducible refine (HGR.out rb rc ob _).mono ?_); rintro e w2 ⟨rfl, hB2⟩))
  go_ret
  exact ⟨rfl, (HB1.out.alloc HB1.out.size _).trans (hB2.mono (by have := HB1.out.size; simp; omega))⟩
set_option maxRecDepth 100000 in
theorem ldata_any {G : Nat → Nat → Nat} {n k v r lam T S : Nat} (L : Lay G n k v r lam T S) {A : Option Addr} (c : Nat) {w : World} (hG : GM w A n k G) :
    Calls Try.prog 43 #[.agg #[.int .i64 v, .slice A n c, .int .i64 T, .int .i64 S]] w fun e w' => e = .returned (.int .i64 ((k : Int) - 3)) ∧ Below w.heap.size w w' := by
  obtain ⟨q3, hq3⟩ : ∃ q, q = T * r := ⟨_, rfl⟩
  obtain ⟨q4, hq4⟩ : ∃ q, q = T * r + S := ⟨_, rfl⟩
  have hme := fun W (h : Below w.heap.size w W) => meas_any L c q3 q4 hq3 hq4 (hG.below h)
  obtain ⟨b, off, rfl, _⟩ := id hG
  have hda := fun rb rc ob W => data_any v T S k r n q3 q4 (some ⟨b, off, none⟩) (some ⟨rb, 0, none⟩) (some ⟨ob, 0, none⟩) n c n rc v v W L.fd.k2
  simp only [nvc] at hda
  have HDA := Lib.hid hda
  clear hda
  have HME := Lib.hid hme
  clear hme hG hq3 hq4
  go_enter Try.func43, Try.ntmps43
  go_wp2_with (first
    | (go_at_call 35; refine Calls.mono (HME.out _ ((Below.refl _ w).alloc (Nat.le_refl _) _)) ?_; rintro e w1 ⟨rb, rc, ob, rfl, hG1, hB1⟩; have hb1 : Below w.heap.size w w1 := ((Below.refl _ w).alloc (Nat.le_refl _) _).trans (hB1.mono (by simp)); have HB1 := Lib.hid hb1; clear hB1 hb1 hG1)
    | (go_at_call 60; (with_reducible refine (HDA.out rb rc ob _).mono ?_); rintro e w2 ⟨rfl, hB2⟩))
  go_ret
  exact ⟨rfl, (HB1.out.alloc HB1.out.size _).trans (hB2.mono (by have := HB1.out.size; simp; omega))⟩
set_option maxRecDepth 100000 in
theorem lvalid_any {G : Nat → Nat → Nat} {n k v r lam T S : Nat} (L : Lay G n k v r lam T S) {A : Option Addr} (c : Nat) {w : World} (hG : GM w A n k G) :
    Calls Try.prog 15 #[.agg #[.int .i64 v, .slice A n c, .int .i64 T, .int .i64 S]] w fun e w' => e = .returned (.bool true) ∧ Below w.heap.size w w' := by
  obtain ⟨q3, hq3⟩ : ∃ q, q = T * r := ⟨_, rfl⟩
  obtain ⟨q4, hq4⟩ : ∃ q, q = T * r + S := ⟨_, rfl⟩
  have hme := fun W (h : Below w.heap.size w W) => meas_any L c q3 q4 hq3 hq4 (hG.below h)
  obtain ⟨b, off, rfl, _⟩ := id hG
  have HME := Lib.hid hme
  clear hme hG hq3 hq4
  go_enter Try.func15, Try.ntmps15
  go_wp2_with (first
    | (go_at_call 35; refine Calls.mono (HME.out _ ((Below.refl _ w).alloc (Nat.le_refl _) _)) ?_; rintro e w1 ⟨rb, rc, ob, rfl, hG1, hB1⟩; have hb1 : Below w.heap.size w w1 := ((Below.refl _ w).alloc (Nat.le_refl _) _).trans (hB1.mono (by simp)); have HB1 := Lib.hid hb1; clear hB1 hb1 hG1))
  go_ret
  exact ⟨rfl, (HB1.out.alloc HB1.out.size _)⟩
set_option maxRecDepth 100000 in
theorem lwidth_any {G : Nat → Nat → Nat} {n k v r lam T S : Nat} (L : Lay G n k v r lam T S) {A : Option Addr} (c : Nat) {w : World} (hG : GM w A n k G) :
    Calls Try.prog 18 #[.agg #[.int .i64 v, .slice A n c, .int .i64 T, .int .i64 S]] w fun e w' => e = .returned (.int .i64 k) ∧ Below w.heap.size w w' := by
  obtain ⟨q3, hq3⟩ : ∃ q, q = T * r := ⟨_, rfl⟩
  obtain ⟨q4, hq4⟩ : ∃ q, q = T * r + S := ⟨_, rfl⟩
  have hme := fun W (h : Below w.heap.size w W) => meas_any L c q3 q4 hq3 hq4 (hG.below h)
  obtain ⟨b, off, rfl, _⟩ := id hG
  have HME := Lib.hid hme
  clear hme hG hq3 hq4
  go_enter Try.func18, Try.ntmps18
  go_wp2_with (first
    | (go_at_call 35; refine Calls.mono (HME.out _ ((Below.refl _ w).alloc (Nat.le_refl _) _)) ?_; rintro e w1 ⟨rb, rc, ob, rfl, hG1, hB1⟩; have hb1 : Below w.heap.size w w1 := ((Below.refl _ w).alloc (Nat.le_refl _) _).trans (hB1.mono (by simp)); have HB1 := Lib.hid hb1; clear hB1 hb1 hG1))
  go_ret
  exact ⟨rfl, (HB1.out.alloc HB1.out.size _)⟩
set_option maxRecDepth 100000 in
theorem lblocks_any {G : Nat → Nat → Nat} {n k v r lam T S : Nat} (L : Lay G n k v r lam T S) {A : Option Addr} (c : Nat) {w : World} (hG : GM w A n k G) :
    Calls Try.prog 16 #[.agg #[.int .i64 v, .slice A n c, .int .i64 T, .int .i64 S]] w fun e w' => e = .returned (.int .i64 ((T * r + S : Nat) : Int)) ∧ Below w.heap.size w w' := by
  obtain ⟨q3, hq3⟩ : ∃ q, q = T * r := ⟨_, rfl⟩
  obtain ⟨q4, hq4⟩ : ∃ q, q = T * r + S := ⟨_, rfl⟩
  have hme := fun W (h : Below w.heap.size w W) => meas_any L c q3 q4 hq3 hq4 (hG.below h)
  obtain ⟨b, off, rfl, _⟩ := id hG
  rw [← hq4]
  have HME := Lib.hid hme
  clear hme hG hq3 hq4
  go_enter Try.func16, Try.ntmps16
  go_wp2_with (first
    | (go_at_call 35; refine Calls.mono (HME.out _ ((Below.refl _ w).alloc (Nat.le_refl _) _)) ?_; rintro e w1 ⟨rb, rc, ob, rfl, hG1, hB1⟩; have hb1 : Below w.heap.size w w1 := ((Below.refl _ w).alloc (Nat.le_refl _) _).trans (hB1.mono (by simp)); have HB1 := Lib.hid hb1; clear hB1 hb1 hG1))
  go_ret
  exact ⟨rfl, (HB1.out.alloc HB1.out.size _)⟩
set_option maxRecDepth 100000 in
theorem lslots_any {G : Nat → Nat → Nat} {n k v r lam T S : Nat} (L : Lay G n k v r lam T S) {A : Option Addr} (c : Nat) {w : World} (hG : GM w A n k G) :
    Calls Try.prog 22 #[.agg #[.int .i64 v, .slice A n c, .int .i64 T, .int .i64 S]] w fun e w' => e = .returned (.int .i64 ((T * n * (k - 3) : Nat) : Int)) ∧ Below w.heap.size w w' := by
  have hgs := fun W (h : Below w.heap.size w W) => lgroups_any L c (hG.below h)
  have hds := fun W (h : Below w.heap.size w W) => ldata_any L c (hG.below h)
  obtain ⟨b, off, rfl, _⟩ := id hG
  obtain ⟨q1, hq1⟩ : ∃ q, q = T * n := ⟨_, rfl⟩
  obtain ⟨q2, hq2⟩ : ∃ q, q = q1 * (k - 3) := ⟨_, rfl⟩
  have hk3 := L.k3
  have hTd := L.Td
  have hTn := L.Tn
  have hk60 := L.fd.k2
  rw [← hq1] at hTd hTn
  rw [← hq2] at hTd
  have i2 : (q1 : Int) * ((k : Int) - 3) = q2 := by rw [hq2, show (k : Int) - 3 = ((k - 3 : Nat) : Int) by omega]; simp
  have e2 : IntKind.i64.wrap (q2 : Int) = q2 := IntWalk.i64_in _ (by omega)
  simp only [← hq1] at hgs ⊢
  rw [← hq2]
  have HGS := Lib.hid hgs
  have HDS := Lib.hid hds
  clear hgs hds hG hq1 hq2
  go_enter Try.func22, Try.ntmps22
  go_wp2_with fail
  obtain ⟨V, hV⟩ : ∃ V, V = w.alloc (.cells #[.int .i64 v, .slice (some ⟨b, off, none⟩) n c, .int .i64 T, .int .i64 S] 46) := ⟨_, rfl⟩
  rw [← hV]
  have hx0 : V.heap[w.heap.size]? = some (.cells #[.int .i64 v, .slice (some ⟨b, off, none⟩) n c, .int .i64 T, .int .i64 S] 46 (0, 0)) := by rw [hV]; exact World.alloc_heap_new w _
  have hVb : Below w.heap.size w V := by rw [hV]; exact (Below.refl _ w).alloc (Nat.le_refl _) _
  have hks : ∀ W2, Kp V W2 → Kp V W2 ∧ W2.cell? ⟨w.heap.size, 0, none⟩ = some (.int .i64 v) ∧ W2.cell? ⟨w.heap.size, 1, none⟩ = some (.slice (some ⟨b, off, none⟩) n c) ∧ W2.cell? ⟨w.heap.size, 2, none⟩ = some (.int .i64 T) ∧ W2.cell? ⟨w.heap.size, 3, none⟩ = some (.int .i64 S) := fun W2 h => by
    have hx := (h.below.block _ (Array.getElem?_eq_some_iff.1 hx0).1).trans hx0
    exact ⟨h, cell_of_row W2 _ 0 _ _ _ hx, cell_of_row W2 _ 1 _ _ _ hx, cell_of_row W2 _ 2 _ _ _ hx, cell_of_row W2 _ 3 _ _ _ hx⟩
  have HKS := Lib.hid hks
  have HVB := Lib.hid hVb
  clear hV hx0 hVb hks
  have kpd : Kp V V.drew := Kp.refl V
  have hbw : ∀ W2, Kp V W2 → Below w.heap.size w W2 := fun W2 h => HVB.out.trans (h.below.mono HVB.out.size)
  have HBW := Lib.hid hbw
  obtain ⟨_, _, _, _, _⟩ := HKS.out _ kpd
  clear hbw
  go_region_held3 (fun W2 => Kp V W2 ∧ W2.cell? ⟨w.heap.size, 0, none⟩ = some (.int .i64 v) ∧ W2.cell? ⟨w.heap.size, 1, none⟩ = some (.slice (some ⟨b, off, none⟩) n c) ∧ W2.cell? ⟨w.heap.size, 2, none⟩ = some (.int .i64 T) ∧ W2.cell? ⟨w.heap.size, 3, none⟩ = some (.int .i64 S))
    (first | (go_split_ands; exact HKS.out _ (by assumption)) | (go_split_ands; exact HKS.out _ (Kp.next (by assumption) hb9)))
    (first
      | (go_at_call 17; (refine Calls.mono (HGS.out _ (HBW.out _ (by first | assumption | (go_split_ands; assumption)))) ?_); rintro e w9 ⟨rfl, hb9⟩)
      | (go_at_call 43; (refine Calls.mono (HDS.out _ (HBW.out _ (by first | assumption | (go_split_ands; assumption)))) ?_); rintro e w9 ⟨rfl, hb9⟩))
  all_goals
    rename_i hHeld
    obtain ⟨hkp9, _⟩ := hHeld
    go_wp2_with fail
    go_ret
    exact ⟨rfl, HBW.out _ hkp9⟩
end Go.Proofs.Ytlimlmfgeaokhaa
namespace Go.Proofs.Ytlimlmfgeaokhaa
open Go.RowKit

def gl (L : List (List Nat)) (i j : Nat) : Nat := (L.getD i []).getD j 0
theorem Grp.gm {w : World} {A : Option Addr} {n c k : Nat} {L : List (List Nat)} (h : Grp w (.slice A n c) L) (hn : L.length = n) (hk : ∀ P ∈ L, P.length = k) (h0 : 0 < n) (hk0 : 0 < k) : GM w A n k (gl L) := by
  obtain ⟨vs, h1, h2, h3⟩ := h
  obtain ⟨g, cp, e, _, _⟩ := h1.form (by omega)
  cases e
  refine ⟨g, 0, rfl, fun i hi => ?_⟩
  obtain ⟨P, hP⟩ : ∃ P, L[i]? = some P := ⟨L[i]'(by omega), List.getElem?_eq_getElem (by omega)⟩
  obtain ⟨v, hv, ho⟩ := h3 i P hP
  have hPk := hk P (List.mem_of_getElem? hP)
  rw [hPk] at ho
  obtain ⟨gi, ci, rfl, _, _⟩ := ho.form hk0
  refine ⟨gi, 0, ci, ?_, fun j hj => ?_⟩
  · rw [Nat.zero_add, h1.cellAt i (by omega)]
    exact hv
  · rw [Nat.zero_add, ho.cellAt j (by omega)]
    have e1 : gl L i j = P.getD j 0 := by unfold gl; simp [List.getD, hP]
    rw [e1]
    simp [il, List.getD, List.getElem?_eq_getElem (show j < P.length by omega)]
/-- what a design is asked for, as a test -/
def layB (L : List (List Nat)) (n k v r lam : Nat) : Bool :=
  decide (L.length = n) && L.all (fun P => decide (P.length = k)) && decide (2 ≤ v) && decide (v ≤ 60) && decide (1 ≤ n) && decide (n ≤ 4096) && decide (2 ≤ k) && decide (k ≤ 60) &&
    (List.range n).all (fun i => (List.range k).all fun j => decide (gl L i j < v) && (decide (k ≤ j + 1) || decide (gl L i j < gl L i (j + 1)))) &&
    (List.range v).all (fun a => (List.range v).all fun b => decide (c1 (gl L) k (a * 60 + b) n = if a = b then r else lam)) && decide (1 ≤ lam)
theorem lay_of {L : List (List Nat)} {n k v r lam T S : Nat} (h : layB L n k v r lam = true) (k3 : 3 < k) (k16 : k ≤ 16) (T1 : 1 ≤ T) (T2 : T ≤ 256) (S1 : S ≤ 65536) (Tn : T * n ≤ 4096) (Td : T * n * (k - 3) ≤ 65536) (Tr : T * r + S ≤ 65536) :
    L.length = n ∧ (∀ P ∈ L, P.length = k) ∧ Lay (gl L) n k v r lam T S := by
  simp only [layB, Bool.and_eq_true, Bool.or_eq_true, List.all_eq_true, List.mem_range, decide_eq_true_eq] at h
  obtain ⟨⟨⟨⟨⟨⟨⟨⟨⟨⟨h1, h2⟩, h3⟩, h4⟩, h5⟩, h6⟩, h7⟩, h8⟩, h9⟩, h10⟩, h11⟩ := h
  exact ⟨h1, h2, ⟨h3, h4, h5, h6, h7, h8, fun i hi j hj => (h9 i hi j hj).1, fun i hi j hj => (h9 i hi j (by omega)).2.resolve_left (by omega)⟩, fun a ha b hb => h10 a ha b hb, h11, k3, k16, T1, T2, S1, Tn, Td, Tr⟩
theorem d54 : layB (subs 5 4 []) 5 4 5 4 3 = true := by decide +kernel
end Go.Proofs.Ytlimlmfgeaokhaa
namespace Go.Proofs.Ytlimlmfgeaokhaa
open Go.RowKit

theorem ch54 (w : World) : Calls Try.prog 21 #[.int .i64 5, .int .i64 4] w fun e w' => ∃ A c, e = .returned (.tuple #[.agg #[.int .i64 5, .slice A 5 c], .int .i64 0]) ∧ GM w' A 5 4 (gl (subs 5 4 [])) ∧ Below w.heap.size w w' := by
  obtain ⟨hl, hk, _⟩ := lay_of (T := 1) (S := 0) d54 (by omega) (by omega) (by omega) (by omega) (by omega) (by omega) (by omega) (by omega)
  refine (choose_complete 5 4 w (by omega) (by omega) (by omega) (by omega) (by omega) (by omega) (by decide) (by decide) (by decide)).mono ?_
  rintro e w' ⟨gv, rfl, hg, hb⟩
  obtain ⟨A, c, rfl⟩ := grp_form hg
  rw [hl] at hg ⊢
  exact ⟨A, c, rfl, hg.gm hl hk (by omega) (by omega), hb⟩
theorem sl54 (A : Option Addr) (c : Nat) (w : World) (hG : GM w A 5 4 (gl (subs 5 4 []))) : Calls Try.prog 22 #[.agg #[.int .i64 5, .slice A 5 c, .int .i64 1, .int .i64 0]] w fun e w' => e = .returned (.int .i64 5) ∧ Below w.heap.size w w' :=
  lslots_any (lay_of (T := 1) (S := 0) d54 (by omega) (by omega) (by omega) (by omega) (by omega) (by omega) (by omega) (by omega)).2.2 c hG
def twoB (k : Nat) : Nat := if k = 0 then 2 else 0
theorem twoB_lt (k : Nat) : twoB k < 256 := by unfold twoB; split <;> omega
theorem eq22 (W : World) : (binOp .eql 25 (.agg #[.int .u8 2, .int .u8 0, .int .u8 0, .int .u8 0, .int .u8 0, .int .u8 0, .int .u8 0, .int .u8 0]) (.agg #[.int .u8 2, .int .u8 0, .int .u8 0, .int .u8 0, .int .u8 0, .int .u8 0, .int .u8 0, .int .u8 0])).run Try.prog W = .ok (.bool true) W := by
  have h := run_eqlB twoB twoB twoB_lt twoB_lt W
  rw [eqB_yes (fun _ _ => rfl)] at h
  exact h
/-- the two blocks of awake25 -/
def twoF (p : Nat) : Nat := if p = 0 then 1 else if p = 8 then 2 else 0
theorem twoF_lt (p : Nat) : twoF p < 256 := by unfold twoF; split; omega; split <;> omega
def badF (i : Nat) : Bool := decide (i < 2)
/-- what is handed to Decode -/
def spG (P : Nat → Nat) (p : Nat) : Nat := if p < 16 then 0 else P (p - 16)
theorem two_a (w : World) (o o' : Obj) : ((w.alloc o).alloc o').heap[w.heap.size]? = some o := (Below.heap_alloc _ o' _ (by simp)).trans (World.alloc_heap_new w o)
theorem two_b (w : World) (o o' : Obj) : ((w.alloc o).alloc o').heap[w.heap.size + 1]? = some o' := by
  have := World.alloc_heap_new (w.alloc o) o'
  rwa [World.size_alloc] at this
theorem brow40 (P : Nat → Nat) : brow 40 (spG P) = #[.int .u8 0, .int .u8 0, .int .u8 0, .int .u8 0, .int .u8 0, .int .u8 0, .int .u8 0, .int .u8 0, .int .u8 0, .int .u8 0, .int .u8 0, .int .u8 0, .int .u8 0, .int .u8 0, .int .u8 0, .int .u8 0, .int .u8 (P 0 : Nat), .int .u8 (P 1 : Nat), .int .u8 (P 2 : Nat), .int .u8 (P 3 : Nat), .int .u8 (P 4 : Nat), .int .u8 (P 5 : Nat), .int .u8 (P 6 : Nat), .int .u8 (P 7 : Nat), .int .u8 (P 8 : Nat), .int .u8 (P 9 : Nat), .int .u8 (P 10 : Nat), .int .u8 (P 11 : Nat), .int .u8 (P 12 : Nat), .int .u8 (P 13 : Nat), .int .u8 (P 14 : Nat), .int .u8 (P 15 : Nat), .int .u8 (P 16 : Nat), .int .u8 (P 17 : Nat), .int .u8 (P 18 : Nat), .int .u8 (P 19 : Nat), .int .u8 (P 20 : Nat), .int .u8 (P 21 : Nat), .int .u8 (P 22 : Nat), .int .u8 (P 23 : Nat)] := rfl
theorem tvs5 : tvs 5 badF = #[.bool true, .bool true, .bool false, .bool false, .bool false] := rfl
theorem dec2 (W : World) (b1 b2 : Nat) (h1 : W.heap[b1]? = some (.cells (brow 40 (spG (par twoF 2))) 25 (0, 0))) (h2 : W.heap[b2]? = some (.cells (tvs 5 badF) 4 (0, 0))) :
    Calls Try.prog 8 #[.slice (some ⟨b1, 0, none⟩) 5 5, .slice (some ⟨b2, 0, none⟩) 5 5] W fun e w' => ∃ g cg, e = .returned (.tuple #[.slice (some ⟨g, 0, none⟩) 5 cg, .int .i64 0]) ∧ CB w' g 40 25 (cat 2 twoF (par twoF 2)) ∧ Below W.heap.size W w' := by
  have hr : RB W b1 40 25 (spG (par twoF 2)) := h1
  refine (decode_any twoF (spG (par twoF 2)) badF 2 b1 0 5 (some ⟨b2, 0, none⟩) 5 W (by omega) (by omega) twoF_lt (fun p => by unfold spG; split; omega; exact par_lt 2 _) (by omega) (hr.bks (by omega)) (tvs_tv h2) (by decide) (fun p hp hb => ?_)).mono ?_
  · unfold badF at hb
    have : ¬ p / 8 < 2 := by simpa using hb
    rw [spG, if_neg (by omega), cat, if_neg (by omega)]
  · rintro e w' ⟨g, cg, rfl, _, _, hc, hb⟩
    exact ⟨g, cg, rfl, hc, hb⟩
set_option maxRecDepth 100000 in
set_option maxHeartbeats 4000000 in
theorem awake25_any (w : World) : Calls Try.prog 5 #[] w fun e w' => e = .returned (.bool true) ∧ Below w.heap.size w w' := by
  have hen := fun W (h : RB W w.heap.size 16 25 twoF) => encode_par twoF w.heap.size 0 2 2 W (by omega) (by omega) twoF_lt (fun j hj => by rw [Nat.zero_add]; exact h.cell j hj)
  have HEN := Lib.hid hen
  have HCH := Lib.hid ch54
  clear hen
  go_enter Try.func5, Try.ntmps5
  go_wp2_with (first
    | (go_at_call 6; refine Calls.mono (HEN.out _ (RB.lit (by kernel_rfl))) ?_; rintro e w1 ⟨rfl, hR1, hB1⟩))
  obtain ⟨g1, hg1⟩ : ∃ g1, g1 = w.heap.size + 1 := ⟨_, rfl⟩
  have hR1' : RB w1 g1 24 25 (par twoF 2) := by rw [hg1]; simpa using hR1
  have hb1 : Below w.heap.size w w1 := (Go.Joins.below_alloc1 w _).trans (hB1.mono (by simp))
  rw [← hg1]
  have HB1 := Lib.hid hb1
  have HDE := Lib.hid dec2
  clear hR1 hB1 hg1 hb1
  obtain ⟨P, hP⟩ : ∃ P, P = par twoF 2 := ⟨_, rfl⟩
  rw [← hP] at hR1' HDE
  have HP := Lib.hid hP
  clear hP
  have hcell := fun (o : Nat) (ho : o < 24) => hR1'.cell o ho
  have hk1 : Kp w1 w1.drew := Kp.refl w1
  have HR1 := Lib.hid hR1'
  clear hR1'
  go_cut [3, 4] (fun s3 s4 wx => ∃ g cg, s3 = .slice (some ⟨g, 0, none⟩) 5 cg ∧ s4 = .int .i64 0 ∧ CB wx g 40 25 (cat 2 twoF P) ∧ Below w1.heap.size w1 wx)
  case first =>
    go_region_held3 (fun W => Kp w1 W ∧ ∀ o : Nat, o < 24 → W.cell? ⟨g1, o, none⟩ = some (.int .u8 (P o : Nat)))
      (first | (go_split_ands; exact ⟨by assumption, by assumption⟩) | (go_split_ands; exact ⟨Kp.next (by assumption) hB', keepAll (by assumption) hB'⟩) | (go_split_ands; exact ⟨Kp.next (by assumption) (Go.Joins.below_alloc1 _ _), keepAll (by assumption) (Go.Joins.below_alloc1 _ _)⟩))
      (first
        | (go_at_call 8; refine Calls.mono (HDE.out _ _ _ (by rw [brow40]; first | exact two_a _ _ _ | exact two_b _ _ _) (by rw [tvs5]; first | exact two_a _ _ _ | exact two_b _ _ _)) ?_; rintro e w' ⟨g, cg, rfl, hc', hB'⟩))
    all_goals
      rename_i hHeld
      obtain ⟨hkp, _⟩ := hHeld
      go_wp2_with fail
      go_meet
      case rel => exact ⟨g, cg, rfl, rfl, hc', hkp.below⟩
  case rest =>
    obtain ⟨g, cg, rfl, rfl, hcb, hbx⟩ := hcut
    have hbx' := HB1.out.trans (hbx.mono HB1.out.size)
    have HCB := Lib.hid hcb
    have HBX := Lib.hid hbx'
    have heq := eq22
    clear hcb hbx hbx' hk1 hcell
    have hd8 : ∀ W, CB W g 40 25 (cat 2 twoF P) → W.cell? ⟨g, 8, none⟩ = some (.int .u8 2) ∧ W.cell? ⟨g, 9, none⟩ = some (.int .u8 0) ∧ W.cell? ⟨g, 10, none⟩ = some (.int .u8 0) ∧ W.cell? ⟨g, 11, none⟩ = some (.int .u8 0) ∧ W.cell? ⟨g, 12, none⟩ = some (.int .u8 0) ∧ W.cell? ⟨g, 13, none⟩ = some (.int .u8 0) ∧ W.cell? ⟨g, 14, none⟩ = some (.int .u8 0) ∧ W.cell? ⟨g, 15, none⟩ = some (.int .u8 0) := fun W h => ⟨h.cell 8 (by omega), h.cell 9 (by omega), h.cell 10 (by omega), h.cell 11 (by omega), h.cell 12 (by omega), h.cell 13 (by omega), h.cell 14 (by omega), h.cell 15 (by omega)⟩
    have HD8 := Lib.hid hd8
    clear hd8
    go_wp2_with (first
      | (go_at_call 21; (with_reducible refine (HCH.out _).mono ?_); rintro e w2 ⟨A, c, rfl, hg2, hb2⟩; have hc2 := HCB.out.below hb2; obtain ⟨d8, d9, d10, d11, d12, d13, d14, d15⟩ := HD8.out _ hc2; have hgl := World.block_lt_of_cell? w2 _ d8; have HG2 := Lib.hid hg2; have HB2 := Lib.hid hb2; clear hc2 hg2 hb2)
      | (go_at_call 22; refine Calls.mono (sl54 A c _ (HG2.out.below ((Below.refl _ w2).alloc (Nat.le_refl _) _))) ?_; rintro e w3 ⟨rfl, hb3⟩))
    go_ret
    exact ⟨rfl, (HBX.out.trans (HB2.out.mono HBX.out.size)).trans ((((Below.refl _ w2).alloc (Nat.le_refl _) _).trans (hb3.mono (by simp))).mono (by have := HBX.out.size; have := HB2.out.size; omega))⟩
end Go.Proofs.Ytlimlmfgeaokhaa
