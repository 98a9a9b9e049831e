/- The row of ParityRows: whatever the input, the law returns true and its arguments read as they did; out of the walk lawRows_any F0 A0 len0 cap0 p1_ F1 A1 len1 cap1 W lb0 lb1 lp1 ln0 ld0 lc0 lc1. -/
import Derived.Test.YtibhhonmcbbohaaRows
import Derived.Test.YtibhhonmcbbohaaPa22
import Derived.WalkKit
import Derived.ProofKit
import Derived.OpenShut
import Derived.ShutString
import Derived.ChangeOld
import Derived.Below
import Derived.SizedLaws
namespace Go.Proofs.Ytibhhonmcbbohaa.parityRows
open Go.ChangeShapes Go.WideShapes Go.ChangeAt Go.RowKit
open Go.ChangeMaps (open_string shut_string)
set_option linter.unusedVariables false
theorem own : ownKnob Try.prog.godebug = none := by kernel_rfl
theorem laidOut : laidOutB Try.prog = true := by kernel_rfl
theorem of_u8 {a : Int} (h : (Lit.int .u8 a).wf = true) : ∃ n : Nat, a = (n : Int) ∧ n < 256 := by
  have := bounds_u8 h
  exact ⟨a.toNat, by omega, by omega⟩
theorem of_i64 {a : Int} (h : (Lit.int .i64 a).wf = true) : -9223372036854775808 ≤ a ∧ a ≤ 9223372036854775807 := by
  have := bounds_i64 h
  exact ⟨by omega, by omega⟩
theorem walk_ParityRows {W : World} (F0 : Nat → Nat) (A0 : Option Addr) (len0 cap0 : Nat) (lb0 : ∀ j, F0 j < 256) (ln0 : A0 = none → cap0 = 0) (ld0 : len0 ≤ cap0) (lc0 : Bks W A0 len0 F0) (p1_ : Nat → Int) (F1 : Nat → Nat) (A1 : Option Addr) (len1 cap1 : Nat) (lb1 : ∀ j, F1 j < 256) (lp1 : ∀ j, -9223372036854775808 ≤ p1_ j ∧ p1_ j ≤ 9223372036854775807) (lc1 : Sws W A1 len1 p1_ F1) : Calls Try.prog 10 #[.slice A0 len0 cap0, .slice A1 len1 cap1] W fun e W' => e = .returned (.bool true) ∧ Below W.heap.size W W' :=
  lawRows_any F0 A0 len0 cap0 p1_ F1 A1 len1 cap1 W lb0 lb1 lp1 ln0 ld0 lc0 lc1
set_option maxRecDepth 100000 in
theorem lifted (os : Os) (started : os.Started) (H : Type) (enc : TypeId × Value → H) :
    ReturnsInHanded {} Try.checked os 10 .any (Rows.parityRowsSpec.pre6 enc Try.prog Try.f10 Rows.parityRowsRow.domain false) (Rows.parityRowsSpec.post enc Try.prog Try.f10 false true false false) := by
  refine returnsInHanded_of_change_sized (C := Try.checked) own started (by kernel_rfl) Try.func10
    (ChangeSpec.witness6 (enc := enc) (C := Try.checked) false ⟨#[], #[.slice none 0 0, .slice none 0 0], []⟩ 8 (by kernel_rfl) (by kernel_rfl) (by kernel_rfl) (by kernel_rfl)) ?_
  intro W base args ds gs before hval0 hW hcnd hsz0 _
  have hsz : (DataW.weightsEach Try.prog (Try.f10.params.toList ++ Rows.parityRowsSpec.plain.varTypes Try.prog) (ds ++ gs)).all (· ≤ reachBytes) = true := hsz0
  have hval : ∀ (j : Nat) t v, Try.f10.params[j]? = some t → args[j]? = some v → Value.okWide Try.prog W .any base t v := hval0
  have hW' := hW
  obtain ⟨p, q, hA0, hV, rfl, hfz, hnd⟩ := hW
  have hA : DataW.TrodAll enc Try.prog W 0 (fun _ => true) true Try.f10.params.toList args.toList ds p := hA0
  rw [Try.params10] at hA hval hsz
  obtain ⟨v0, vs0, d0, ds0, p0, q0, hargs, rfl, rfl, h0, r0⟩ := trodAll_cons hA
  obtain ⟨v1, vs1, d1, ds1, p1, q1, rfl, rfl, rfl, h1, r1⟩ := trodAll_cons r0
  obtain ⟨rfl, rfl, rfl⟩ := trodAll_nil r1
  obtain rfl : args = #[v0, v1] := by cases args; simp_all
  obtain ⟨rfl, rfl⟩ := trodVars_none hV
  obtain ⟨A0, len0, cap0, rfl⟩ := okWide_slice Try.underlying30 (hval 0 30 v0 rfl rfl)
  have k0 := h0
  have lt0 : ∀ x ∈ p0, x.block < W.heap.size := by obtain ⟨m, hm⟩ := k0; exact DataW.trod_lt m _ _ _ hm
  obtain ⟨F0, lb0, ln0, ld0, lc0⟩ : ∃ F : Nat → Nat, (∀ j, F j < 256) ∧ (A0 = none → cap0 = 0) ∧ len0 ≤ cap0 ∧ Bks W A0 len0 F := by
    obtain ⟨fuel, hf⟩ := h0
    exact bks_of_row hf
  obtain ⟨A1, len1, cap1, rfl⟩ := okWide_slice Try.underlying50 (hval 1 50 v1 rfl rfl)
  have k1 := h1
  have lt1 : ∀ x ∈ p1, x.block < W.heap.size := by obtain ⟨m, hm⟩ := k1; exact DataW.trod_lt m _ _ _ hm
  obtain ⟨p1_, F1, lb1, lp1, lc1⟩ : ∃ (p : Nat → Int) (F : Nat → Nat), (∀ j, F j < 256) ∧ (∀ j, -9223372036854775808 ≤ p j ∧ p j ≤ 9223372036854775807) ∧ Sws W A1 len1 p F := by
    obtain ⟨fuel, hf⟩ := h1
    exact sws_of_row hf
  clear hA0 hval0 hsz0 hsz
  refine (walk_ParityRows (W := W) F0 A0 len0 cap0 lb0 ln0 ld0 lc0 p1_ F1 A1 len1 cap1 lb1 lp1 lc1).mono fun e W' ⟨he, bel⟩ => ?_
  subst he
  exact ⟨_, rfl, _, _, _, [], _, [], hW', trodAll_mk1 (shut_bool Try.underlying4 _), (trodAll_cons_mk (Below.trod laidOut (by kernel_rfl) (of_decide_eq_true (by kernel_rfl)) k0 bel lt0) (trodAll_cons_mk (Below.trod laidOut (by kernel_rfl) (of_decide_eq_true (by kernel_rfl)) k1 bel lt1) trodAll_mk0)), rfl, bel.frame _, fun h => by cases h⟩
theorem over : Rows.parityRowsRow.holds Try.pinned (OpenSpec.ofChange Rows.parityRowsSpec) :=
  OpenClaim.holds_of_wide 10 Try.f10 rfl rfl rfl rfl rfl rfl rfl ⟨rfl, rfl, rfl, rfl, rfl⟩ rfl rfl rfl rfl rfl (by kernel_rfl) Try.func10 (by kernel_rfl)
    (of_decide_eq_true (by kernel_rfl)) (by unfold Func.isWrapper; first | (rw [if_pos (by decide +kernel)]; kernel_rfl) | (rw [if_neg (by decide +kernel)]; exact ⟨rfl, rfl⟩))
    (fun os started H enc _ => lifted os started H enc)
end Go.Proofs.Ytibhhonmcbbohaa.parityRows
namespace Go.Proofs.Ytibhhonmcbbohaa
theorem parityRows_holds : Rows.ParityRowsSaid := parityRows.over
#print axioms parityRows_holds
end Go.Proofs.Ytibhhonmcbbohaa
