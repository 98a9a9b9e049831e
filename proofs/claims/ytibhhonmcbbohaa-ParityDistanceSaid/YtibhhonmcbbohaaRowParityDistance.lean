/- The row of ParityDistance: whatever the input, the law returns true and its arguments read as they did; out of the walk lawDistance_any F0 A0 len0 cap0 c1 f1 W lb0 ln0 ld0 lc0 cb1 fb1. -/
import Derived.Test.YtibhhonmcbbohaaRows
import Derived.Test.YtibhhonmcbbohaaPa25
import Derived.WalkKit
import Derived.ProofKit
import Derived.OpenShut
import Derived.ShutString
import Derived.ChangeOld
import Derived.Below
import Derived.SizedLaws
namespace Go.Proofs.Ytibhhonmcbbohaa.parityDistance
open Go.ChangeShapes Go.WideShapes Go.ChangeAt Go.RowKit
open Go.ChangeMaps (open_string shut_string)
set_option linter.unusedVariables false
theorem own : ownKnob Try.prog.godebug = none := by kernel_rfl
theorem laidOut : laidOutB Try.prog = true := by kernel_rfl
theorem of_u8 {a : Int} (h : (Lit.int .u8 a).wf = true) : ∃ n : Nat, a = (n : Int) ∧ n < 256 := by
  have := bounds_u8 h
  exact ⟨a.toNat, by omega, by omega⟩
theorem of_i64 {a : Int} (h : (Lit.int .i64 a).wf = true) : -9223372036854775808 ≤ a ∧ a ≤ 9223372036854775807 := by
  have := bounds_i64 h
  exact ⟨by omega, by omega⟩
theorem walk_ParityDistance {W : World} (F0 : Nat → Nat) (A0 : Option Addr) (len0 cap0 : Nat) (lb0 : ∀ j, F0 j < 256) (ln0 : A0 = none → cap0 = 0) (ld0 : len0 ≤ cap0) (lc0 : Bks W A0 len0 F0) (c1 : Nat → Int) (f1 : Nat → Nat) (cb1 : ∀ j, -9223372036854775808 ≤ c1 j ∧ c1 j ≤ 9223372036854775807) (fb1 : ∀ j, f1 j < 256) : Calls Try.prog 6 #[.slice A0 len0 cap0, .agg (chr c1 f1)] W fun e W' => e = .returned (.bool true) ∧ Below W.heap.size W W' :=
  lawDistance_any F0 A0 len0 cap0 c1 f1 W lb0 ln0 ld0 lc0 cb1 fb1
set_option maxRecDepth 100000 in
theorem lifted (os : Os) (started : os.Started) (H : Type) (enc : TypeId × Value → H) :
    ReturnsInHanded {} Try.checked os 6 .any (Rows.parityDistanceSpec.pre6 enc Try.prog Try.f6 Rows.parityDistanceRow.domain false) (Rows.parityDistanceSpec.post enc Try.prog Try.f6 false true false false) := by
  refine returnsInHanded_of_change_sized (C := Try.checked) own started (by kernel_rfl) Try.func6
    (ChangeSpec.witness6 (enc := enc) (C := Try.checked) false ⟨#[], #[.slice none 0 0, .agg #[.int .i64 0, .int .u8 0, .int .u8 0, .int .u8 0, .int .u8 0, .int .u8 0, .int .u8 0, .int .u8 0, .int .u8 0, .int .i64 0, .int .u8 0, .int .u8 0, .int .u8 0, .int .u8 0, .int .u8 0, .int .u8 0, .int .u8 0, .int .u8 0, .int .i64 0, .int .u8 0, .int .u8 0, .int .u8 0, .int .u8 0, .int .u8 0, .int .u8 0, .int .u8 0, .int .u8 0]], []⟩ 8 (by kernel_rfl) (by kernel_rfl) (by kernel_rfl) (by kernel_rfl)) ?_
  intro W base args ds gs before hval0 hW hcnd hsz0 _
  have hsz : (DataW.weightsEach Try.prog (Try.f6.params.toList ++ Rows.parityDistanceSpec.plain.varTypes Try.prog) (ds ++ gs)).all (· ≤ reachBytes) = true := hsz0
  have hval : ∀ (j : Nat) t v, Try.f6.params[j]? = some t → args[j]? = some v → Value.okWide Try.prog W .any base t v := hval0
  have hW' := hW
  obtain ⟨p, q, hA0, hV, rfl, hfz, hnd⟩ := hW
  have hA : DataW.TrodAll enc Try.prog W 0 (fun _ => true) true Try.f6.params.toList args.toList ds p := hA0
  rw [Try.params6] at hA hval hsz
  obtain ⟨v0, vs0, d0, ds0, p0, q0, hargs, rfl, rfl, h0, r0⟩ := trodAll_cons hA
  obtain ⟨v1, vs1, d1, ds1, p1, q1, rfl, rfl, rfl, h1, r1⟩ := trodAll_cons r0
  obtain ⟨rfl, rfl, rfl⟩ := trodAll_nil r1
  obtain rfl : args = #[v0, v1] := by cases args; simp_all
  obtain ⟨rfl, rfl⟩ := trodVars_none hV
  obtain ⟨A0, len0, cap0, rfl⟩ := okWide_slice Try.underlying30 (hval 0 30 v0 rfl rfl)
  have k0 := h0
  have lt0 : ∀ x ∈ p0, x.block < W.heap.size := by obtain ⟨m, hm⟩ := k0; exact DataW.trod_lt m _ _ _ hm
  obtain ⟨F0, lb0, ln0, ld0, lc0⟩ : ∃ F : Nat → Nat, (∀ j, F j < 256) ∧ (A0 = none → cap0 = 0) ∧ len0 ≤ cap0 ∧ Bks W A0 len0 F := by
    obtain ⟨fuel, hf⟩ := h0
    exact bks_of_row hf
  have k1 := h1
  have lt1 : ∀ x ∈ p1, x.block < W.heap.size := by obtain ⟨m, hm⟩ := k1; exact DataW.trod_lt m _ _ _ hm
  obtain ⟨c1, f1, rfl, cb1, fb1⟩ := agg_chg (hval 1 40 v1 rfl rfl)
  clear hA0 hval0 hsz0 hsz
  refine (walk_ParityDistance (W := W) F0 A0 len0 cap0 lb0 ln0 ld0 lc0 c1 f1 cb1 fb1).mono fun e W' ⟨he, bel⟩ => ?_
  subst he
  exact ⟨_, rfl, _, _, _, [], _, [], hW', trodAll_mk1 (shut_bool Try.underlying4 _), (trodAll_cons_mk (Below.trod laidOut (by kernel_rfl) (of_decide_eq_true (by kernel_rfl)) k0 bel lt0) (trodAll_cons_mk (Below.trod laidOut (by kernel_rfl) (of_decide_eq_true (by kernel_rfl)) k1 bel lt1) trodAll_mk0)), rfl, bel.frame _, fun h => by cases h⟩
theorem over : Rows.parityDistanceRow.holds Try.pinned (OpenSpec.ofChange Rows.parityDistanceSpec) :=
  OpenClaim.holds_of_wide 6 Try.f6 rfl rfl rfl rfl rfl rfl rfl ⟨rfl, rfl, rfl, rfl, rfl⟩ rfl rfl rfl rfl rfl (by kernel_rfl) Try.func6 (by kernel_rfl)
    (of_decide_eq_true (by kernel_rfl)) (by unfold Func.isWrapper; first | (rw [if_pos (by decide +kernel)]; kernel_rfl) | (rw [if_neg (by decide +kernel)]; exact ⟨rfl, rfl⟩))
    (fun os started H enc _ => lifted os started H enc)
end Go.Proofs.Ytibhhonmcbbohaa.parityDistance
namespace Go.Proofs.Ytibhhonmcbbohaa
theorem parityDistance_holds : Rows.ParityDistanceSaid := parityDistance.over
#print axioms parityDistance_holds
end Go.Proofs.Ytibhhonmcbbohaa
