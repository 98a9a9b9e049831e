/- The row of RetryTick: whatever the input, the law returns true and its arguments read as they did; out of the walk retryTick_any x0_0 x0_1 W. -/
import Derived.Test.YtckhpacleiglmaaRows
import Derived.Test.YtckhpacleiglmaaRt5
import Derived.Test.YtckhpacleiglmaaAgg
import Derived.WalkKit
import Derived.ProofKit
import Derived.OpenShut
import Derived.ShutString
import Derived.ChangeOld
import Derived.Below
import Derived.SizedLaws
namespace Go.Proofs.Ytckhpacleiglmaa.retryTick
open Go.ChangeShapes Go.WideShapes Go.ChangeAt Go.RowKit
open Go.ChangeMaps (open_string shut_string)
set_option linter.unusedVariables false
theorem own : ownKnob Try.prog.godebug = none := by kernel_rfl
theorem laidOut : laidOutB Try.prog = true := by kernel_rfl
theorem of_u8 {a : Int} (h : (Lit.int .u8 a).wf = true) : ∃ n : Nat, a = (n : Int) ∧ n < 256 := by
  have := bounds_u8 h
  exact ⟨a.toNat, by omega, by omega⟩
theorem of_i64 {a : Int} (h : (Lit.int .i64 a).wf = true) : -9223372036854775808 ≤ a ∧ a ≤ 9223372036854775807 := by
  have := bounds_i64 h
  exact ⟨by omega, by omega⟩
theorem walk_RetryTick {W : World} (x0_0 : Int) (x0_0b : -9223372036854775808 ≤ x0_0) (x0_0c : x0_0 ≤ 9223372036854775807) (x0_1 : Int) (x0_1b : -9223372036854775808 ≤ x0_1) (x0_1c : x0_1 ≤ 9223372036854775807) : Calls Try.prog 6 #[.agg #[.int .i64 x0_0, .int .i64 x0_1]] W fun e W' => e = .returned (.bool true) ∧ Below W.heap.size W W' :=
  retryTick_any x0_0 x0_1 W
set_option maxRecDepth 100000 in
theorem lifted (os : Os) (started : os.Started) (H : Type) (enc : TypeId × Value → H) :
    ReturnsInHanded {} Try.checked os 6 .any (Rows.retryTickSpec.pre6 enc Try.prog Try.f6 Rows.retryTickRow.domain false) (Rows.retryTickSpec.post enc Try.prog Try.f6 false true false false) := by
  refine returnsInHanded_of_change_sized (C := Try.checked) own started (by kernel_rfl) Try.func6
    (ChangeSpec.witness6 (enc := enc) (C := Try.checked) false ⟨#[], #[.agg #[.int .i64 0, .int .i64 0]], []⟩ 8 (by kernel_rfl) (by kernel_rfl) (by kernel_rfl) (by kernel_rfl)) ?_
  intro W base args ds gs before hval0 hW hcnd hsz0 _
  have hsz : (DataW.weightsEach Try.prog (Try.f6.params.toList ++ Rows.retryTickSpec.plain.varTypes Try.prog) (ds ++ gs)).all (· ≤ reachBytes) = true := hsz0
  have hval : ∀ (j : Nat) t v, Try.f6.params[j]? = some t → args[j]? = some v → Value.okWide Try.prog W .any base t v := hval0
  have hW' := hW
  obtain ⟨p, q, hA0, hV, rfl, hfz, hnd⟩ := hW
  have hA : DataW.TrodAll enc Try.prog W 0 (fun _ => true) true Try.f6.params.toList args.toList ds p := hA0
  rw [Try.params6] at hA hval hsz
  obtain ⟨v0, vs0, d0, ds0, p0, q0, hargs, rfl, rfl, h0, r0⟩ := trodAll_cons hA
  obtain ⟨rfl, rfl, rfl⟩ := trodAll_nil r0
  obtain rfl : args = #[v0] := by cases args; simp_all
  obtain ⟨rfl, rfl⟩ := trodVars_none hV
  have k0 := h0
  have lt0 : ∀ x ∈ p0, x.block < W.heap.size := by obtain ⟨m, hm⟩ := k0; exact DataW.trod_lt m _ _ _ hm
  obtain ⟨cs0, rfl, sz0, ok0⟩ := agg_struct Try.underlying23 (ts := [3, 3]) (by kernel_rfl) (by kernel_rfl) (hval 0 23 v0 rfl rfl)
  obtain ⟨y0_0, y0_1, rfl⟩ := arr2 sz0
  obtain ⟨u0_0, hu0_0, ok0_0⟩ := ok0 0 y0_0 rfl
  cases hu0_0
  obtain ⟨x0_0, rfl, x0_0b, x0_0c⟩ := cell_i64 Try.underlying3 ok0_0
  obtain ⟨u0_1, hu0_1, ok0_1⟩ := ok0 1 y0_1 rfl
  cases hu0_1
  obtain ⟨x0_1, rfl, x0_1b, x0_1c⟩ := cell_i64 Try.underlying3 ok0_1
  clear hA0 hval0 hsz0 hsz
  refine (walk_RetryTick (W := W) x0_0 x0_0b x0_0c x0_1 x0_1b x0_1c).mono fun e W' ⟨he, bel⟩ => ?_
  subst he
  exact ⟨_, rfl, _, _, _, [], _, [], hW', trodAll_mk1 (shut_bool Try.underlying4 _), (trodAll_cons_mk (Below.trod laidOut (by kernel_rfl) (of_decide_eq_true (by kernel_rfl)) k0 bel lt0) trodAll_mk0), rfl, bel.frame _, fun h => by cases h⟩
theorem over : Rows.retryTickRow.holds Try.pinned (OpenSpec.ofChange Rows.retryTickSpec) :=
  OpenClaim.holds_of_wide 6 Try.f6 rfl rfl rfl rfl rfl rfl rfl ⟨rfl, rfl, rfl, rfl, rfl⟩ rfl rfl rfl rfl rfl (by kernel_rfl) Try.func6 (by kernel_rfl)
    (of_decide_eq_true (by kernel_rfl)) (by unfold Func.isWrapper; first | (rw [if_pos (by decide +kernel)]; kernel_rfl) | (rw [if_neg (by decide +kernel)]; exact ⟨rfl, rfl⟩))
    (fun os started H enc _ => lifted os started H enc)
end Go.Proofs.Ytckhpacleiglmaa.retryTick
namespace Go.Proofs.Ytckhpacleiglmaa
theorem retryTick_holds : Rows.RetryTickSaid := retryTick.over
#print axioms retryTick_holds
end Go.Proofs.Ytckhpacleiglmaa
