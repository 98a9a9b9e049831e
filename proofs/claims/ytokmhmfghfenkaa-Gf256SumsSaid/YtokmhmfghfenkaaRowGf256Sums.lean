/- The row of Gf256Sums: whatever the input, the law returns true and its arguments read as they did; out of the walk sums_any x0_0 x0_1 x1_0 x1_1 x0_0b x0_1b x1_0b x1_0c x1_1b x1_1c W. -/
import Derived.Test.YtokmhmfghfenkaaRows
import Derived.Test.YtokmhmfghfenkaaGfLaws4
import Derived.Test.YtokmhmfghfenkaaAgg
import Derived.WalkKit
import Derived.ProofKit
import Derived.OpenShut
import Derived.ShutString
import Derived.ChangeOld
import Derived.Below
import Derived.SizedLaws
namespace Go.Proofs.Ytokmhmfghfenkaa.gf256Sums
open Go.ChangeShapes Go.WideShapes Go.ChangeAt Go.RowKit
open Go.ChangeMaps (open_string shut_string)
set_option linter.unusedVariables false
theorem own : ownKnob Try.prog.godebug = none := by kernel_rfl
theorem laidOut : laidOutB Try.prog = true := by kernel_rfl
theorem of_u8 {a : Int} (h : (Lit.int .u8 a).wf = true) : ∃ n : Nat, a = (n : Int) ∧ n < 256 := by
  have := bounds_u8 h
  exact ⟨a.toNat, by omega, by omega⟩
theorem of_i64 {a : Int} (h : (Lit.int .i64 a).wf = true) : -9223372036854775808 ≤ a ∧ a ≤ 9223372036854775807 := by
  have := bounds_i64 h
  exact ⟨by omega, by omega⟩
theorem walk_Gf256Sums {W : World} (x0_0 : Nat) (x0_0b : x0_0 < 256) (x0_1 : Nat) (x0_1b : x0_1 < 256) (x1_0 : Int) (x1_0b : -2147483648 ≤ x1_0) (x1_0c : x1_0 ≤ 2147483647) (x1_1 : Int) (x1_1b : -2147483648 ≤ x1_1) (x1_1c : x1_1 ≤ 2147483647) : Calls Try.prog 10 #[.agg #[.int .u8 x0_0, .int .u8 x0_1], .agg #[.int .i32 x1_0, .int .i32 x1_1]] W fun e W' => e = .returned (.bool true) ∧ Below W.heap.size W W' :=
  sums_any x0_0 x0_1 x1_0 x1_1 x0_0b x0_1b x1_0b x1_0c x1_1b x1_1c W
set_option maxRecDepth 100000 in
theorem lifted (os : Os) (started : os.Started) (H : Type) (enc : TypeId × Value → H) :
    ReturnsInHanded {} Try.checked os 10 .any (Rows.gf256SumsSpec.pre6 enc Try.prog Try.f10 Rows.gf256SumsRow.domain false) (Rows.gf256SumsSpec.post enc Try.prog Try.f10 false true false false) := by
  refine returnsInHanded_of_change_sized (C := Try.checked) own started (by kernel_rfl) Try.func10
    (ChangeSpec.witness6 (enc := enc) (C := Try.checked) false ⟨#[], #[.agg #[.int .u8 0, .int .u8 0], .agg #[.int .i32 0, .int .i32 0]], []⟩ 8 (by kernel_rfl) (by kernel_rfl) (by kernel_rfl) (by kernel_rfl)) ?_
  intro W base args ds gs before hval0 hW hcnd hsz0 _
  have hsz : (DataW.weightsEach Try.prog (Try.f10.params.toList ++ Rows.gf256SumsSpec.plain.varTypes Try.prog) (ds ++ gs)).all (· ≤ reachBytes) = true := hsz0
  have hval : ∀ (j : Nat) t v, Try.f10.params[j]? = some t → args[j]? = some v → Value.okWide Try.prog W .any base t v := hval0
  have hW' := hW
  obtain ⟨p, q, hA0, hV, rfl, hfz, hnd⟩ := hW
  have hA : DataW.TrodAll enc Try.prog W 0 (fun _ => true) true Try.f10.params.toList args.toList ds p := hA0
  rw [Try.params10] at hA hval hsz
  obtain ⟨v0, vs0, d0, ds0, p0, q0, hargs, rfl, rfl, h0, r0⟩ := trodAll_cons hA
  obtain ⟨v1, vs1, d1, ds1, p1, q1, rfl, rfl, rfl, h1, r1⟩ := trodAll_cons r0
  obtain ⟨rfl, rfl, rfl⟩ := trodAll_nil r1
  obtain rfl : args = #[v0, v1] := by cases args; simp_all
  obtain ⟨rfl, rfl⟩ := trodVars_none hV
  have k0 := h0
  have lt0 : ∀ x ∈ p0, x.block < W.heap.size := by obtain ⟨m, hm⟩ := k0; exact DataW.trod_lt m _ _ _ hm
  obtain ⟨cs0, rfl, sz0, ok0⟩ := agg_struct Try.underlying46 (ts := [5, 5]) (by kernel_rfl) (by kernel_rfl) (hval 0 46 v0 rfl rfl)
  obtain ⟨y0_0, y0_1, rfl⟩ := arr2 sz0
  obtain ⟨u0_0, hu0_0, ok0_0⟩ := ok0 0 y0_0 rfl
  cases hu0_0
  obtain ⟨x0_0, rfl, x0_0b⟩ := cell_u8 Try.underlying5 ok0_0
  obtain ⟨u0_1, hu0_1, ok0_1⟩ := ok0 1 y0_1 rfl
  cases hu0_1
  obtain ⟨x0_1, rfl, x0_1b⟩ := cell_u8 Try.underlying5 ok0_1
  have k1 := h1
  have lt1 : ∀ x ∈ p1, x.block < W.heap.size := by obtain ⟨m, hm⟩ := k1; exact DataW.trod_lt m _ _ _ hm
  obtain ⟨cs1, rfl, sz1, ok1⟩ := agg_array Try.underlying47 (ts := [21, 21]) (by kernel_rfl) (by kernel_rfl) (hval 1 47 v1 rfl rfl)
  obtain ⟨y1_0, y1_1, rfl⟩ := arr2 sz1
  obtain ⟨u1_0, hu1_0, ok1_0⟩ := ok1 0 y1_0 rfl
  cases hu1_0
  obtain ⟨x1_0, rfl, x1_0b, x1_0c⟩ := cell_i32 Try.underlying21 ok1_0
  obtain ⟨u1_1, hu1_1, ok1_1⟩ := ok1 1 y1_1 rfl
  cases hu1_1
  obtain ⟨x1_1, rfl, x1_1b, x1_1c⟩ := cell_i32 Try.underlying21 ok1_1
  clear hA0 hval0 hsz0 hsz
  refine (walk_Gf256Sums (W := W) x0_0 x0_0b x0_1 x0_1b x1_0 x1_0b x1_0c x1_1 x1_1b x1_1c).mono fun e W' ⟨he, bel⟩ => ?_
  subst he
  exact ⟨_, rfl, _, _, _, [], _, [], hW', trodAll_mk1 (shut_bool Try.underlying4 _), (trodAll_cons_mk (Below.trod laidOut (by kernel_rfl) (of_decide_eq_true (by kernel_rfl)) k0 bel lt0) (trodAll_cons_mk (Below.trod laidOut (by kernel_rfl) (of_decide_eq_true (by kernel_rfl)) k1 bel lt1) trodAll_mk0)), rfl, bel.frame _, fun h => by cases h⟩
theorem over : Rows.gf256SumsRow.holds Try.pinned (OpenSpec.ofChange Rows.gf256SumsSpec) :=
  OpenClaim.holds_of_wide 10 Try.f10 rfl rfl rfl rfl rfl rfl rfl ⟨rfl, rfl, rfl, rfl, rfl⟩ rfl rfl rfl rfl rfl (by kernel_rfl) Try.func10 (by kernel_rfl)
    (of_decide_eq_true (by kernel_rfl)) (by unfold Func.isWrapper; first | (rw [if_pos (by decide +kernel)]; kernel_rfl) | (rw [if_neg (by decide +kernel)]; exact ⟨rfl, rfl⟩))
    (fun os started H enc _ => lifted os started H enc)
end Go.Proofs.Ytokmhmfghfenkaa.gf256Sums
namespace Go.Proofs.Ytokmhmfghfenkaa
theorem gf256Sums_holds : Rows.Gf256SumsSaid := gf256Sums.over
#print axioms gf256Sums_holds
end Go.Proofs.Ytokmhmfghfenkaa
