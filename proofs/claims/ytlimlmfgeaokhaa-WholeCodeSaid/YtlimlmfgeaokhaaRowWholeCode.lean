/- The row of WholeCode: whatever the input, the law returns true and its arguments read as they did; out of the walk wholeCode_of awake25_any F0 f2 A0 len0 cap0 n1 W lb0 fb2 b1 ld0 lc0. -/
import Derived.Test.YtlimlmfgeaokhaaRows
import Derived.Test.YtlimlmfgeaokhaaMk
import Derived.WalkKit
import Derived.ProofKit
import Derived.OpenShut
import Derived.ShutString
import Derived.ChangeOld
import Derived.Below
import Derived.SizedLaws
namespace Go.Proofs.Ytlimlmfgeaokhaa.wholeCode
open Go.ChangeShapes Go.WideShapes Go.ChangeAt Go.RowKit
open Go.ChangeMaps (open_string shut_string)
set_option linter.unusedVariables false
theorem own : ownKnob Try.prog.godebug = none := by kernel_rfl
theorem laidOut : laidOutB Try.prog = true := by kernel_rfl
theorem of_u8 {a : Int} (h : (Lit.int .u8 a).wf = true) : ∃ n : Nat, a = (n : Int) ∧ n < 256 := by
  have := bounds_u8 h
  exact ⟨a.toNat, by omega, by omega⟩
theorem of_u16 {a : Int} (h : (Lit.int .u16 a).wf = true) : ∃ n : Nat, a = (n : Int) ∧ n < 65536 := by
  have := bounds_u16 h
  exact ⟨a.toNat, by omega, by omega⟩
theorem of_i64 {a : Int} (h : (Lit.int .i64 a).wf = true) : -9223372036854775808 ≤ a ∧ a ≤ 9223372036854775807 := by
  have := bounds_i64 h
  exact ⟨by omega, by omega⟩
theorem walk_WholeCode {W : World} (F0 : Nat → Nat) (A0 : Option Addr) (len0 cap0 : Nat) (lb0 : ∀ j, F0 j < 256) (ln0 : A0 = none → cap0 = 0) (ld0 : len0 ≤ cap0) (lc0 : Bks W A0 len0 F0) (n1 : Nat) (b1 : n1 < 65536) (f2 : Nat → Nat) (fb2 : ∀ j, f2 j < 256) : Calls Try.prog 3 #[.slice A0 len0 cap0, .int .u16 n1, .agg (brow 8 f2)] W fun e W' => e = .returned (.bool true) ∧ Below W.heap.size W W' :=
  wholeCode_of awake25_any F0 f2 A0 len0 cap0 n1 W lb0 fb2 b1 ld0 lc0
set_option maxRecDepth 100000 in
theorem lifted (os : Os) (started : os.Started) (H : Type) (enc : TypeId × Value → H) :
    ReturnsInHanded {} Try.checked os 3 .any (Rows.wholeCodeSpec.pre6 enc Try.prog Try.f3 Rows.wholeCodeRow.domain false) (Rows.wholeCodeSpec.post enc Try.prog Try.f3 false true false false) := by
  refine returnsInHanded_of_change_sized (C := Try.checked) own started (by kernel_rfl) Try.func3
    (ChangeSpec.witness6 (enc := enc) (C := Try.checked) false ⟨#[], #[.slice none 0 0, .int .u16 0, .agg #[.int .u8 0, .int .u8 0, .int .u8 0, .int .u8 0, .int .u8 0, .int .u8 0, .int .u8 0, .int .u8 0]], []⟩ 8 (by kernel_rfl) (by kernel_rfl) (by kernel_rfl) (by kernel_rfl)) ?_
  intro W base args ds gs before hval0 hW hcnd hsz0 _
  have hsz : (DataW.weightsEach Try.prog (Try.f3.params.toList ++ Rows.wholeCodeSpec.plain.varTypes Try.prog) (ds ++ gs)).all (· ≤ reachBytes) = true := hsz0
  have hval : ∀ (j : Nat) t v, Try.f3.params[j]? = some t → args[j]? = some v → Value.okWide Try.prog W .any base t v := hval0
  have hW' := hW
  obtain ⟨p, q, hA0, hV, rfl, hfz, hnd⟩ := hW
  have hA : DataW.TrodAll enc Try.prog W 0 (fun _ => true) true Try.f3.params.toList args.toList ds p := hA0
  rw [Try.params3] at hA hval hsz
  obtain ⟨v0, vs0, d0, ds0, p0, q0, hargs, rfl, rfl, h0, r0⟩ := trodAll_cons hA
  obtain ⟨v1, vs1, d1, ds1, p1, q1, rfl, rfl, rfl, h1, r1⟩ := trodAll_cons r0
  obtain ⟨v2, vs2, d2, ds2, p2, q2, rfl, rfl, rfl, h2, r2⟩ := trodAll_cons r1
  obtain ⟨rfl, rfl, rfl⟩ := trodAll_nil r2
  obtain rfl : args = #[v0, v1, v2] := by cases args; simp_all
  obtain ⟨rfl, rfl⟩ := trodVars_none hV
  obtain ⟨A0, len0, cap0, rfl⟩ := okWide_slice Try.underlying22 (hval 0 22 v0 rfl rfl)
  have k0 := h0
  have lt0 : ∀ x ∈ p0, x.block < W.heap.size := by obtain ⟨m, hm⟩ := k0; exact DataW.trod_lt m _ _ _ hm
  obtain ⟨F0, lb0, ln0, ld0, lc0⟩ : ∃ F : Nat → Nat, (∀ j, F j < 256) ∧ (A0 = none → cap0 = 0) ∧ len0 ≤ cap0 ∧ Bks W A0 len0 F := by
    obtain ⟨fuel, hf⟩ := h0
    exact bks_of_row hf
  obtain ⟨a1, rfl, rfl, rfl, w1⟩ := open_int Try.underlying23 (hval 1 23 v1 rfl rfl) h1
  obtain ⟨n1, rfl, b1⟩ := of_u16 w1
  have k2 := h2
  have lt2 : ∀ x ∈ p2, x.block < W.heap.size := by obtain ⟨m, hm⟩ := k2; exact DataW.trod_lt m _ _ _ hm
  obtain ⟨f2, rfl, fb2⟩ := agg_bytes (m := 8) Try.underlying25 (by kernel_rfl) (by kernel_rfl) (by decide) (hval 2 25 v2 rfl rfl)
  clear hA0 hval0 hsz0 hsz
  refine (walk_WholeCode (W := W) F0 A0 len0 cap0 lb0 ln0 ld0 lc0 n1 b1 f2 fb2).mono fun e W' ⟨he, bel⟩ => ?_
  subst he
  exact ⟨_, rfl, _, _, _, [], _, [], hW', trodAll_mk1 (shut_bool Try.underlying4 _), (trodAll_cons_mk (Below.trod laidOut (by kernel_rfl) (of_decide_eq_true (by kernel_rfl)) k0 bel lt0) (trodAll_cons_mk (shut_int Try.underlying23 w1) (trodAll_cons_mk (Below.trod laidOut (by kernel_rfl) (of_decide_eq_true (by kernel_rfl)) k2 bel lt2) trodAll_mk0))), rfl, bel.frame _, fun h => by cases h⟩
theorem over : Rows.wholeCodeRow.holds Try.pinned (OpenSpec.ofChange Rows.wholeCodeSpec) :=
  OpenClaim.holds_of_wide 3 Try.f3 rfl rfl rfl rfl rfl rfl rfl ⟨rfl, rfl, rfl, rfl, rfl⟩ rfl rfl rfl rfl rfl (by kernel_rfl) Try.func3 (by kernel_rfl)
    (of_decide_eq_true (by kernel_rfl)) (by unfold Func.isWrapper; first | (rw [if_pos (by decide +kernel)]; kernel_rfl) | (rw [if_neg (by decide +kernel)]; exact ⟨rfl, rfl⟩))
    (fun os started H enc _ => lifted os started H enc)
end Go.Proofs.Ytlimlmfgeaokhaa.wholeCode
namespace Go.Proofs.Ytlimlmfgeaokhaa
theorem wholeCode_holds : Rows.WholeCodeSaid := wholeCode.over
#print axioms wholeCode_holds
end Go.Proofs.Ytlimlmfgeaokhaa
