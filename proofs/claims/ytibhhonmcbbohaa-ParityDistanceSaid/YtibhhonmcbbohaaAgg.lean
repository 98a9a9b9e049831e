/- Structs and arrays that come in by value: their cells, out of what the row says of each argument's form. -/
import Derived.Test.YtibhhonmcbbohaaRows
import Derived.WalkKit
import Derived.ProofKit
import Derived.OpenShut
namespace Go.Proofs.Ytibhhonmcbbohaa
open Go.ChangeShapes Go.WideShapes Go.RowKit

theorem agg_struct {P : Program} {w : World} {base : Nat} {t : TypeId} {v : Value} {fs : Array Field} (hu : P.underlying t = some (.struct fs)) {ts : List TypeId} (ht : P.cellTypes P.depth t = some ts) (hsz : P.cellsOf t = ts.length)
    (h : Value.okWide P w .any base t v) : ∃ cs : Array Value, v = .agg cs ∧ cs.size = ts.length ∧ ∀ i x, cs[i]? = some x → ∃ u, ts[i % ts.length]? = some u ∧ Cell.okWide P w .any base u x := by
  simp only [Value.okWide, hu] at h
  obtain ⟨cs, rfl, h1, ts', h2, _, h3⟩ := h
  rw [ht] at h2
  cases h2
  exact ⟨cs, rfl, by rw [h1, hsz], h3⟩
theorem agg_array {P : Program} {w : World} {base n : Nat} {t e : TypeId} {v : Value} (hu : P.underlying t = some (.array n e)) {ts : List TypeId} (ht : P.cellTypes P.depth t = some ts) (hsz : P.cellsOf t = ts.length)
    (h : Value.okWide P w .any base t v) : ∃ cs : Array Value, v = .agg cs ∧ cs.size = ts.length ∧ ∀ i x, cs[i]? = some x → ∃ u, ts[i % ts.length]? = some u ∧ Cell.okWide P w .any base u x := by
  simp only [Value.okWide, hu] at h
  obtain ⟨cs, rfl, h1, ts', h2, _, h3⟩ := h
  rw [ht] at h2
  cases h2
  exact ⟨cs, rfl, by rw [h1, hsz], h3⟩
theorem cell_int {P : Program} {w : World} {base : Nat} {u : TypeId} {x : Value} {k : IntKind} (hu : P.underlying u = some (.int k)) (h : Cell.okWide P w .any base u x) : ∃ n : Int, x = .int k n ∧ k.min ≤ n ∧ n ≤ k.max := by
  simp only [Cell.okWide, hu] at h
  cases x <;> simp_all [Cell.ok, IntKind.has]
theorem cell_bool {P : Program} {w : World} {base : Nat} {u : TypeId} {x : Value} (hu : P.underlying u = some .bool) (h : Cell.okWide P w .any base u x) : ∃ b : Bool, x = .bool b := by
  simp only [Cell.okWide, hu] at h
  cases x <;> simp_all [Cell.ok]
theorem cell_u8 {P : Program} {w : World} {base : Nat} {u : TypeId} {x : Value} (hu : P.underlying u = some (.int .u8)) (h : Cell.okWide P w .any base u x) : ∃ n : Nat, x = .int .u8 n ∧ n < 256 := by
  obtain ⟨n, rfl, h1, h2⟩ := cell_int hu h
  have e1 : IntKind.u8.min = 0 := rfl
  have e2 : IntKind.u8.max = 255 := rfl
  exact ⟨n.toNat, by congr 1; omega, by omega⟩
theorem cell_u32 {P : Program} {w : World} {base : Nat} {u : TypeId} {x : Value} (hu : P.underlying u = some (.int .u32)) (h : Cell.okWide P w .any base u x) : ∃ n : Nat, x = .int .u32 n ∧ n < 4294967296 := by
  obtain ⟨n, rfl, h1, h2⟩ := cell_int hu h
  have e1 : IntKind.u32.min = 0 := rfl
  have e2 : IntKind.u32.max = 4294967295 := rfl
  exact ⟨n.toNat, by congr 1; omega, by omega⟩
theorem cell_i32 {P : Program} {w : World} {base : Nat} {u : TypeId} {x : Value} (hu : P.underlying u = some (.int .i32)) (h : Cell.okWide P w .any base u x) : ∃ n : Int, x = .int .i32 n ∧ -2147483648 ≤ n ∧ n ≤ 2147483647 := by
  obtain ⟨n, rfl, h1, h2⟩ := cell_int hu h
  have e1 : IntKind.i32.min = -2147483648 := rfl
  have e2 : IntKind.i32.max = 2147483647 := rfl
  exact ⟨n, rfl, by omega, by omega⟩
theorem cell_i64 {P : Program} {w : World} {base : Nat} {u : TypeId} {x : Value} (hu : P.underlying u = some (.int .i64)) (h : Cell.okWide P w .any base u x) : ∃ n : Int, x = .int .i64 n ∧ -9223372036854775808 ≤ n ∧ n ≤ 9223372036854775807 := by
  obtain ⟨n, rfl, h1, h2⟩ := cell_int hu h
  have e1 : IntKind.i64.min = -9223372036854775808 := rfl
  have e2 : IntKind.i64.max = 9223372036854775807 := rfl
  exact ⟨n, rfl, by omega, by omega⟩
theorem arr1 {α : Type} {cs : Array α} (h : cs.size = 1) : ∃ c0, cs = #[c0] := by
  obtain ⟨l⟩ := cs
  match l, h with
  | [a], _ => exact ⟨a, rfl⟩
theorem arr2 {α : Type} {cs : Array α} (h : cs.size = 2) : ∃ c0 c1, cs = #[c0, c1] := by
  obtain ⟨l⟩ := cs
  match l, h with
  | [a, b], _ => exact ⟨a, b, rfl⟩
theorem arr3 {α : Type} {cs : Array α} (h : cs.size = 3) : ∃ c0 c1 c2, cs = #[c0, c1, c2] := by
  obtain ⟨l⟩ := cs
  match l, h with
  | [a, b, c], _ => exact ⟨a, b, c, rfl⟩
end Go.Proofs.Ytibhhonmcbbohaa
