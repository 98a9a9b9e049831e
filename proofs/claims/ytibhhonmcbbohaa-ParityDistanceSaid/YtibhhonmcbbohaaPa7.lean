/- From a walk outside of rounds to one within a round: regions that hold no defer. -/
import Derived.Test.YtibhhonmcbbohaaPa5
import Derived.Deep.RegionHeld3
namespace Go.Proofs.Ytibhhonmcbbohaa
open Go.RowKit Go.Shelf

theorem op_round {P : Program} {n l : Nat} {o : Oper} {a : Act} {w : World} {K : Act → World → Prop} {Q : Exit → Act → World → Prop} (hd : ∀ c, o.op ≠ .defer c) (h : o.wp P a w K Q) : o.wpIn (Fence.wide.inRound l) n P a w K Q := by
  refine ⟨fun f _ => trivial, ?_⟩
  rw [show Oper.semAt (Fence.wide.inRound l).round a.eval o = execOp a.eval o from Oper.semAt_some l a.eval o hd]
  unfold Oper.wp at h
  generalize (execOp a.eval o).run P w = r at *
  cases r with
  | ok x w' =>
    cases x
    all_goals (first
      | exact h
      | exact h.elim
      | (rw [Oper.uponIn_enter]; rw [Oper.upon_enter] at h; exact ⟨fun h0 => (by simp [Fence.wide] at h0), (CallsIn.inRound l (callsIn_wide.2 h)).mono (fun e w'' hh => (by cases e <;> exact hh))⟩)
      | (rw [Oper.uponIn_row]; rw [Oper.upon_row] at h; exact ⟨fun h0 => (by simp [Fence.wide] at h0), fun c cs _ => let ⟨v, w'', r, s⟩ := h c cs; ⟨v, w'', r, stepsIn_wide.2 s⟩⟩)
      | skip)
  | halt x w' =>
    cases x <;> first | exact h | exact h.elim
theorem any_round {P : Program} {n l : Nat} {md : Region.Mode} {ops : Array Oper} {Q : Exit → Act → World → Prop} (hQ : ¬ LetsOut Q) (hd : ∀ (j : Nat) (o : Oper), ops[j]? = some o → ∀ c, o.op ≠ .defer c) :
    ∀ (fuel : Nat) (listed : Array Bool) (a : Act) (w : World), wpAny P md ops Q fuel listed a w → wpAnyIn (Fence.wide.inRound l) n P md ops Q fuel listed a w
  | 0, _, _, _, h => h
  | fuel + 1, listed, a, w, h => by
    refine ⟨h.1, fun i hi => ?_⟩
    have h2 := h.2 i hi
    unfold wpOp at h2
    unfold wpOpIn
    cases ho : ops[i]? with
    | none => rw [ho] at h2; exact any_round hQ hd fuel _ a w h2
    | some o =>
      rw [ho] at h2
      simp only at h2 ⊢
      split
      · rename_i hw
        rw [if_pos hw] at h2
        rcases h2 with h2 | h2
        · exact Oper.wpIn_mono (fun a' w' => any_round hQ hd fuel _ a' w') (op_round (hd i o ho) h2)
        · exact absurd h2.2 hQ
      · rename_i hw
        rw [if_neg hw] at h2
        exact ⟨fun f _ => trivial, any_round hQ hd fuel _ _ w h2⟩
theorem nodef {ops : Array Oper} (h : ops.all (fun o => match o.op with | .defer _ => false | _ => true) = true) : ∀ (j : Nat) (o : Oper), ops[j]? = some o → ∀ c, o.op ≠ .defer c := by
  intro j o hj c e
  obtain ⟨hlt, hk⟩ := Array.getElem?_eq_some_iff.1 hj
  have := (Array.all_eq_true.1 h) j hlt
  rw [hk, e] at this
  cases this
theorem region_round {P : Program} {n l id : Nat} {ops : Array Oper} {Q : Exit → Act → World → Prop} {S : World → Prop} {a : Act} {w : World} (hm : P.follows .mixedOrders = true) (hQ : ¬ LetsOut Q) (hd : ∀ (j : Nat) (o : Oper), ops[j]? = some o → ∀ c, o.op ≠ .defer c)
    (h : wpAnyH P .any ops Q S ops.size (Array.replicate ops.size false) a w.drew) : (Code.region id ops true).wpIn (Fence.wide.inRound l) n P Q a w :=
  wpIn_region_any hm (any_round hQ hd _ _ _ _ (wpAny_of_held _ _ _ _ h))
end Go.Proofs.Ytibhhonmcbbohaa
