/-
  A region that draws its order, walked by hand: one step at a time, with states that meet again.
-/
import Derived.Test.YtkioaogpmifgeaaDoorLexW
namespace Go.Proofs.YtkioaogpmifgeaaDoor
open Go.RowKit

section
variable {P : Program} {ops : Array Oper} {Q : Exit → Act → World → Prop} {md : Region.Mode} {S : World → Prop}
/-- Number i is taken first. -/
theorem take_at {fuel : Nat} {listed : Array Bool} {a : Act} {w : World} (i : Nat) (hs : Region.noSelect ops = true) (hf : Region.free md ops listed i = true) (hr : (Region.ready md ops listed).contains i = true)
    (hQ : ∀ c a d v w, Q (.panic c) (a.put d v) w → Q (.panic c) a w) (hex : ∃ o, ops[i]? = some o) (hS : S w)
    (h : ∀ o, ops[i]? = some o → ∃ v, (Region.wanted o (yielded ops a.tmps) = true ∧ ∀ w, S w → (execOp a.eval o).run P w = .ok (.value v) w) ∧ wpAnyH P md ops Q S fuel (listed.setIfInBounds i true) (a.put o.dst v) w) :
    wpAnyH P md ops Q S (fuel + 1) listed a w := by
  obtain ⟨o, ho⟩ := hex
  obtain ⟨v, hy, hrest⟩ := h o ho
  exact wpAnyH_take ho hs hf hr (fun c a w h => hQ c a _ _ w h) (Or.inl hy) hS hrest
/-- Number i comes up among others. -/
theorem ready_at {fuel : Nat} {listed : Array Bool} {a : Act} {w : World} {rs : List Nat} (i : Nat) (hex : ∃ o, ops[i]? = some o)
    (h : ∀ o, ops[i]? = some o → ∀ K' : Act → World → Prop, Shut (∀ a w, S w → (S w → wpAnyH P md ops Q S fuel (listed.setIfInBounds i true) a w) → K' a w) → if Region.wanted o (yielded ops a.tmps) = true then Oper.wp P o a w K' Q else K' (a.put o.dst undef) w)
    (hs : AllReadyH P md ops Q S fuel listed a w rs) : AllReadyH P md ops Q S fuel listed a w (i :: rs) := by
  obtain ⟨o, ho⟩ := hex
  exact AllReadyH.cons ho (h o ho) hs
/-- What follows a state that several ways come to is shown once. -/
theorem with_rest {fuel m : Nat} {listed : Array Bool} {a : Act} {w : World} (T : Array Bool) (R : Act → Prop) (rest : ∀ a w, R a → S w → wpAnyH P md ops Q S m T a w)
    (k : (∀ a w, R a → S w → wpAnyH P md ops Q S m T a w) → wpAnyH P md ops Q S fuel listed a w) : wpAnyH P md ops Q S fuel listed a w := k rest
end
end Go.Proofs.YtkioaogpmifgeaaDoor
