/- A region whose order is forced, taken by hand: one operation at a time. -/
import Derived.Test.YtahiodegnilodaaGreatDoorWd
import Derived.Deep.RegionHeld3
namespace Go.Proofs.Pw
open Go.RowKit
variable {P : Program} {md : Region.Mode} {Q : Exit → Act → World → Prop} {S : World → Prop}

/-- Operation number i, which yields v in every world of S, comes first. -/
theorem takeL {l : List Oper} (i : Nat) {v : Value} {fuel : Nat} {listed : Array Bool} {a : Act} {w : World} (hl : i < l.length)
    (hs : Region.noSelect l.toArray = true) (hf : Region.free md l.toArray listed i = true) (hr : (Region.ready md l.toArray listed).contains i = true)
    (hQ : ∀ c a w, Q (.panic c) (a.put (l[i]'hl).dst v) w → Q (.panic c) a w) (hw : Region.wanted (l[i]'hl) (yielded l.toArray a.tmps) = true) (hS : S w)
    (hy : ∀ w, S w → (execOp a.eval (l[i]'hl)).run P w = .ok (.value v) w)
    (h : wpAnyH P md l.toArray Q S fuel (listed.setIfInBounds i true) (a.put (l[i]'hl).dst v) w) : wpAnyH P md l.toArray Q S (fuel + 1) listed a w :=
  wpAnyH_take (i := i) (oi := l[i]'hl) (v := v) (by simp [hl]) hs hf hr hQ (Or.inl ⟨hw, hy⟩) hS h
/-- The one that may come up is carried out. -/
theorem stepL {l : List Oper} (i : Nat) {fuel : Nat} {listed : Array Bool} {a : Act} {w : World} (hl : i < l.length) (hr : Region.ready md l.toArray listed = [i]) (hw : Region.wanted (l[i]'hl) (yielded l.toArray a.tmps) = true)
    (h : ∀ K : Act → World → Prop, Hid (∀ a' w', S w' → (S w' → wpAnyH P md l.toArray Q S fuel (listed.setIfInBounds i true) a' w') → K a' w') → (l[i]'hl).wp P a w K Q) : wpAnyH P md l.toArray Q S (fuel + 1) listed a w := by
  refine wpAnyH_ready (rs := [i]) hr (by simp) ?_
  refine AllReadyH.cons (o := l[i]'hl) (by simp [hl]) (fun K hK => ?_) AllReadyH.nil
  rw [if_pos hw]
  exact h K hK
end Go.Proofs.Pw
