/- The program's Right and the reference's Right say the same. Plain. -/
import Derived.Test.YtahiodegnilodaaGreatDoorMapD
import Derived.Test.YtahiodegnilodaaGreatDoorRefC
namespace Go.Proofs.Pw
open Go.RowKit

theorem eq_of_toList {a b : ByteArray} : ((a.toList == b.toList) = true) ↔ a = b := by
  rw [← beq_toListBytes]; exact MapKept.bytes_beq a b
theorem hasB_iff (s : ByteArray) : ∀ l : List ByteArray, hasB s l = true ↔ s ∈ l
  | [] => by simp [hasB]
  | x :: l => by
    rw [hasB]
    by_cases h : (s.toList == x.toList) = true
    · rw [if_pos h]; simp [eq_of_toList.1 h]
    · rw [if_neg h, hasB_iff s l, List.mem_cons]
      have : ¬ s = x := fun e => h (eq_of_toList.2 e)
      simp [this]
theorem unlike_iff : ∀ (l pre : List ByteArray), unlikeF pre l = true ↔ l.Nodup ∧ ∀ x ∈ l, x ∉ pre
  | [], pre => by simp [unlikeF]
  | x :: l, pre => by
    rw [unlikeF]
    by_cases h : hasB x pre = true
    · rw [if_pos h]
      have := (hasB_iff x pre).1 h
      simp [this]
    · rw [if_neg h, unlike_iff l (pre ++ [x])]
      have hx : x ∉ pre := fun e => h ((hasB_iff x pre).2 e)
      simp only [List.nodup_cons, List.mem_append, List.mem_cons, not_or]
      constructor
      · rintro ⟨h1, h2⟩
        refine ⟨⟨fun hm => (h2 x hm).2.1 rfl, h1⟩, fun y hy => ?_⟩
        rcases hy with rfl | hy
        · exact hx
        · exact (h2 y hy).1
      · rintro ⟨⟨h1, h2⟩, h3⟩
        exact ⟨h2, fun y hy => ⟨h3 y (.inr hy), fun e => h1 (e ▸ hy), by simp⟩⟩
/-- The first column of that name, and its place. -/
theorem atF_get (k : ByteArray) : ∀ (cs : List PCol) (j : Nat), (getC cs k = none ∧ atF k cs j = -1) ∨ ∃ c i, getC cs k = some c ∧ cs[i]? = some c ∧ c.name = k ∧ atF k cs j = ((j + i : Nat) : Int)
  | [], j => .inl ⟨rfl, rfl⟩
  | c :: cs, j => by
    rw [getC, atF]
    by_cases h : (k == c.name) = true
    · have e := (MapKept.bytes_beq k c.name).1 h
      have h' : (c.name.toList == k.toList) = true := eq_of_toList.2 e.symm
      rw [if_pos h, if_pos h']
      exact .inr ⟨c, 0, rfl, rfl, e.symm, rfl⟩
    · have h' : ¬ (c.name.toList == k.toList) = true := fun e => h ((MapKept.bytes_beq k c.name).2 (eq_of_toList.1 e).symm)
      rw [if_neg h, if_neg h']
      rcases atF_get k cs (j + 1) with h1 | ⟨c', i, h1, h2, h3, h4⟩
      · exact .inl h1
      · refine .inr ⟨c', i + 1, h1, by simpa using h2, h3, ?_⟩
        rw [h4]; congr 1; omega
theorem allAt_iff (cs : List PCol) : ∀ l : List ByteArray, allAt cs l = l.all fun k => (getC cs k).isSome
  | [] => rfl
  | k :: l => by
    rw [allAt, List.all_cons]
    rcases atF_get k cs 0 with ⟨h1, h2⟩ | ⟨c, i, h1, h2, h3, h4⟩
    · rw [if_pos (by omega), h1]; rfl
    · rw [if_neg (by omega), h1, allAt_iff cs l]; rfl
theorem nn_eq (cs : List PCol) (k : ByteArray) (h : (getC cs k).isSome = true) : nnAt cs (atF k cs 0) = nnP cs k := by
  rcases atF_get k cs 0 with ⟨h1, _⟩ | ⟨c, i, h1, h2, h3, h4⟩
  · rw [h1] at h; exact absurd h (by decide)
  · unfold nnAt nnP
    rw [h4, h1]
    simp [h2]
theorem keyOk_eq (cs : List PCol) : ∀ l : List ByteArray, allAt cs l = true → keyOk cs l = l.all (nnP cs)
  | [], _ => rfl
  | k :: l, h => by
    rw [allAt_iff, List.all_cons, Bool.and_eq_true] at h
    rw [keyOk, nn_eq cs k h.1, List.all_cons, keyOk_eq cs l (by rw [allAt_iff]; exact h.2)]
    cases nnP cs k <;> rfl
theorem all_nn (cs : List PCol) (l : List ByteArray) (h : l.all (nnP cs) = true) : allAt cs l = true := by
  rw [allAt_iff, List.all_eq_true] at *
  intro k hk
  have := h k hk
  unfold nnP at this
  cases hg : getC cs k with
  | none => rw [hg] at this; exact absurd this (by decide)
  | some c => rfl
end Go.Proofs.Pw
