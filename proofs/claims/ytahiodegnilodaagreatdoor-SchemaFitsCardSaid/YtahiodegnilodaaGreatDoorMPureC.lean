/- The program's Right and the reference's Right say the same. Plain. -/
import Derived.Test.YtahiodegnilodaaGreatDoorMapD
import Derived.Test.YtahiodegnilodaaGreatDoorRefC
import Derived.Test.YtahiodegnilodaaGreatDoorSchC
namespace Go.Proofs.Pw
open Go.RowKit

theorem eq_of_toList {a b : ByteArray} : ((a.toList == b.toList) = true) ↔ a = b := by
  rw [← beq_toListBytes]; exact MapKept.bytes_beq a b
theorem hasB_iff (s : ByteArray) : ∀ l : List ByteArray, hasB s l = true ↔ s ∈ l
  | [] => by simp [hasB]
  | x :: l => by
    rw [hasB]
    by_cases h : (s.toList == x.toList) = true
    · rw [if_pos h]; simp [eq_of_toList.1 h]
    · rw [if_neg h, hasB_iff s l, List.mem_cons]
      have : ¬ s = x := fun e => h (eq_of_toList.2 e)
      simp [this]
theorem unlike_iff : ∀ (l pre : List ByteArray), unlikeF pre l = true ↔ l.Nodup ∧ ∀ x ∈ l, x ∉ pre
  | [], pre => by simp [unlikeF]
  | x :: l, pre => by
    rw [unlikeF]
    by_cases h : hasB x pre = true
    · rw [if_pos h]
      have := (hasB_iff x pre).1 h
      simp [this]
    · rw [if_neg h, unlike_iff l (pre ++ [x])]
      have hx : x ∉ pre := fun e => h ((hasB_iff x pre).2 e)
      simp only [List.nodup_cons, List.mem_append, List.mem_cons, not_or]
      constructor
      · rintro ⟨h1, h2⟩
        refine ⟨⟨fun hm => (h2 x hm).2.1 rfl, h1⟩, fun y hy => ?_⟩
        rcases hy with rfl | hy
        · exact hx
        · exact (h2 y hy).1
      · rintro ⟨⟨h1, h2⟩, h3⟩
        exact ⟨h2, fun y hy => ⟨h3 y (.inr hy), fun e => h1 (e ▸ hy), by simp⟩⟩
/-- The first column of that name, and its place. -/
theorem atF_get (k : ByteArray) : ∀ (cs : List PCol) (j : Nat), (getC cs k = none ∧ atF k cs j = -1) ∨ ∃ c i, getC cs k = some c ∧ cs[i]? = some c ∧ c.name = k ∧ atF k cs j = ((j + i : Nat) : Int)
  | [], j => .inl ⟨rfl, rfl⟩
  | c :: cs, j => by
    rw [getC, atF]
    by_cases h : (k == c.name) = true
    · have e := (MapKept.bytes_beq k c.name).1 h
      have h' : (c.name.toList == k.toList) = true := eq_of_toList.2 e.symm
      rw [if_pos h, if_pos h']
      exact .inr ⟨c, 0, rfl, rfl, e.symm, rfl⟩
    · have h' : ¬ (c.name.toList == k.toList) = true := fun e => h ((MapKept.bytes_beq k c.name).2 (eq_of_toList.1 e).symm)
      rw [if_neg h, if_neg h']
      rcases atF_get k cs (j + 1) with h1 | ⟨c', i, h1, h2, h3, h4⟩
      · exact .inl h1
      · refine .inr ⟨c', i + 1, h1, by simpa using h2, h3, ?_⟩
        rw [h4]; congr 1; omega
theorem allAt_iff (cs : List PCol) : ∀ l : List ByteArray, allAt cs l = l.all fun k => (getC cs k).isSome
  | [] => rfl
  | k :: l => by
    rw [allAt, List.all_cons]
    rcases atF_get k cs 0 with ⟨h1, h2⟩ | ⟨c, i, h1, h2, h3, h4⟩
    · rw [if_pos (by omega), h1]; rfl
    · rw [if_neg (by omega), h1, allAt_iff cs l]; rfl
theorem nn_eq (cs : List PCol) (k : ByteArray) (h : (getC cs k).isSome = true) : nnAt cs (atF k cs 0) = nnP cs k := by
  rcases atF_get k cs 0 with ⟨h1, _⟩ | ⟨c, i, h1, h2, h3, h4⟩
  · rw [h1] at h; exact absurd h (by decide)
  · unfold nnAt nnP
    rw [h4, h1]
    simp [h2]
theorem keyOk_eq (cs : List PCol) : ∀ l : List ByteArray, allAt cs l = true → keyOk cs l = l.all (nnP cs)
  | [], _ => rfl
  | k :: l, h => by
    rw [allAt_iff, List.all_cons, Bool.and_eq_true] at h
    rw [keyOk, nn_eq cs k h.1, List.all_cons, keyOk_eq cs l (by rw [allAt_iff]; exact h.2)]
    cases nnP cs k <;> rfl
theorem all_nn (cs : List PCol) (l : List ByteArray) (h : l.all (nnP cs) = true) : allAt cs l = true := by
  rw [allAt_iff, List.all_eq_true] at *
  intro k hk
  have := h k hk
  unfold nnP at this
  cases hg : getC cs k with
  | none => rw [hg] at this; exact absurd this (by decide)
  | some c => rfl
end Go.Proofs.Pw
/- few is: between one and eight, none twice. Plain. -/
namespace Go.Proofs.Pw
open Go.RowKit Go.Sort Go.Lib

theorem compact_len (zs : List (List UInt8)) : (Lib.compact zs).length = zs.length ↔ ∀ j, j < zs.length → keeps zs.toArray j = true := by
  unfold Lib.compact compactUpTo
  rw [List.length_map]
  have h := List.length_filter_eq_length_iff (p := keeps zs.toArray) (l := List.range zs.length)
  rw [List.length_range] at h
  rw [h]
  simp
theorem keeps_iff (zs : List (List UInt8)) (j : Nat) (hj : j + 1 < zs.length) : keeps zs.toArray (j + 1) = true ↔ zs[j + 1] ≠ zs[j] := by
  unfold keeps
  have e1 : zs.toArray[j + 1]! = zs[j + 1] := by simp [hj]
  have e2 : zs.toArray[j + 1 - 1]! = zs[j] := by
    show zs.toArray[j]! = zs[j]
    simp [show j < zs.length by omega]
  rw [e1, e2]
  simp
theorem compact_sorted (zs : List (List UInt8)) (h : zs.Pairwise (fun x y => x ≤ y)) : (Lib.compact zs).length = zs.length ↔ zs.Nodup := by
  rw [compact_len]
  have hp := List.pairwise_iff_getElem.1 h
  constructor
  · intro hk
    unfold List.Nodup
    rw [List.pairwise_iff_getElem]
    intro i j hi hj hij e
    obtain ⟨m, rfl⟩ : ∃ m, j = m + 1 := ⟨j - 1, by omega⟩
    have h1 := (keeps_iff zs m hj).1 (hk (m + 1) hj)
    have h2 : zs[i] ≤ zs[m] := by
      by_cases him : i = m
      · subst him; exact List.le_refl _
      · exact hp i m hi (by omega) (by omega)
    have h3 : zs[m] ≤ zs[m + 1] := hp m (m + 1) (by omega) hj (by omega)
    rw [e] at h2
    exact h1 (List.le_antisymm h2 h3)
  · intro hn j hj
    cases j with
    | zero => simp [keeps]
    | succ m =>
      rw [keeps_iff zs m hj]
      have := List.pairwise_iff_getElem.1 hn m (m + 1) (by omega) hj (by omega)
      exact fun e => this e.symm
theorem bs_nodup (l : List ByteArray) : (bs l).Nodup ↔ l.Nodup := by
  unfold bs List.Nodup
  rw [List.pairwise_map]
  constructor
  · intro h; exact h.imp fun hab e => hab (by rw [e])
  · intro h
    exact h.imp fun {a b} hab e => hab (by
      cases a; cases b
      simp only at e
      congr 1
      exact Array.toList_inj.1 e)
theorem few_iff (l : List ByteArray) : fewF l = true ↔ 1 ≤ l.length ∧ l.length ≤ 8 ∧ l.Nodup := by
  unfold fewF
  by_cases h1 : l.length < 1
  · rw [if_pos h1]; simp; omega
  rw [if_neg h1]
  by_cases h2 : 8 < l.length
  · rw [if_pos h2]; simp; omega
  rw [if_neg h2, decide_eq_true_iff]
  have hs : (sortF l).Pairwise (fun x y => x ≤ y) := by
    have := List.pairwise_mergeSort (le := fun x y : List UInt8 => decide (x ≤ y)) (fun a b c h1 h2 => by simp only [decide_eq_true_eq] at *; exact List.le_trans h1 h2) (fun a b => by simp only [Bool.or_eq_true, decide_eq_true_eq]; exact List.le_total a b) (bs l)
    exact this.imp fun h => by simpa using h
  have hc := compact_sorted _ hs
  rw [sortF_len] at hc
  rw [hc]
  have hp : (sortF l).Nodup ↔ (bs l).Nodup := (List.mergeSort_perm _ _).nodup_iff
  rw [hp, bs_nodup]
  constructor
  · intro h; exact ⟨by omega, by omega, h⟩
  · exact fun h => h.2.2
theorem part_eq (cs : List PCol) (l : List ByteArray) : partF cs l = (fewF l && l.all fun k => (getC cs k).isSome) := by
  have hf := few_iff l
  have hu := unlike_iff l []
  unfold partF
  rw [allAt_iff]
  by_cases h1 : l.length < 1
  · rw [if_pos h1]
    have : fewF l = false := by cases hx : fewF l <;> simp_all <;> omega
    rw [this]; rfl
  rw [if_neg h1]
  by_cases h2 : 8 < l.length
  · rw [if_pos h2]
    have : fewF l = false := by cases hx : fewF l <;> simp_all <;> omega
    rw [this]; rfl
  rw [if_neg h2]
  by_cases h3 : unlikeF [] l = true
  · rw [if_pos h3, hf.2 ⟨by omega, by omega, (hu.1 h3).1⟩]; rfl
  · rw [if_neg h3]
    have : fewF l = false := by
      cases hx : fewF l
      · rfl
      · exact absurd (hu.2 ⟨(hf.1 hx).2.2, by simp⟩) h3
    rw [this]; rfl
end Go.Proofs.Pw
