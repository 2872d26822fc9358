/- few is: between one and eight, none twice. Plain. -/
import Derived.Test.YtahiodegnilodaaGreatDoorPureB
import Derived.Test.YtahiodegnilodaaGreatDoorSchC
namespace Go.Proofs.Pw
open Go.RowKit Go.Sort Go.Lib

theorem compact_len (zs : List (List UInt8)) : (Lib.compact zs).length = zs.length ↔ ∀ j, j < zs.length → keeps zs.toArray j = true := by
  unfold Lib.compact compactUpTo
  rw [List.length_map]
  have h := List.length_filter_eq_length_iff (p := keeps zs.toArray) (l := List.range zs.length)
  rw [List.length_range] at h
  rw [h]
  simp
theorem keeps_iff (zs : List (List UInt8)) (j : Nat) (hj : j + 1 < zs.length) : keeps zs.toArray (j + 1) = true ↔ zs[j + 1] ≠ zs[j] := by
  unfold keeps
  have e1 : zs.toArray[j + 1]! = zs[j + 1] := by simp [hj]
  have e2 : zs.toArray[j + 1 - 1]! = zs[j] := by
    show zs.toArray[j]! = zs[j]
    simp [show j < zs.length by omega]
  rw [e1, e2]
  simp
theorem compact_sorted (zs : List (List UInt8)) (h : zs.Pairwise (fun x y => x ≤ y)) : (Lib.compact zs).length = zs.length ↔ zs.Nodup := by
  rw [compact_len]
  have hp := List.pairwise_iff_getElem.1 h
  constructor
  · intro hk
    unfold List.Nodup
    rw [List.pairwise_iff_getElem]
    intro i j hi hj hij e
    obtain ⟨m, rfl⟩ : ∃ m, j = m + 1 := ⟨j - 1, by omega⟩
    have h1 := (keeps_iff zs m hj).1 (hk (m + 1) hj)
    have h2 : zs[i] ≤ zs[m] := by
      by_cases him : i = m
      · subst him; exact List.le_refl _
      · exact hp i m hi (by omega) (by omega)
    have h3 : zs[m] ≤ zs[m + 1] := hp m (m + 1) (by omega) hj (by omega)
    rw [e] at h2
    exact h1 (List.le_antisymm h2 h3)
  · intro hn j hj
    cases j with
    | zero => simp [keeps]
    | succ m =>
      rw [keeps_iff zs m hj]
      have := List.pairwise_iff_getElem.1 hn m (m + 1) (by omega) hj (by omega)
      exact fun e => this e.symm
theorem bs_nodup (l : List ByteArray) : (bs l).Nodup ↔ l.Nodup := by
  unfold bs List.Nodup
  rw [List.pairwise_map]
  constructor
  · intro h; exact h.imp fun hab e => hab (by rw [e])
  · intro h
    exact h.imp fun {a b} hab e => hab (by
      cases a; cases b
      simp only at e
      congr 1
      exact Array.toList_inj.1 e)
theorem few_iff (l : List ByteArray) : fewF l = true ↔ 1 ≤ l.length ∧ l.length ≤ 8 ∧ l.Nodup := by
  unfold fewF
  by_cases h1 : l.length < 1
  · rw [if_pos h1]; simp; omega
  rw [if_neg h1]
  by_cases h2 : 8 < l.length
  · rw [if_pos h2]; simp; omega
  rw [if_neg h2, decide_eq_true_iff]
  have hs : (sortF l).Pairwise (fun x y => x ≤ y) := by
    have := List.pairwise_mergeSort (le := fun x y : List UInt8 => decide (x ≤ y)) (fun a b c h1 h2 => by simp only [decide_eq_true_eq] at *; exact List.le_trans h1 h2) (fun a b => by simp only [Bool.or_eq_true, decide_eq_true_eq]; exact List.le_total a b) (bs l)
    exact this.imp fun h => by simpa using h
  have hc := compact_sorted _ hs
  rw [sortF_len] at hc
  rw [hc]
  have hp : (sortF l).Nodup ↔ (bs l).Nodup := (List.mergeSort_perm _ _).nodup_iff
  rw [hp, bs_nodup]
  constructor
  · intro h; exact ⟨by omega, by omega, h⟩
  · exact fun h => h.2.2
theorem part_eq (cs : List PCol) (l : List ByteArray) : partF cs l = (fewF l && l.all fun k => (getC cs k).isSome) := by
  have hf := few_iff l
  have hu := unlike_iff l []
  unfold partF
  rw [allAt_iff]
  by_cases h1 : l.length < 1
  · rw [if_pos h1]
    have : fewF l = false := by cases hx : fewF l <;> simp_all <;> omega
    rw [this]; rfl
  rw [if_neg h1]
  by_cases h2 : 8 < l.length
  · rw [if_pos h2]
    have : fewF l = false := by cases hx : fewF l <;> simp_all <;> omega
    rw [this]; rfl
  rw [if_neg h2]
  by_cases h3 : unlikeF [] l = true
  · rw [if_pos h3, hf.2 ⟨by omega, by omega, (hu.1 h3).1⟩]; rfl
  · rw [if_neg h3]
    have : fewF l = false := by
      cases hx : fewF l
      · rfl
      · exact absurd (hu.2 ⟨(hf.1 hx).2.2, by simp⟩) h3
    rw [this]; rfl
end Go.Proofs.Pw
