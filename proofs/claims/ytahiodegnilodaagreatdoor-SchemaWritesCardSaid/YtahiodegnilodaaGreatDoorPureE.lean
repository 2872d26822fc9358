/- What is right fits a writer; what is read is written back. Plain. -/
import Derived.Test.YtahiodegnilodaaGreatDoorPureD
namespace Go.Proofs.Pw
open Go.RowKit

theorem named_size {n : ByteArray} (h : namedF n = true) : n.size ≤ 40 := by
  by_cases hz : n.size < 1
  · omega
  · rw [namedF_eq n (by omega)] at h
    split at h
    · cases h
    · omega
theorem colsP_all : ∀ (r seen : List PCol), colsP seen r = true → ∀ c ∈ r, namedF c.name = true ∧ typP c.typ = true
  | [], _, _, c, hc => by simp at hc
  | x :: r, seen, h, c, hc => by
    rw [colsP] at h
    split at h
    · cases h
    split at h
    · rename_i h1
      split at h
      · rename_i h2
        rcases List.mem_cons.1 hc with rfl | hc
        · exact ⟨h1, h2⟩
        · exact colsP_all r _ h c hc
      · cases h
    · cases h
theorem getC_mem {cs : List PCol} {k : ByteArray} (h : (getC cs k).isSome = true) : ∃ c ∈ cs, c.name = k := by
  rcases atF_get k cs 0 with ⟨h1, _⟩ | ⟨c, i, h1, h2, h3, _⟩
  · rw [h1] at h; cases h
  · exact ⟨c, List.mem_of_getElem? h2, h3⟩
theorem idxP_all (cs : List PCol) : ∀ (l : List PIdx) (p : ByteArray), idxP cs p l = true → ∀ x ∈ l, namedF x.name = true ∧ fewF x.cols = true ∧ ∀ k ∈ x.cols, (getC cs k).isSome = true
  | [], _, _, x, hx => by simp at hx
  | y :: l, p, h, x, hx => by
    rw [idxP] at h
    split at h
    · rename_i h1
      split at h
      · split at h
        · rename_i h3
          split at h
          · rename_i h4
            rcases List.mem_cons.1 hx with rfl | hx
            · exact ⟨h1, h3, List.all_eq_true.1 h4⟩
            · exact idxP_all cs l _ h x hx
          · cases h
        · cases h
      · cases h
    · cases h
theorem fits_of {s : PSch} (h : rightP s = true) : WFits s := by
  unfold rightP at h
  split at h
  · cases h
  split at h
  · cases h
  split at h
  · cases h
  split at h
  · rename_i hl1 hl2 hl3 hf
    split at h
    · rename_i hc
      split at h
      · rename_i hn
        have hC := colsP_all _ _ hc
        have hX := idxP_all _ _ _ h
        have hk := (few_iff s.key).1 hf
        have hmem : ∀ k, (getC s.cols k).isSome = true → k.size ≤ 255 := fun k hg => by
          obtain ⟨c, hm, rfl⟩ := getC_mem hg
          exact Nat.le_trans (named_size (hC c hm).1) (by decide)
        refine ⟨by omega, fun c hc => ?_, by omega, fun k hkk => ?_, by omega, fun x hx => ?_⟩
        · have h1 := named_size (hC c hc).1
          have h2 := of_decide_eq_true (hC c hc).2
          omega
        · have := all_nn _ _ hn
          rw [allAt_iff, List.all_eq_true] at this
          exact hmem k (this k hkk)
        · obtain ⟨h1, h2, h3⟩ := hX x hx
          have h4 := named_size h1
          have h5 := (few_iff x.cols).1 h2
          exact ⟨by omega, by omega, fun k hk => hmem k (h3 k hk)⟩
      · cases h
    · cases h
  · cases h

/-- What is read off the front stands there as E says. -/
structure Inv {α : Type} (r : ByteArray → Bool → α × ByteArray × Bool) (E : α → List UInt8 → Prop) : Prop where
  rb : ∀ s, (r s true).2.2 = true
  ok : ∀ s, (r s false).2.2 = false → ∃ l, s.data.toList = l ++ (r s false).2.1.data.toList ∧ E (r s false).1 l
theorem Inv.bind {α β : Type} {r : ByteArray → Bool → α × ByteArray × Bool} {E : α → List UInt8 → Prop} (h : Inv r E) {g : α → ByteArray → Bool → β × ByteArray × Bool} {E' : β → List UInt8 → Prop}
    (k : ∀ a, Inv (g a) (fun x l' => ∀ l, E a l → E' x (l ++ l'))) : Inv (fun s b => g (r s b).1 (r s b).2.1 (r s b).2.2) E' where
  rb s := by
    show (g (r s true).1 (r s true).2.1 (r s true).2.2).2.2 = true
    rw [h.rb]; exact (k _).rb _
  ok s := by
    show (g (r s false).1 (r s false).2.1 (r s false).2.2).2.2 = false → ∃ l, s.data.toList = l ++ (g (r s false).1 (r s false).2.1 (r s false).2.2).2.1.data.toList ∧ E' (g (r s false).1 (r s false).2.1 (r s false).2.2).1 l
    have hs := h.ok s
    cases hb : (r s false).2.2 with
    | true => intro h2; rw [(k _).rb] at h2; cases h2
    | false =>
      intro h2
      obtain ⟨l, e1, e2⟩ := hs hb
      obtain ⟨l', e3, e4⟩ := (k _).ok _ h2
      exact ⟨l ++ l', by rw [e1, e3, List.append_assoc], e4 l e2⟩
end Go.Proofs.Pw
