/- Right says the same in the program and in the reference; what is right fits. Plain. -/
import Derived.Test.YtahiodegnilodaaGreatDoorMPureC
import Derived.Test.YtahiodegnilodaaGreatDoorSchV
import Derived.Test.YtahiodegnilodaaGreatDoorPureA
namespace Go.Proofs.Pw
open Go.RowKit

theorem getC_app (k : ByteArray) : ∀ (a b : List PCol), getC (a ++ b) k = (getC a k).or (getC b k)
  | [], b => by simp [getC]
  | c :: a, b => by
    rw [List.cons_append, getC, getC]
    by_cases h : (k == c.name) = true
    · rw [if_pos h, if_pos h]; rfl
    · rw [if_neg h, if_neg h, getC_app k a b]
theorem atF_app (k : ByteArray) : ∀ (a b : List PCol) (j : Nat), getC a k = none → atF k (a ++ b) j = atF k b (j + a.length)
  | [], b, j, _ => rfl
  | c :: a, b, j, h => by
    rw [getC] at h
    by_cases hk : (k == c.name) = true
    · rw [if_pos hk] at h; cases h
    · rw [if_neg hk] at h
      have hk' : ¬ (c.name.toList == k.toList) = true := fun e => hk ((MapKept.bytes_beq k c.name).2 (eq_of_toList.1 e).symm)
      rw [List.cons_append, atF, if_neg hk', atF_app k a b (j + 1) h]
      congr 1
      simp only [List.length_cons]; omega
theorem atF_hitapp (k : ByteArray) : ∀ (a b : List PCol) (j : Nat), (getC a k).isSome = true → atF k (a ++ b) j < ((j + a.length : Nat) : Int)
  | [], b, j, h => by simp [getC] at h
  | c :: a, b, j, h => by
    rw [List.cons_append, atF]
    by_cases hk : (k == c.name) = true
    · have hk' : (c.name.toList == k.toList) = true := eq_of_toList.2 ((MapKept.bytes_beq k c.name).1 hk).symm
      rw [if_pos hk']; simp; omega
    · have hk' : ¬ (c.name.toList == k.toList) = true := fun e => hk ((MapKept.bytes_beq k c.name).2 (eq_of_toList.1 e).symm)
      rw [getC, if_neg hk] at h
      rw [if_neg hk']
      have := atF_hitapp k a b (j + 1) h
      simp only [List.length_cons] at this ⊢; omega
theorem cols_eq : ∀ (r seen : List PCol), colsP seen r = colsOk (seen ++ r) r seen.length
  | [], seen => rfl
  | c :: r, seen => by
    rw [colsP, colsOk]
    have ih := cols_eq r (seen ++ [c])
    rw [List.append_assoc, List.singleton_append, List.length_append, List.length_singleton] at ih
    by_cases hg : (getC seen c.name).isSome = true
    · rw [if_pos hg]
      have := atF_hitapp c.name seen (c :: r) 0 hg
      rw [if_neg (show ¬ atF c.name (seen ++ c :: r) 0 = (seen.length : Int) by omega)]
      split <;> rfl
    · rw [if_neg hg]
      have hn : getC seen c.name = none := by simpa using hg
      have ha := atF_app c.name seen (c :: r) 0 hn
      rw [atF, if_pos (eq_of_toList.2 rfl)] at ha
      rw [if_pos (show atF c.name (seen ++ c :: r) 0 = (seen.length : Int) by rw [ha]; simp)]
      by_cases hd : namedF c.name = true
      · rw [if_pos hd, if_pos hd]
        by_cases h1 : c.typ < 1
        · rw [if_pos h1, if_neg (by unfold typP; simp; omega)]
        · rw [if_neg h1]
          by_cases h2 : 4 < c.typ
          · rw [if_pos h2, if_neg (by unfold typP; simp; omega)]
          · rw [if_neg h2, if_pos (by unfold typP; simp; omega), ih]
      · rw [if_neg hd, if_neg hd]
theorem bytes_drop0 (s : ByteArray) (h : 0 < s.size) : s.data.toList = s[0] :: s.data.toList.drop 1 := by
  have := bytes_drop s 0 h
  simpa using this
theorem lt_empty {n : ByteArray} (h : namedF n = true) : ltS ⟨#[]⟩ n = true := by
  unfold ltS
  have hs : 0 < n.size := by
    by_cases hz : n.size < 1
    · rw [namedF_nil n hz] at h; exact absurd h (by decide)
    · omega
  rw [ByteArray.toList_eq, ByteArray.toList_eq, bytes_drop0 n hs]
  rfl
theorem idx_some (cs : List PCol) : ∀ (l : List PIdx) (p : ByteArray), idxP cs p l = idxOk cs (some p) l
  | [], p => rfl
  | x :: l, p => by
    rw [idxP, idxOk, part_eq]
    by_cases h1 : namedF x.name = true
    · rw [if_pos h1, if_pos h1]
      show (if ltS p x.name = true then _ else _) = (if ltS p x.name = true then _ else _)
      by_cases h2 : ltS p x.name = true
      · rw [if_pos h2, if_pos h2, idx_some cs l x.name]
        cases fewF x.cols <;> cases (x.cols.all fun k => (getC cs k).isSome) <;> rfl
      · rw [if_neg h2, if_neg h2]
    · rw [if_neg h1, if_neg h1]
theorem idx_eq (cs : List PCol) (l : List PIdx) : idxP cs ⟨#[]⟩ l = idxOk cs none l := by
  cases l with
  | nil => rfl
  | cons x l =>
    rw [idx_some, idxOk, idxOk]
    by_cases h1 : namedF x.name = true
    · rw [if_pos h1, if_pos h1]
      rw [if_pos (show prevLt (some ⟨#[]⟩) x.name = true from lt_empty h1), if_pos (show prevLt none x.name = true from rfl)]
    · rw [if_neg h1, if_neg h1]
theorem right_eq (s : PSch) : rightP s = rightF s := by
  unfold rightP rightF
  split
  · rfl
  split
  · rfl
  split
  · rfl
  rw [part_eq, cols_eq s.cols [], idx_eq, List.nil_append, List.length_nil, ← allAt_iff]
  cases hf : fewF s.key
  · rfl
  cases ha : allAt s.cols s.key
  · have : s.key.all (nnP s.cols) = false := by
      cases hx : s.key.all (nnP s.cols)
      · rfl
      · rw [all_nn _ _ hx] at ha; cases ha
    rw [this]
    cases colsOk s.cols s.cols 0 <;> rfl
  · rw [keyOk_eq _ _ ha]; rfl
theorem read_eq (b : ByteArray) : readP b = readF b := by
  have h := same_num.bind (f := fun n s b => (fun cs s b => (fun ks s b => (fun o s b => (fun xs s b => (((cs, ks, xs) : List PCol × List ByteArray × List PIdx), s, b)) (pIdxs o.toNat s b []).1 (pIdxs o.toNat s b []).2.1 (pIdxs o.toNat s b []).2.2) (pNum s b).1 (pNum s b).2.1 (pNum s b).2.2) (pNames (pNum s b).1.toNat (pNum s b).2.1 (pNum s b).2.2 []).1 (pNames (pNum s b).1.toNat (pNum s b).2.1 (pNum s b).2.2 []).2.1 (pNames (pNum s b).1.toNat (pNum s b).2.1 (pNum s b).2.2 []).2.2) (pCols n.toNat s b []).1 (pCols n.toNat s b []).2.1 (pCols n.toNat s b []).2.2)
    (g := fun n s b => (fun cs s b => (fun ks s b => (fun o s b => (fun xs s b => (((cs, ks, xs) : List PCol × List ByteArray × List PIdx), s, b)) (rIdxs o.toNat s b []).1 (rIdxs o.toNat s b []).2.1 (rIdxs o.toNat s b []).2.2) (rByte s b).1 (rByte s b).2.1 (rByte s b).2.2) (rNames (rByte s b).1.toNat (rByte s b).2.1 (rByte s b).2.2 []).1 (rNames (rByte s b).1.toNat (rByte s b).2.1 (rByte s b).2.2 []).2.1 (rNames (rByte s b).1.toNat (rByte s b).2.1 (rByte s b).2.2 []).2.2) (rCols n.toNat s b []).1 (rCols n.toNat s b []).2.1 (rCols n.toNat s b []).2.2)
    (fun n => (same_cols n.toNat []).bind (f := fun cs s b => (fun ks s b => (fun o s b => (fun xs s b => (((cs, ks, xs) : List PCol × List ByteArray × List PIdx), s, b)) (pIdxs o.toNat s b []).1 (pIdxs o.toNat s b []).2.1 (pIdxs o.toNat s b []).2.2) (pNum s b).1 (pNum s b).2.1 (pNum s b).2.2) (pNames (pNum s b).1.toNat (pNum s b).2.1 (pNum s b).2.2 []).1 (pNames (pNum s b).1.toNat (pNum s b).2.1 (pNum s b).2.2 []).2.1 (pNames (pNum s b).1.toNat (pNum s b).2.1 (pNum s b).2.2 []).2.2)
      (g := fun cs s b => (fun ks s b => (fun o s b => (fun xs s b => (((cs, ks, xs) : List PCol × List ByteArray × List PIdx), s, b)) (rIdxs o.toNat s b []).1 (rIdxs o.toNat s b []).2.1 (rIdxs o.toNat s b []).2.2) (rByte s b).1 (rByte s b).2.1 (rByte s b).2.2) (rNames (rByte s b).1.toNat (rByte s b).2.1 (rByte s b).2.2 []).1 (rNames (rByte s b).1.toNat (rByte s b).2.1 (rByte s b).2.2 []).2.1 (rNames (rByte s b).1.toNat (rByte s b).2.1 (rByte s b).2.2 []).2.2)
      (fun cs => same_list.bind (f := fun ks s b => (fun o s b => (fun xs s b => (((cs, ks, xs) : List PCol × List ByteArray × List PIdx), s, b)) (pIdxs o.toNat s b []).1 (pIdxs o.toNat s b []).2.1 (pIdxs o.toNat s b []).2.2) (pNum s b).1 (pNum s b).2.1 (pNum s b).2.2)
        (g := fun ks s b => (fun o s b => (fun xs s b => (((cs, ks, xs) : List PCol × List ByteArray × List PIdx), s, b)) (rIdxs o.toNat s b []).1 (rIdxs o.toNat s b []).2.1 (rIdxs o.toNat s b []).2.2) (rByte s b).1 (rByte s b).2.1 (rByte s b).2.2)
        (fun ks => same_num.bind (f := fun o s b => (fun xs s b => (((cs, ks, xs) : List PCol × List ByteArray × List PIdx), s, b)) (pIdxs o.toNat s b []).1 (pIdxs o.toNat s b []).2.1 (pIdxs o.toNat s b []).2.2)
          (g := fun o s b => (fun xs s b => (((cs, ks, xs) : List PCol × List ByteArray × List PIdx), s, b)) (rIdxs o.toNat s b []).1 (rIdxs o.toNat s b []).2.1 (rIdxs o.toNat s b []).2.2)
          (fun o => (same_idxs o.toNat []).bind (f := fun xs s b => ((cs, ks, xs), s, b)) (g := fun xs s b => ((cs, ks, xs), s, b)) (fun xs => Same.pure (cs, ks, xs))))))
  have he := h.eq b
  unfold readP readF
  simp only [right_eq] at *
  rcases he with e | ⟨e1, e2⟩
  · simp only [Prod.mk.injEq] at e
    obtain ⟨⟨q1, q2, q3⟩, q4, q5⟩ := e
    rw [q1, q2, q3, q4, q5]
  · rw [if_pos e1, if_pos e2]
end Go.Proofs.Pw
