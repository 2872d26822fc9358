/- What the reader reads is the encoding of what it gives. Plain. -/
import Derived.Test.YtahiodegnilodaaGreatDoorMOpA
namespace Go.Proofs.Pw
open Go.RowKit

theorem byteOf_toNat (c : UInt8) : byteOf c.toNat = c := by
  unfold byteOf; exact UInt8.ofNat_toNat
theorem ex_take (s : ByteArray) (n : Nat) : (s.extract 0 n).data.toList = s.data.toList.take n := by
  rw [ByteArray.data_extract, Array.toList_extract, List.extract, Nat.sub_zero, List.drop_zero]
theorem ex_drop (s : ByteArray) (n : Nat) : (s.extract n s.size).data.toList = s.data.toList.drop n := by
  rw [ByteArray.data_extract, Array.toList_extract, List.extract]
  refine List.take_of_length_le ?_
  rw [List.length_drop, Array.length_toList]
  exact Nat.le_refl _
theorem inv_num : Inv rByte (fun n l => ∃ k : Nat, n = k ∧ k ≤ 255 ∧ l = [byteOf k]) where
  rb s := by unfold rByte; rfl
  ok s h := by
    by_cases hs : 0 < s.size
    · have e : rByte s false = ((s[0].toNat : Int), s.extract 1 s.size, false) := by unfold rByte; simp [hs]
      rw [e]
      refine ⟨[s[0]], ?_, s[0].toNat, rfl, ?_, by rw [byteOf_toNat]⟩
      · rw [bytes_drop0 s hs]
        show _ = [s[0]] ++ (s.extract 1 s.size).data.toList
        rw [ex_drop]; rfl
      · have := s[0].toNat_lt; omega
    · have e : rByte s false = (0, s, true) := by unfold rByte; simp [hs]
      rw [e] at h; cases h
theorem inv_name : Inv rName (fun n l => l = encName n) :=
  inv_num.bind (g := fun n s b => if b then ((⟨#[]⟩ : ByteArray), s, true) else if (s.size : Int) < n then (⟨#[]⟩, s, true) else (s.extract 0 n.toNat, s.extract n.toNat s.size, false)) fun n =>
  { rb := fun _ => rfl
    ok := fun s h => by
      simp only [Bool.false_eq_true, if_false] at h ⊢
      by_cases hn : (s.size : Int) < n
      · rw [if_pos hn] at h; cases h
      · rw [if_neg hn]
        refine ⟨(s.extract 0 n.toNat).data.toList, ?_, ?_⟩
        · show s.data.toList = (s.extract 0 n.toNat).data.toList ++ (s.extract n.toNat s.size).data.toList
          rw [ex_take, ex_drop, List.take_append_drop]
        · rintro l ⟨k, rfl, hk, rfl⟩
          have hz : (s.extract 0 k).size = k := by simp; omega
          simp only [Int.toNat_natCast, encName, hz]
          rfl }
theorem inv_flag : Inv rFlag (fun f l => l = encFlag f) :=
  inv_num.bind (g := fun a s b => if 1 < a then ((a == 1 : Bool), s, true) else (a == 1, s, b)) fun a =>
  { rb := fun s => by show (if 1 < a then ((a == 1 : Bool), s, true) else ((a == 1), s, true)).2.2 = true; split <;> rfl
    ok := fun s h => by
      by_cases ha : 1 < a
      · simp [ha] at h
      · simp only [ha, if_false]
        refine ⟨[], rfl, ?_⟩
        rintro l ⟨k, rfl, hk, rfl⟩
        have : k = 0 ∨ k = 1 := by omega
        rcases this with rfl | rfl <;> rfl }
theorem inv_cols : ∀ (k : Nat) (acc : List PCol), Inv (fun s b => rCols k s b acc) (fun cs l => ∃ new, cs = acc ++ new ∧ new.length = k ∧ l = new.flatMap encCol)
  | 0, acc => ⟨fun _ => rfl, fun s _ => ⟨[], rfl, [], by simp [rCols], rfl, rfl⟩⟩
  | k + 1, acc =>
    have hb := inv_name.bind (g := fun a s b => rCols k (rFlag (rByte s b).2.1 (rByte s b).2.2).2.1 (rFlag (rByte s b).2.1 (rByte s b).2.2).2.2 (acc ++ [⟨a, (rByte s b).1, (rFlag (rByte s b).2.1 (rByte s b).2.2).1⟩]))
      (E' := fun cs l => ∃ new, cs = acc ++ new ∧ new.length = k + 1 ∧ l = new.flatMap encCol)
      (fun a => inv_num.bind (g := fun t s b => rCols k (rFlag s b).2.1 (rFlag s b).2.2 (acc ++ [⟨a, t, (rFlag s b).1⟩]))
        (fun t => inv_flag.bind (g := fun f s b => rCols k s b (acc ++ [⟨a, t, f⟩])) (fun f =>
          { rb := (inv_cols k (acc ++ [⟨a, t, f⟩])).rb
            ok := fun s h => by
              obtain ⟨l, e1, new, e2, e3, e4⟩ := (inv_cols k (acc ++ [⟨a, t, f⟩])).ok s h
              refine ⟨l, e1, ?_⟩
              rintro l1 rfl l2 ⟨n, rfl, hn, rfl⟩ l3 rfl
              refine ⟨⟨a, n, f⟩ :: new, by rw [e2]; simp, by simp [e3], ?_⟩
              rw [e4, List.flatMap_cons]
              simp [encCol, List.append_assoc] })))
    { rb := fun _ => rfl
      ok := fun s => by
        have h := hb.ok s
        simp only [rCols, Bool.false_eq_true, if_false]
        exact h }
theorem inv_names : ∀ (k : Nat) (acc : List ByteArray), Inv (fun s b => rNames k s b acc) (fun cs l => ∃ new, cs = acc ++ new ∧ new.length = k ∧ l = new.flatMap encName)
  | 0, acc => ⟨fun _ => rfl, fun s _ => ⟨[], rfl, [], by simp [rNames], rfl, rfl⟩⟩
  | k + 1, acc =>
    have hb := inv_name.bind (g := fun a s b => rNames k s b (acc ++ [a])) (E' := fun cs l => ∃ new, cs = acc ++ new ∧ new.length = k + 1 ∧ l = new.flatMap encName)
      (fun a =>
          { rb := (inv_names k (acc ++ [a])).rb
            ok := fun s h => by
              obtain ⟨l, e1, new, e2, e3, e4⟩ := (inv_names k (acc ++ [a])).ok s h
              refine ⟨l, e1, ?_⟩
              rintro l1 rfl
              exact ⟨a :: new, by rw [e2]; simp, by simp [e3], by rw [e4, List.flatMap_cons]⟩ })
    { rb := fun _ => rfl
      ok := fun s => by
        have h := hb.ok s
        simp only [rNames, Bool.false_eq_true, if_false]
        exact h }
theorem inv_list : Inv (fun s b => rNames (rByte s b).1.toNat (rByte s b).2.1 (rByte s b).2.2 []) (fun cs l => l = encNames cs) :=
  inv_num.bind (g := fun n s b => rNames n.toNat s b []) fun n =>
  { rb := (inv_names n.toNat []).rb
    ok := fun s h => by
      obtain ⟨l, e1, new, e2, e3, e4⟩ := (inv_names n.toNat []).ok s h
      refine ⟨l, e1, ?_⟩
      rintro l1 ⟨k, rfl, hk, rfl⟩
      rw [e2, e4]
      simp only [Int.toNat_natCast] at e3
      simp [encNames, e3] }
end Go.Proofs.Pw
/- What is read is written back as just these bytes. Plain. -/
namespace Go.Proofs.Pw
open Go.RowKit

theorem inv_idxs : ∀ (k : Nat) (acc : List PIdx), Inv (fun s b => rIdxs k s b acc) (fun cs l => ∃ new, cs = acc ++ new ∧ new.length = k ∧ l = new.flatMap encIdx)
  | 0, acc => ⟨fun _ => rfl, fun s _ => ⟨[], rfl, [], by simp [rIdxs], rfl, rfl⟩⟩
  | k + 1, acc =>
    have hb := inv_name.bind (g := fun a s b => (fun f s b => (fun l s b => rIdxs k s b (acc ++ [(⟨a, l, f⟩ : PIdx)])) (rNames (rByte s b).1.toNat (rByte s b).2.1 (rByte s b).2.2 []).1 (rNames (rByte s b).1.toNat (rByte s b).2.1 (rByte s b).2.2 []).2.1 (rNames (rByte s b).1.toNat (rByte s b).2.1 (rByte s b).2.2 []).2.2) (rFlag s b).1 (rFlag s b).2.1 (rFlag s b).2.2)
      (E' := fun cs l => ∃ new, cs = acc ++ new ∧ new.length = k + 1 ∧ l = new.flatMap encIdx)
      (fun a => inv_flag.bind (g := fun f s b => (fun l s b => rIdxs k s b (acc ++ [(⟨a, l, f⟩ : PIdx)])) (rNames (rByte s b).1.toNat (rByte s b).2.1 (rByte s b).2.2 []).1 (rNames (rByte s b).1.toNat (rByte s b).2.1 (rByte s b).2.2 []).2.1 (rNames (rByte s b).1.toNat (rByte s b).2.1 (rByte s b).2.2 []).2.2)
        (fun f => inv_list.bind (g := fun l s b => rIdxs k s b (acc ++ [(⟨a, l, f⟩ : PIdx)])) (fun l =>
          { rb := (inv_idxs k (acc ++ [(⟨a, l, f⟩ : PIdx)])).rb
            ok := fun s h => by
              obtain ⟨l0, e1, new, e2, e3, e4⟩ := (inv_idxs k (acc ++ [(⟨a, l, f⟩ : PIdx)])).ok s h
              refine ⟨l0, e1, ?_⟩
              rintro l1 rfl l2 rfl l3 rfl
              refine ⟨⟨a, l, f⟩ :: new, by rw [e2]; simp, by simp [e3], ?_⟩
              rw [e4, List.flatMap_cons]
              simp [encIdx, List.append_assoc] })))
    { rb := fun _ => rfl
      ok := fun s => by
        have h := hb.ok s
        simp only [rIdxs, Bool.false_eq_true, if_false]
        exact h }
theorem inv_all : Inv (fun s b => (((rCols (rByte s b).1.toNat (rByte s b).2.1 (rByte s b).2.2 []).1, s, b) : List PCol × ByteArray × Bool)) (fun _ _ => True) := ⟨fun _ => rfl, fun s _ => ⟨[], rfl, trivial⟩⟩
theorem write_back (b : ByteArray) (h : (readF b).2 = true) : writeP (readF b).1 = (b, true) := by
  have hi := inv_num.bind (g := fun n s b => (fun cs s b => (fun ks s b => (fun o s b => (fun xs s b => (((cs, ks, xs) : List PCol × List ByteArray × List PIdx), s, b)) (rIdxs o.toNat s b []).1 (rIdxs o.toNat s b []).2.1 (rIdxs o.toNat s b []).2.2) (rByte s b).1 (rByte s b).2.1 (rByte s b).2.2) (rNames (rByte s b).1.toNat (rByte s b).2.1 (rByte s b).2.2 []).1 (rNames (rByte s b).1.toNat (rByte s b).2.1 (rByte s b).2.2 []).2.1 (rNames (rByte s b).1.toNat (rByte s b).2.1 (rByte s b).2.2 []).2.2) (rCols n.toNat s b []).1 (rCols n.toNat s b []).2.1 (rCols n.toNat s b []).2.2)
    (E' := fun r l => l = encSch ⟨r.1, r.2.1, r.2.2⟩)
    (fun n => (inv_cols n.toNat []).bind (g := fun cs s b => (fun ks s b => (fun o s b => (fun xs s b => (((cs, ks, xs) : List PCol × List ByteArray × List PIdx), s, b)) (rIdxs o.toNat s b []).1 (rIdxs o.toNat s b []).2.1 (rIdxs o.toNat s b []).2.2) (rByte s b).1 (rByte s b).2.1 (rByte s b).2.2) (rNames (rByte s b).1.toNat (rByte s b).2.1 (rByte s b).2.2 []).1 (rNames (rByte s b).1.toNat (rByte s b).2.1 (rByte s b).2.2 []).2.1 (rNames (rByte s b).1.toNat (rByte s b).2.1 (rByte s b).2.2 []).2.2)
      (fun cs => inv_list.bind (g := fun ks s b => (fun o s b => (fun xs s b => (((cs, ks, xs) : List PCol × List ByteArray × List PIdx), s, b)) (rIdxs o.toNat s b []).1 (rIdxs o.toNat s b []).2.1 (rIdxs o.toNat s b []).2.2) (rByte s b).1 (rByte s b).2.1 (rByte s b).2.2)
        (fun ks => inv_num.bind (g := fun o s b => (fun xs s b => (((cs, ks, xs) : List PCol × List ByteArray × List PIdx), s, b)) (rIdxs o.toNat s b []).1 (rIdxs o.toNat s b []).2.1 (rIdxs o.toNat s b []).2.2)
          (fun o => (inv_idxs o.toNat []).bind (g := fun xs s b => ((cs, ks, xs), s, b)) (fun xs =>
            { rb := fun _ => rfl
              ok := fun s _ => ⟨[], rfl, by
                rintro l1 ⟨new, e1, e2, rfl⟩ l2 ⟨no, rfl, hno, rfl⟩ l3 rfl l4 ⟨new', e3, e4, rfl⟩ l5 ⟨nn, rfl, hnn, rfl⟩
                simp only [Int.toNat_natCast, List.nil_append] at e1 e2 e3 e4
                subst e1 e3
                simp [encSch, e2, e4]⟩ })))))
  have hok := hi.ok b
  unfold readF at h ⊢
  dsimp only at h hok ⊢
  split at h
  · cases h
  split at h
  · cases h
  split at h
  · rename_i h1 h2 h3
    rw [if_neg h1, if_neg h2, if_pos h3]
    obtain ⟨l, e1, e2⟩ := hok (by simpa using h1)
    dsimp only at e1 e2 ⊢
    have hz : (rIdxs (rByte (rNames (rByte (rCols (rByte b false).1.toNat (rByte b false).2.1 (rByte b false).2.2 []).2.1 (rCols (rByte b false).1.toNat (rByte b false).2.1 (rByte b false).2.2 []).2.2).1.toNat (rByte (rCols (rByte b false).1.toNat (rByte b false).2.1 (rByte b false).2.2 []).2.1 (rCols (rByte b false).1.toNat (rByte b false).2.1 (rByte b false).2.2 []).2.2).2.1 (rByte (rCols (rByte b false).1.toNat (rByte b false).2.1 (rByte b false).2.2 []).2.1 (rCols (rByte b false).1.toNat (rByte b false).2.1 (rByte b false).2.2 []).2.2).2.2 []).2.1 (rNames (rByte (rCols (rByte b false).1.toNat (rByte b false).2.1 (rByte b false).2.2 []).2.1 (rCols (rByte b false).1.toNat (rByte b false).2.1 (rByte b false).2.2 []).2.2).1.toNat (rByte (rCols (rByte b false).1.toNat (rByte b false).2.1 (rByte b false).2.2 []).2.1 (rCols (rByte b false).1.toNat (rByte b false).2.1 (rByte b false).2.2 []).2.2).2.1 (rByte (rCols (rByte b false).1.toNat (rByte b false).2.1 (rByte b false).2.2 []).2.1 (rCols (rByte b false).1.toNat (rByte b false).2.1 (rByte b false).2.2 []).2.2).2.2 []).2.2).1.toNat _ _ []).2.1.data.toList = [] := List.eq_nil_of_length_eq_zero (by rw [Array.length_toList]; exact Decidable.not_not.1 h2)
    rw [hz, List.append_nil, e2] at e1
    unfold writeP
    rw [right_eq, if_pos h3, ← e1]
  · cases h
end Go.Proofs.Pw
