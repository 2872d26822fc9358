/- What is read is written back as just these bytes. Plain. -/
import Derived.Test.YtahiodegnilodaaGreatDoorPureF
namespace Go.Proofs.Pw
open Go.RowKit

theorem inv_idxs : ∀ (k : Nat) (acc : List PIdx), Inv (fun s b => rIdxs k s b acc) (fun cs l => ∃ new, cs = acc ++ new ∧ new.length = k ∧ l = new.flatMap encIdx)
  | 0, acc => ⟨fun _ => rfl, fun s _ => ⟨[], rfl, [], by simp [rIdxs], rfl, rfl⟩⟩
  | k + 1, acc =>
    have hb := inv_name.bind (g := fun a s b => (fun f s b => (fun l s b => rIdxs k s b (acc ++ [(⟨a, l, f⟩ : PIdx)])) (rNames (rByte s b).1.toNat (rByte s b).2.1 (rByte s b).2.2 []).1 (rNames (rByte s b).1.toNat (rByte s b).2.1 (rByte s b).2.2 []).2.1 (rNames (rByte s b).1.toNat (rByte s b).2.1 (rByte s b).2.2 []).2.2) (rFlag s b).1 (rFlag s b).2.1 (rFlag s b).2.2)
      (E' := fun cs l => ∃ new, cs = acc ++ new ∧ new.length = k + 1 ∧ l = new.flatMap encIdx)
      (fun a => inv_flag.bind (g := fun f s b => (fun l s b => rIdxs k s b (acc ++ [(⟨a, l, f⟩ : PIdx)])) (rNames (rByte s b).1.toNat (rByte s b).2.1 (rByte s b).2.2 []).1 (rNames (rByte s b).1.toNat (rByte s b).2.1 (rByte s b).2.2 []).2.1 (rNames (rByte s b).1.toNat (rByte s b).2.1 (rByte s b).2.2 []).2.2)
        (fun f => inv_list.bind (g := fun l s b => rIdxs k s b (acc ++ [(⟨a, l, f⟩ : PIdx)])) (fun l =>
          { rb := (inv_idxs k (acc ++ [(⟨a, l, f⟩ : PIdx)])).rb
            ok := fun s h => by
              obtain ⟨l0, e1, new, e2, e3, e4⟩ := (inv_idxs k (acc ++ [(⟨a, l, f⟩ : PIdx)])).ok s h
              refine ⟨l0, e1, ?_⟩
              rintro l1 rfl l2 rfl l3 rfl
              refine ⟨⟨a, l, f⟩ :: new, by rw [e2]; simp, by simp [e3], ?_⟩
              rw [e4, List.flatMap_cons]
              simp [encIdx, List.append_assoc] })))
    { rb := fun _ => rfl
      ok := fun s => by
        have h := hb.ok s
        simp only [rIdxs, Bool.false_eq_true, if_false]
        exact h }
theorem inv_all : Inv (fun s b => (((rCols (rByte s b).1.toNat (rByte s b).2.1 (rByte s b).2.2 []).1, s, b) : List PCol × ByteArray × Bool)) (fun _ _ => True) := ⟨fun _ => rfl, fun s _ => ⟨[], rfl, trivial⟩⟩
theorem write_back (b : ByteArray) (h : (readF b).2 = true) : writeP (readF b).1 = (b, true) := by
  have hi := inv_num.bind (g := fun n s b => (fun cs s b => (fun ks s b => (fun o s b => (fun xs s b => (((cs, ks, xs) : List PCol × List ByteArray × List PIdx), s, b)) (rIdxs o.toNat s b []).1 (rIdxs o.toNat s b []).2.1 (rIdxs o.toNat s b []).2.2) (rByte s b).1 (rByte s b).2.1 (rByte s b).2.2) (rNames (rByte s b).1.toNat (rByte s b).2.1 (rByte s b).2.2 []).1 (rNames (rByte s b).1.toNat (rByte s b).2.1 (rByte s b).2.2 []).2.1 (rNames (rByte s b).1.toNat (rByte s b).2.1 (rByte s b).2.2 []).2.2) (rCols n.toNat s b []).1 (rCols n.toNat s b []).2.1 (rCols n.toNat s b []).2.2)
    (E' := fun r l => l = encSch ⟨r.1, r.2.1, r.2.2⟩)
    (fun n => (inv_cols n.toNat []).bind (g := fun cs s b => (fun ks s b => (fun o s b => (fun xs s b => (((cs, ks, xs) : List PCol × List ByteArray × List PIdx), s, b)) (rIdxs o.toNat s b []).1 (rIdxs o.toNat s b []).2.1 (rIdxs o.toNat s b []).2.2) (rByte s b).1 (rByte s b).2.1 (rByte s b).2.2) (rNames (rByte s b).1.toNat (rByte s b).2.1 (rByte s b).2.2 []).1 (rNames (rByte s b).1.toNat (rByte s b).2.1 (rByte s b).2.2 []).2.1 (rNames (rByte s b).1.toNat (rByte s b).2.1 (rByte s b).2.2 []).2.2)
      (fun cs => inv_list.bind (g := fun ks s b => (fun o s b => (fun xs s b => (((cs, ks, xs) : List PCol × List ByteArray × List PIdx), s, b)) (rIdxs o.toNat s b []).1 (rIdxs o.toNat s b []).2.1 (rIdxs o.toNat s b []).2.2) (rByte s b).1 (rByte s b).2.1 (rByte s b).2.2)
        (fun ks => inv_num.bind (g := fun o s b => (fun xs s b => (((cs, ks, xs) : List PCol × List ByteArray × List PIdx), s, b)) (rIdxs o.toNat s b []).1 (rIdxs o.toNat s b []).2.1 (rIdxs o.toNat s b []).2.2)
          (fun o => (inv_idxs o.toNat []).bind (g := fun xs s b => ((cs, ks, xs), s, b)) (fun xs =>
            { rb := fun _ => rfl
              ok := fun s _ => ⟨[], rfl, by
                rintro l1 ⟨new, e1, e2, rfl⟩ l2 ⟨no, rfl, hno, rfl⟩ l3 rfl l4 ⟨new', e3, e4, rfl⟩ l5 ⟨nn, rfl, hnn, rfl⟩
                simp only [Int.toNat_natCast, List.nil_append] at e1 e2 e3 e4
                subst e1 e3
                simp [encSch, e2, e4]⟩ })))))
  have hok := hi.ok b
  unfold readF at h ⊢
  dsimp only at h hok ⊢
  split at h
  · cases h
  split at h
  · cases h
  split at h
  · rename_i h1 h2 h3
    rw [if_neg h1, if_neg h2, if_pos h3]
    obtain ⟨l, e1, e2⟩ := hok (by simpa using h1)
    dsimp only at e1 e2 ⊢
    have hz : (rIdxs (rByte (rNames (rByte (rCols (rByte b false).1.toNat (rByte b false).2.1 (rByte b false).2.2 []).2.1 (rCols (rByte b false).1.toNat (rByte b false).2.1 (rByte b false).2.2 []).2.2).1.toNat (rByte (rCols (rByte b false).1.toNat (rByte b false).2.1 (rByte b false).2.2 []).2.1 (rCols (rByte b false).1.toNat (rByte b false).2.1 (rByte b false).2.2 []).2.2).2.1 (rByte (rCols (rByte b false).1.toNat (rByte b false).2.1 (rByte b false).2.2 []).2.1 (rCols (rByte b false).1.toNat (rByte b false).2.1 (rByte b false).2.2 []).2.2).2.2 []).2.1 (rNames (rByte (rCols (rByte b false).1.toNat (rByte b false).2.1 (rByte b false).2.2 []).2.1 (rCols (rByte b false).1.toNat (rByte b false).2.1 (rByte b false).2.2 []).2.2).1.toNat (rByte (rCols (rByte b false).1.toNat (rByte b false).2.1 (rByte b false).2.2 []).2.1 (rCols (rByte b false).1.toNat (rByte b false).2.1 (rByte b false).2.2 []).2.2).2.1 (rByte (rCols (rByte b false).1.toNat (rByte b false).2.1 (rByte b false).2.2 []).2.1 (rCols (rByte b false).1.toNat (rByte b false).2.1 (rByte b false).2.2 []).2.2).2.2 []).2.2).1.toNat _ _ []).2.1.data.toList = [] := List.eq_nil_of_length_eq_zero (by rw [Array.length_toList]; exact Decidable.not_not.1 h2)
    rw [hz, List.append_nil, e2] at e1
    unfold writeP
    rw [right_eq, if_pos h3, ← e1]
  · cases h
end Go.Proofs.Pw
