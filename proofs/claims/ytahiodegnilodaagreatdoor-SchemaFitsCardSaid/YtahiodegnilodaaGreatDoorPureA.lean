/- The program's reader and the reference's reader read the same. Plain. -/
import Derived.Test.YtahiodegnilodaaGreatDoorSchD
import Derived.Test.YtahiodegnilodaaGreatDoorRefE
namespace Go.Proofs.Pw
open Go.RowKit

structure Same {α : Type} (p r : ByteArray → Bool → α × ByteArray × Bool) : Prop where
  pb : ∀ s, (p s true).2.2 = true
  rb : ∀ s, (r s true).2.2 = true
  eq : ∀ s, p s false = r s false ∨ ((p s false).2.2 = true ∧ (r s false).2.2 = true)
theorem Same.bind {α β : Type} {p r : ByteArray → Bool → α × ByteArray × Bool} (h : Same p r) {f g : α → ByteArray → Bool → β × ByteArray × Bool} (k : ∀ a, Same (f a) (g a)) :
    Same (fun s b => f (p s b).1 (p s b).2.1 (p s b).2.2) (fun s b => g (r s b).1 (r s b).2.1 (r s b).2.2) where
  pb s := by
    show (f (p s true).1 (p s true).2.1 (p s true).2.2).2.2 = true
    rw [h.pb]; exact (k _).pb _
  rb s := by
    show (g (r s true).1 (r s true).2.1 (r s true).2.2).2.2 = true
    rw [h.rb]; exact (k _).rb _
  eq s := by
    show f (p s false).1 (p s false).2.1 (p s false).2.2 = g (r s false).1 (r s false).2.1 (r s false).2.2 ∨ ((f (p s false).1 (p s false).2.1 (p s false).2.2).2.2 = true ∧ (g (r s false).1 (r s false).2.1 (r s false).2.2).2.2 = true)
    rcases h.eq s with e | ⟨e1, e2⟩
    · rw [e]
      cases (r s false).2.2
      · exact (k _).eq _
      · exact .inr ⟨(k _).pb _, (k _).rb _⟩
    · rw [e1, e2]
      exact .inr ⟨(k _).pb _, (k _).rb _⟩
theorem Same.pure {α : Type} (a : α) : Same (fun s b => (a, s, b)) (fun s b => (a, s, b)) := ⟨fun _ => rfl, fun _ => rfl, fun _ => .inl rfl⟩

theorem same_num : Same pNum rByte where
  pb s := by
    unfold pNum pTake
    simp only
    split <;> split <;> rfl
  rb s := by unfold rByte; rfl
  eq s := by
    by_cases h : 0 < s.size
    · left
      unfold pNum pTake rByte
      have h1 : ¬ ((s.size : Int) < 1) := by omega
      have h2 : 0 < (s.extract 0 (1 : Int).toNat).size := by simp; omega
      simp only [h1, if_false, h2, dif_pos, h, Bool.false_eq_true]
      congr 2
      simp [ByteArray.getElem_extract]
    · right
      unfold pNum pTake rByte
      have h1 : ((s.size : Int) < 1) := by omega
      simp only [h1, if_true, h, Bool.false_eq_true, if_false, dif_neg, not_false_iff, and_self]
theorem same_take (n : Int) : Same (fun s b => pTake s b n) (fun s b => if b then (⟨#[]⟩, s, true) else if (s.size : Int) < n then (⟨#[]⟩, s, true) else (s.extract 0 n.toNat, s.extract n.toNat s.size, false)) where
  pb s := by
    show (pTake s true n).2.2 = true
    unfold pTake; split <;> rfl
  rb s := rfl
  eq s := by
    show pTake s false n = (if (s.size : Int) < n then (⟨#[]⟩, s, true) else (s.extract 0 n.toNat, s.extract n.toNat s.size, false)) ∨ ((pTake s false n).2.2 = true ∧ (if (s.size : Int) < n then ((⟨#[]⟩, s, true) : ByteArray × ByteArray × Bool) else (s.extract 0 n.toNat, s.extract n.toNat s.size, false)).2.2 = true)
    unfold pTake
    by_cases h : (s.size : Int) < n
    · right; rw [if_pos h, if_pos h]; exact ⟨rfl, rfl⟩
    · left; rw [if_neg h, if_neg h]
theorem same_name : Same pName rName := same_num.bind same_take
theorem same_flag : Same pFlag rFlag := same_num.bind (f := fun a s b => (a == 1, s, b || decide (1 < a))) (g := fun a s b => if 1 < a then (a == 1, s, true) else (a == 1, s, b)) fun a => {
  pb := fun s => rfl
  rb := fun s => by show (if 1 < a then ((a == 1 : Bool), s, true) else ((a == 1), s, true)).2.2 = true; split <;> rfl
  eq := fun s => by
    by_cases h : 1 < a
    · left; simp [h]
    · left; simp [h] }
theorem same_cols : ∀ (k : Nat) (acc : List PCol), Same (fun s b => pCols k s b acc) (fun s b => rCols k s b acc)
  | 0, acc => Same.pure acc
  | k + 1, acc =>
    have hb := same_name.bind (f := fun a s b => pCols k (pFlag (pNum s b).2.1 (pNum s b).2.2).2.1 (pFlag (pNum s b).2.1 (pNum s b).2.2).2.2 (acc ++ [⟨a, (pNum s b).1, (pFlag (pNum s b).2.1 (pNum s b).2.2).1⟩]))
      (g := fun a s b => rCols k (rFlag (rByte s b).2.1 (rByte s b).2.2).2.1 (rFlag (rByte s b).2.1 (rByte s b).2.2).2.2 (acc ++ [⟨a, (rByte s b).1, (rFlag (rByte s b).2.1 (rByte s b).2.2).1⟩]))
      (fun a => same_num.bind (f := fun t s b => pCols k (pFlag s b).2.1 (pFlag s b).2.2 (acc ++ [⟨a, t, (pFlag s b).1⟩])) (g := fun t s b => rCols k (rFlag s b).2.1 (rFlag s b).2.2 (acc ++ [⟨a, t, (rFlag s b).1⟩]))
        (fun t => same_flag.bind (f := fun f s b => pCols k s b (acc ++ [⟨a, t, f⟩])) (g := fun f s b => rCols k s b (acc ++ [⟨a, t, f⟩])) (fun f => same_cols k (acc ++ [⟨a, t, f⟩]))))
    { pb := fun s => (same_cols k acc).pb s
      rb := fun _ => rfl
      eq := fun s => by
        have h := hb.eq s
        simp only [pCols, rCols, Bool.false_eq_true, if_false]
        exact h }
theorem same_names : ∀ (k : Nat) (acc : List ByteArray), Same (fun s b => pNames k s b acc) (fun s b => rNames k s b acc)
  | 0, acc => Same.pure acc
  | k + 1, acc =>
    have hb := same_name.bind (f := fun a s b => pNames k s b (acc ++ [a])) (g := fun a s b => rNames k s b (acc ++ [a])) (fun a => same_names k (acc ++ [a]))
    { pb := fun s => (same_names k acc).pb s
      rb := fun _ => rfl
      eq := fun s => hb.eq s }
theorem same_list : Same (fun s b => pNames (pNum s b).1.toNat (pNum s b).2.1 (pNum s b).2.2 []) (fun s b => rNames (rByte s b).1.toNat (rByte s b).2.1 (rByte s b).2.2 []) :=
  same_num.bind (f := fun n s b => pNames n.toNat s b []) (g := fun n s b => rNames n.toNat s b []) fun n => same_names n.toNat []
theorem same_idxs : ∀ (k : Nat) (acc : List PIdx), Same (fun s b => pIdxs k s b acc) (fun s b => rIdxs k s b acc)
  | 0, acc => Same.pure acc
  | k + 1, acc =>
    have hb := same_name.bind (f := fun a s b => (fun f s b => (fun l s b => pIdxs k s b (acc ++ [(⟨a, l, f⟩ : PIdx)])) (pNames (pNum s b).1.toNat (pNum s b).2.1 (pNum s b).2.2 []).1 (pNames (pNum s b).1.toNat (pNum s b).2.1 (pNum s b).2.2 []).2.1 (pNames (pNum s b).1.toNat (pNum s b).2.1 (pNum s b).2.2 []).2.2) (pFlag s b).1 (pFlag s b).2.1 (pFlag s b).2.2)
      (g := fun a s b => (fun f s b => (fun l s b => rIdxs k s b (acc ++ [(⟨a, l, f⟩ : PIdx)])) (rNames (rByte s b).1.toNat (rByte s b).2.1 (rByte s b).2.2 []).1 (rNames (rByte s b).1.toNat (rByte s b).2.1 (rByte s b).2.2 []).2.1 (rNames (rByte s b).1.toNat (rByte s b).2.1 (rByte s b).2.2 []).2.2) (rFlag s b).1 (rFlag s b).2.1 (rFlag s b).2.2)
      (fun a => same_flag.bind (f := fun f s b => (fun l s b => pIdxs k s b (acc ++ [(⟨a, l, f⟩ : PIdx)])) (pNames (pNum s b).1.toNat (pNum s b).2.1 (pNum s b).2.2 []).1 (pNames (pNum s b).1.toNat (pNum s b).2.1 (pNum s b).2.2 []).2.1 (pNames (pNum s b).1.toNat (pNum s b).2.1 (pNum s b).2.2 []).2.2)
        (g := fun f s b => (fun l s b => rIdxs k s b (acc ++ [(⟨a, l, f⟩ : PIdx)])) (rNames (rByte s b).1.toNat (rByte s b).2.1 (rByte s b).2.2 []).1 (rNames (rByte s b).1.toNat (rByte s b).2.1 (rByte s b).2.2 []).2.1 (rNames (rByte s b).1.toNat (rByte s b).2.1 (rByte s b).2.2 []).2.2)
        (fun f => same_list.bind (f := fun l s b => pIdxs k s b (acc ++ [(⟨a, l, f⟩ : PIdx)])) (g := fun l s b => rIdxs k s b (acc ++ [(⟨a, l, f⟩ : PIdx)])) (fun l => same_idxs k (acc ++ [(⟨a, l, f⟩ : PIdx)]))))
    { pb := fun s => (same_idxs k acc).pb s
      rb := fun _ => rfl
      eq := fun s => hb.eq s }
end Go.Proofs.Pw
