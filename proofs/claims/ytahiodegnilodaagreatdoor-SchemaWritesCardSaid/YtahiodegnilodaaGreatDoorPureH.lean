/- What is written is read back. Plain. -/
import Derived.Test.YtahiodegnilodaaGreatDoorPureG
namespace Go.Proofs.Pw
open Go.RowKit

/-- The reader reads a off the front l. -/
def Fwd {α : Type} (r : ByteArray → Bool → α × ByteArray × Bool) (a : α) (l : List UInt8) : Prop := ∀ (s : ByteArray) (t : List UInt8), s.data.toList = l ++ t → r s false = (a, ⟨t.toArray⟩, false)
theorem Fwd.bind {α β : Type} {r : ByteArray → Bool → α × ByteArray × Bool} {a : α} {l : List UInt8} (h : Fwd r a l) {g : α → ByteArray → Bool → β × ByteArray × Bool} {b : β} {l' : List UInt8} (k : Fwd (g a) b l') :
    Fwd (fun s f => g (r s f).1 (r s f).2.1 (r s f).2.2) b (l ++ l') := fun s t e => by
  show g (r s false).1 (r s false).2.1 (r s false).2.2 = _
  rw [h s (l' ++ t) (by rw [e, List.append_assoc])]
  exact k _ t (by simp)
theorem ba_eq {s : ByteArray} {l : List UInt8} (h : s.data.toList = l) : s = ⟨l.toArray⟩ := by
  subst h; cases s; simp
theorem fwd_num (n : Nat) (h : n ≤ 255) : Fwd rByte (n : Int) [byteOf n] := fun s t e => by
  have hz : 0 < s.size := by
    have h1 := congrArg List.length e
    have h2 : s.data.toList.length = s.size := by rw [Array.length_toList]; rfl
    rw [h2] at h1
    simp at h1; omega
  rw [rByte_some s hz]
  have hd := bytes_drop0 s hz
  rw [e] at hd
  simp only [List.singleton_append, List.cons.injEq] at hd
  rw [← hd.1, byteOf_nat h]
  rw [show s.extract 1 s.size = ⟨t.toArray⟩ from ba_eq (by rw [ex_drop, e]; rfl)]
theorem fwd_name (n : ByteArray) (h : n.size ≤ 255) : Fwd rName n (encName n) :=
  (fwd_num n.size h).bind (g := fun n s b => if b then ((⟨#[]⟩ : ByteArray), s, true) else if (s.size : Int) < n then (⟨#[]⟩, s, true) else (s.extract 0 n.toNat, s.extract n.toNat s.size, false)) (l' := n.data.toList) fun s t e => by
    have h1 := congrArg List.length e
    have h2 : s.data.toList.length = s.size := by rw [Array.length_toList]; rfl
    have h3 : n.data.toList.length = n.size := by rw [Array.length_toList]; rfl
    rw [h2, List.length_append, h3] at h1
    simp only [Bool.false_eq_true, if_false]
    rw [if_neg (by omega), Int.toNat_natCast]
    rw [show s.extract 0 n.size = n from by rw [ba_eq (ex_take s n.size), e, List.take_append_of_le_length (by omega), List.take_of_length_le (by omega)]]
    rw [show s.extract n.size s.size = ⟨t.toArray⟩ from ba_eq (by rw [ex_drop, e, ← h3, List.drop_left])]
theorem fwd_flag (f : Bool) : Fwd rFlag f (encFlag f) := by
  have hb := (fwd_num (if f then 1 else 0) (by cases f <;> decide)).bind (g := fun a s b => if 1 < a then ((a == 1 : Bool), s, true) else (a == 1, s, b)) (b := f) (l' := []) (fun s t e => by
    cases f <;> simp [ba_eq (s := s) (l := t) (by simpa using e)])
  intro s t e
  exact hb s t (by rw [e]; cases f <;> rfl)
theorem fwd_cols : ∀ (cs acc : List PCol), (∀ c ∈ cs, c.name.size ≤ 255 ∧ 0 ≤ c.typ ∧ c.typ ≤ 255) → Fwd (fun s b => rCols cs.length s b acc) (acc ++ cs) (cs.flatMap encCol)
  | [], acc, _ => fun s t e => by simp [rCols, ba_eq (s := s) (l := t) (by simpa using e)]
  | c :: cs, acc, h => by
    obtain ⟨h1, h2, h3⟩ := h c List.mem_cons_self
    have ih := fwd_cols cs (acc ++ [c]) (fun x hx => h x (List.mem_cons_of_mem _ hx))
    have hn := fwd_num c.typ.toNat (by omega)
    rw [show ((c.typ.toNat : Nat) : Int) = c.typ from by omega] at hn
    have hb := (fwd_name c.name h1).bind (g := fun a s b => rCols cs.length (rFlag (rByte s b).2.1 (rByte s b).2.2).2.1 (rFlag (rByte s b).2.1 (rByte s b).2.2).2.2 (acc ++ [⟨a, (rByte s b).1, (rFlag (rByte s b).2.1 (rByte s b).2.2).1⟩]))
      (hn.bind (g := fun t s b => rCols cs.length (rFlag s b).2.1 (rFlag s b).2.2 (acc ++ [⟨c.name, t, (rFlag s b).1⟩]))
        ((fwd_flag c.nn).bind (g := fun f s b => rCols cs.length s b (acc ++ [⟨c.name, c.typ, f⟩])) ih))
    intro s t e
    simp only [List.length_cons, rCols, Bool.false_eq_true, if_false]
    have := hb s t (by rw [e, List.flatMap_cons]; simp [encCol, List.append_assoc])
    rw [List.append_assoc] at this
    exact this
theorem fwd_names : ∀ (cs acc : List ByteArray), (∀ c ∈ cs, c.size ≤ 255) → Fwd (fun s b => rNames cs.length s b acc) (acc ++ cs) (cs.flatMap encName)
  | [], acc, _ => fun s t e => by simp [rNames, ba_eq (s := s) (l := t) (by simpa using e)]
  | c :: cs, acc, h => by
    have ih := fwd_names cs (acc ++ [c]) (fun x hx => h x (List.mem_cons_of_mem _ hx))
    have hb := (fwd_name c (h c List.mem_cons_self)).bind (g := fun a s b => rNames cs.length s b (acc ++ [a])) ih
    intro s t e
    simp only [List.length_cons, rNames, Bool.false_eq_true, if_false]
    have := hb s t (by rw [e, List.flatMap_cons])
    rw [List.append_assoc] at this
    exact this
theorem fwd_list (cs : List ByteArray) (hl : cs.length ≤ 255) (h : ∀ c ∈ cs, c.size ≤ 255) : Fwd (fun s b => rNames (rByte s b).1.toNat (rByte s b).2.1 (rByte s b).2.2 []) cs (encNames cs) :=
  (fwd_num cs.length hl).bind (g := fun n s b => rNames n.toNat s b []) (fwd_names cs [] h)
theorem fwd_idxs : ∀ (cs acc : List PIdx), (∀ x ∈ cs, x.name.size ≤ 255 ∧ x.cols.length ≤ 255 ∧ ∀ k ∈ x.cols, k.size ≤ 255) → Fwd (fun s b => rIdxs cs.length s b acc) (acc ++ cs) (cs.flatMap encIdx)
  | [], acc, _ => fun s t e => by simp [rIdxs, ba_eq (s := s) (l := t) (by simpa using e)]
  | c :: cs, acc, h => by
    obtain ⟨h1, h2, h3⟩ := h c List.mem_cons_self
    have ih := fwd_idxs cs (acc ++ [c]) (fun x hx => h x (List.mem_cons_of_mem _ hx))
    have hb := (fwd_name c.name h1).bind (g := fun a s b => (fun f s b => (fun l s b => rIdxs cs.length s b (acc ++ [(⟨a, l, f⟩ : PIdx)])) (rNames (rByte s b).1.toNat (rByte s b).2.1 (rByte s b).2.2 []).1 (rNames (rByte s b).1.toNat (rByte s b).2.1 (rByte s b).2.2 []).2.1 (rNames (rByte s b).1.toNat (rByte s b).2.1 (rByte s b).2.2 []).2.2) (rFlag s b).1 (rFlag s b).2.1 (rFlag s b).2.2)
      ((fwd_flag c.uniq).bind (g := fun f s b => (fun l s b => rIdxs cs.length s b (acc ++ [(⟨c.name, l, f⟩ : PIdx)])) (rNames (rByte s b).1.toNat (rByte s b).2.1 (rByte s b).2.2 []).1 (rNames (rByte s b).1.toNat (rByte s b).2.1 (rByte s b).2.2 []).2.1 (rNames (rByte s b).1.toNat (rByte s b).2.1 (rByte s b).2.2 []).2.2)
        ((fwd_list c.cols h2 h3).bind (g := fun l s b => rIdxs cs.length s b (acc ++ [(⟨c.name, l, c.uniq⟩ : PIdx)])) ih))
    intro s t e
    simp only [List.length_cons, rIdxs, Bool.false_eq_true, if_false]
    have := hb s t (by rw [e, List.flatMap_cons]; simp [encIdx, List.append_assoc])
    rw [List.append_assoc] at this
    exact this
abbrev Parts := List PCol × List ByteArray × List PIdx
def g3 (cs : List PCol) (ks : List ByteArray) (o : Int) (t : ByteArray) (b : Bool) : Parts × ByteArray × Bool := ((cs, ks, (rIdxs o.toNat t b []).1), (rIdxs o.toNat t b []).2.1, (rIdxs o.toNat t b []).2.2)
def g2 (cs : List PCol) (ks : List ByteArray) (t : ByteArray) (b : Bool) : Parts × ByteArray × Bool := g3 cs ks (rByte t b).1 (rByte t b).2.1 (rByte t b).2.2
def g1 (cs : List PCol) (t : ByteArray) (b : Bool) : Parts × ByteArray × Bool := g2 cs (rNames (rByte t b).1.toNat (rByte t b).2.1 (rByte t b).2.2 []).1 (rNames (rByte t b).1.toNat (rByte t b).2.1 (rByte t b).2.2 []).2.1 (rNames (rByte t b).1.toNat (rByte t b).2.1 (rByte t b).2.2 []).2.2
def g0 (n : Int) (t : ByteArray) (b : Bool) : Parts × ByteArray × Bool := g1 (rCols n.toNat t b []).1 (rCols n.toNat t b []).2.1 (rCols n.toNat t b []).2.2
/-- What is written is read as the schema that was there. -/
theorem read_back {s : PSch} (h : rightP s = true) : readF ⟨(encSch s).toArray⟩ = (s, true) := by
  have f := fits_of h
  have h5 : ∀ xs : List PIdx, Fwd (fun t b => (((s.cols, s.key, xs) : Parts), t, b)) (s.cols, s.key, xs) [] := fun xs u t e => by rw [ba_eq (s := u) (l := t) (by simpa using e)]
  have h4 : Fwd (g3 s.cols s.key (s.idx.length : Int)) (s.cols, s.key, s.idx) (s.idx.flatMap encIdx ++ []) := (fwd_idxs s.idx [] f.xs).bind (g := fun xs t b => (((s.cols, s.key, xs) : Parts), t, b)) (h5 _)
  have h3 : Fwd (g2 s.cols s.key) (s.cols, s.key, s.idx) _ := (fwd_num s.idx.length f.nx).bind (g := g3 s.cols s.key) h4
  have h2 : Fwd (g1 s.cols) (s.cols, s.key, s.idx) _ := (fwd_list s.key f.nk f.ks).bind (g := g2 s.cols) h3
  have h1 : Fwd (g0 (s.cols.length : Int)) (s.cols, s.key, s.idx) _ := (fwd_cols s.cols [] f.cs).bind (g := g1) h2
  have h0 := (fwd_num s.cols.length f.nc).bind (g := g0) h1
  have hi := h0 ⟨(encSch s).toArray⟩ [] (by simp [encSch, encNames])
  unfold readF
  have e1 := congrArg (fun x => x.1.1) hi
  have e2 := congrArg (fun x => x.1.2.1) hi
  have e3 := congrArg (fun x => x.1.2.2) hi
  have e4 := congrArg (fun x => x.2.1) hi
  have e5 := congrArg (fun x => x.2.2) hi
  simp only [g0, g1, g2, g3] at e1 e2 e3 e4 e5
  dsimp only
  rw [e5, e4, e3, e2, e1]
  rw [if_neg (by decide), if_neg (by decide), if_pos (by rw [← right_eq]; exact h)]
end Go.Proofs.Pw
