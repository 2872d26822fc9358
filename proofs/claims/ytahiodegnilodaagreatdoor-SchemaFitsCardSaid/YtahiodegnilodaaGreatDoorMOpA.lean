/- What is right fits a writer; what is read is written back. Plain. -/
import Derived.Test.YtahiodegnilodaaGreatDoorPureD
import Derived.Test.YtahiodegnilodaaGreatDoorWd
import Derived.Deep.Slices
import Derived.Deep.Strs
import Derived.SizedLaws
namespace Go.Proofs.Pw
open Go.RowKit

theorem named_size {n : ByteArray} (h : namedF n = true) : n.size ≤ 40 := by
  by_cases hz : n.size < 1
  · omega
  · rw [namedF_eq n (by omega)] at h
    split at h
    · cases h
    · omega
theorem colsP_all : ∀ (r seen : List PCol), colsP seen r = true → ∀ c ∈ r, namedF c.name = true ∧ typP c.typ = true
  | [], _, _, c, hc => by simp at hc
  | x :: r, seen, h, c, hc => by
    rw [colsP] at h
    split at h
    · cases h
    split at h
    · rename_i h1
      split at h
      · rename_i h2
        rcases List.mem_cons.1 hc with rfl | hc
        · exact ⟨h1, h2⟩
        · exact colsP_all r _ h c hc
      · cases h
    · cases h
theorem getC_mem {cs : List PCol} {k : ByteArray} (h : (getC cs k).isSome = true) : ∃ c ∈ cs, c.name = k := by
  rcases atF_get k cs 0 with ⟨h1, _⟩ | ⟨c, i, h1, h2, h3, _⟩
  · rw [h1] at h; cases h
  · exact ⟨c, List.mem_of_getElem? h2, h3⟩
theorem idxP_all (cs : List PCol) : ∀ (l : List PIdx) (p : ByteArray), idxP cs p l = true → ∀ x ∈ l, namedF x.name = true ∧ fewF x.cols = true ∧ ∀ k ∈ x.cols, (getC cs k).isSome = true
  | [], _, _, x, hx => by simp at hx
  | y :: l, p, h, x, hx => by
    rw [idxP] at h
    split at h
    · rename_i h1
      split at h
      · split at h
        · rename_i h3
          split at h
          · rename_i h4
            rcases List.mem_cons.1 hx with rfl | hx
            · exact ⟨h1, h3, List.all_eq_true.1 h4⟩
            · exact idxP_all cs l _ h x hx
          · cases h
        · cases h
      · cases h
    · cases h
theorem fits_of {s : PSch} (h : rightP s = true) : WFits s := by
  unfold rightP at h
  split at h
  · cases h
  split at h
  · cases h
  split at h
  · cases h
  split at h
  · rename_i hl1 hl2 hl3 hf
    split at h
    · rename_i hc
      split at h
      · rename_i hn
        have hC := colsP_all _ _ hc
        have hX := idxP_all _ _ _ h
        have hk := (few_iff s.key).1 hf
        have hmem : ∀ k, (getC s.cols k).isSome = true → k.size ≤ 255 := fun k hg => by
          obtain ⟨c, hm, rfl⟩ := getC_mem hg
          exact Nat.le_trans (named_size (hC c hm).1) (by decide)
        refine ⟨by omega, fun c hc => ?_, by omega, fun k hkk => ?_, by omega, fun x hx => ?_⟩
        · have h1 := named_size (hC c hc).1
          have h2 := of_decide_eq_true (hC c hc).2
          omega
        · have := all_nn _ _ hn
          rw [allAt_iff, List.all_eq_true] at this
          exact hmem k (this k hkk)
        · obtain ⟨h1, h2, h3⟩ := hX x hx
          have h4 := named_size h1
          have h5 := (few_iff x.cols).1 h2
          exact ⟨by omega, by omega, fun k hk => hmem k (h3 k hk)⟩
      · cases h
    · cases h
  · cases h

/-- What is read off the front stands there as E says. -/
structure Inv {α : Type} (r : ByteArray → Bool → α × ByteArray × Bool) (E : α → List UInt8 → Prop) : Prop where
  rb : ∀ s, (r s true).2.2 = true
  ok : ∀ s, (r s false).2.2 = false → ∃ l, s.data.toList = l ++ (r s false).2.1.data.toList ∧ E (r s false).1 l
theorem Inv.bind {α β : Type} {r : ByteArray → Bool → α × ByteArray × Bool} {E : α → List UInt8 → Prop} (h : Inv r E) {g : α → ByteArray → Bool → β × ByteArray × Bool} {E' : β → List UInt8 → Prop}
    (k : ∀ a, Inv (g a) (fun x l' => ∀ l, E a l → E' x (l ++ l'))) : Inv (fun s b => g (r s b).1 (r s b).2.1 (r s b).2.2) E' where
  rb s := by
    show (g (r s true).1 (r s true).2.1 (r s true).2.2).2.2 = true
    rw [h.rb]; exact (k _).rb _
  ok s := by
    show (g (r s false).1 (r s false).2.1 (r s false).2.2).2.2 = false → ∃ l, s.data.toList = l ++ (g (r s false).1 (r s false).2.1 (r s false).2.2).2.1.data.toList ∧ E' (g (r s false).1 (r s false).2.1 (r s false).2.2).1 l
    have hs := h.ok s
    cases hb : (r s false).2.2 with
    | true => intro h2; rw [(k _).rb] at h2; cases h2
    | false =>
      intro h2
      obtain ⟨l, e1, e2⟩ := hs hb
      obtain ⟨l', e3, e4⟩ := (k _).ok _ h2
      exact ⟨l ++ l', by rw [e1, e3, List.append_assoc], e4 l e2⟩
end Go.Proofs.Pw
/- Arguments opened: texts, slices of whatever elements, structs, as the words of Wd say them; with the sizes that the form's reach gives. -/
namespace Go.Proofs.Pw
open Go.RowKit Go.Deep

/-- Whatever reads as a datum of type t holds an a of R, and of Q. -/
def Opens {α : Type} (P : Program) (t : TypeId) (R : World → α → List Value → Prop) (Q : α → Prop) : Prop :=
  ∀ (H : Type) (enc : TypeId × Value → H) (w : World) (n : Nat) (cs : List Value) (x : DataW H × List MemPlace), DataW.trod enc P w 0 (fun _ => true) true n t cs = some x → (∀ m ∈ x.1.weights P t, m ≤ reachBytes) → ∃ a : α, R w a cs ∧ Q a

theorem cell_spot {w : World} {a : Addr} {v : Value} (h : w.cell? a = some v) : a = ⟨a.block, a.off, none⟩ ∧ a.block < w.heap.size := by
  unfold World.cell? at h
  split at h
  · rename_i c _ _ e
    split at h
    · cases h
    · rename_i hs
      refine ⟨?_, (Array.getElem?_eq_some_iff.1 e).1⟩
      obtain ⟨b, o, s⟩ := a
      cases s <;> simp_all
  · cases h

def RStr (_ : World) (s : ByteArray) (cs : List Value) : Prop := cs = [.string s]
def QStr (s : ByteArray) : Prop := s.size ≤ 140737488351232
theorem opens_string {P : Program} {t : TypeId} (ht : P.underlying t = some .string) : Opens P t RStr QStr := by
  intro H enc w n cs x h hw
  obtain ⟨s, rfl, rfl, hs⟩ := DataW.trod_string ht h
  refine ⟨s, rfl, ?_⟩
  have := hw s.data.toList.length (by simp [DataW.weights])
  rw [Array.length_toList] at this
  exact this
def RInt (k : IntKind) (_ : World) (z : Int) (cs : List Value) : Prop := cs = [.int k z]
theorem opens_int {P : Program} {t : TypeId} {k : IntKind} (ht : P.underlying t = some (.int k)) : Opens P t (RInt k) (fun z => (Lit.int k z).wf = true) := by
  intro H enc w n cs x h hw
  obtain ⟨z, rfl, rfl, hz⟩ := DataW.trod_int ht h
  exact ⟨z, rfl, hz⟩
def RBool (_ : World) (z : Bool) (cs : List Value) : Prop := cs = [.bool z]
theorem opens_bool {P : Program} {t : TypeId} (ht : P.underlying t = some .bool) : Opens P t RBool (fun _ => True) := by
  intro H enc w n cs x h hw
  obtain ⟨z, rfl, rfl⟩ := DataW.trod_bool ht h
  exact ⟨z, rfl, trivial⟩
/-- A slice's own cell. -/
def RSl {α : Type} (k : Nat) (R : World → α → List Value → Prop) (w : World) (xs : List α) (cs : List Value) : Prop := ∃ A c, cs = [.slice A xs.length c] ∧ Sl k R w A xs
theorem weights_all {H : Type} {P : Program} {e : TypeId} : ∀ {l : List (DataW H)} {d : DataW H}, d ∈ l → ∀ m ∈ d.weights P e, m ∈ DataW.weightsAll P e l
  | d0 :: l, d, hd, m, hm => by
    simp only [DataW.weightsAll, List.mem_append]
    rcases List.mem_cons.1 hd with rfl | hd
    · exact .inl hm
    · exact .inr (weights_all hd m hm)
  | [], _, hd, _, _ => by simp at hd
theorem opens_slice {α : Type} {P : Program} {t e : TypeId} {k : Nat} {R : World → α → List Value → Prop} {Q : α → Prop} (ht : P.underlying t = some (.slice e)) (hk : P.cellsOf e = k) (hk0 : 0 < k) (hb : 0 < P.bytesOf e) (h : Opens P e R Q) :
    Opens P t (RSl k R) (fun xs => xs.length * P.bytesOf e ≤ 140737488351232 ∧ ∀ x ∈ xs, Q x) := by
  intro H enc w n cs x hx hw
  rcases open_slice ht hx with ⟨rfl, rfl⟩ | ⟨a, len, cap, m, n, D, Pl, rfl, -, hl, hm, hmm, rfl, hel⟩
  · exact ⟨[], ⟨none, 0, rfl, Sl.nil _ _ _ _⟩, by simp, by simp⟩
  simp only [if_true] at hmm
  subst hmm
  simp only [DataW.weights, ht, List.mem_cons, List.mem_append] at hw
  have hsz := hw _ (.inl rfl)
  simp only [List.length_map, List.length_range] at hsz
  have hlb : len * P.bytesOf e ≤ 140737488351232 := Nat.le_trans (Nat.mul_le_mul_right _ (by omega)) hsz
  have each : ∀ i, i < len → ∃ y : α, ∃ cs', w.cells? 0 (a.add (i * k)) k = some cs' ∧ R w y cs' ∧ Q y := fun i hi => by
    obtain ⟨cs', h1, h2⟩ := hel i (by omega)
    rw [hk] at h1
    obtain ⟨y, hy1, hy2⟩ := h H enc w n cs' _ h2 (fun z hz => hw z (.inr (.inl (weights_all (List.mem_map.2 ⟨i, List.mem_range.2 hi, rfl⟩) z hz))))
    exact ⟨y, cs', h1, hy1, hy2⟩
  rcases Nat.eq_zero_or_pos len with h0 | h0
  · subst h0
    exact ⟨[], ⟨some a, m, rfl, Sl.nil _ _ _ _⟩, by simp, by simp⟩
  obtain ⟨y0, -⟩ := each 0 h0
  haveI : Inhabited α := ⟨y0⟩
  obtain ⟨f, hf⟩ := choose_lt each
  refine ⟨(List.range len).map f, ⟨some a, m, by simp, by simp; exact Nat.le_trans (Nat.le_mul_of_pos_right _ hb) hlb, fun _ => ?_⟩, by simpa using hlb, fun x hx => ?_⟩
  · obtain ⟨cs0, h1, -, -⟩ := hf 0 h0
    obtain ⟨-, hl0, h2⟩ := World.cells?_some h1
    have h3 := h2 0 hk0
    rw [List.getElem?_eq_getElem (by omega)] at h3
    obtain ⟨e1, e2⟩ := cell_spot h3
    simp only [Nat.zero_mul, Addr.add, if_true] at e1 e2
    refine ⟨a.block, a.off, by rw [← e1], e2, fun i x hx => ?_⟩
    obtain ⟨hi, rfl⟩ := List.getElem?_eq_some_iff.1 hx
    simp only [List.length_map, List.length_range] at hi
    simp only [List.getElem_map, List.getElem_range] at hx ⊢
    obtain ⟨cs', h4, h5, -⟩ := hf i hi
    refine ⟨cs', h5, fun j v hj => ?_⟩
    obtain ⟨-, hl4, h6⟩ := World.cells?_some h4
    have hjk : j < k := by have := (List.getElem?_eq_some_iff.1 hj).1; omega
    rw [← hj, ← h6 j hjk, add_add, e1]
    unfold Addr.add
    split
    · rename_i h7; rw [Nat.add_assoc, h7]; rfl
    · rw [Nat.add_assoc]
  · obtain ⟨i, hi, rfl⟩ := List.mem_map.1 hx
    obtain ⟨-, -, -, h5⟩ := hf i (List.mem_range.1 hi)
    exact h5
theorem weights_agg {H : Type} {P : Program} {t : TypeId} {fs : Array Field} (ht : P.underlying t = some (.struct fs)) {ds : List (DataW H)} {B : Nat} (h : ∀ m ∈ (DataW.agg ds).weights P t, m ≤ B) {j : Nat} {f : Field} {d : DataW H} (hf : fs.toList[j]? = some f) (hd : ds[j]? = some d) : ∀ m ∈ d.weights P f.type, m ≤ B := by
  intro m hm
  refine h m ?_
  simp only [DataW.weights, ht]
  exact DataW.weights_mem_each (by rw [List.getElem?_map, hf]; rfl) hd m hm
/-- A struct of three fields. -/
theorem opens_struct3 {α β γ δ : Type} {P : Program} {t : TypeId} {f0 f1 f2 : Field} {R0 : World → α → List Value → Prop} {Q0 : α → Prop} {R1 : World → β → List Value → Prop} {Q1 : β → Prop} {R2 : World → γ → List Value → Prop} {Q2 : γ → Prop} {R : World → δ → List Value → Prop} {Q : δ → Prop}
    (ht : P.underlying t = some (.struct #[f0, f1, f2])) (h0 : Opens P f0.type R0 Q0) (h1 : Opens P f1.type R1 Q1) (h2 : Opens P f2.type R2 Q2)
    (k : ∀ w a b c (cs : List Value), cs.length = P.cellsOf t → R0 w a ((cs.drop f0.offset).take (P.cellsOf f0.type)) → R1 w b ((cs.drop f1.offset).take (P.cellsOf f1.type)) → R2 w c ((cs.drop f2.offset).take (P.cellsOf f2.type)) → Q0 a → Q1 b → Q2 c → ∃ d, R w d cs ∧ Q d) : Opens P t R Q := by
  intro H enc w n cs x hx hw
  obtain ⟨y0, y1, y2, n, rfl, hl, e0, e1, e2⟩ := trod_struct3 ht hx
  obtain ⟨a, ra, qa⟩ := h0 H enc w n _ y0 e0 (weights_agg ht hw (j := 0) rfl rfl)
  obtain ⟨b, rb, qb⟩ := h1 H enc w n _ y1 e1 (weights_agg ht hw (j := 1) rfl rfl)
  obtain ⟨c, rc, qc⟩ := h2 H enc w n _ y2 e2 (weights_agg ht hw (j := 2) rfl rfl)
  exact k w a b c cs hl ra rb rc qa qb qc
end Go.Proofs.Pw
