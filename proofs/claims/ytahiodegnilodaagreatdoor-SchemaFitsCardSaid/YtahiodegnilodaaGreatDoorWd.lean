/- The words: how slices in memory read as lists; small laws on worlds that a call leaves behind. Nothing of the program. -/
import Derived.Below
import Derived.WalkKit
import Derived.Outline
import Derived.Lib.Hide
import Derived.WalkSpells
import Derived.WalkLawsBesides
import Derived.Deep.QuietTactic
import Derived.BigQuiet
namespace Go.Proofs.Pw
open Go.RowKit

/-- A slice's elements of k cells each, in the world w; R says how an element's cells read. -/
def Sl {α : Type} (k : Nat) (R : World → α → List Value → Prop) (w : World) (A : Option Addr) (xs : List α) : Prop :=
  xs.length ≤ 140737488351232 ∧ (xs ≠ [] → ∃ b off, A = some ⟨b, off, none⟩ ∧ b < w.heap.size ∧ ∀ i x, xs[i]? = some x → ∃ vs, R w x vs ∧ ∀ j v, vs[j]? = some v → w.cell? ⟨b, off + i * k + j, none⟩ = some v)

def Stable {α : Type} (R : World → α → List Value → Prop) : Prop := ∀ w w' x vs, Below w.heap.size w w' → R w x vs → R w' x vs

theorem Sl.below {α : Type} {k : Nat} {R : World → α → List Value → Prop} (hR : Stable R) {w w' : World} (hb : Below w.heap.size w w') {A : Option Addr} {xs : List α} (h : Sl k R w A xs) : Sl k R w' A xs := by
  refine ⟨h.1, fun hn => ?_⟩
  obtain ⟨b, off, hA, hlt, hc⟩ := h.2 hn
  refine ⟨b, off, hA, Nat.lt_of_lt_of_le hlt hb.size, fun i x hx => ?_⟩
  obtain ⟨vs, h1, h2⟩ := hc i x hx
  exact ⟨vs, hR _ _ _ _ hb h1, fun j v hv => (hb.cell (p := ⟨b, _, none⟩) hlt).trans (h2 j v hv)⟩

theorem Sl.nil {α : Type} (k : Nat) (R : World → α → List Value → Prop) (w : World) (A : Option Addr) : Sl k R w A [] := ⟨by simp, fun h => absurd rfl h⟩

/-- Elements whose cells hold all. -/
def flat {α : Type} (enc : α → List Value) : World → α → List Value → Prop := fun _ x vs => vs = enc x
theorem flat_stable {α : Type} (enc : α → List Value) : Stable (flat enc) := fun _ _ _ _ _ h => h

def encS (s : ByteArray) : List Value := [.string s]
structure PCol where
  name : ByteArray
  typ : Int
  nn : Bool
def encC (c : PCol) : List Value := [.string c.name, .int .i64 c.typ, .bool c.nn]
structure PIdx where
  name : ByteArray
  cols : List ByteArray
  uniq : Bool
abbrev Strs := Sl 1 (flat encS)
abbrev Cols := Sl 3 (flat encC)
def RIdx (w : World) (x : PIdx) (vs : List Value) : Prop := ∃ A c, vs = [.string x.name, .slice A x.cols.length c, .bool x.uniq] ∧ Strs w A x.cols
theorem RIdx_stable : Stable RIdx := fun _ _ _ _ hb ⟨A, c, e, h⟩ => ⟨A, c, e, h.below (flat_stable _) hb⟩
abbrev Idxs := Sl 3 RIdx
structure PSch where
  cols : List PCol
  key : List ByteArray
  idx : List PIdx
/-- A schema as a value. -/
def RSch (w : World) (s : PSch) (A1 A2 A3 : Option Addr) : Prop := Cols w A1 s.cols ∧ Strs w A2 s.key ∧ Idxs w A3 s.idx
theorem RSch.below {w w' : World} (hb : Below w.heap.size w w') {s : PSch} {A1 A2 A3 : Option Addr} (h : RSch w s A1 A2 A3) : RSch w' s A1 A2 A3 :=
  ⟨h.1.below (flat_stable _) hb, h.2.1.below (flat_stable _) hb, h.2.2.below RIdx_stable hb⟩

theorem ne_nil {α : Type} {xs : List α} {j : Nat} (h : j < xs.length) : xs ≠ [] := fun e => by rw [e] at h; exact absurd h (Nat.not_lt_zero _)

/-- One string of a slice of strings. -/
theorem strs_at {w : World} {A : Option Addr} {xs : List ByteArray} (h : Strs w A xs) {j : Nat} (hj : j < xs.length) :
    ∃ b off, A = some ⟨b, off, none⟩ ∧ b < w.heap.size ∧ ¬ b = w.heap.size ∧ w.cell? ⟨b, off + j, none⟩ = some (.string xs[j]) := by
  obtain ⟨b, off, hA, hlt, hc⟩ := h.2 (ne_nil hj)
  obtain ⟨vs, rfl, h2⟩ := hc j _ (List.getElem?_eq_getElem hj)
  exact ⟨b, off, hA, hlt, by omega, by simpa using h2 0 _ rfl⟩
theorem cols_at {w : World} {A : Option Addr} {xs : List PCol} (h : Cols w A xs) {j : Nat} (hj : j < xs.length) :
    ∃ b off, A = some ⟨b, off, none⟩ ∧ b < w.heap.size ∧ ¬ b = w.heap.size ∧ w.cell? ⟨b, off + j * 3, none⟩ = some (.string xs[j].name) ∧ w.cell? ⟨b, off + j * 3 + 1, none⟩ = some (.int .i64 xs[j].typ) ∧ w.cell? ⟨b, off + j * 3 + 2, none⟩ = some (.bool xs[j].nn) := by
  obtain ⟨b, off, hA, hlt, hc⟩ := h.2 (ne_nil hj)
  obtain ⟨vs, rfl, h2⟩ := hc j _ (List.getElem?_eq_getElem hj)
  exact ⟨b, off, hA, hlt, by omega, h2 0 _ rfl, h2 1 _ rfl, h2 2 _ rfl⟩
theorem idxs_at {w : World} {A : Option Addr} {xs : List PIdx} (h : Idxs w A xs) {j : Nat} (hj : j < xs.length) :
    ∃ b off B c, A = some ⟨b, off, none⟩ ∧ b < w.heap.size ∧ ¬ b = w.heap.size ∧ w.cell? ⟨b, off + j * 3, none⟩ = some (.string xs[j].name) ∧ w.cell? ⟨b, off + j * 3 + 1, none⟩ = some (.slice B xs[j].cols.length c) ∧ w.cell? ⟨b, off + j * 3 + 2, none⟩ = some (.bool xs[j].uniq) ∧ Strs w B xs[j].cols := by
  obtain ⟨b, off, hA, hlt, hc⟩ := h.2 (ne_nil hj)
  obtain ⟨vs, ⟨B, c, rfl, hB⟩, h2⟩ := hc j _ (List.getElem?_eq_getElem hj)
  exact ⟨b, off, B, c, hA, hlt, by omega, h2 0 _ rfl, h2 1 _ rfl, h2 2 _ rfl, hB⟩

theorem strs_all {w : World} {A : Option Addr} {xs : List ByteArray} (h : Strs w A xs) (hj : xs ≠ []) :
    ∃ b off, A = some ⟨b, off, none⟩ ∧ b < w.heap.size ∧ ¬ b = w.heap.size ∧ ∀ i, ∀ hi : i < xs.length, w.cell? ⟨b, off + i, none⟩ = some (.string xs[i]) := by
  obtain ⟨b, off, hA, hlt, hc⟩ := h.2 hj
  refine ⟨b, off, hA, hlt, by omega, fun i hi => ?_⟩
  obtain ⟨vs, rfl, h2⟩ := hc i _ (List.getElem?_eq_getElem hi)
  simpa using h2 0 _ rfl
theorem bytes_drop (s : ByteArray) (i : Nat) (h : i < s.size) : s.data.toList.drop i = s[i] :: s.data.toList.drop (i + 1) := by
  rw [List.drop_eq_getElem_cons (by simpa using h)]; rfl
theorem below_q {w : World} (a b : Nat) : Below w.heap.size w ((w.drewN a).drewN b) := ⟨rfl, rfl, rfl, Nat.le_refl _, fun _ _ => rfl⟩
theorem drop_cons {α : Type} (xs : List α) (j : Nat) (h : j < xs.length) : xs.drop j = xs[j] :: xs.drop (j + 1) := List.drop_eq_getElem_cons h
theorem below_new (w : World) (o : Obj) : Below w.heap.size w (w.alloc o) := (Below.refl _ _).alloc (Nat.le_refl _) _
/-- One call behind another. -/
theorem below_next {w a b : World} (h : Below w.heap.size w a) (k : Below a.heap.size a b) : Below w.heap.size w b :=
  h.trans (k.mono h.size)

/-- After a call the cells and the marks of what was there read as before: two rules for the walk. -/
theorem bcell {W w1 : World} (hb : Below W.heap.size W w1) : (∀ b o, b < W.heap.size → w1.cell? ⟨b, o, none⟩ = W.cell? ⟨b, o, none⟩) ∧ (∀ b o, b < W.heap.size → w1.frozen? ⟨b, o, none⟩ = W.frozen? ⟨b, o, none⟩) :=
  ⟨fun b o h => hb.cell (p := ⟨b, o, none⟩) h, fun b o h => hb.frozen (p := ⟨b, o, none⟩) h⟩
theorem pw_drewN (w : World) (n : Nat) : Below w.heap.size w (w.drewN n) := ⟨rfl, rfl, rfl, Nat.le_refl _, fun _ _ => rfl⟩
theorem unq {w w' : World} (h : Below w.drew.heap.size w.drew w') : Below w.heap.size w w' := ⟨h.os, h.tape, h.output, h.size, h.block⟩
theorem unqN {w w' : World} {n : Nat} (h : Below (w.drewN n).heap.size (w.drewN n) w') : Below w.heap.size w w' := ⟨h.os, h.tape, h.output, h.size, h.block⟩
/-- A call hands back v; nothing that was there has turned. -/
def Gives (w : World) (v : Value) (e : Ending) (w' : World) : Prop := e = .returned v ∧ Below w.heap.size w w'
theorem nf {b : Bool} (h : b = false) : ¬ b = true := by rw [h]; decide

theorem below_step {w a b : World} (h : Below w.heap.size w a) (o : Obj) (k : Below (a.alloc o).heap.size (a.alloc o) b) : Below w.heap.size w b :=
  below_next (below_next h (below_new a o)) k
theorem size_step {a b : World} (o : Obj) (k : Below (a.alloc o).heap.size (a.alloc o) b) : a.heap.size < b.heap.size := by
  have := k.size; simp at this; omega
/-- A world that came of W: nothing that was there has turned. -/
structure Ext (W : World) where
  w : World
  h : Below W.heap.size W w
instance (W : World) : Nonempty (Ext W) := ⟨⟨W, Below.refl _ _⟩⟩
@[go_sem] theorem Ext.cell {W : World} (x : Ext W) (b o : Nat) (h : b < W.heap.size) : x.w.cell? ⟨b, o, none⟩ = W.cell? ⟨b, o, none⟩ := x.h.cell (p := ⟨b, o, none⟩) h
def Ext.next {W w' : World} (x : Ext W) (h : Below x.w.heap.size x.w w') : Ext W := ⟨w', below_next x.h h⟩
/-- A call's contract, met in a world of the class. -/
theorem gives_ext {P : Program} {f : FuncId} {args : Array Value} {W : World} {x : Ext W} {v : Value} (h : Calls P f args x.w (Gives x.w v)) :
    Calls P f args x.w fun e w'' => e = .returned v ∧ ∃ y : Ext W, w'' = y.w := h.mono fun _ w'' ⟨he, hb⟩ => ⟨he, x.next hb, rfl⟩
/-- A region of reads and of calls that turn nothing: one walk in the text's order. -/
theorem wp_ext {P : Program} {id : Nat} {Q : Exit → Act → World → Prop} {a : Act} {W : World} {l : List Oper} (hm : P.follows .mixedOrders = true) (hB : Region.lexB .any l.toArray = true)
    (h : wpQuiet P l.toArray (fun w' => ∃ x : Ext W, w' = x.w) (fun a' => ∀ x : Ext W, Q .normal a' x.w) l a) : (Code.region id l.toArray true).wp P Q a W := by
  refine wp_region_quiet (C := fun w' => ∃ x : Ext W, w' = x.w) hm hB ⟨⟨_, pw_drewN W 1⟩, rfl⟩ ?_
  have hq : (fun a' => ∀ x : Ext W, Q .normal a' x.w) = (fun a' => ∀ w', (∃ x : Ext W, w' = x.w) → Q .normal a' w') := by
    funext a'; exact propext ⟨fun h w' ⟨x, e⟩ => e ▸ h x, fun h x => h _ ⟨x, rfl⟩⟩
  rw [← hq]
  simpa using h
theorem wpList_of_quiet {P : Program} {ops : Array Oper} {C : World → Prop} {Q : Exit → Act → World → Prop} : ∀ (l : List Oper) (a : Act) (w : World), C w →
    wpQuiet P ops C (fun a' => ∀ w', C w' → Q .normal a' w') l a → wpList P ops Q l a w
  | [], _, w, hw, h => h w hw
  | o :: rest, a, w, hw, h => by
    refine wpList_step fun K hK => ?_
    unfold wpQuiet at h
    split
    · rename_i hwant
      rw [if_pos hwant] at h
      exact Oper.wp_of_quiet hw (fun a' w' hw' hk => hK _ _ (wpList_of_quiet rest a' w' hw' hk)) h
    · rename_i hwant
      rw [if_neg hwant] at h
      exact hK _ _ (wpList_of_quiet rest _ w hw h)
/-- The same for a region in the text's order. -/
theorem wp_ext0 {P : Program} {id : Nat} {Q : Exit → Act → World → Prop} {a : Act} {W : World} {l : List Oper}
    (h : wpQuiet P l.toArray (fun w' => ∃ x : Ext W, w' = x.w) (fun a' => ∀ x : Ext W, Q .normal a' x.w) l a) : (Code.region id l.toArray false).wp P Q a W := by
  refine wp_region_lit (wpList_of_quiet (C := fun w' => ∃ x : Ext W, w' = x.w) l a W ⟨⟨W, Below.refl _ _⟩, rfl⟩ ?_)
  have hq : (fun a' => ∀ x : Ext W, Q .normal a' x.w) = (fun a' => ∀ w', (∃ x : Ext W, w' = x.w) → Q .normal a' w') := by
    funext a'; exact propext ⟨fun h w' ⟨x, e⟩ => e ▸ h x, fun h x => h _ ⟨x, rfl⟩⟩
  rw [← hq]
  exact h
/- The program's own functions, as plain functions. -/
abbrev eqS (a b : ByteArray) : Bool := a.toList == b.toList
/-- A column's place. -/
def atF (nm : ByteArray) : List PCol → Nat → Int
  | [], _ => -1
  | x :: xs, j => if (x.name.toList == nm.toList) = true then j else atF nm xs (j + 1)
theorem atF_hit {nm : ByteArray} {x : PCol} {xs : List PCol} {j : Nat} (h : (x.name.toList == nm.toList) = true) : atF nm (x :: xs) j = j := by rw [atF, if_pos h]
theorem atF_miss {nm : ByteArray} {x : PCol} {xs : List PCol} {j : Nat} (h : (x.name.toList == nm.toList) = false) : atF nm (x :: xs) j = atF nm xs (j + 1) := by rw [atF, if_neg (nf h)]
def okB (c : UInt8) : Prop := (97 ≤ c.toNat ∧ c.toNat ≤ 122) ∨ (48 ≤ c.toNat ∧ c.toNat ≤ 57) ∨ c.toNat = 95
instance (c : UInt8) : Decidable (okB c) := by unfold okB; infer_instance
def allOk : List UInt8 → Bool
  | [] => true
  | c :: l => if okB c then allOk l else false
/-- A name? -/
def namedF (s : ByteArray) : Bool := match s.data.toList with
  | [] => false
  | c :: l => if 40 < (c :: l).length then false else if 48 ≤ c.toNat ∧ c.toNat ≤ 57 then false else allOk (c :: l)
theorem namedF_eq (s : ByteArray) (h : 0 < s.size) : namedF s = if 40 < s.size then false else if 48 ≤ s[0].toNat ∧ s[0].toNat ≤ 57 then false else allOk s.data.toList := by
  have hd := bytes_drop s 0 h
  rw [List.drop_zero] at hd
  have hl : (s[0] :: s.data.toList.drop 1).length = s.size := by
    rw [← hd]; simp
  unfold namedF
  rw [hd]
  simp only [hl]
theorem namedF_nil (s : ByteArray) (h : s.size < 1) : namedF s = false := by
  have h0 : s.data.toList = [] := List.eq_nil_of_length_eq_zero (by simpa using h)
  simp [namedF, h0]
def hasB (s : ByteArray) : List ByteArray → Bool
  | [] => false
  | x :: xs => if (s.toList == x.toList) = true then true else hasB s xs
theorem hasB_hit {s x : ByteArray} {xs : List ByteArray} (h : (s.toList == x.toList) = true) : hasB s (x :: xs) = true := by rw [hasB, if_pos h]
theorem hasB_miss {s x : ByteArray} {xs : List ByteArray} (h : (s.toList == x.toList) = false) : hasB s (x :: xs) = hasB s xs := by rw [hasB, if_neg (nf h)]
/-- Are the elements from place i on unlike those ahead of them? -/
def unlikeF (pre : List ByteArray) : List ByteArray → Bool
  | [] => true
  | x :: xs => if hasB x pre then false else unlikeF (pre ++ [x]) xs
def allAt (cs : List PCol) : List ByteArray → Bool
  | [] => true
  | x :: xs => if atF x cs 0 < 0 then false else allAt cs xs
def partF (cs : List PCol) (l : List ByteArray) : Bool :=
  if l.length < 1 then false else if 8 < l.length then false else if unlikeF [] l then allAt cs l else false
def colsOk (cs : List PCol) : List PCol → Nat → Bool
  | [], _ => true
  | c :: r, i => if namedF c.name then if atF c.name cs 0 = i then if c.typ < 1 then false else if 4 < c.typ then false else colsOk cs r (i + 1) else false else false
def nnAt (cs : List PCol) (i : Int) : Bool := match cs[i.toNat]? with | some c => c.nn | none => false
def keyOk (cs : List PCol) : List ByteArray → Bool
  | [] => true
  | n :: r => if nnAt cs (atF n cs 0) then keyOk cs r else false
def ltS (a b : ByteArray) : Bool := Op.bytesLess a.toList b.toList
def prevLt : Option ByteArray → ByteArray → Bool
  | none, _ => true
  | some p, n => ltS p n
def idxOk (cs : List PCol) : Option ByteArray → List PIdx → Bool
  | _, [] => true
  | p, x :: r => if namedF x.name then if prevLt p x.name then if partF cs x.cols then idxOk cs (some x.name) r else false else false else false
def rightF (s : PSch) : Bool :=
  if s.cols.length < 1 then false else if 32 < s.cols.length then false else if 8 < s.idx.length then false else
  if partF s.cols s.key then if colsOk s.cols s.cols 0 then if keyOk s.cols s.key then idxOk s.cols none s.idx else false else false else false
end Go.Proofs.Pw
