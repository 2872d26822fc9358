/- Boxes (a block known whole), rows that a call appends to, and what a call that writes one block leaves. -/
import Derived.Test.YtahiodegnilodaaGreatDoorWd
import Derived.Maps.AppendAt
import Derived.Deep.AppendLies
namespace Go.Proofs.Pw
open Go.RowKit

/-- Block p holds just these cells. -/
def Box (w : World) (p : Nat) (T : TypeId) (vs : List Value) : Prop := w.heap[p]? = some (.cells vs.toArray T (0, 0))
theorem Box.lt {w : World} {p : Nat} {T : TypeId} {vs : List Value} (h : Box w p T vs) : p < w.heap.size := (Array.getElem?_eq_some_iff.1 h).1
theorem Box.cell {w : World} {p : Nat} {T : TypeId} {vs : List Value} (h : Box w p T vs) (i : Nat) {v : Value} (hv : vs[i]? = some v) : w.cell? ⟨p, i, none⟩ = some v := by
  unfold Box at h
  simp [World.cell?, h, hv]
theorem Box.frozen {w : World} {p : Nat} {T : TypeId} {vs : List Value} (h : Box w p T vs) (i : Nat) : w.frozen? ⟨p, i, none⟩ = false := by
  unfold Box at h
  simp [World.frozen?, h]
theorem Box.set {w : World} {p : Nat} {T : TypeId} {vs : List Value} (h : Box w p T vs) (i : Nat) (v : Value) : Box (w.setCell ⟨p, i, none⟩ v) p T (vs.set i v) := by
  unfold Box at h ⊢
  simp only [World.setCell, Array.getElem?_modify, if_true, h, Option.map_some]
  simp
theorem Box.grown {w w' : World} {p : Nat} {T : TypeId} {vs : List Value} (h : Box w p T vs) {row : Option Nat} (hg : w.grownBy w' row) (hne : some p ≠ row) : Box w' p T vs := by
  unfold Box at h ⊢
  rw [hg.block p (Box.lt h) hne, h]
theorem Box.below {w w' : World} {p : Nat} {T : TypeId} {vs : List Value} (h : Box w p T vs) (hb : Below w.heap.size w w') : Box w' p T vs := by
  unfold Box at h ⊢
  rw [hb.block p (Box.lt h), h]
theorem Box.new (w : World) (vs : List Value) (T : TypeId) : Box (w.alloc (.cells vs.toArray T (0, 0))) w.heap.size T vs := by
  show (w.heap.push _)[w.heap.size]? = _
  simp
theorem Box.alloc {w : World} {p : Nat} {T : TypeId} {vs : List Value} (h : Box w p T vs) (o : Obj) : Box (w.alloc o) p T vs := h.below (below_new w o)
theorem Box.drew {w : World} {p : Nat} {T : TypeId} {vs : List Value} (h : Box w p T vs) : Box w.drew p T vs := h
theorem grown_set (w : World) (p i : Nat) (v : Value) : w.grownBy (w.setCell ⟨p, i, none⟩ v) (some p) :=
  ⟨rfl, rfl, rfl, by simp [World.setCell], fun k _ hk => Below.heap_setCell _ _ _ _ (fun e => hk (by rw [e]))⟩
theorem grown_refl (w : World) (r : Option Nat) : w.grownBy w r := ⟨rfl, rfl, rfl, Nat.le_refl _, fun _ _ _ => rfl⟩
theorem grown_trans {a b c : World} {r : Option Nat} (h : a.grownBy b r) (k : b.grownBy c r) : a.grownBy c r :=
  ⟨k.os.trans h.os, k.tape.trans h.tape, k.output.trans h.output, Nat.le_trans h.size k.size, fun i hi hr => (k.block i (Nat.lt_of_lt_of_le hi h.size) hr).trans (h.block i hi hr)⟩
theorem grown_below {w w' : World} (h : Below w.heap.size w w') (r : Option Nat) : w.grownBy w' r := ⟨h.os, h.tape, h.output, h.size, fun i hi _ => h.block i hi⟩
theorem grown_drew (w : World) (r : Option Nat) : w.grownBy w.drew r := ⟨rfl, rfl, rfl, Nat.le_refl _, fun _ _ _ => rfl⟩
/-- What a call of the function's own box p leaves, seen from below p. -/
theorem below_grown {w a b : World} (h : Below w.heap.size w a) {p : Nat} (hp : w.heap.size ≤ p) (hg : a.grownBy b (some p)) : Below w.heap.size w b :=
  h.trans ⟨hg.os, hg.tape, hg.output, hg.size, fun k hk => hg.block k (Nat.lt_of_lt_of_le hk h.size) (fun e => by cases e; omega)⟩
theorem below_set {w a : World} (h : Below w.heap.size w a) {p : Nat} (hp : w.heap.size ≤ p) (i : Nat) (v : Value) : Below w.heap.size w (a.setCell ⟨p, i, none⟩ v) :=
  below_grown h hp (grown_set a p i v)
theorem below_row {w a b : World} (h : Below w.heap.size w a) {e : TypeId} {k n : Nat} {v : Value} {xs : List Value} (ho : a.ownsRow w.heap.size e k v n xs) (hg : a.grownBy b v.ownBlock) : Below w.heap.size w b := by
  refine h.trans ⟨hg.os, hg.tape, hg.output, hg.size, fun i hi => hg.block i (Nat.lt_of_lt_of_le hi h.size) (fun e => ?_)⟩
  rcases ho.2 with ⟨rfl, _⟩ | ⟨g, cap, cur, rfl, hb, _⟩
  · simp [Value.ownBlock] at e
  · simp only [Value.ownBlock, Option.some.injEq] at e
    omega

theorem Box.other {w : World} {p : Nat} {T : TypeId} {vs : List Value} (h : Box w p T vs) {q : Nat} (hne : p ≠ q) (i : Nat) (v : Value) : Box (w.setCell ⟨q, i, none⟩ v) p T vs :=
  h.grown (grown_set w q i v) (fun e => hne (by cases e; rfl))
theorem Box.step {w w' : World} {p q : Nat} {T : TypeId} {vs : List Value} (h : Box w p T vs) (hg : w.grownBy w' (some q)) (hne : p ≠ q) : Box w' p T vs :=
  h.grown hg (fun e => hne (by cases e; rfl))
/-- A row and a box of unlike types are apart. -/
theorem row_box {w : World} {base : Nat} {e T : TypeId} {k n p : Nat} {v : Value} {xs vs : List Value} (h : w.ownsRow base e k v n xs) (hb : Box w p T vs) (hne : e ≠ T) : v.ownBlock ≠ some p := by
  intro he
  rcases h.2 with ⟨rfl, _⟩ | ⟨g, cap, cur, rfl, _, hh, _⟩
  · simp [Value.ownBlock] at he
  · simp only [Value.ownBlock, Option.some.injEq] at he
    subst he
    unfold Box at hb
    rw [hh] at hb
    injection hb with hb
    injection hb with _ ht _
    exact hne ht
theorem row_row {w : World} {b b' : Nat} {e e' : TypeId} {k k' n n' : Nat} {v v' : Value} {xs xs' : List Value} (h : w.ownsRow b e k v n xs) (h' : w.ownsRow b' e' k' v' n' xs') (hne : e ≠ e') : v.ownBlock = none ∨ v.ownBlock ≠ v'.ownBlock := by
  rcases h.2 with ⟨rfl, _⟩ | ⟨g, cap, cur, rfl, _, hh, _⟩
  · exact .inl rfl
  · refine .inr fun he => ?_
    rcases h'.2 with ⟨rfl, _⟩ | ⟨g', cap', cur', rfl, _, hh', _⟩
    · simp [Value.ownBlock] at he
    · simp only [Value.ownBlock, Option.some.injEq] at he
      subst he
      rw [hh] at hh'
      injection hh' with hh'
      injection hh' with _ ht _
      exact hne ht
theorem row_grown {w w' : World} {base : Nat} {e : TypeId} {k n : Nat} {v : Value} {xs : List Value} (h : w.ownsRow base e k v n xs) {p : Nat} (hg : w.grownBy w' (some p)) (hne : v.ownBlock ≠ some p) : w'.ownsRow base e k v n xs :=
  h.kept hg (.inr hne)
theorem row_below {w w' : World} {base : Nat} {e : TypeId} {k n : Nat} {v : Value} {xs : List Value} (h : w.ownsRow base e k v n xs) (hb : Below w.heap.size w w') : w'.ownsRow base e k v n xs :=
  h.kept (grown_below hb none) (by cases v.ownBlock <;> simp)
theorem row_set {w : World} {base : Nat} {e : TypeId} {k n : Nat} {v : Value} {xs : List Value} (h : w.ownsRow base e k v n xs) {q : Nat} (hne : v.ownBlock ≠ some q) (i : Nat) (u : Value) : (w.setCell ⟨q, i, none⟩ u).ownsRow base e k v n xs :=
  row_grown h (grown_set w q i u) hne
theorem Box.row {w w' : World} {p : Nat} {T : TypeId} {vs : List Value} (h : Box w p T vs) {v : Value} (hg : w.grownBy w' v.ownBlock) (hne : v.ownBlock ≠ some p) : Box w' p T vs :=
  h.grown hg (fun e => hne e.symm)
theorem row_nil (w : World) (base : Nat) (e : TypeId) (k : Nat) : w.ownsRow base e k (.slice none 0 0) 0 [] := ⟨by simp, .inl ⟨rfl, rfl⟩⟩
theorem row_form {w : World} {base : Nat} {e : TypeId} {k n : Nat} {v : Value} {xs : List Value} (h : w.ownsRow base e k v n xs) : ∃ A c, v = .slice A n c := by
  rcases h.2 with ⟨rfl, rfl⟩ | ⟨g, cap, cur, rfl, _⟩
  · exact ⟨none, 0, rfl⟩
  · exact ⟨_, cap, rfl⟩

/-- Nothing has turned but the blocks of S, and what is new. -/
structure Chg (S : List Nat) (w w' : World) : Prop where
  os : w'.os = w.os
  tape : w'.tape = w.tape
  output : w'.output = w.output
  size : w.heap.size ≤ w'.heap.size
  block : ∀ k, k < w.heap.size → k ∉ S → w'.heap[k]? = w.heap[k]?
theorem Chg.refl (S : List Nat) (w : World) : Chg S w w := ⟨rfl, rfl, rfl, Nat.le_refl _, fun _ _ _ => rfl⟩
theorem Chg.trans {S : List Nat} {a b c : World} (h : Chg S a b) (k : Chg S b c) : Chg S a c :=
  ⟨k.os.trans h.os, k.tape.trans h.tape, k.output.trans h.output, Nat.le_trans h.size k.size, fun i hi hS => (k.block i (Nat.lt_of_lt_of_le hi h.size) hS).trans (h.block i hi hS)⟩
theorem Chg.mono {S S' : List Nat} {a b : World} (h : Chg S a b) (hs : ∀ x ∈ S, x ∈ S' ∨ a.heap.size ≤ x) : Chg S' a b :=
  ⟨h.os, h.tape, h.output, h.size, fun i hi hS => h.block i hi (fun hm => by rcases hs i hm with h1 | h1; exact hS h1; omega)⟩
theorem Chg.ofGrown {a b : World} {p : Nat} (h : a.grownBy b (some p)) : Chg [p] a b :=
  ⟨h.os, h.tape, h.output, h.size, fun i hi hS => h.block i hi (fun e => hS (by cases e; simp))⟩
theorem Chg.ofBelow {a b : World} (h : Below a.heap.size a b) (S : List Nat) : Chg S a b := ⟨h.os, h.tape, h.output, h.size, fun i hi _ => h.block i hi⟩
theorem Chg.ofRow {a b : World} {v : Value} (h : a.grownBy b v.ownBlock) (g : Nat) (hg : ∀ k, v.ownBlock = some k → k = g) : Chg [g] a b :=
  ⟨h.os, h.tape, h.output, h.size, fun i hi hS => h.block i hi (fun e => hS (by simp [hg i e.symm]))⟩
theorem Chg.alloc (S : List Nat) (w : World) (o : Obj) : Chg S w (w.alloc o) := Chg.ofBelow (below_new w o) S
theorem Chg.set (w : World) (p i : Nat) (v : Value) : Chg [p] w (w.setCell ⟨p, i, none⟩ v) := Chg.ofGrown (grown_set w p i v)
theorem Chg.below {S : List Nat} {w a b : World} (h : Below w.heap.size w a) (k : Chg S a b) (hS : ∀ x ∈ S, w.heap.size ≤ x) : Below w.heap.size w b :=
  h.trans ⟨k.os, k.tape, k.output, k.size, fun i hi => k.block i (Nat.lt_of_lt_of_le hi h.size) (fun hm => by have := hS i hm; omega)⟩
theorem Box.chg {w w' : World} {p : Nat} {T : TypeId} {vs : List Value} (h : Box w p T vs) {S : List Nat} (hc : Chg S w w') (hne : p ∉ S) : Box w' p T vs := by
  unfold Box at h ⊢
  rw [hc.block p (Box.lt h) hne, h]
theorem row_keep {w w' : World} {base : Nat} {e : TypeId} {k n : Nat} {v : Value} {xs : List Value} (h : w.ownsRow base e k v n xs) (hb : ∀ g, base ≤ g → g < w.heap.size → w'.heap[g]? = w.heap[g]?) : w'.ownsRow base e k v n xs := by
  refine ⟨h.1, ?_⟩
  rcases h.2 with h2 | ⟨g, cap, cur, h1, h2, h3, h4⟩
  · exact .inl h2
  · exact .inr ⟨g, cap, cur, h1, h2, by rw [hb g h2 (Array.getElem?_eq_some_iff.1 h3).1]; exact h3, h4⟩
theorem row_chg {w w' : World} {base : Nat} {e : TypeId} {k n : Nat} {v : Value} {xs : List Value} (h : w.ownsRow base e k v n xs) {S : List Nat} (hc : Chg S w w') (hS : ∀ s ∈ S, s < base ∨ w.heap.size ≤ s) : w'.ownsRow base e k v n xs :=
  row_keep h fun g h1 h2 => hc.block g h2 (fun hm => by rcases hS g hm with h | h <;> omega)
theorem row_mono {w : World} {base base' : Nat} {e : TypeId} {k n : Nat} {v : Value} {xs : List Value} (h : w.ownsRow base e k v n xs) (hb : base' ≤ base) : w.ownsRow base' e k v n xs := by
  refine ⟨h.1, ?_⟩
  rcases h.2 with h2 | ⟨g, cap, cur, h1, h2, h3⟩
  · exact .inl h2
  · exact .inr ⟨g, cap, cur, h1, Nat.le_trans hb h2, h3⟩
theorem row_base {w : World} {base : Nat} {e : TypeId} {k n g : Nat} {v : Value} {xs : List Value} (h : w.ownsRow base e k v n xs) (hg : v.ownBlock = some g) : base ≤ g ∧ g < w.heap.size := by
  rcases h.2 with ⟨rfl, _⟩ | ⟨g', cap, cur, rfl, h2, h3, _⟩
  · simp [Value.ownBlock] at hg
  · simp only [Value.ownBlock, Option.some.injEq] at hg
    subst hg
    exact ⟨h2, (Array.getElem?_eq_some_iff.1 h3).1⟩
theorem Box.app {w w' : World} {p : Nat} {T : TypeId} {vs : List Value} (h : Box w p T vs) {base : Nat} {e : TypeId} {k n : Nat} {v : Value} {xs : List Value} (ho : w.ownsRow base e k v n xs) (hg : w.grownBy w' v.ownBlock) (hp : p < base) : Box w' p T vs :=
  h.grown hg (fun hh => by have := (row_base ho hh.symm).1; omega)
theorem Chg.app {S : List Nat} {w0 w w' : World} (h : Chg S w0 w) {e : TypeId} {k n : Nat} {v : Value} {xs : List Value} (ho : w.ownsRow w0.heap.size e k v n xs) (hg : w.grownBy w' v.ownBlock) : Chg S w0 w' :=
  ⟨hg.os.trans h.os, hg.tape.trans h.tape, hg.output.trans h.output, Nat.le_trans h.size hg.size, fun i hi hS => (hg.block i (Nat.lt_of_lt_of_le hi h.size) (fun e => by have := (row_base ho e.symm).1; omega)).trans (h.block i hi hS)⟩
/-- Another row, of other elements, lives on. -/
theorem row_app {w w' : World} {base base' : Nat} {e e' : TypeId} {k k' n n' : Nat} {v v' : Value} {xs xs' : List Value} (h : w.ownsRow base e k v n xs) (ho : w.ownsRow base' e' k' v' n' xs') (hg : w.grownBy w' v'.ownBlock) (hne : e ≠ e') : w'.ownsRow base e k v n xs :=
  h.kept hg (row_row h ho hne)

section
variable {P : Program} {ops : Array Oper} {rest : List Oper} {o : Oper} {a : Act} {Q : Exit → Act → World → Prop}
/-- append(v, x), one element of k cells; the goal's world has the variadic's box on top. -/
theorem append_one {W : World} (base : Nat) (s x : Operand) (t e : TypeId) (z : Value) (k bytes : Nat) (ht : P.underlying t = some (.slice e))
    (hinfo : (P.info? e).map (fun i => (i.zero, i.size, i.bytes)) = some (some z, k, bytes)) (hz : z.cells.size = k) (hk : 0 < k) (hb0 : 0 < bytes)
    (v : Value) (n : Nat) (xs ys : List Value) (HO : W.ownsRow base e k v n xs) (hbase : base ≤ W.heap.size) (hl : (n + 1) * bytes ≤ 140737488355328) (hys : ys.length = k) (h1 : ∀ u ∈ ys, u.oneCell' = true)
    (hgd : o.guard = none) (ho : o.op = .call { callee := .builtin .append, args := #[s, x], argTypes := #[t, t] })
    (N : Nat) (hN : W.heap.size = N) (hs : a.eval s = v) (hx : a.eval x = .slice (some ⟨N, 0, none⟩) 1 1)
    (h : ∀ v1 w1, w1.ownsRow base e k v1 (n + 1) (xs ++ ys) → W.grownBy w1 v.ownBlock → wpList P ops Q rest (a.put o.dst v1) w1) :
    wpList P ops Q (o :: rest) a (W.alloc (.cells ys.toArray e)) := by
  obtain ⟨i0, hi, hzz⟩ := Option.map_eq_some_iff.1 hinfo
  simp only [Prod.mk.injEq] at hzz
  obtain ⟨hz0, hz1, hz2⟩ := hzz
  subst hN
  have hlen : n + 1 ≤ 140737488355328 := Nat.le_trans (Nat.le_mul_of_pos_right _ hb0) hl
  refine wpList_append_own_at (W.alloc (.cells ys.toArray e)) hgd s x t ho base e i0 z k bytes ht hi hz0 hz1 hz2 hz hk v n xs hs (HO.alloc _) ⟨W.heap.size, 0, none⟩ 1 1 ys hx (by simpa using hys)
    (World.news_of_block (cs := ys.toArray) (t := e) (fr := (0, 0)) (heap_alloc_new W _)) h1 (by simp only [maxLen]; omega) hl (by simp; omega) ?_
  intro v1 w1 hown hg _ hat
  exact h v1 w1 hown (World.grownBy.trans (World.grownBy_alloc W _ _) hg)
/-- The same as one step of a region that draws its order. -/
theorem append_step {W : World} {K : Act → World → Prop} {E : Prop} (base : Nat) (s x : Operand) (t e : TypeId) (z : Value) (k bytes : Nat) (ht : P.underlying t = some (.slice e))
    (hinfo : (P.info? e).map (fun i => (i.zero, i.size, i.bytes)) = some (some z, k, bytes)) (hz : z.cells.size = k) (hk : 0 < k) (hb0 : 0 < bytes)
    (v : Value) (n : Nat) (xs ys : List Value) (HO : W.ownsRow base e k v n xs) (hbase : base ≤ W.heap.size) (hl : (n + 1) * bytes ≤ 140737488355328) (hys : ys.length = k) (h1 : ∀ u ∈ ys, u.oneCell' = true)
    (hgd : o.guard = none) (ho : o.op = .call { callee := .builtin .append, args := #[s, x], argTypes := #[t, t] })
    (N : Nat) (hN : W.heap.size = N) (hs : a.eval s = v) (hx : a.eval x = .slice (some ⟨N, 0, none⟩) 1 1)
    (h : ∀ g c w1, w1.ownsRow base e k (.slice (some ⟨g, 0, none⟩) (n + 1) c) (n + 1) (xs ++ ys) → W.grownBy w1 v.ownBlock → K (a.put o.dst (.slice (some ⟨g, 0, none⟩) (n + 1) c)) w1) :
    if Region.wanted o (yielded ops a.tmps) = true then Oper.wp P o a (W.alloc (.cells ys.toArray e)) K Q else E := by
  obtain ⟨i0, hi, hzz⟩ := Option.map_eq_some_iff.1 hinfo
  simp only [Prod.mk.injEq] at hzz
  obtain ⟨hz0, hz1, hz2⟩ := hzz
  subst hN
  have hlen : n + 1 ≤ 140737488355328 := Nat.le_trans (Nat.le_mul_of_pos_right _ hb0) hl
  refine step_append_lies (W.alloc (.cells ys.toArray e)) hgd s x t ho base e i0 z k bytes ht hi hz0 hz1 hz2 hz hk v n xs hs (HO.alloc _) ⟨W.heap.size, 0, none⟩ 1 1 ys hx (by simpa using hys)
    (World.news_of_block (cs := ys.toArray) (t := e) (fr := (0, 0)) (heap_alloc_new W _)) h1 (by omega) (by simp only [maxLen]; omega) hl (by simp; omega) _ rfl ?_
  intro g c w1 hown hg _ _
  exact h g c w1 hown (World.grownBy.trans (World.grownBy_alloc W _ _) hg)
end

theorem flat_at {α : Type} (enc : α → List Value) {k : Nat} (henc : ∀ x, (enc x).length = k) : ∀ (xs : List α) (i : Nat) (x : α) (j : Nat) (v : Value), xs[i]? = some x → (enc x)[j]? = some v → (xs.flatMap enc)[i * k + j]? = some v
  | [], i, x, j, v, h, _ => by simp at h
  | y :: xs, 0, x, j, v, h, hv => by
    simp only [List.getElem?_cons_zero, Option.some.injEq] at h
    subst h
    rw [List.flatMap_cons, Nat.zero_mul, Nat.zero_add, List.getElem?_append_left (by exact (List.getElem?_eq_some_iff.1 hv).1)]
    exact hv
  | y :: xs, i + 1, x, j, v, h, hv => by
    rw [List.flatMap_cons, List.getElem?_append_right (by rw [henc, Nat.succ_mul]; omega), henc, show (i + 1) * k + j - k = i * k + j from by rw [Nat.succ_mul]; omega]
    exact flat_at enc henc xs i x j v (by simpa using h) hv
/-- A row of the call's own reads as a list. -/
theorem sl_of_row {α : Type} (enc : α → List Value) {k : Nat} (henc : ∀ x, (enc x).length = k) {w : World} {base : Nat} {e : TypeId} {A : Option Addr} {n c : Nat} {xs : List α} (hn : n = xs.length)
    (hl : xs.length ≤ 140737488351232) (h : w.ownsRow base e k (.slice A n c) n (xs.flatMap enc)) : Sl k (flat enc) w A xs := by
  subst hn
  refine ⟨hl, fun hne => ?_⟩
  have hpos : 0 < xs.length := List.length_pos_iff.2 hne
  rcases h.2 with ⟨_, h0⟩ | ⟨g, cap, cur, hv, hb, hh, _, _, _, hr⟩
  · omega
  · injection hv with hA _ _
    refine ⟨g, 0, hA, (Array.getElem?_eq_some_iff.1 hh).1, fun i x hx => ⟨_, rfl, fun j v hj => ?_⟩⟩
    have hc := flat_at enc henc xs i x j v hx hj
    rw [← hr, List.getElem?_take] at hc
    split at hc
    · simp only [World.cell?, hh, Nat.zero_add]
      simpa using hc
    · cases hc
end Go.Proofs.Pw
