/- Maps with texts as keys: what look-up and store do. Nothing of the program. -/
import Derived.Test.YtahiodegnilodaaGreatDoorBx
import Derived.Maps.OwnOps
namespace Go.Proofs.Pw
open Go.RowKit

/-- Block b is a map that holds m, in the order in which the keys came. -/
def StrMap (w : World) (b : Nat) (m : List (ByteArray × Value)) : Prop :=
  ∃ es clock, w.heap[b]? = some (.map es clock) ∧ es.toList.map (fun e => (e.key, e.val)) = m.map fun p => (Value.string p.1, p.2)
def look (k : ByteArray) : List (ByteArray × Value) → Option Value
  | [] => none
  | p :: m => if k == p.1 then some p.2 else look k m
def putIn (k : ByteArray) (v : Value) : List (ByteArray × Value) → List (ByteArray × Value)
  | [] => [(k, v)]
  | p :: m => if k == p.1 then (k, v) :: m else p :: putIn k v m
theorem StrMap.lt {w : World} {b : Nat} {m : List (ByteArray × Value)} (h : StrMap w b m) : b < w.heap.size := by
  obtain ⟨es, clock, h, _⟩ := h
  exact (Array.getElem?_eq_some_iff.1 h).1
theorem StrMap.keep {w w' : World} {b : Nat} {m : List (ByteArray × Value)} (h : StrMap w b m) (hb : w'.heap[b]? = w.heap[b]?) : StrMap w' b m := by
  obtain ⟨es, clock, h1, h2⟩ := h
  exact ⟨es, clock, hb.trans h1, h2⟩
theorem StrMap.below {w w' : World} {b : Nat} {m : List (ByteArray × Value)} (h : StrMap w b m) (hb : Below w.heap.size w w') : StrMap w' b m := h.keep (hb.block b h.lt)
theorem StrMap.chg {w w' : World} {b : Nat} {m : List (ByteArray × Value)} (h : StrMap w b m) {S : List Nat} (hb : Chg S w w') (hn : b ∉ S) : StrMap w' b m := h.keep (hb.block b h.lt hn)
theorem StrMap.new (w : World) : StrMap (w.alloc (.map #[] 0)) w.heap.size [] := ⟨#[], 0, by show (w.heap.push _)[w.heap.size]? = _; simp, rfl⟩

/-- What the model's search says. -/
def Found (k : ByteArray) (es : List MapEntry) (m : List (ByteArray × Value)) (i : Nat) : Option (Option (Nat × Value)) → Prop
  | none => False
  | some none => look k m = none
  | some (some (j, v)) => i ≤ j ∧ look k m = some v ∧ (es[j - i]?).map (·.key) = some (.string k) ∧
      ∀ v', (es.modify (j - i) fun e => { e with key := .string k, val := v' }).map (fun e => (e.key, e.val)) = (putIn k v' m).map fun p => (Value.string p.1, p.2)
theorem findNow_str (k : ByteArray) : ∀ (es : List MapEntry) (m : List (ByteArray × Value)) (i : Nat), es.map (fun e => (e.key, e.val)) = m.map (fun p => (Value.string p.1, p.2)) →
    Found k es m i (Instr.findNow .string (.string k) es i)
  | [], m, i, h => by
    have hm : m = [] := by simpa using h.symm
    subst hm
    exact (rfl : look k [] = none)
  | e :: es, [], i, h => by simp at h
  | e :: es, p :: m, i, h => by
    simp only [List.map_cons, List.cons.injEq, Prod.mk.injEq] at h
    obtain ⟨⟨hk, hv⟩, ht⟩ := h
    by_cases hkp : (k == p.1) = true
    · have hf : Instr.findNow .string (.string k) (e :: es) i = some (some (i, e.val)) := by simp [Instr.findNow, Instr.sameNow, hk, hkp]
      rw [hf]
      exact ⟨Nat.le_refl _, by simp [look, hkp, hv], by simp [hk, (MapKept.bytes_beq k p.1).1 hkp], fun v' => by simp [putIn, hkp, ht]⟩
    · have hkp' : (k == p.1) = false := by simpa using hkp
      have hf : Instr.findNow .string (.string k) (e :: es) i = Instr.findNow .string (.string k) es (i + 1) := by simp [Instr.findNow, Instr.sameNow, hk, hkp']
      rw [hf]
      have ih := findNow_str k es m (i + 1) ht
      cases hr : Instr.findNow .string (.string k) es (i + 1) with
      | none => rw [hr] at ih; exact ih.elim
      | some r =>
        rw [hr] at ih
        cases r with
        | none =>
          have ih' : look k m = none := ih
          show look k (p :: m) = none
          simp [look, hkp', ih']
        | some q =>
          obtain ⟨j, v⟩ := q
          obtain ⟨g1, g2, g3, g4⟩ := ih
          have hji : j - i = (j - (i + 1)) + 1 := by omega
          refine ⟨by omega, by simp [look, hkp', g2], by rw [hji, List.getElem?_cons_succ]; exact g3, fun v' => ?_⟩
          rw [hji, List.modify_succ_cons]
          simp [putIn, hkp', hk, hv, g4 v']

theorem run_check {P : Program} {K : TypeId} (hk : P.underlying K = some .string) (e : Bool) (k : ByteArray) (w : World) : (Instr.checkKey e 10000 K (.string k)).run P w = .ok () w := by
  show (Instr.checkKey e (9999 + 1) K (.string k)).run P w = .ok () w
  have hu' := run_underlying hk
  unfold Instr.checkKey
  simp [go_sem, hu']

/-- What a look-up that was not there gives, or what was there. -/
theorem run_look {P : Program} {T K E : TypeId} {z : Value} (ht : P.underlying T = some (.map K E)) (hk : P.underlying K = some .string) (hz : ∀ w, (zeroValue E).run P w = .ok z w) {w : World} {b : Nat} {m : List (ByteArray × Value)} (h : StrMap w b m) (k : ByteArray) (ok : Bool) :
    (Instr.lookup T (.map (some b)) (.string k) ok).run P w = .ok (if ok then .tuple #[(look k m).getD z, .bool (look k m).isSome] else (look k m).getD z) w := by
  obtain ⟨es, clock, hb, hes⟩ := h
  have hf := findNow_str k es.toList m 0 hes
  have hu := run_underlying ht
  have hu' := run_underlying hk
  cases hr : Instr.findNow .string (.string k) es.toList 0 with
  | none => rw [hr] at hf; exact hf.elim
  | some r =>
    rw [hr] at hf
    have hfk : (Instr.findKey K (.string k) es.toList).run P w = .ok r w := by
      unfold Instr.findKey
      simp [go_sem, hu', hr]
    cases r with
    | none =>
      have hl : look k m = none := hf
      cases ok <;> simp [Instr.lookup, hu, MapKept.run_getObj_map hb, run_check hk, hfk, hz, hl, Result.andThen]
    | some q =>
      obtain ⟨j, v⟩ := q
      have hl : look k m = some v := hf.2.1
      cases ok <;> simp [Instr.lookup, hu, MapKept.run_getObj_map hb, run_check hk, hfk, hl, Result.andThen]

theorem putIn_none {k : ByteArray} {v : Value} : ∀ {m : List (ByteArray × Value)}, look k m = none → putIn k v m = m ++ [(k, v)]
  | [], _ => rfl
  | p :: m, h => by
    unfold look at h
    split at h
    · exact absurd h (by simp)
    · rename_i hn
      have hn' : (k == p.1) = false := by simpa using hn
      unfold putIn
      rw [hn', if_neg (by simp), putIn_none h]
      rfl
theorem putGrown {w : World} {b : Nat} (o : Obj) (hb : b < w.heap.size) : w.grownBy { w with heap := w.heap.setIfInBounds b o } (some b) :=
  ⟨rfl, rfl, rfl, by simp, fun i hi hn => by
    show (w.heap.setIfInBounds b o)[i]? = w.heap[i]?
    rw [Array.getElem?_setIfInBounds_ne (fun e => hn (by rw [e]))]⟩
/-- A store: the map holds it then; nothing else has turned. -/
theorem run_put {P : Program} {T K E : TypeId} (ht : P.underlying T = some (.map K E)) (hk : P.underlying K = some .string) {w : World} {b : Nat} {m : List (ByteArray × Value)} (h : StrMap w b m) (k : ByteArray) (v : Value) :
    ∃ w', (Instr.mapUpdate T (.map (some b)) (.string k) v).run P w = .ok () w' ∧ StrMap w' b (putIn k v m) ∧ w.grownBy w' (some b) := by
  obtain ⟨es, clock, hb, hes⟩ := h
  have hf := findNow_str k es.toList m 0 hes
  have hu := run_underlying ht
  have hu' := run_underlying hk
  have hlt : b < w.heap.size := (Array.getElem?_eq_some_iff.1 hb).1
  have key : ∀ es' clock', es'.toList.map (fun e => (e.key, e.val)) = (putIn k v m).map (fun p => (Value.string p.1, p.2)) →
      StrMap { w with heap := w.heap.setIfInBounds b (.map es' clock') } b (putIn k v m) ∧ w.grownBy { w with heap := w.heap.setIfInBounds b (.map es' clock') } (some b) := fun es' clock' he =>
    ⟨⟨es', clock', by simp [hlt], he⟩, putGrown _ hlt⟩
  cases hr : Instr.findNow .string (.string k) es.toList 0 with
  | none => rw [hr] at hf; exact hf.elim
  | some r =>
    rw [hr] at hf
    have hfk : (Instr.findKey K (.string k) es.toList).run P w = .ok r w := by
      unfold Instr.findKey
      simp [go_sem, hu', hr]
    cases r with
    | none =>
      have hl : look k m = none := hf
      refine ⟨_, ?_, key (es.push { key := .string k, val := v, born := clock }) (clock + 1) ?_⟩
      · simp [Instr.mapUpdate, hu, MapKept.run_getObj_map hb, run_check hk, hfk, MapKept.run_setObj_map _ hb, Result.andThen]
      · simp [hes, putIn_none hl]
    | some q =>
      obtain ⟨j, v0⟩ := q
      obtain ⟨_, _, g3, g4⟩ := hf
      rw [Nat.sub_zero] at g3 g4
      obtain ⟨e0, he0, hk0⟩ := Option.map_eq_some_iff.1 g3
      have he0' : es[j]? = some e0 := by simpa using he0
      refine ⟨_, ?_, key (es.modify j fun e => { e with key := .string k, val := v }) clock ?_⟩
      · have hst : (Instr.keyThatStays e0.key (.string k)).run P w = .ok (.string k) w := by
          rw [hk0]
          show (Instr.keyThatStays _ _).run P w = _
          unfold Instr.keyThatStays
          rw [if_pos (by show Instr.sameBits (9999 + 1) (.string k) (.string k) = true; show (k == k) = true; exact (MapKept.bytes_beq k k).2 rfl)]
          rfl
        simp [Instr.mapUpdate, hu, MapKept.run_getObj_map hb, run_check hk, hfk, he0', hst, MapKept.run_setObj_map _ hb, Result.andThen]
      · rw [Array.toList_modify]
        exact g4 v
end Go.Proofs.Pw
