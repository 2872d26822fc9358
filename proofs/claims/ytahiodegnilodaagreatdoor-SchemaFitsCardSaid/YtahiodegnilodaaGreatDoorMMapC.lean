/- The program's schema.Right: all, and what it asks of each text. -/
import Derived.Test.YtahiodegnilodaaGreatDoorProg
import Derived.Test.YtahiodegnilodaaGreatDoorMapA
import Derived.Test.YtahiodegnilodaaGreatDoorSchC
import Derived.Carry
namespace Go.Proofs.Pw
open Go.RowKit

set_option maxHeartbeats 1000000 in
theorem indexFunc_any (q : Nat) (p : ByteArray → Bool) (A : Option Addr) (c : Nat) (xs : List ByteArray) (w : World) (hc : Strs w A xs)
    (hF : ∀ x w', Below w.heap.size w w' → Calls Tryz.prog 111 #[.string x, .pointer (some ⟨q, 0, none⟩)] w' (Gives w' (.bool (p x)))) :
    Calls Tryz.prog 134 #[.slice A xs.length c, .func (.func 111) #[] #[.pointer (some ⟨q, 0, none⟩)]] w (fun e w' => ∃ r : Int, e = .returned (.int .i64 r) ∧ decide (0 ≤ r) = xs.any p ∧ Below w.heap.size w w') := by
  have HS := Lib.hid hc
  have HF := Lib.hid hF
  have hm := hc.1
  clear hc hF
  go_enter Tryz.func134, Tryz.ntmps134
  go_wp2
  go_loopw [8] (fun i wr => ∃ j : Nat, j ≤ xs.length ∧ i = .int .i64 j ∧ Hid ((xs.drop j).any p = xs.any p) ∧ Hid (Below w.heap.size w wr)) (fun i _ => xs.length - (intOf i).toNat)
  case atStart => exact ⟨0, by omega, rfl, rfl, Below.refl _ _⟩
  case round =>
    obtain ⟨j, hj, rfl, hq, hB⟩ := hrel
    by_cases hlt : j < xs.length
    · obtain ⟨b, off, rfl, hb, hbb, h1⟩ := strs_at (HS.out.below (flat_stable _) hB.out) hlt
      rw [drop_cons _ _ hlt, List.any_cons] at hq
      generalize hx : xs[j] = x0 at *
      clear hx HS
      go_wp2_with fail
      go_at_call 111
      refine (HF.out x0 _ hB.out).mono ?_
      rintro e w1 ⟨rfl, hb1⟩
      have HB := Lib.hid (below_next hB.out hb1)
      clear hb1
      cases hp : p x0
      · rw [hp, Bool.false_or] at hq
        go_wp2_with fail
        go_round
        case rel => exact ⟨j + 1, by omega, by go_num, hq, HB⟩
        case measure => simp [intOf]; omega
      · rw [hp, Bool.true_or] at hq
        go_wp2_with fail
        go_ret
        exact ⟨_, rfl, by rw [← hq.out]; simp, HB.out⟩
    · rw [List.drop_eq_nil_of_le (by omega)] at hq
      go_wp2
      go_ret
      exact ⟨_, rfl, by rw [← hq.out]; rfl, hB.out⟩
set_option maxHeartbeats 400000 in
theorem containsFunc_any (q : Nat) (p : ByteArray → Bool) (A : Option Addr) (c : Nat) (xs : List ByteArray) (w : World) (hc : Strs w A xs)
    (hF : ∀ x w', Below w.heap.size w w' → Calls Tryz.prog 111 #[.string x, .pointer (some ⟨q, 0, none⟩)] w' (Gives w' (.bool (p x)))) :
    Calls Tryz.prog 110 #[.slice A xs.length c, .func (.func 111) #[] #[.pointer (some ⟨q, 0, none⟩)]] w (Gives w (.bool (xs.any p))) := by
  have HI := Lib.hid (indexFunc_any q p A c xs w hc hF)
  have hm := hc.1
  clear hc hF
  go_enter Tryz.func110, Tryz.ntmps110
  go_wp2_with fail
  refine HI.out.mono ?_
  rintro e w1 ⟨r, rfl, hr, hb⟩
  have HB := Lib.hid hb
  clear hb
  go_wp2_with fail
  go_ret
  exact ⟨by rw [← hr]; rfl, HB.out⟩

set_option maxHeartbeats 400000 in
theorem all1_any1 (q r : Nat) (v : Bool) (x : ByteArray) (w : World) (hq : w.cell? ⟨q, 0, none⟩ = some (.func (.func 66) #[] #[.pointer (some ⟨r, 0, none⟩)]))
    (hF : ∀ w', Below w.heap.size w w' → Calls Tryz.prog 66 #[.string x, .pointer (some ⟨r, 0, none⟩)] w' (Gives w' (.bool v))) :
    Calls Tryz.prog 111 #[.string x, .pointer (some ⟨q, 0, none⟩)] w (Gives w (.bool (!v))) := by
  have HF := Lib.hid hF
  clear hF
  go_enter Tryz.func111, Tryz.ntmps111
  go_wp2_with fail
  go_at_call 66
  refine (HF.out _ (by first | exact Below.refl _ _ | exact below_new _ _)).mono ?_
  rintro e w1 ⟨rfl, hb⟩
  have HB := Lib.hid hb
  clear hb
  go_wp2_with fail
  go_ret
  exact ⟨rfl, HB.out⟩

set_option maxHeartbeats 400000 in
theorem all_any1 (r : Nat) (p : ByteArray → Bool) (A : Option Addr) (c : Nat) (xs : List ByteArray) (w : World) (hc : Strs w A xs)
    (hF : ∀ x w', Below w.heap.size w w' → Calls Tryz.prog 66 #[.string x, .pointer (some ⟨r, 0, none⟩)] w' (Gives w' (.bool (p x)))) :
    Calls Tryz.prog 65 #[.slice A xs.length c, .func (.func 66) #[] #[.pointer (some ⟨r, 0, none⟩)]] w (Gives w (.bool (xs.all p))) := by
  have HC := Lib.hid (containsFunc_any w.heap.size (fun x => !p x) A c xs (w.alloc (.cells #[.func (.func 66) #[] #[.pointer (some ⟨r, 0, none⟩)]] 31)) (hc.below (flat_stable _) (below_new _ _)) (fun x w' hb => all1_any1 _ r (p x) x w' ((hb.cell (by simp)).trans (by simp [go_sem])) (fun w2 hb2 => hF x w2 (below_next (below_next (below_new _ _) hb) hb2))))
  have hm := hc.1
  clear hc hF
  go_enter Tryz.func65, Tryz.ntmps65
  go_wp2_with fail
  refine HC.out.mono ?_
  rintro e w1 ⟨rfl, hb⟩
  have HB := Lib.hid (below_next (below_new _ _) hb)
  clear hb
  go_wp2_with fail
  go_ret
  refine ⟨?_, HB.out⟩
  rw [List.all_eq_not_any_not]
  rfl

set_option maxHeartbeats 400000 in
theorem all1_any2 (q r : Nat) (v : Bool) (x : ByteArray) (w : World) (hq : w.cell? ⟨q, 0, none⟩ = some (.func (.func 67) #[] #[.pointer (some ⟨r, 0, none⟩)]))
    (hF : ∀ w', Below w.heap.size w w' → Calls Tryz.prog 67 #[.string x, .pointer (some ⟨r, 0, none⟩)] w' (Gives w' (.bool v))) :
    Calls Tryz.prog 111 #[.string x, .pointer (some ⟨q, 0, none⟩)] w (Gives w (.bool (!v))) := by
  have HF := Lib.hid hF
  clear hF
  go_enter Tryz.func111, Tryz.ntmps111
  go_wp2_with fail
  go_at_call 67
  refine (HF.out _ (by first | exact Below.refl _ _ | exact below_new _ _)).mono ?_
  rintro e w1 ⟨rfl, hb⟩
  have HB := Lib.hid hb
  clear hb
  go_wp2_with fail
  go_ret
  exact ⟨rfl, HB.out⟩

set_option maxHeartbeats 400000 in
theorem all_any2 (r : Nat) (p : ByteArray → Bool) (A : Option Addr) (c : Nat) (xs : List ByteArray) (w : World) (hc : Strs w A xs)
    (hF : ∀ x w', Below w.heap.size w w' → Calls Tryz.prog 67 #[.string x, .pointer (some ⟨r, 0, none⟩)] w' (Gives w' (.bool (p x)))) :
    Calls Tryz.prog 65 #[.slice A xs.length c, .func (.func 67) #[] #[.pointer (some ⟨r, 0, none⟩)]] w (Gives w (.bool (xs.all p))) := by
  have HC := Lib.hid (containsFunc_any w.heap.size (fun x => !p x) A c xs (w.alloc (.cells #[.func (.func 67) #[] #[.pointer (some ⟨r, 0, none⟩)]] 31)) (hc.below (flat_stable _) (below_new _ _)) (fun x w' hb => all1_any2 _ r (p x) x w' ((hb.cell (by simp)).trans (by simp [go_sem])) (fun w2 hb2 => hF x w2 (below_next (below_next (below_new _ _) hb) hb2))))
  have hm := hc.1
  clear hc hF
  go_enter Tryz.func65, Tryz.ntmps65
  go_wp2_with fail
  refine HC.out.mono ?_
  rintro e w1 ⟨rfl, hb⟩
  have HB := Lib.hid (below_next (below_new _ _) hb)
  clear hb
  go_wp2_with fail
  go_ret
  refine ⟨?_, HB.out⟩
  rw [List.all_eq_not_any_not]
  rfl
end Go.Proofs.Pw
/- The program's schema.Right: the map of the columns, and the two questions to it. -/
namespace Go.Proofs.Pw
open Go.RowKit

def aggC (c : PCol) : Value := .agg #[.string c.name, .int .i64 c.typ, .bool c.nn]
def mapC (cs : List PCol) : List (ByteArray × Value) := cs.map fun c => (c.name, aggC c)
def getC : List PCol → ByteArray → Option PCol
  | [], _ => none
  | c :: cs, k => if k == c.name then some c else getC cs k
def zeroC : PCol := ⟨⟨#[]⟩, 0, false⟩
theorem look_mapC (k : ByteArray) : ∀ cs : List PCol, look k (mapC cs) = (getC cs k).map aggC
  | [] => rfl
  | c :: cs => by
    show (if k == c.name then some (aggC c) else look k (mapC cs)) = (if k == c.name then some c else getC cs k).map aggC
    by_cases h : (k == c.name) = true
    · rw [if_pos h, if_pos h]; rfl
    · rw [if_neg h, if_neg h]; exact look_mapC k cs
theorem put_mapC (c : PCol) (cs : List PCol) (h : getC cs c.name = none) : putIn c.name (aggC c) (mapC cs) = mapC (cs ++ [c]) := by
  rw [putIn_none (by rw [look_mapC, h]; rfl)]
  simp [mapC]
theorem Tryz.zeroCol (w : World) : (zeroValue 45).run Tryz.prog w = .ok (aggC zeroC) w := by
  have hz : Tryz.t45.zero = some (.agg #[.string ⟨#[]⟩, .int .i64 0, .bool false]) := by kernel_rfl
  simp [zeroValue, go_sem, aggC, zeroC, hz]
theorem look1 {w : World} {b : Nat} {cs : List PCol} (h : StrMap w b (mapC cs)) (k : ByteArray) :
    (Instr.lookup 92 (.map (some b)) (.string k) false).run Tryz.prog w = .ok (aggC ((getC cs k).getD zeroC)) w := by
  rw [run_look Tryz.underlying92 Tryz.underlying9 Tryz.zeroCol h, look_mapC]
  cases getC cs k <;> rfl
theorem look2 {w : World} {b : Nat} {cs : List PCol} (h : StrMap w b (mapC cs)) (k : ByteArray) :
    (Instr.lookup 92 (.map (some b)) (.string k) true).run Tryz.prog w = .ok (.tuple #[aggC ((getC cs k).getD zeroC), .bool (getC cs k).isSome]) w := by
  rw [run_look Tryz.underlying92 Tryz.underlying9 Tryz.zeroCol h, look_mapC]
  cases getC cs k <;> rfl
theorem Tryz.fieldNN (a b c : Value) (w : World) : (Instr.field 45 (.agg #[a, b, c]) 2).run Tryz.prog w = .ok c w := by
  simp [Instr.field, go_sem, asAgg]
def nnP (cs : List PCol) (k : ByteArray) : Bool := ((getC cs k).getD zeroC).nn

set_option maxRecDepth 100000 in
set_option maxHeartbeats 400000 in
theorem right1_any (r b : Nat) (cs : List PCol) (k : ByteArray) (w : World) (hr : w.cell? ⟨r, 0, none⟩ = some (.map (some b))) (h : StrMap w b (mapC cs)) :
    Calls Tryz.prog 66 #[.string k, .pointer (some ⟨r, 0, none⟩)] w (Gives w (.bool (nnP cs k))) := by
  have hl := look1 h k
  unfold aggC at hl
  have hv : ((getC cs k).getD zeroC).nn = nnP cs k := rfl
  generalize (getC cs k).getD zeroC = c at *
  have hf := Tryz.fieldNN
  go_enter Tryz.func66, Tryz.ntmps66
  go_wp2_with fail
  go_ret
  exact ⟨rfl, Below.refl _ _⟩

set_option maxRecDepth 100000 in
set_option maxHeartbeats 400000 in
theorem right2_any (r b : Nat) (cs : List PCol) (k : ByteArray) (w : World) (hr : w.cell? ⟨r, 0, none⟩ = some (.map (some b))) (h : StrMap w b (mapC cs)) :
    Calls Tryz.prog 67 #[.string k, .pointer (some ⟨r, 0, none⟩)] w (Gives w (.bool (getC cs k).isSome)) := by
  have hl := look2 h k
  unfold aggC at hl
  generalize (getC cs k).isSome = v at *
  generalize (getC cs k).getD zeroC = c at *
  go_enter Tryz.func67, Tryz.ntmps67
  go_wp2_with fail
  go_ret
  exact ⟨rfl, below_new _ _⟩
end Go.Proofs.Pw
