/- The program's schema.Right: the map of the columns, and the two questions to it. -/
import Derived.Carry
import Derived.Test.YtahiodegnilodaaGreatDoorMapB
namespace Go.Proofs.Pw
open Go.RowKit

def aggC (c : PCol) : Value := .agg #[.string c.name, .int .i64 c.typ, .bool c.nn]
def mapC (cs : List PCol) : List (ByteArray × Value) := cs.map fun c => (c.name, aggC c)
def getC : List PCol → ByteArray → Option PCol
  | [], _ => none
  | c :: cs, k => if k == c.name then some c else getC cs k
def zeroC : PCol := ⟨⟨#[]⟩, 0, false⟩
theorem look_mapC (k : ByteArray) : ∀ cs : List PCol, look k (mapC cs) = (getC cs k).map aggC
  | [] => rfl
  | c :: cs => by
    show (if k == c.name then some (aggC c) else look k (mapC cs)) = (if k == c.name then some c else getC cs k).map aggC
    by_cases h : (k == c.name) = true
    · rw [if_pos h, if_pos h]; rfl
    · rw [if_neg h, if_neg h]; exact look_mapC k cs
theorem put_mapC (c : PCol) (cs : List PCol) (h : getC cs c.name = none) : putIn c.name (aggC c) (mapC cs) = mapC (cs ++ [c]) := by
  rw [putIn_none (by rw [look_mapC, h]; rfl)]
  simp [mapC]
theorem Tryz.zeroCol (w : World) : (zeroValue 45).run Tryz.prog w = .ok (aggC zeroC) w := by
  have hz : Tryz.t45.zero = some (.agg #[.string ⟨#[]⟩, .int .i64 0, .bool false]) := by kernel_rfl
  simp [zeroValue, go_sem, aggC, zeroC, hz]
theorem look1 {w : World} {b : Nat} {cs : List PCol} (h : StrMap w b (mapC cs)) (k : ByteArray) :
    (Instr.lookup 92 (.map (some b)) (.string k) false).run Tryz.prog w = .ok (aggC ((getC cs k).getD zeroC)) w := by
  rw [run_look Tryz.underlying92 Tryz.underlying9 Tryz.zeroCol h, look_mapC]
  cases getC cs k <;> rfl
theorem look2 {w : World} {b : Nat} {cs : List PCol} (h : StrMap w b (mapC cs)) (k : ByteArray) :
    (Instr.lookup 92 (.map (some b)) (.string k) true).run Tryz.prog w = .ok (.tuple #[aggC ((getC cs k).getD zeroC), .bool (getC cs k).isSome]) w := by
  rw [run_look Tryz.underlying92 Tryz.underlying9 Tryz.zeroCol h, look_mapC]
  cases getC cs k <;> rfl
theorem Tryz.fieldNN (a b c : Value) (w : World) : (Instr.field 45 (.agg #[a, b, c]) 2).run Tryz.prog w = .ok c w := by
  simp [Instr.field, go_sem, asAgg]
def nnP (cs : List PCol) (k : ByteArray) : Bool := ((getC cs k).getD zeroC).nn

set_option maxRecDepth 100000 in
set_option maxHeartbeats 400000 in
theorem right1_any (r b : Nat) (cs : List PCol) (k : ByteArray) (w : World) (hr : w.cell? ⟨r, 0, none⟩ = some (.map (some b))) (h : StrMap w b (mapC cs)) :
    Calls Tryz.prog 66 #[.string k, .pointer (some ⟨r, 0, none⟩)] w (Gives w (.bool (nnP cs k))) := by
  have hl := look1 h k
  unfold aggC at hl
  have hv : ((getC cs k).getD zeroC).nn = nnP cs k := rfl
  generalize (getC cs k).getD zeroC = c at *
  have hf := Tryz.fieldNN
  go_enter Tryz.func66, Tryz.ntmps66
  go_wp2_with fail
  go_ret
  exact ⟨rfl, Below.refl _ _⟩

set_option maxRecDepth 100000 in
set_option maxHeartbeats 400000 in
theorem right2_any (r b : Nat) (cs : List PCol) (k : ByteArray) (w : World) (hr : w.cell? ⟨r, 0, none⟩ = some (.map (some b))) (h : StrMap w b (mapC cs)) :
    Calls Tryz.prog 67 #[.string k, .pointer (some ⟨r, 0, none⟩)] w (Gives w (.bool (getC cs k).isSome)) := by
  have hl := look2 h k
  unfold aggC at hl
  generalize (getC cs k).isSome = v at *
  generalize (getC cs k).getD zeroC = c at *
  go_enter Tryz.func67, Tryz.ntmps67
  go_wp2_with fail
  go_ret
  exact ⟨rfl, below_new _ _⟩
end Go.Proofs.Pw
