/- The program's writer: strings.Builder in a block of the writer's own type. -/
import Derived.Lib.Builder
import Derived.Lib.AppendStr
import Derived.Lib.UnsafeStr
import Derived.Test.YtahiodegnilodaaGreatDoorBx
import Derived.Test.YtahiodegnilodaaGreatDoorSchA
namespace Go.Proofs.Pw
open Go.RowKit

theorem Tryz.infoByte : (Tryz.prog.info? 5).map (fun i => (i.zero, i.size, i.bytes)) = some (some (.int .u8 0), 1, 1) := by kernel_rfl
theorem Tryz.sizeBld : (Tryz.prog.info? 79).map (fun i => i.size) = some 2 := by kernel_rfl
theorem Tryz.liesBld : liesAt Tryz.prog Tryz.prog.depth 81 (2 / Tryz.prog.cellsOf 81) 0 79 1 = true := by kernel_rfl

/-- Only the writer's block b and rows of bytes behind it turn. -/
def WStep (b : Nat) (w w' : World) : Prop :=
  Below b w w' ∧ ∀ k T vs, T ≠ 5 → k ≠ b → Box w k T vs → Box w' k T vs
theorem WStep.refl (b : Nat) (w : World) : WStep b w w := ⟨Below.refl _ _, fun _ _ _ _ _ h => h⟩
theorem WStep.trans {b : Nat} {w w1 w2 : World} (h : WStep b w w1) (k : WStep b w1 w2) : WStep b w w2 :=
  ⟨h.1.trans k.1, fun i T vs hT hi hb => k.2 i T vs hT hi (h.2 i T vs hT hi hb)⟩
theorem WStep.grown {b : Nat} {w w' : World} (h : w.grownBy w' (some b)) (hz : b ≤ w.heap.size) : WStep b w w' :=
  ⟨⟨h.os, h.tape, h.output, h.size, fun k hk => h.block k (by omega) (fun e => by cases e; exact Nat.lt_irrefl _ hk)⟩, fun k T vs _ hk hb => hb.grown h (fun e => hk (by cases e; rfl))⟩
theorem WStep.row {b base : Nat} {w w' : World} {n : Nat} {v : Value} {xs : List Value} (ho : w.ownsRow base 5 1 v n xs) (h : w.grownBy w' v.ownBlock) (hb : b < base) (hz : b ≤ w.heap.size) : WStep b w w' :=
  ⟨⟨h.os, h.tape, h.output, h.size, fun k hk => h.block k (by omega) (fun e => by have := (row_base ho e.symm).1; omega)⟩, fun k T vs hT hk hb => hb.row h (row_box ho hb (fun e => hT e.symm))⟩
theorem WStep.alloc {b : Nat} {w : World} (o : Obj) (hz : b ≤ w.heap.size) : WStep b w (w.alloc o) :=
  ⟨(below_new w o).mono hz, fun _ _ _ _ _ h => h.alloc o⟩
/-- The writer at b holds the bytes l. -/
def Wr (base b : Nat) (l : List UInt8) (w : World) : Prop :=
  b < base ∧ base ≤ w.heap.size ∧ ∃ p v, Box w b 81 [p, v] ∧ (p = .pointer none ∨ p = .pointer (some ⟨b, 0, none⟩)) ∧ w.ownsRow base 5 1 v l.length (Lib.byteCells l)
/-- A call that wrote. -/
def WOut (base b : Nat) (rv : Value) (l : List UInt8) (w : World) (e : Ending) (w' : World) : Prop := e = .returned rv ∧ Wr base b l w' ∧ WStep b w w'

set_option maxRecDepth 100000 in
set_option maxHeartbeats 1000000 in
theorem copyCheck_any (b : Nat) (p v : Value) (w : World) (hb : Box w b 81 [p, v]) (hp : p = .pointer none ∨ p = .pointer (some ⟨b, 0, none⟩)) :
    Calls Tryz.prog 123 #[.pointer (some ⟨b, 0, none⟩)] w fun e w' => e = .returned (.tuple #[]) ∧ Box w' b 81 [.pointer (some ⟨b, 0, none⟩), v] ∧ w.grownBy w' (some b) := by
  obtain ⟨j, hj, hjs⟩ := Option.map_eq_some_iff.1 Tryz.sizeBld
  have h0 := hb.cell 0 rfl
  have f0 := hb.frozen 0
  have HB := Lib.hid hb
  have hsh : w.shape? b = some (81, 2) := by
    unfold Box at hb
    simp [World.shape?, hb]
  clear hb
  rcases hp with rfl | rfl
  · go_enter Tryz.func123, Tryz.ntmps123
    go_wp2_with fail
    rw [Lib.run_to_unsafe w ⟨b, 0, none⟩ Tryz.underlying76 Tryz.underlying157 hj (by rw [hjs]; decide) hsh (Nat.zero_lt_succ 1)]
    simp only [Result.andThen]
    rw [Oper.upon_value]
    go_wp2_with fail
    rw [run_callFunc_extern Tryz.func140 (by kernel_rfl) (by kernel_rfl) (by kernel_rfl) (e := Extern.AbiNoEscape.same) (by kernel_rfl)]
    rw [Lib.run_noEscape]
    simp only [Result.andThen]
    rw [Oper.upon_value]
    go_wp2_with fail
    rw [Lib.run_from_unsafe w ⟨b, 0, none⟩ Tryz.underlying157 Tryz.underlying76 hj hsh Tryz.liesBld]
    simp only [Result.andThen]
    rw [Oper.upon_value]
    go_wp2_with fail
    go_end0
    exact ⟨rfl, HB.out.set 0 _, grown_set _ _ _ _⟩
  · go_enter Tryz.func123, Tryz.ntmps123
    go_wp2_with fail
    rw [Lib.run_neq_ptr_same w _ Tryz.underlying76 hj]
    go_wp2_with fail
    go_end0
    exact ⟨rfl, HB.out, grown_refl _ _⟩

set_option maxRecDepth 100000 in
set_option maxHeartbeats 1000000 in
theorem writeByte_any (base b : Nat) (l : List UInt8) (c : UInt8) (w : World) (h : Wr base b l w) (hl : l.length + 1 ≤ 140737488355328) :
    Calls Tryz.prog 98 #[.pointer (some ⟨b, 0, none⟩), .int .u8 c.toNat] w (WOut base b .nilIface (l ++ [c]) w) := by
  obtain ⟨hbb, hbz, p, v, hB, hp, hR⟩ := h
  have hblt := hB.lt
  have HB := Lib.hid hB
  have HR := Lib.hid hR
  clear hB hR
  go_enter Tryz.func98, Tryz.ntmps98
  go_wp2_with fail
  refine (copyCheck_any b p v _ HB.out hp).mono ?_
  rintro e w1 ⟨rfl, hB1, hg1⟩
  have HS1 := Lib.hid (WStep.grown hg1 (by omega))
  have HR1 := Lib.hid (row_grown HR.out hg1 (fun e => by have := (row_base HR.out e).1; omega))
  have hz1 : base ≤ w1.heap.size := Nat.le_trans hbz hg1.size
  have c1 := hB1.cell 1 rfl
  have f1 := hB1.frozen 1
  have HB1 := Lib.hid hB1
  clear hB1 hg1 HB HR
  obtain ⟨A, cc, rfl⟩ := row_form HR1.out
  go_wp2_with (at_builtin; go_loud (refine append_one base _ _ 77 5 _ 1 1 Tryz.underlying77 Tryz.infoByte rfl (by decide) (by decide) (.slice A l.length cc) l.length (Lib.byteCells l) [.int .u8 c.toNat] HR1.out hz1 (by omega) rfl (by simp [Value.oneCell']) rfl rfl w1.heap.size rfl rfl rfl ?_); intro v1 w5 hO6 hg6; obtain ⟨A1, c1', rfl⟩ := row_form hO6; have m0 := (HB1.out.app HR1.out hg6 (by omega)).cell 1 rfl; have mf := (HB1.out.app HR1.out hg6 (by omega)).frozen 1; have HG6 := Lib.hid hg6; clear hg6; have HO6 := Lib.hid hO6; clear hO6)
  go_ret
  have hB6 := HB1.out.app HR1.out HG6.out (by omega)
  have hz6 := HG6.out.size
  have hs6 := (HS1.out.trans (WStep.row HR1.out HG6.out hbb (by omega))).trans (WStep.grown (grown_set w5 b 1 (.slice A1 (l.length + 1) c1')) (by omega))
  refine ⟨rfl, ⟨hbb, by simp [World.setCell]; omega, _, _, hB6.set 1 (.slice A1 (l.length + 1) c1'), .inr rfl, ?_⟩, hs6⟩
  have hr := row_set (q := b) HO6.out (fun e => by have := (row_base HO6.out e).1; omega) 1 (.slice A1 (l.length + 1) c1')
  simpa [Lib.byteCells] using hr

set_option maxRecDepth 100000 in
set_option maxHeartbeats 1000000 in
theorem writeString_any (base b : Nat) (l : List UInt8) (s : ByteArray) (w : World) (h : Wr base b l w) (hl : l.length + s.size ≤ 140737488355328) :
    Calls Tryz.prog 99 #[.pointer (some ⟨b, 0, none⟩), .string s] w (WOut base b (.tuple #[.int .i64 s.size, .nilIface]) (l ++ s.data.toList) w) := by
  obtain ⟨hbb, hbz, p, v, hB, hp, hR⟩ := h
  have hblt := hB.lt
  have HB := Lib.hid hB
  have HR := Lib.hid hR
  clear hB hR
  obtain ⟨i0, hi, hz0, hz1, hz2⟩ := info_parts Tryz.infoByte
  go_enter Tryz.func99, Tryz.ntmps99
  go_wp2_with fail
  refine (copyCheck_any b p v _ HB.out hp).mono ?_
  rintro e w1 ⟨rfl, hB1, hg1⟩
  have HS1 := Lib.hid (WStep.grown hg1 (by omega))
  have HR1 := Lib.hid (row_grown HR.out hg1 (fun e => by have := (row_base HR.out e).1; omega))
  have hz1' : base ≤ w1.heap.size := Nat.le_trans hbz hg1.size
  have c1 := hB1.cell 1 rfl
  have f1 := hB1.frozen 1
  have HB1 := Lib.hid hB1
  clear hB1 hg1 HB HR
  obtain ⟨A, cc, rfl⟩ := row_form HR1.out
  go_wp2_with (at_builtin; go_loud (refine Lib.wpList_append_own_string _ rfl _ _ 77 9 rfl base 5 i0 Tryz.underlying77 Tryz.underlying9 hi hz0 hz1 hz2 (.slice A l.length cc) l.length (Lib.byteCells l) rfl HR1.out s rfl (by unfold maxLen; omega) hl hz1' ?_); intro v1 w5 hO6 hg6 _; obtain ⟨A1, c1', rfl⟩ := row_form hO6; have m0 := (HB1.out.app HR1.out hg6 (by omega)).cell 1 rfl; have mf := (HB1.out.app HR1.out hg6 (by omega)).frozen 1; have HG6 := Lib.hid hg6; clear hg6; have HO6 := Lib.hid hO6; clear hO6)
  go_ret2
  have hB6 := HB1.out.app HR1.out HG6.out (by omega)
  have hz6 := HG6.out.size
  have hs6 := (HS1.out.trans (WStep.row HR1.out HG6.out hbb (by omega))).trans (WStep.grown (grown_set w5 b 1 (.slice A1 (l.length + s.size) c1')) (by omega))
  refine ⟨rfl, ⟨hbb, by simp [World.setCell]; omega, _, _, hB6.set 1 (.slice A1 (l.length + s.size) c1'), .inr rfl, ?_⟩, hs6⟩
  have hr := row_set (q := b) HO6.out (fun e => by have := (row_base HO6.out e).1; omega) 1 (.slice A1 (l.length + s.size) c1')
  have hln : (l ++ s.data.toList).length = l.length + s.size := by rw [List.length_append, Array.length_toList]; rfl
  rw [hln]
  simpa [Lib.byteCells, Lib.strCells] using hr
end Go.Proofs.Pw
