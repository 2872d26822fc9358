/- A schema among the arguments, opened. -/
import Derived.Test.YtahiodegnilodaaGreatDoorMOpA
import Derived.Test.YtahiodegnilodaaGreatDoorProg
import Derived.Lib.SmallJoins
import Derived.Test.YtahiodegnilodaaGreatDoorRefW
import Derived.Test.YtahiodegnilodaaGreatDoorFewA
namespace Go.Proofs.Pw
open Go.RowKit Go.Deep Go.Joins

theorem Tryz.cellsStr : Tryz.prog.cellsOf 9 = 1 := by kernel_rfl
theorem Tryz.bytesStr : Tryz.prog.bytesOf 9 = 16 := by kernel_rfl
theorem Tryz.cellsCol : Tryz.prog.cellsOf 45 = 3 := by kernel_rfl
theorem Tryz.bytesCol : Tryz.prog.bytesOf 45 = 32 := by kernel_rfl
theorem Tryz.cellsIdx : Tryz.prog.cellsOf 47 = 3 := by kernel_rfl
theorem Tryz.bytesIdx : Tryz.prog.bytesOf 47 = 48 := by kernel_rfl
theorem Tryz.cellsInt : Tryz.prog.cellsOf 3 = 1 := by kernel_rfl
theorem Tryz.cellsBool : Tryz.prog.cellsOf 4 = 1 := by kernel_rfl
theorem Tryz.cellsStrs : Tryz.prog.cellsOf 24 = 1 := by kernel_rfl
theorem Tryz.cellsSch : Tryz.prog.cellsOf 27 = 3 := by kernel_rfl

/-- Short enough a column. -/
def QCol (c : PCol) : Prop := QStr c.name ∧ -9223372036854775808 ≤ c.typ ∧ c.typ ≤ 9223372036854775807
def QStrs (l : List ByteArray) : Prop := l.length * 16 ≤ 140737488351232 ∧ ∀ x ∈ l, QStr x
def QIdx (x : PIdx) : Prop := QStr x.name ∧ QStrs x.cols
structure QSch (s : PSch) : Prop where
  lc : s.cols.length * 32 ≤ 140737488351232
  cs : ∀ c ∈ s.cols, QCol c
  ks : QStrs s.key
  lx : s.idx.length * 48 ≤ 140737488351232
  xs : ∀ x ∈ s.idx, QIdx x

theorem three {cs : List Value} (h : cs.length = 3) : ∃ a b c, cs = [a, b, c] := by
  match cs, h with
  | [a, b, c], _ => exact ⟨a, b, c, rfl⟩
theorem opStrs : Opens Tryz.prog 24 (RSl 1 (flat encS)) QStrs := fun H enc w n cs x hx hw => by
  obtain ⟨xs, ⟨A, c, rfl, h1⟩, h2, h3⟩ := opens_slice Tryz.underlying24 Tryz.cellsStr (by decide) (by rw [Tryz.bytesStr]; decide) (opens_string Tryz.underlying9) H enc w n cs x hx hw
  rw [Tryz.bytesStr] at h2
  exact ⟨xs, ⟨A, c, rfl, h1.1, fun hn => h1.2 hn⟩, h2, h3⟩
theorem wf64 {z : Int} (h : (Lit.int .i64 z).wf = true) : -9223372036854775808 ≤ z ∧ z ≤ 9223372036854775807 := by
  simp only [Lit.wf, Bool.and_eq_true, decide_eq_true_eq] at h
  exact h
theorem opCol : Opens Tryz.prog 45 (flat encC) QCol :=
  opens_struct3 Tryz.underlying45 (opens_string Tryz.underlying9) (opens_int Tryz.underlying3) (opens_bool Tryz.underlying4) fun w a b c cs hl r0 r1 r2 q0 q1 _ => by
    rw [Tryz.cellsCol] at hl
    obtain ⟨x, y, z, rfl⟩ := three hl
    simp only [RStr, RInt, RBool, Tryz.cellsStr, Tryz.cellsInt, Tryz.cellsBool] at r0 r1 r2
    simp at r0 r1 r2
    subst r0 r1 r2
    exact ⟨⟨a, b, c⟩, rfl, q0, wf64 q1⟩
theorem opIdx : Opens Tryz.prog 47 RIdx QIdx :=
  opens_struct3 Tryz.underlying47 (opens_string Tryz.underlying9) opStrs (opens_bool Tryz.underlying4) fun w a b c cs hl r0 r1 r2 q0 q1 _ => by
    rw [Tryz.cellsIdx] at hl
    obtain ⟨x, y, z, rfl⟩ := three hl
    obtain ⟨A, cc, r1, hA⟩ := r1
    simp only [RStr, RBool, Tryz.cellsStr, Tryz.cellsStrs, Tryz.cellsBool] at r0 r1 r2
    simp at r0 r1 r2
    subst r0 r1 r2
    exact ⟨⟨a, b, c⟩, ⟨A, cc, rfl, hA⟩, q0, q1⟩
theorem opCols : Opens Tryz.prog 23 (RSl 3 (flat encC)) (fun l => l.length * 32 ≤ 140737488351232 ∧ ∀ x ∈ l, QCol x) := fun H enc w n cs x hx hw => by
  obtain ⟨xs, h1, h2⟩ := opens_slice Tryz.underlying23 Tryz.cellsCol (by decide) (by rw [Tryz.bytesCol]; decide) opCol H enc w n cs x hx hw
  rw [Tryz.bytesCol] at h2
  exact ⟨xs, h1, h2⟩
theorem opIdxs : Opens Tryz.prog 25 (RSl 3 RIdx) (fun l => l.length * 48 ≤ 140737488351232 ∧ ∀ x ∈ l, QIdx x) := fun H enc w n cs x hx hw => by
  obtain ⟨xs, h1, h2⟩ := opens_slice Tryz.underlying25 Tryz.cellsIdx (by decide) (by rw [Tryz.bytesIdx]; decide) opIdx H enc w n cs x hx hw
  rw [Tryz.bytesIdx] at h2
  exact ⟨xs, h1, h2⟩
set_option maxRecDepth 100000 in
/-- A schema as an argument. -/
theorem open_sch {H : Type} {enc : TypeId × Value → H} {w : World} {v : Value} {d : DataW H} {p : List MemPlace} (hv : Value.okWide Tryz.prog w .any 0 27 v) (h : DataW.Trod enc Tryz.prog w 0 (fun _ => true) true 27 v d p)
    (hw : ∀ m ∈ d.weights Tryz.prog 27, m ≤ reachBytes) :
    ∃ (s : PSch) (A1 A2 A3 : Option Addr) (c1 c2 c3 : Nat), v = .agg #[.slice A1 s.cols.length c1, .slice A2 s.key.length c2, .slice A3 s.idx.length c3] ∧ RSch w s A1 A2 A3 ∧ QSch s := by
  obtain ⟨v0, v1, v2, y0, y1, y2, n, rfl, rfl, -, e0, e1, e2⟩ := open_agg3 Tryz.underlying27 (by kernel_rfl) Tryz.cellsSch hv h
  have w0 := weights_agg Tryz.underlying27 hw (j := 0) rfl rfl
  have w1 := weights_agg Tryz.underlying27 hw (j := 1) rfl rfl
  have w2 := weights_agg Tryz.underlying27 hw (j := 2) rfl rfl
  obtain ⟨cs, ⟨A1, c1, r0, R0⟩, q0⟩ := opCols H enc w n _ y0 e0 w0
  obtain ⟨ks, ⟨A2, c2, r1, R1⟩, q1⟩ := opStrs H enc w n _ y1 e1 w1
  obtain ⟨xs, ⟨A3, c3, r2, R2⟩, q2⟩ := opIdxs H enc w n _ y2 e2 w2
  simp only [List.cons.injEq, and_true] at r0 r1 r2
  subst r0 r1 r2
  exact ⟨⟨cs, ks, xs⟩, A1, A2, A3, c1, c2, c3, rfl, ⟨R0, R1, R2⟩, ⟨q0.1, q0.2, q1, q2.1, q2.2⟩⟩
end Go.Proofs.Pw
/- The program's Same and the reference's. -/
namespace Go.Proofs.Pw
open Go.RowKit

def sameF (x : ByteArray × Bool) (y : ByteArray × Bool) : Bool := if x.2 then if y.2 then x.1.toList == y.1.toList else false else false
/-- What the walks ask of a schema that Few lets by. -/
theorem PWrite_small (A1 A2 A3 : Option Addr) (c1 c2 c3 : Nat) (s : PSch) (w : World) (hs : RSch w s A1 A2 A3) (hm : Small s) :
    Calls Tryz.prog 14 #[.agg #[.slice A1 s.cols.length c1, .slice A2 s.key.length c2, .slice A3 s.idx.length c3]] w (Gives w (.tuple #[.string (writeP s).1, .bool (writeP s).2])) :=
  PWrite_any A1 A2 A3 c1 c2 c3 s w hs (fun c hc => Nat.le_trans (hm.cs c hc) (by decide)) (fun x hx => Nat.le_trans (hm.xs x hx).1 (by decide)) (by have := hm.nk; omega) (fun x hx => by have := (hm.xs x hx).2.1; omega) fits_of
theorem PRight_small (A1 A2 A3 : Option Addr) (c1 c2 c3 : Nat) (s : PSch) (w : World) (hs : RSch w s A1 A2 A3) (hm : Small s) :
    Calls Tryz.prog 24 #[.agg #[.slice A1 s.cols.length c1, .slice A2 s.key.length c2, .slice A3 s.idx.length c3]] w (Gives w (.bool (rightP s))) :=
  PRight_any A1 A2 A3 c1 c2 c3 s w hs (fun c hc => Nat.le_trans (hm.cs c hc) (by decide)) (fun x hx => Nat.le_trans (hm.xs x hx).1 (by decide)) (by have := hm.nk; omega) (fun x hx => by have := (hm.xs x hx).2.1; omega)
theorem RWrite_small (A1 A2 A3 : Option Addr) (c1 c2 c3 : Nat) (s : PSch) (w : World) (hs : RSch w s A1 A2 A3) (hm : Small s) :
    Calls Tryz.prog 23 #[.agg #[.slice A1 s.cols.length c1, .slice A2 s.key.length c2, .slice A3 s.idx.length c3]] w (Gives w (.tuple #[.string (writeP s).1, .bool (writeP s).2])) :=
  have h := RWrite_any A1 A2 A3 c1 c2 c3 s w hs (fun c hc => Nat.le_trans (hm.cs c hc) (by decide)) (fun x hx => Nat.le_trans (hm.xs x hx).1 (by decide)) (fun h => fits_of (by rw [right_eq]; exact h))
  have e : writeR s = writeP s := by unfold writeR writeP; rw [right_eq]
  e ▸ h

set_option maxRecDepth 100000 in
set_option maxHeartbeats 1000000 in
theorem PSame_any (A1 A2 A3 B1 B2 B3 : Option Addr) (c1 c2 c3 d1 d2 d3 : Nat) (s t : PSch) (w : World) (hs : RSch w s A1 A2 A3) (ht : RSch w t B1 B2 B3) (hm : Small s) (hm' : Small t) :
    Calls Tryz.prog 25 #[.agg #[.slice A1 s.cols.length c1, .slice A2 s.key.length c2, .slice A3 s.idx.length c3], .agg #[.slice B1 t.cols.length d1, .slice B2 t.key.length d2, .slice B3 t.idx.length d3]] w (Gives w (.bool (sameF (writeP s) (writeP t)))) := by
  have HS := Lib.hid (PWrite_small A1 A2 A3 c1 c2 c3 s)
  have HT := Lib.hid (PWrite_small B1 B2 B3 d1 d2 d3 t)
  have hs2 := Lib.hid (hs.below (below_next (below_new w (.cells #[.slice A1 s.cols.length c1, .slice A2 s.key.length c2, .slice A3 s.idx.length c3] 27)) (below_new _ (.cells #[.slice B1 t.cols.length d1, .slice B2 t.key.length d2, .slice B3 t.idx.length d3] 27))))
  have ht2 := Lib.hid (ht.below (below_next (below_new w (.cells #[.slice A1 s.cols.length c1, .slice A2 s.key.length c2, .slice A3 s.idx.length c3] 27)) (below_new _ (.cells #[.slice B1 t.cols.length d1, .slice B2 t.key.length d2, .slice B3 t.idx.length d3] 27))))
  have Hm := Lib.hid hm
  have Hm' := Lib.hid hm'
  clear hs ht hm hm'
  generalize writeP s = x at *
  generalize writeP t = y at *
  obtain ⟨x, ok⟩ := x
  obtain ⟨y, fine⟩ := y
  go_enter Tryz.func25, Tryz.ntmps25
  go_wp2_with fail
  refine (HS.out _ hs2.out Hm.out).mono ?_
  rintro e w1 ⟨rfl, hb1⟩
  obtain ⟨hc1, hf1⟩ := bcell hb1
  have hz : w.heap.size + 1 < w1.heap.size := by have := hb1.size; simp at this; omega
  have HB1 := Lib.hid (below_next (below_next (below_new w _) (below_new _ _)) hb1)
  have ht3 := Lib.hid (ht2.out.below hb1)
  clear hb1
  dsimp only
  go_wp2_with fail
  refine (HT.out _ ht3.out Hm'.out).mono ?_
  rintro e w2 ⟨rfl, hb2⟩
  have HB2 := Lib.hid (below_next HB1.out hb2)
  clear hb2 hc1 hf1
  dsimp only
  cases ok
  · cases fine
    · go_wp2_with fail
      go_ret
      exact ⟨rfl, HB2.out⟩
    · go_wp2_with fail
      go_ret
      exact ⟨rfl, HB2.out⟩
  · cases fine
    · go_wp2_with fail
      go_ret
      exact ⟨rfl, HB2.out⟩
    · go_wp2_with fail
      go_ret
      exact ⟨rfl, HB2.out⟩
set_option maxRecDepth 100000 in
set_option maxHeartbeats 1000000 in
theorem RSame_any (A1 A2 A3 B1 B2 B3 : Option Addr) (c1 c2 c3 d1 d2 d3 : Nat) (s t : PSch) (w : World) (hs : RSch w s A1 A2 A3) (ht : RSch w t B1 B2 B3) (hm : Small s) (hm' : Small t) :
    Calls Tryz.prog 26 #[.agg #[.slice A1 s.cols.length c1, .slice A2 s.key.length c2, .slice A3 s.idx.length c3], .agg #[.slice B1 t.cols.length d1, .slice B2 t.key.length d2, .slice B3 t.idx.length d3]] w (Gives w (.bool (sameF (writeP s) (writeP t)))) := by
  have HS := Lib.hid (RWrite_small A1 A2 A3 c1 c2 c3 s)
  have HT := Lib.hid (RWrite_small B1 B2 B3 d1 d2 d3 t)
  have hs2 := Lib.hid (hs.below (below_next (below_new w (.cells #[.slice A1 s.cols.length c1, .slice A2 s.key.length c2, .slice A3 s.idx.length c3] 27)) (below_new _ (.cells #[.slice B1 t.cols.length d1, .slice B2 t.key.length d2, .slice B3 t.idx.length d3] 27))))
  have ht2 := Lib.hid (ht.below (below_next (below_new w (.cells #[.slice A1 s.cols.length c1, .slice A2 s.key.length c2, .slice A3 s.idx.length c3] 27)) (below_new _ (.cells #[.slice B1 t.cols.length d1, .slice B2 t.key.length d2, .slice B3 t.idx.length d3] 27))))
  have Hm := Lib.hid hm
  have Hm' := Lib.hid hm'
  clear hs ht hm hm'
  generalize writeP s = x at *
  generalize writeP t = y at *
  obtain ⟨x, ok⟩ := x
  obtain ⟨y, fine⟩ := y
  go_enter Tryz.func26, Tryz.ntmps26
  go_wp2_with fail
  refine (HS.out _ hs2.out Hm.out).mono ?_
  rintro e w1 ⟨rfl, hb1⟩
  obtain ⟨hc1, hf1⟩ := bcell hb1
  have hz : w.heap.size + 1 < w1.heap.size := by have := hb1.size; simp at this; omega
  have HB1 := Lib.hid (below_next (below_next (below_new w _) (below_new _ _)) hb1)
  have ht3 := Lib.hid (ht2.out.below hb1)
  clear hb1
  dsimp only
  go_wp2_with fail
  refine (HT.out _ ht3.out Hm'.out).mono ?_
  rintro e w2 ⟨rfl, hb2⟩
  have HB2 := Lib.hid (below_next HB1.out hb2)
  clear hb2 hc1 hf1
  dsimp only
  cases ok
  · cases fine
    · go_wp2_with fail
      go_ret
      exact ⟨rfl, HB2.out⟩
    · go_wp2_with fail
      go_ret
      exact ⟨rfl, HB2.out⟩
  · cases fine
    · go_wp2_with fail
      go_ret
      exact ⟨rfl, HB2.out⟩
    · go_wp2_with fail
      go_ret
      exact ⟨rfl, HB2.out⟩
end Go.Proofs.Pw
