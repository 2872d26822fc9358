/- The program's Same and the reference's. -/
import Derived.Test.YtahiodegnilodaaGreatDoorRefW
import Derived.Test.YtahiodegnilodaaGreatDoorFewA
import Derived.Test.YtahiodegnilodaaGreatDoorPureE
import Derived.Test.YtahiodegnilodaaGreatDoorOpB
namespace Go.Proofs.Pw
open Go.RowKit

def sameF (x : ByteArray × Bool) (y : ByteArray × Bool) : Bool := if x.2 then if y.2 then x.1.toList == y.1.toList else false else false
/-- What the walks ask of a schema that Few lets by. -/
theorem PWrite_small (A1 A2 A3 : Option Addr) (c1 c2 c3 : Nat) (s : PSch) (w : World) (hs : RSch w s A1 A2 A3) (hm : Small s) :
    Calls Tryz.prog 14 #[.agg #[.slice A1 s.cols.length c1, .slice A2 s.key.length c2, .slice A3 s.idx.length c3]] w (Gives w (.tuple #[.string (writeP s).1, .bool (writeP s).2])) :=
  PWrite_any A1 A2 A3 c1 c2 c3 s w hs (fun c hc => Nat.le_trans (hm.cs c hc) (by decide)) (fun x hx => Nat.le_trans (hm.xs x hx).1 (by decide)) (by have := hm.nk; omega) (fun x hx => by have := (hm.xs x hx).2.1; omega) fits_of
theorem PRight_small (A1 A2 A3 : Option Addr) (c1 c2 c3 : Nat) (s : PSch) (w : World) (hs : RSch w s A1 A2 A3) (hm : Small s) :
    Calls Tryz.prog 24 #[.agg #[.slice A1 s.cols.length c1, .slice A2 s.key.length c2, .slice A3 s.idx.length c3]] w (Gives w (.bool (rightP s))) :=
  PRight_any A1 A2 A3 c1 c2 c3 s w hs (fun c hc => Nat.le_trans (hm.cs c hc) (by decide)) (fun x hx => Nat.le_trans (hm.xs x hx).1 (by decide)) (by have := hm.nk; omega) (fun x hx => by have := (hm.xs x hx).2.1; omega)
theorem RWrite_small (A1 A2 A3 : Option Addr) (c1 c2 c3 : Nat) (s : PSch) (w : World) (hs : RSch w s A1 A2 A3) (hm : Small s) :
    Calls Tryz.prog 23 #[.agg #[.slice A1 s.cols.length c1, .slice A2 s.key.length c2, .slice A3 s.idx.length c3]] w (Gives w (.tuple #[.string (writeP s).1, .bool (writeP s).2])) :=
  have h := RWrite_any A1 A2 A3 c1 c2 c3 s w hs (fun c hc => Nat.le_trans (hm.cs c hc) (by decide)) (fun x hx => Nat.le_trans (hm.xs x hx).1 (by decide)) (fun h => fits_of (by rw [right_eq]; exact h))
  have e : writeR s = writeP s := by unfold writeR writeP; rw [right_eq]
  e ▸ h

set_option maxRecDepth 100000 in
set_option maxHeartbeats 1000000 in
theorem PSame_any (A1 A2 A3 B1 B2 B3 : Option Addr) (c1 c2 c3 d1 d2 d3 : Nat) (s t : PSch) (w : World) (hs : RSch w s A1 A2 A3) (ht : RSch w t B1 B2 B3) (hm : Small s) (hm' : Small t) :
    Calls Tryz.prog 25 #[.agg #[.slice A1 s.cols.length c1, .slice A2 s.key.length c2, .slice A3 s.idx.length c3], .agg #[.slice B1 t.cols.length d1, .slice B2 t.key.length d2, .slice B3 t.idx.length d3]] w (Gives w (.bool (sameF (writeP s) (writeP t)))) := by
  have HS := Lib.hid (PWrite_small A1 A2 A3 c1 c2 c3 s)
  have HT := Lib.hid (PWrite_small B1 B2 B3 d1 d2 d3 t)
  have hs2 := Lib.hid (hs.below (below_next (below_new w (.cells #[.slice A1 s.cols.length c1, .slice A2 s.key.length c2, .slice A3 s.idx.length c3] 27)) (below_new _ (.cells #[.slice B1 t.cols.length d1, .slice B2 t.key.length d2, .slice B3 t.idx.length d3] 27))))
  have ht2 := Lib.hid (ht.below (below_next (below_new w (.cells #[.slice A1 s.cols.length c1, .slice A2 s.key.length c2, .slice A3 s.idx.length c3] 27)) (below_new _ (.cells #[.slice B1 t.cols.length d1, .slice B2 t.key.length d2, .slice B3 t.idx.length d3] 27))))
  have Hm := Lib.hid hm
  have Hm' := Lib.hid hm'
  clear hs ht hm hm'
  generalize writeP s = x at *
  generalize writeP t = y at *
  obtain ⟨x, ok⟩ := x
  obtain ⟨y, fine⟩ := y
  go_enter Tryz.func25, Tryz.ntmps25
  go_wp2_with fail
  refine (HS.out _ hs2.out Hm.out).mono ?_
  rintro e w1 ⟨rfl, hb1⟩
  obtain ⟨hc1, hf1⟩ := bcell hb1
  have hz : w.heap.size + 1 < w1.heap.size := by have := hb1.size; simp at this; omega
  have HB1 := Lib.hid (below_next (below_next (below_new w _) (below_new _ _)) hb1)
  have ht3 := Lib.hid (ht2.out.below hb1)
  clear hb1
  dsimp only
  go_wp2_with fail
  refine (HT.out _ ht3.out Hm'.out).mono ?_
  rintro e w2 ⟨rfl, hb2⟩
  have HB2 := Lib.hid (below_next HB1.out hb2)
  clear hb2 hc1 hf1
  dsimp only
  cases ok
  · cases fine
    · go_wp2_with fail
      go_ret
      exact ⟨rfl, HB2.out⟩
    · go_wp2_with fail
      go_ret
      exact ⟨rfl, HB2.out⟩
  · cases fine
    · go_wp2_with fail
      go_ret
      exact ⟨rfl, HB2.out⟩
    · go_wp2_with fail
      go_ret
      exact ⟨rfl, HB2.out⟩
set_option maxRecDepth 100000 in
set_option maxHeartbeats 1000000 in
theorem RSame_any (A1 A2 A3 B1 B2 B3 : Option Addr) (c1 c2 c3 d1 d2 d3 : Nat) (s t : PSch) (w : World) (hs : RSch w s A1 A2 A3) (ht : RSch w t B1 B2 B3) (hm : Small s) (hm' : Small t) :
    Calls Tryz.prog 26 #[.agg #[.slice A1 s.cols.length c1, .slice A2 s.key.length c2, .slice A3 s.idx.length c3], .agg #[.slice B1 t.cols.length d1, .slice B2 t.key.length d2, .slice B3 t.idx.length d3]] w (Gives w (.bool (sameF (writeP s) (writeP t)))) := by
  have HS := Lib.hid (RWrite_small A1 A2 A3 c1 c2 c3 s)
  have HT := Lib.hid (RWrite_small B1 B2 B3 d1 d2 d3 t)
  have hs2 := Lib.hid (hs.below (below_next (below_new w (.cells #[.slice A1 s.cols.length c1, .slice A2 s.key.length c2, .slice A3 s.idx.length c3] 27)) (below_new _ (.cells #[.slice B1 t.cols.length d1, .slice B2 t.key.length d2, .slice B3 t.idx.length d3] 27))))
  have ht2 := Lib.hid (ht.below (below_next (below_new w (.cells #[.slice A1 s.cols.length c1, .slice A2 s.key.length c2, .slice A3 s.idx.length c3] 27)) (below_new _ (.cells #[.slice B1 t.cols.length d1, .slice B2 t.key.length d2, .slice B3 t.idx.length d3] 27))))
  have Hm := Lib.hid hm
  have Hm' := Lib.hid hm'
  clear hs ht hm hm'
  generalize writeP s = x at *
  generalize writeP t = y at *
  obtain ⟨x, ok⟩ := x
  obtain ⟨y, fine⟩ := y
  go_enter Tryz.func26, Tryz.ntmps26
  go_wp2_with fail
  refine (HS.out _ hs2.out Hm.out).mono ?_
  rintro e w1 ⟨rfl, hb1⟩
  obtain ⟨hc1, hf1⟩ := bcell hb1
  have hz : w.heap.size + 1 < w1.heap.size := by have := hb1.size; simp at this; omega
  have HB1 := Lib.hid (below_next (below_next (below_new w _) (below_new _ _)) hb1)
  have ht3 := Lib.hid (ht2.out.below hb1)
  clear hb1
  dsimp only
  go_wp2_with fail
  refine (HT.out _ ht3.out Hm'.out).mono ?_
  rintro e w2 ⟨rfl, hb2⟩
  have HB2 := Lib.hid (below_next HB1.out hb2)
  clear hb2 hc1 hf1
  dsimp only
  cases ok
  · cases fine
    · go_wp2_with fail
      go_ret
      exact ⟨rfl, HB2.out⟩
    · go_wp2_with fail
      go_ret
      exact ⟨rfl, HB2.out⟩
  · cases fine
    · go_wp2_with fail
      go_ret
      exact ⟨rfl, HB2.out⟩
    · go_wp2_with fail
      go_ret
      exact ⟨rfl, HB2.out⟩
end Go.Proofs.Pw
