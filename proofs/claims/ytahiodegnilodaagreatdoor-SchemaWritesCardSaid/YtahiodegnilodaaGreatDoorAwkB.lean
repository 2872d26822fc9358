/- schema.Fit at the row that lacks a value. -/
import Derived.Test.YtahiodegnilodaaGreatDoorAwk
namespace Go.Proofs.Pw
open Go.RowKit

set_option maxRecDepth 100000 in
set_option maxHeartbeats 1000000 in
theorem Fit_null (A1 A2 A3 R : Option Addr) (c1 c2 c3 cr : Nat) (w : World) (hs : RSch w oneS A1 A2 A3) (hr : rightP oneS = true) (b off : Nat) (hR : R = some ⟨b, off, none⟩) (hb : b < w.heap.size)
    (r0 : w.cell? ⟨b, off, none⟩ = some (.int .i64 0)) (r1 : w.cell? ⟨b, off + 1, none⟩ = some (.int .i64 0)) (r2 : w.cell? ⟨b, off + 2, none⟩ = some (.string ⟨#[]⟩)) :
    Calls Tryz.prog 17 #[.agg #[.slice A1 oneS.cols.length c1, .slice A2 oneS.key.length c2, .slice A3 oneS.idx.length c3], .slice R 1 cr] w (Gives w (.int .i64 11)) := by
  subst hR
  have HP : ∀ o, Hid (Calls Tryz.prog 53 #[.agg #[.slice A1 oneS.cols.length c1, .slice A2 oneS.key.length c2, .slice A3 oneS.idx.length c3], .slice (some ⟨b, off, none⟩) 1 cr] (w.alloc o) (Gives (w.alloc o) (.int .i64 11))) := fun o =>
    plain_null A1 A2 A3 _ c1 c2 c3 cr (w.alloc o) (hs.below (below_new w o)) hr b off rfl (Nat.lt_of_lt_of_le hb (below_new w o).size) (bc (below_new w o) r0 hb) (bc (below_new w o) r1 hb) (bc (below_new w o) r2 hb)
  clear r0 r1 r2
  go_enter Tryz.func17, Tryz.ntmps17
  go_wp2_with fail
  refine (HP _).out.mono ?_
  rintro e w1 ⟨rfl, hb1⟩
  have HB := Lib.hid (below_next (below_new _ _) hb1)
  clear hb1
  go_wp2_with fail
  go_ret
  exact ⟨rfl, HB.out⟩

end Go.Proofs.Pw
