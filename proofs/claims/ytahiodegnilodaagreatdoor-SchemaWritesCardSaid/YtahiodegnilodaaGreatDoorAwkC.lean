/- awake. -/
import Derived.Test.YtahiodegnilodaaGreatDoorAwkB
namespace Go.Proofs.Pw
open Go.RowKit

theorem right_one : rightP oneS = true := by decide +kernel
theorem fits_one : WFits oneS := ⟨by decide, by decide, by decide, by decide, by decide, by decide⟩
def oneB : ByteArray := ⟨#[1, 1, 97, 1, 1, 1, 1, 97, 0]⟩
theorem write_one : writeP oneS = (oneB, true) := by rw [writeP, right_one]; rfl
deriving instance DecidableEq for PCol
deriving instance DecidableEq for PIdx
deriving instance DecidableEq for PSch
theorem read_one : readP oneB = (oneS, true) := by decide +kernel

set_option maxRecDepth 100000 in
set_option maxHeartbeats 1000000 in
theorem awake_any (w : World) : Calls Tryz.prog 8 #[] w (Gives w (.bool true)) := by
  go_enter Tryz.func8, Tryz.ntmps8
  go_wp2_with fail
  refine (One_any w).mono ?_
  rintro e w1 ⟨A1, A2, rfl, hs, hb1⟩
  have HB := Lib.hid hb1
  have HS := Lib.hid hs
  clear hs hb1
  go_wp2_with fail
  refine (PWrite_any A1 A2 none 1 1 0 oneS w1 HS.out (by decide) (by decide) (by decide) (by decide) (fun _ => fits_one)).mono ?_
  rw [write_one]
  rintro e w2 ⟨rfl, hb2⟩
  have HB2 := Lib.hid (below_next HB.out hb2)
  clear HB HS hb2
  dsimp only
  go_wp2_with fail
  refine (PRead_any oneB w2 (by decide)).mono ?_
  rw [read_one]
  rintro e w3 ⟨B1, B2, B3, c1, c2, c3, rfl, hs, hb3⟩
  have HB3 := Lib.hid (below_next HB2.out hb3)
  have HS := Lib.hid hs
  clear HB2 hs hb3
  dsimp only
  have hob : oneB.toList = [1, 1, 97, 1, 1, 1, 1, 97, 0] := by rw [ByteArray.toList_eq]; rfl
  have hob2 : (oneB.toList == [1, 1, 97, 1, 1, 1, 1, 97, 0]) = true := by rw [hob]; rfl
  have hc1 : oneS.cols.length = 1 := rfl
  have hc2 : ((oneS.cols.length : Nat) : Int) = 1 := rfl
  have HF : ∀ o1, Hid (Calls Tryz.prog 17 #[.agg #[.slice B1 1 c1, .slice B2 oneS.key.length c2, .slice B3 oneS.idx.length c3], .slice (some ⟨w3.heap.size + 1, 0, none⟩) 1 1] ((w3.alloc o1).alloc (.cells #[.int .i64 0, .int .i64 0, .string ⟨#[]⟩] 65)) (Gives ((w3.alloc o1).alloc (.cells #[.int .i64 0, .int .i64 0, .string ⟨#[]⟩] 65)) (.int .i64 11))) := fun o1 => by
    have hbx : Box ((w3.alloc o1).alloc (.cells #[.int .i64 0, .int .i64 0, .string ⟨#[]⟩] 65)) (w3.heap.size + 1) 65 [.int .i64 0, .int .i64 0, .string ⟨#[]⟩] := by
      have := Box.new (w3.alloc o1) [.int .i64 0, .int .i64 0, .string ⟨#[]⟩] 65
      simpa using this
    exact Fit_null B1 B2 B3 _ c1 c2 c3 1 _ (HS.out.below (below_next (below_new _ _) (below_new _ _))) right_one (w3.heap.size + 1) 0 rfl hbx.lt (hbx.cell 0 rfl) (hbx.cell 1 rfl) (hbx.cell 2 rfl)
  have HF' := Lib.hid HF
  clear HF
  go_wp2_with fail
  refine (HF'.out _).out.mono ?_
  rintro e w4 ⟨rfl, hb4⟩
  have HB4 := Lib.hid (below_next (below_next (below_next HB3.out (below_new _ _)) (below_new _ _)) hb4)
  clear hb4
  go_wp2_with fail
  go_ret
  exact ⟨rfl, HB4.out⟩
end Go.Proofs.Pw
