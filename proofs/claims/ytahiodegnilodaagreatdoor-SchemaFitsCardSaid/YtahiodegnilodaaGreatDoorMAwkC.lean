/- awake: the one schema, its bytes, and the row that lacks a value. -/
import Derived.Test.YtahiodegnilodaaGreatDoorSchV
import Derived.Test.YtahiodegnilodaaGreatDoorSchD
namespace Go.Proofs.Pw
open Go.RowKit

def aS : ByteArray := ⟨#[97]⟩
def oneS : PSch := ⟨[⟨aS, 1, true⟩], [aS], []⟩
def nullC : List Value := [.int .i64 0, .int .i64 0, .string ⟨#[]⟩]

set_option maxRecDepth 100000 in
set_option maxHeartbeats 1000000 in
theorem cellRight_null (w : World) : Calls Tryz.prog 100 #[.agg #[.int .i64 0, .int .i64 0, .string ⟨#[]⟩]] w (Gives w (.bool true)) := by
  have he : ∀ w, (binOp .eql 65 (.agg #[.int .i64 0, .int .i64 0, .string ⟨#[]⟩]) (.agg #[.int .i64 0, .int .i64 0, .string ⟨#[]⟩])).run Tryz.prog w = .ok (.bool true) w := fun w => by kernel_rfl
  go_enter Tryz.func100, Tryz.ntmps100
  go_wp2_with fail
  go_ret
  exact ⟨rfl, below_new _ _⟩

set_option maxRecDepth 100000 in
set_option maxHeartbeats 1000000 in
theorem One_any (w : World) : Calls Tryz.prog 38 #[] w fun e w' => ∃ A1 A2, e = .returned (.agg #[.slice A1 oneS.cols.length 1, .slice A2 oneS.key.length 1, .slice none oneS.idx.length 0]) ∧ RSch w' oneS A1 A2 none ∧ Below w.heap.size w w' := by
  go_enter Tryz.func38, Tryz.ntmps38
  go_wp2_with fail
  have h1 : Box (((w.alloc (.cells #[.slice (some ⟨w.heap.size + 1, 0, none⟩) 1 1, .slice (some ⟨w.heap.size + 1 + 1, 0, none⟩) 1 1, .slice none 0 0] 27)).alloc (.cells #[.string ⟨#[97]⟩, .int .i64 1, .bool true] 45)).alloc (.cells #[.string ⟨#[97]⟩] 9)) (w.heap.size + 1) 45 [.string ⟨#[97]⟩, .int .i64 1, .bool true] := by
    have := (Box.new (w.alloc (.cells #[.slice (some ⟨w.heap.size + 1, 0, none⟩) 1 1, .slice (some ⟨w.heap.size + 1 + 1, 0, none⟩) 1 1, .slice none 0 0] 27)) [.string ⟨#[97]⟩, .int .i64 1, .bool true] 45).alloc (.cells #[.string ⟨#[97]⟩] 9)
    simpa using this
  have h2 : Box (((w.alloc (.cells #[.slice (some ⟨w.heap.size + 1, 0, none⟩) 1 1, .slice (some ⟨w.heap.size + 1 + 1, 0, none⟩) 1 1, .slice none 0 0] 27)).alloc (.cells #[.string ⟨#[97]⟩, .int .i64 1, .bool true] 45)).alloc (.cells #[.string ⟨#[97]⟩] 9)) (w.heap.size + 1 + 1) 9 [.string ⟨#[97]⟩] := by
    have := Box.new ((w.alloc (.cells #[.slice (some ⟨w.heap.size + 1, 0, none⟩) 1 1, .slice (some ⟨w.heap.size + 1 + 1, 0, none⟩) 1 1, .slice none 0 0] 27)).alloc (.cells #[.string ⟨#[97]⟩, .int .i64 1, .bool true] 45)) [.string ⟨#[97]⟩] 9
    simpa using this
  have h0 : Box (((w.alloc (.cells #[.slice (some ⟨w.heap.size + 1, 0, none⟩) 1 1, .slice (some ⟨w.heap.size + 1 + 1, 0, none⟩) 1 1, .slice none 0 0] 27)).alloc (.cells #[.string ⟨#[97]⟩, .int .i64 1, .bool true] 45)).alloc (.cells #[.string ⟨#[97]⟩] 9)) w.heap.size 27 [.slice (some ⟨w.heap.size + 1, 0, none⟩) 1 1, .slice (some ⟨w.heap.size + 1 + 1, 0, none⟩) 1 1, .slice none 0 0] := ((Box.new w _ _).alloc _).alloc _
  have hB : Below w.heap.size w (((w.alloc (.cells #[.slice (some ⟨w.heap.size + 1, 0, none⟩) 1 1, .slice (some ⟨w.heap.size + 1 + 1, 0, none⟩) 1 1, .slice none 0 0] 27)).alloc (.cells #[.string ⟨#[97]⟩, .int .i64 1, .bool true] 45)).alloc (.cells #[.string ⟨#[97]⟩] 9)) := below_next (below_next (below_new _ _) (below_new _ _)) (below_new _ _)
  have x0 := h0.cell 0 rfl
  have x1 := h0.cell 1 rfl
  have x2 := h0.cell 2 rfl
  generalize (((w.alloc (.cells #[.slice (some ⟨w.heap.size + 1, 0, none⟩) 1 1, .slice (some ⟨w.heap.size + 1 + 1, 0, none⟩) 1 1, .slice none 0 0] 27)).alloc (.cells #[.string ⟨#[97]⟩, .int .i64 1, .bool true] 45)).alloc (.cells #[.string ⟨#[97]⟩] 9)) = W at *
  refine bodyPost_ret (v := .agg #[.slice (some ⟨w.heap.size + 1, 0, none⟩) 1 1, .slice (some ⟨w.heap.size + 1 + 1, 0, none⟩) 1 1, .slice none 0 0]) (by simp [results, Tryz.results38, go_sem, x0, x1, x2]) rfl ?_
  refine ⟨_, _, rfl, ⟨⟨by decide, fun _ => ⟨_, 0, rfl, h1.lt, ?_⟩⟩, ⟨by decide, fun _ => ⟨_, 0, rfl, h2.lt, ?_⟩⟩, Sl.nil _ _ _ _⟩, hB⟩
  · intro i x hx
    match i, hx with
    | 0, hx =>
      cases hx
      refine ⟨_, rfl, fun j v hv => ?_⟩
      match j, hv with
      | 0, hv => cases hv; exact h1.cell 0 rfl
      | 1, hv => cases hv; exact h1.cell 1 rfl
      | 2, hv => cases hv; exact h1.cell 2 rfl
  · intro i x hx
    match i, hx with
    | 0, hx =>
      cases hx
      refine ⟨_, rfl, fun j v hv => ?_⟩
      match j, hv with
      | 0, hv => cases hv; exact h2.cell 0 rfl

set_option maxRecDepth 100000 in
set_option maxHeartbeats 1000000 in
theorem plain_null (A1 A2 A3 R : Option Addr) (c1 c2 c3 cr : Nat) (w : World) (hs : RSch w oneS A1 A2 A3) (hr : rightP oneS = true) (b off : Nat) (hR : R = some ⟨b, off, none⟩) (hb : b < w.heap.size)
    (r0 : w.cell? ⟨b, off, none⟩ = some (.int .i64 0)) (r1 : w.cell? ⟨b, off + 1, none⟩ = some (.int .i64 0)) (r2 : w.cell? ⟨b, off + 2, none⟩ = some (.string ⟨#[]⟩)) :
    Calls Tryz.prog 53 #[.agg #[.slice A1 oneS.cols.length c1, .slice A2 oneS.key.length c2, .slice A3 oneS.idx.length c3], .slice R 1 cr] w (Gives w (.int .i64 11)) := by
  subst hR
  have HR := Lib.hid (PRight_any A1 A2 A3 c1 c2 c3 oneS (w.alloc (.cells #[.slice A1 oneS.cols.length c1, .slice A2 oneS.key.length c2, .slice A3 oneS.idx.length c3] 27)) (hs.below (below_new _ _)) (by decide) (by decide) (by decide) (by decide))
  rw [hr] at HR
  have HC := Lib.hid hs.1
  go_enter Tryz.func53, Tryz.ntmps53
  go_wp2_with fail
  refine HR.out.mono ?_
  rintro e w1 ⟨rfl, hb1⟩
  obtain ⟨hc1, hf1⟩ := bcell hb1
  have hB := Lib.hid (below_next (below_new w _) hb1)
  have hz : w.heap.size < w1.heap.size := by have := hb1.size; simp at this; omega
  have hx0 : w1.cell? ⟨w.heap.size, 0, none⟩ = some (.slice A1 oneS.cols.length c1) := by go_simp
  clear hb1 hc1 hf1
  have hbz : b < w1.heap.size := by omega
  have t0 := bc hB.out r0 hb
  have t1 := bc hB.out r1 hb
  have t2 := bc hB.out r2 hb
  obtain ⟨a, o, rfl, ha, -, p0, p1, p2⟩ := cols_at (HC.out.below (flat_stable _) hB.out) (show 0 < oneS.cols.length by decide)
  simp only [Nat.zero_mul, Nat.add_zero] at p0 p1 p2
  replace p0 : w1.cell? ⟨a, o, none⟩ = some (.string aS) := p0
  replace p1 : w1.cell? ⟨a, o + 1, none⟩ = some (.int .i64 1) := p1
  replace p2 : w1.cell? ⟨a, o + 2, none⟩ = some (.bool true) := p2
  rw [show oneS.cols.length = 1 from rfl] at hx0 ⊢
  clear r0 r1 r2 HR hr hs
  have hw1 : ¬ w1.heap.size = a := by omega
  have hw2 : ¬ w1.heap.size = b := by omega
  have hw3 : ¬ w1.heap.size = w.heap.size := by omega
  go_wp2_with fail
  refine wp_loop_rounds 1 ?_
  rw [rounds_succ]
  go_wp2_with fail
  refine (cellRight_null _).mono ?_
  rintro e w2 ⟨rfl, hb2⟩
  obtain ⟨hc2, hf2⟩ := bcell hb2
  have hB2 := Lib.hid (below_next (below_next (below_next hB.out (below_new _ _)) (below_new _ _)) hb2)
  have k0 : w2.cell? ⟨w1.heap.size, 1, none⟩ = some (.int .i64 1) := by go_simp
  have k1 : w2.cell? ⟨w1.heap.size, 2, none⟩ = some (.bool true) := by go_simp
  have k2 : w2.cell? ⟨w1.heap.size + 1, 0, none⟩ = some (.int .i64 0) := by go_simp
  clear hc2 hf2 hb2
  go_wp2_with fail
  go_ret
  exact ⟨rfl, hB2.out⟩

end Go.Proofs.Pw
/- schema.Fit at the row that lacks a value. -/
namespace Go.Proofs.Pw
open Go.RowKit

set_option maxRecDepth 100000 in
set_option maxHeartbeats 1000000 in
theorem Fit_null (A1 A2 A3 R : Option Addr) (c1 c2 c3 cr : Nat) (w : World) (hs : RSch w oneS A1 A2 A3) (hr : rightP oneS = true) (b off : Nat) (hR : R = some ⟨b, off, none⟩) (hb : b < w.heap.size)
    (r0 : w.cell? ⟨b, off, none⟩ = some (.int .i64 0)) (r1 : w.cell? ⟨b, off + 1, none⟩ = some (.int .i64 0)) (r2 : w.cell? ⟨b, off + 2, none⟩ = some (.string ⟨#[]⟩)) :
    Calls Tryz.prog 17 #[.agg #[.slice A1 oneS.cols.length c1, .slice A2 oneS.key.length c2, .slice A3 oneS.idx.length c3], .slice R 1 cr] w (Gives w (.int .i64 11)) := by
  subst hR
  have HP : ∀ o, Hid (Calls Tryz.prog 53 #[.agg #[.slice A1 oneS.cols.length c1, .slice A2 oneS.key.length c2, .slice A3 oneS.idx.length c3], .slice (some ⟨b, off, none⟩) 1 cr] (w.alloc o) (Gives (w.alloc o) (.int .i64 11))) := fun o =>
    plain_null A1 A2 A3 _ c1 c2 c3 cr (w.alloc o) (hs.below (below_new w o)) hr b off rfl (Nat.lt_of_lt_of_le hb (below_new w o).size) (bc (below_new w o) r0 hb) (bc (below_new w o) r1 hb) (bc (below_new w o) r2 hb)
  clear r0 r1 r2
  go_enter Tryz.func17, Tryz.ntmps17
  go_wp2_with fail
  refine (HP _).out.mono ?_
  rintro e w1 ⟨rfl, hb1⟩
  have HB := Lib.hid (below_next (below_new _ _) hb1)
  clear hb1
  go_wp2_with fail
  go_ret
  exact ⟨rfl, HB.out⟩

end Go.Proofs.Pw
/- awake. -/
namespace Go.Proofs.Pw
open Go.RowKit

theorem right_one : rightP oneS = true := by decide +kernel
theorem fits_one : WFits oneS := ⟨by decide, by decide, by decide, by decide, by decide, by decide⟩
def oneB : ByteArray := ⟨#[1, 1, 97, 1, 1, 1, 1, 97, 0]⟩
theorem write_one : writeP oneS = (oneB, true) := by rw [writeP, right_one]; rfl
deriving instance DecidableEq for PCol
deriving instance DecidableEq for PIdx
deriving instance DecidableEq for PSch
theorem read_one : readP oneB = (oneS, true) := by decide +kernel

set_option maxRecDepth 100000 in
set_option maxHeartbeats 1000000 in
theorem awake_any (w : World) : Calls Tryz.prog 8 #[] w (Gives w (.bool true)) := by
  go_enter Tryz.func8, Tryz.ntmps8
  go_wp2_with fail
  refine (One_any w).mono ?_
  rintro e w1 ⟨A1, A2, rfl, hs, hb1⟩
  have HB := Lib.hid hb1
  have HS := Lib.hid hs
  clear hs hb1
  go_wp2_with fail
  refine (PWrite_any A1 A2 none 1 1 0 oneS w1 HS.out (by decide) (by decide) (by decide) (by decide) (fun _ => fits_one)).mono ?_
  rw [write_one]
  rintro e w2 ⟨rfl, hb2⟩
  have HB2 := Lib.hid (below_next HB.out hb2)
  clear HB HS hb2
  dsimp only
  go_wp2_with fail
  refine (PRead_any oneB w2 (by decide)).mono ?_
  rw [read_one]
  rintro e w3 ⟨B1, B2, B3, c1, c2, c3, rfl, hs, hb3⟩
  have HB3 := Lib.hid (below_next HB2.out hb3)
  have HS := Lib.hid hs
  clear HB2 hs hb3
  dsimp only
  have hob : oneB.toList = [1, 1, 97, 1, 1, 1, 1, 97, 0] := by rw [ByteArray.toList_eq]; rfl
  have hob2 : (oneB.toList == [1, 1, 97, 1, 1, 1, 1, 97, 0]) = true := by rw [hob]; rfl
  have hc1 : oneS.cols.length = 1 := rfl
  have hc2 : ((oneS.cols.length : Nat) : Int) = 1 := rfl
  have HF : ∀ o1, Hid (Calls Tryz.prog 17 #[.agg #[.slice B1 1 c1, .slice B2 oneS.key.length c2, .slice B3 oneS.idx.length c3], .slice (some ⟨w3.heap.size + 1, 0, none⟩) 1 1] ((w3.alloc o1).alloc (.cells #[.int .i64 0, .int .i64 0, .string ⟨#[]⟩] 65)) (Gives ((w3.alloc o1).alloc (.cells #[.int .i64 0, .int .i64 0, .string ⟨#[]⟩] 65)) (.int .i64 11))) := fun o1 => by
    have hbx : Box ((w3.alloc o1).alloc (.cells #[.int .i64 0, .int .i64 0, .string ⟨#[]⟩] 65)) (w3.heap.size + 1) 65 [.int .i64 0, .int .i64 0, .string ⟨#[]⟩] := by
      have := Box.new (w3.alloc o1) [.int .i64 0, .int .i64 0, .string ⟨#[]⟩] 65
      simpa using this
    exact Fit_null B1 B2 B3 _ c1 c2 c3 1 _ (HS.out.below (below_next (below_new _ _) (below_new _ _))) right_one (w3.heap.size + 1) 0 rfl hbx.lt (hbx.cell 0 rfl) (hbx.cell 1 rfl) (hbx.cell 2 rfl)
  have HF' := Lib.hid HF
  clear HF
  go_wp2_with fail
  refine (HF'.out _).out.mono ?_
  rintro e w4 ⟨rfl, hb4⟩
  have HB4 := Lib.hid (below_next (below_next (below_next HB3.out (below_new _ _)) (below_new _ _)) hb4)
  clear hb4
  go_wp2_with fail
  go_ret
  exact ⟨rfl, HB4.out⟩
end Go.Proofs.Pw
