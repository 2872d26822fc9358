/- The program's At and Values, the reference's Values. -/
import Derived.Test.YtahiodegnilodaaGreatDoorCelC
import Derived.Test.YtahiodegnilodaaGreatDoorRefW
import Derived.Test.YtahiodegnilodaaGreatDoorBApp
namespace Go.Proofs.Pw
open Go.RowKit

set_option maxRecDepth 100000 in
set_option maxHeartbeats 400000 in
theorem at1_any (q : Nat) (nm : ByteArray) (x : PCol) (w : World) (hq : w.cell? ⟨q, 0, none⟩ = some (.string nm)) :
    Calls Tryz.prog 113 #[.agg #[.string x.name, .int .i64 x.typ, .bool x.nn], .pointer (some ⟨q, 0, none⟩)] w (Gives w (.bool (x.name.toList == nm.toList))) := by
  have hlt := cell_lt hq
  have hne : ¬ q = w.heap.size := by omega
  go_enter Tryz.func113, Tryz.ntmps113
  go_wp2_with fail
  go_ret
  exact ⟨rfl, below_new _ _⟩
set_option maxRecDepth 100000 in
set_option maxHeartbeats 1000000 in
theorem indexFuncC_any (q : Nat) (nm : ByteArray) (A : Option Addr) (c : Nat) (xs : List PCol) (w : World) (hc : Cols w A xs) (hq : w.cell? ⟨q, 0, none⟩ = some (.string nm)) :
    Calls Tryz.prog 112 #[.slice A xs.length c, .func (.func 113) #[] #[.pointer (some ⟨q, 0, none⟩)]] w (Gives w (.int .i64 (atF nm xs 0))) := by
  have HS := Lib.hid hc
  have HQ := Lib.hid hq
  have hlt := cell_lt hq
  have hm := hc.1
  clear hc hq
  go_enter Tryz.func112, Tryz.ntmps112
  go_wp2
  go_loopw [8] (fun i wr => ∃ j : Nat, j ≤ xs.length ∧ i = .int .i64 j ∧ Hid (atF nm (xs.drop j) j = atF nm xs 0) ∧ Hid (Below w.heap.size w wr)) (fun i _ => xs.length - (intOf i).toNat)
  case atStart => exact ⟨0, by omega, rfl, rfl, Below.refl _ _⟩
  case round =>
    obtain ⟨j, hj, rfl, hh, hB⟩ := hrel
    by_cases hlt2 : j < xs.length
    · obtain ⟨b, off, rfl, hb, hbb, h1, h2, h3⟩ := cols_at (HS.out.below (flat_stable _) hB.out) hlt2
      have HF := Lib.hid (at1_any q nm xs[j] wr ((hB.out.cell (p := ⟨q, 0, none⟩) hlt).trans HQ.out))
      rw [drop_cons _ _ hlt2] at hh
      generalize xs[j] = x0 at *
      cases hp : (x0.name.toList == nm.toList)
      · rw [atF_miss hp] at hh
        rw [hp] at HF
        have Hp := Lib.hid hp
        clear hp
        go_wp2_with fail
        go_at_call 113
        refine HF.out.mono ?_
        rintro e w1 ⟨rfl, hb1⟩
        have HB := Lib.hid (below_next hB.out hb1)
        clear hb1
        go_wp2_with fail
        go_round
        case rel => exact ⟨j + 1, by omega, by go_num, hh, HB⟩
        case measure => simp [intOf]; omega
      · rw [atF_hit hp] at hh
        rw [hp] at HF
        have Hp := Lib.hid hp
        clear hp
        go_wp2_with fail
        go_at_call 113
        refine HF.out.mono ?_
        rintro e w1 ⟨rfl, hb1⟩
        have HB := Lib.hid (below_next hB.out hb1)
        clear hb1
        go_wp2_with fail
        go_ret
        exact ⟨by rw [← hh.out]; rfl, HB.out⟩
    · rw [List.drop_eq_nil_of_le (by omega)] at hh
      go_wp2
      go_ret
      exact ⟨by rw [← hh.out]; rfl, hB.out⟩
set_option maxRecDepth 100000 in
set_option maxHeartbeats 400000 in
theorem PAt_any (A : Option Addr) (c : Nat) (k x : Value) (nm : ByteArray) (xs : List PCol) (w : World) (hc : Cols w A xs) :
    Calls Tryz.prog 68 #[.agg #[.slice A xs.length c, k, x], .string nm] w (Gives w (.int .i64 (atF nm xs 0))) := by
  have hX := (Box.new w [.slice A xs.length c, k, x] 27).alloc (.cells #[.string nm] 9)
  have hY := Box.new (w.alloc (.cells #[.slice A xs.length c, k, x] 27)) [.string nm] 9
  have hS := hc.below (flat_stable _) (below_next (below_new w (.cells #[.slice A xs.length c, k, x] 27)) (below_new _ (.cells #[.string nm] 9)))
  have hz1 : (w.alloc (.cells #[.slice A xs.length c, k, x] 27)).heap.size = w.heap.size + 1 := by simp
  rw [hz1] at hY
  have HF := Lib.hid (indexFuncC_any (w.heap.size + 1) nm A c xs _ hS (hY.cell 0 rfl))
  clear hX hY hS hz1 hc
  go_enter Tryz.func68, Tryz.ntmps68
  go_wp2_with fail
  refine HF.out.mono ?_
  rintro e w1 ⟨rfl, hb1⟩
  have HB := Lib.hid (below_next (b_alloc (below_new w _)) hb1)
  clear hb1
  go_wp2_with fail
  go_ret
  exact ⟨rfl, HB.out⟩
end Go.Proofs.Pw
/- Values: a row's, of columns: the program's and the reference's. -/
namespace Go.Proofs.Pw
open Go.RowKit

def zeroV : PVal := ⟨0, 0, ⟨#[]⟩⟩
def valuesF (cs : List PCol) (row : List PVal) (names : List ByteArray) : List PVal := names.map fun n => row.getD (atF n cs 0).toNat zeroV
theorem Tryz.infoVal : (Tryz.prog.info? 65).map (fun i => (i.zero, i.size, i.bytes)) = some (some (.agg #[.int .i64 0, .int .i64 0, .string ⟨#[]⟩]), 3, 32) := by kernel_rfl

set_option maxRecDepth 100000 in
set_option maxHeartbeats 1000000 in
theorem PValues_any (A1 A A3 : Option Addr) (c1 c c3 : Nat) (k x : Value) (cs : List PCol) (row : List PVal) (names : List ByteArray) (w : World) (hc : Cols w A1 cs) (hr : Vals w A row) (hs : Strs w A3 names)
    (hat : ∀ n ∈ names, 0 ≤ atF n cs 0 ∧ atF n cs 0 < row.length) (hl : names.length ≤ 1000) :
    Calls Tryz.prog 58 #[.agg #[.slice A1 cs.length c1, k, x], .slice A row.length c, .slice A3 names.length c3] w fun e w' => ∃ A4 c4, e = .returned (.slice A4 (valuesF cs row names).length c4) ∧ w'.ownsRow w.heap.size 65 3 (.slice A4 (valuesF cs row names).length c4) (valuesF cs row names).length ((valuesF cs row names).flatMap encVal) ∧ Below w.heap.size w w' := by
  have HC := Lib.hid hc
  have HR := Lib.hid hr
  have HS := Lib.hid hs
  have Hat := Lib.hid hat
  have hm := hs.1
  have hX0 := Box.new w [.slice A1 cs.length c1, k, x] 27
  have HX0 := Lib.hid hX0
  have hz0 := hX0.lt
  have HB0 := Lib.hid (below_new w (.cells #[.slice A1 cs.length c1, k, x] 27))
  clear hc hr hs hat hX0
  go_enter Tryz.func58, Tryz.ntmps58
  go_wp2_with fail
  go_loopw [7, 12] (fun v i wr => ∃ j : Nat, j ≤ names.length ∧ i = .int .i64 j ∧ ∃ A4 c4, v = .slice A4 j c4 ∧ Hid (wr.ownsRow w.heap.size 65 3 (.slice A4 j c4) j ((valuesF cs row (names.take j)).flatMap encVal)) ∧ Hid (Below w.heap.size w wr) ∧ Hid (Box wr w.heap.size 27 [.slice A1 cs.length c1, k, x])) (fun _ i _ => names.length - (intOf i).toNat)
  case atStart => exact ⟨0, by omega, rfl, none, 0, rfl, row_nil _ _ _ _, HB0, HX0⟩
  case round =>
    clear HX0 HB0
    obtain ⟨j, hj, rfl, A4, c4, rfl, HO, HB, HX⟩ := hrel
    by_cases hlt : j < names.length
    · obtain ⟨b, off, rfl, hb, hbb, g0⟩ := strs_at (HS.out.below (flat_stable _) HB.out) hlt
      obtain ⟨ha0, ha1⟩ := Hat.out _ (List.getElem_mem hlt)
      have Hsn : Hid (valuesF cs row (names.take (j + 1)) = valuesF cs row (names.take j) ++ [row.getD (atF names[j] cs 0).toNat zeroV]) := by
        show _ = _
        rw [valuesF, valuesF, List.take_succ_eq_append_getElem hlt, List.map_append]; rfl
      generalize names[j] = nm at *
      have x0 := HX.out.cell 0 rfl
      have x1 := HX.out.cell 1 rfl
      have x2 := HX.out.cell 2 rfl
      have hzx := HX.out.lt
      obtain ⟨q, hq⟩ := Int.eq_ofNat_of_zero_le ha0
      have hql : q < row.length := by omega
      rw [hq] at Hsn
      have hgd : row.getD ((q : Nat) : Int).toNat zeroV = row[q] := by simp [List.getD, hql]
      rw [hgd] at Hsn
      have HP := Lib.hid (fun w h => PAt_any A1 c1 k x nm cs w h)
      rw [hq] at HP
      obtain ⟨b2, off2, rfl, hb2, hbb2, r0, r1, r2⟩ := vals_at (HR.out.below (flat_stable _) HB.out) hql
      generalize row[q] = y at *
      clear hq ha0 ha1 hgd
      have hq0 : (0 : Int) ≤ q := by omega
      have hq1 : (q : Int) < (row.length : Int) := by omega
      go_wp2_with fail
      refine (HP.out wr (HC.out.below (flat_stable _) HB.out)).mono ?_
      rintro e w1 ⟨rfl, hb1⟩
      obtain ⟨hc1, -⟩ := bcell hb1
      have HB1 := Lib.hid (below_next HB.out hb1)
      have HX1 := Lib.hid (HX.out.below hb1)
      have HO1 := Lib.hid (row_below HO.out hb1)
      clear hb1
      have hz1 := HB1.out.size
      go_wp2_with (at_builtin; refine append_one w.heap.size _ _ 34 65 _ 3 32 Tryz.underlying34 Tryz.infoVal rfl (by decide) (by decide) _ j _ (encVal y) HO1.out hz1 (by omega) rfl (by simp [encVal, Value.oneCell']) rfl rfl w1.heap.size rfl rfl rfl ?_; intro v1 w5 hO5 hg; have hB5 := Lib.hid (below_row HB1.out HO1.out hg); have hX5 := Lib.hid (HX1.out.row hg (row_box HO1.out HX1.out (by decide))); obtain ⟨A5, c5, rfl⟩ := row_form hO5; have HO5 := Lib.hid hO5; clear hO5 hg)
      go_roundw
      case rel => exact ⟨j + 1, by omega, by go_num, A5, c5, rfl, by (show World.ownsRow _ _ _ _ _ _ _; rw [Hsn.out, List.flatMap_append]; simpa using HO5.out), hB5, hX5⟩
      case measure => simp [intOf]; omega
    · obtain rfl : j = names.length := by omega
      rw [List.take_length] at HO
      have hv : (valuesF cs row names).length = names.length := by simp [valuesF]
      have HO' : Hid (wr.ownsRow w.heap.size 65 3 (.slice A4 (valuesF cs row names).length c4) (valuesF cs row names).length ((valuesF cs row names).flatMap encVal)) := by rw [hv]; exact HO
      go_wp2_with fail
      go_ret
      exact ⟨A4, c4, by rw [hv]; rfl, HO'.out, HB.out⟩
end Go.Proofs.Pw
