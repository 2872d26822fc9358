/- The reference's Alike at two schemas that are the same. -/
import Derived.Test.YtahiodegnilodaaGreatDoorMapD
import Derived.Deep.QuietTactic
import Derived.BigQuiet
namespace Go.Proofs.Pw
open Go.RowKit

set_option maxRecDepth 100000 in
set_option maxHeartbeats 1000000 in
theorem Alike_same (A1 A2 A3 B1 B2 B3 : Option Addr) (c1 c2 c3 d1 d2 d3 : Nat) (s : PSch) (w : World) (hs : RSch w s A1 A2 A3) (ht : RSch w s B1 B2 B3) :
    Calls Tryz.prog 11 #[.agg #[.slice A1 s.cols.length c1, .slice A2 s.key.length c2, .slice A3 s.idx.length c3], .agg #[.slice B1 s.cols.length d1, .slice B2 s.key.length d2, .slice B3 s.idx.length d3]] w (Gives w (.bool true)) := by
  have HC := Lib.hid hs.1
  have HK := Lib.hid hs.2.1
  have HX := Lib.hid hs.2.2
  have GC := Lib.hid ht.1
  have GK := Lib.hid ht.2.1
  have GX := Lib.hid ht.2.2
  have hm1 := hs.1.1
  have hm2 := hs.2.1.1
  have hm3 := hs.2.2.1
  clear hs ht
  go_enter Tryz.func11, Tryz.ntmps11
  go_wp2_with fail
  have hBx : Below w.heap.size w ((w.alloc (.cells #[.slice A1 s.cols.length c1, .slice A2 s.key.length c2, .slice A3 s.idx.length c3] 27)).alloc (.cells #[.slice B1 s.cols.length d1, .slice B2 s.key.length d2, .slice B3 s.idx.length d3] 27)) := below_next (below_new _ _) (below_new _ _)
  have bx1 : Box ((w.alloc (.cells #[.slice A1 s.cols.length c1, .slice A2 s.key.length c2, .slice A3 s.idx.length c3] 27)).alloc (.cells #[.slice B1 s.cols.length d1, .slice B2 s.key.length d2, .slice B3 s.idx.length d3] 27)) w.heap.size 27 [.slice A1 s.cols.length c1, .slice A2 s.key.length c2, .slice A3 s.idx.length c3] := (Box.new w _ _).alloc _
  have bx2 : Box ((w.alloc (.cells #[.slice A1 s.cols.length c1, .slice A2 s.key.length c2, .slice A3 s.idx.length c3] 27)).alloc (.cells #[.slice B1 s.cols.length d1, .slice B2 s.key.length d2, .slice B3 s.idx.length d3] 27)) (w.heap.size + 1) 27 [.slice B1 s.cols.length d1, .slice B2 s.key.length d2, .slice B3 s.idx.length d3] := by
    have := Box.new (w.alloc (.cells #[.slice A1 s.cols.length c1, .slice A2 s.key.length c2, .slice A3 s.idx.length c3] 27)) [.slice B1 s.cols.length d1, .slice B2 s.key.length d2, .slice B3 s.idx.length d3] 27
    simpa using this
  generalize ((w.alloc (.cells #[.slice A1 s.cols.length c1, .slice A2 s.key.length c2, .slice A3 s.idx.length c3] 27)).alloc (.cells #[.slice B1 s.cols.length d1, .slice B2 s.key.length d2, .slice B3 s.idx.length d3] 27)) = W at *
  have hz : w.heap.size + 1 < W.heap.size := bx2.lt
  have hzw : w.heap.size < W.heap.size := by omega
  have x0 := bx1.cell 0 rfl
  have x1 := bx1.cell 1 rfl
  have x2 := bx1.cell 2 rfl
  have y0 := bx2.cell 0 rfl
  have y1 := bx2.cell 1 rfl
  have y2 := bx2.cell 2 rfl
  have HB := Lib.hid hBx
  clear bx1 bx2 hBx
  go_loopw [5] (fun i wr => ∃ j : Nat, j ≤ s.cols.length ∧ i = .int .i64 j ∧ Hid (Below W.heap.size W wr)) (fun i _ => s.cols.length - (intOf i).toNat)
  case atStart => exact ⟨0, by omega, rfl, Below.refl _ _⟩
  case round =>
    obtain ⟨j, hj, rfl, hB⟩ := hrel
    have u0 := bc hB.out x0 hzw
    have u1 := bc hB.out x1 hzw
    have u2 := bc hB.out x2 hzw
    have v0 := bc hB.out y0 hz
    have v1 := bc hB.out y1 hz
    have v2 := bc hB.out y2 hz
    by_cases hlt : j < s.cols.length
    · obtain ⟨a, o, rfl, ha, -, p0, p1, p2⟩ := cols_at (HC.out.below (flat_stable _) (HB.out.trans (hB.out.mono (by omega)))) hlt
      obtain ⟨a', o', rfl, ha', -, q0, q1, q2⟩ := cols_at (GC.out.below (flat_stable _) (HB.out.trans (hB.out.mono (by omega)))) hlt
      generalize s.cols[j] = y at *
      go_wp2_with fail
      go_quiet (fail)
      go_wp2_with fail
      go_roundw
      case rel => exact ⟨j + 1, by omega, by go_num, below_next hB.out (pw_drewN _ _)⟩
      case measure => simp [intOf]; omega
    · clear x0 x1 x2 y0 y1 y2
      have hzr : w.heap.size + 1 < wr.heap.size := Nat.lt_of_lt_of_le hz hB.out.size
      have HB' := Lib.hid (HB.out.trans (hB.out.mono (by omega)))
      clear hB hz hzw HB
      generalize W.heap.size = zz at *
      have hz : w.heap.size + 1 < wr.heap.size := hzr
      have hzw : w.heap.size < wr.heap.size := by omega
      go_wp2_with fail
      go_loopw [6] (fun i w2 => ∃ j : Nat, j ≤ s.key.length ∧ i = .int .i64 j ∧ Hid (Below wr.heap.size wr w2)) (fun i _ => s.key.length - (intOf i).toNat)
      case atStart => exact ⟨0, by omega, rfl, Below.refl _ _⟩
      case round =>
        rename_i wk _
        obtain ⟨j, hj, rfl, hB⟩ := hrel
        have x0 := bc hB.out u0 hzw
        have x1 := bc hB.out u1 hzw
        have x2 := bc hB.out u2 hzw
        have y0 := bc hB.out v0 hz
        have y1 := bc hB.out v1 hz
        have y2 := bc hB.out v2 hz
        by_cases hlt : j < s.key.length
        · obtain ⟨a, o, rfl, ha, -, p0⟩ := strs_at (HK.out.below (flat_stable _) (HB'.out.trans (hB.out.mono (by omega)))) hlt
          obtain ⟨a', o', rfl, ha', -, q0⟩ := strs_at (GK.out.below (flat_stable _) (HB'.out.trans (hB.out.mono (by omega)))) hlt
          generalize s.key[j] = y at *
          go_wp2_with fail
          go_quiet (fail)
          go_wp2_with fail
          go_roundw
          case rel => exact ⟨j + 1, by omega, by go_num, below_next hB.out (pw_drewN _ _)⟩
          case measure => simp [intOf]; omega
        · clear u0 u1 u2 v0 v1 v2
          have hzr : w.heap.size + 1 < wr.heap.size := Nat.lt_of_lt_of_le hz (by rename_i wo _; first | exact hB.out.size | exact Nat.le_refl _)
          have HB2 := Lib.hid (HB'.out.trans (hB.out.mono (by omega)))
          clear hB HB'
          have hzw' : w.heap.size < wr.heap.size := by omega
          go_wp2_with fail
          go_loopw [7] (fun i w2 => ∃ j : Nat, j ≤ s.idx.length ∧ i = .int .i64 j ∧ Hid (Below wr.heap.size wr w2)) (fun i _ => s.idx.length - (intOf i).toNat)
          case atStart => exact ⟨0, by omega, rfl, Below.refl _ _⟩
          case round =>
            obtain ⟨j, hj, rfl, hB⟩ := hrel
            have u0 := bc hB.out x0 hzw'
            have u1 := bc hB.out x1 hzw'
            have u2 := bc hB.out x2 hzw'
            have v0 := bc hB.out y0 hzr
            have v1 := bc hB.out y1 hzr
            have v2 := bc hB.out y2 hzr
            by_cases hlt : j < s.idx.length
            · have hB3 := HB2.out.trans (hB.out.mono (by omega))
              obtain ⟨a, o, B, cB, rfl, ha, -, p0, p1, p2, hsB⟩ := idxs_at (HX.out.below RIdx_stable hB3) hlt
              obtain ⟨a', o', B', cB', rfl, ha', -, q0, q1, q2, hsB'⟩ := idxs_at (GX.out.below RIdx_stable hB3) hlt
              have HsB := Lib.hid hsB
              have HsB' := Lib.hid hsB'
              have hyl := hsB.1
              clear hsB hsB'
              have HB3 := Lib.hid hB3
              clear hB3
              generalize s.idx[j] = y at *
              have hwr : w.heap.size + 1 < wr.heap.size := Nat.lt_of_lt_of_le hzr hB.out.size
              have hwr1 : ¬ w.heap.size + 1 = wr.heap.size := by omega
              have hwr2 : ¬ w.heap.size = wr.heap.size := by omega
              have hwr3 : w.heap.size < wr.heap.size := by omega
              have hwr4 : ¬ a' = wr.heap.size := by omega
              have hwr5 : ¬ a = wr.heap.size := by omega
              go_wp2_with fail
              have hA : Below wr.heap.size wr ((wr.alloc (.cells #[.string y.name, .slice B y.cols.length cB, .bool y.uniq] 47)).alloc (.cells #[.string y.name, .slice B' y.cols.length cB', .bool y.uniq] 47)) := below_next (below_new _ _) (below_new _ _)
              have bx1 : Box ((wr.alloc (.cells #[.string y.name, .slice B y.cols.length cB, .bool y.uniq] 47)).alloc (.cells #[.string y.name, .slice B' y.cols.length cB', .bool y.uniq] 47)) wr.heap.size 47 [.string y.name, .slice B y.cols.length cB, .bool y.uniq] := (Box.new wr _ _).alloc _
              have bx2 : Box ((wr.alloc (.cells #[.string y.name, .slice B y.cols.length cB, .bool y.uniq] 47)).alloc (.cells #[.string y.name, .slice B' y.cols.length cB', .bool y.uniq] 47)) (wr.heap.size + 1) 47 [.string y.name, .slice B' y.cols.length cB', .bool y.uniq] := by
                have := Box.new (wr.alloc (.cells #[.string y.name, .slice B y.cols.length cB, .bool y.uniq] 47)) [.string y.name, .slice B' y.cols.length cB', .bool y.uniq] 47
                simpa using this
              generalize ((wr.alloc (.cells #[.string y.name, .slice B y.cols.length cB, .bool y.uniq] 47)).alloc (.cells #[.string y.name, .slice B' y.cols.length cB', .bool y.uniq] 47)) = w3 at *
              have HA := Lib.hid hA
              have hk1 := bx1.lt
              have hk2 := bx2.lt
              have Bx1 := Lib.hid bx1
              have Bx2 := Lib.hid bx2
              have G0 := Lib.hid (bc hA u0 hwr3)
              have G1 := Lib.hid (bc hA u1 hwr3)
              have G2 := Lib.hid (bc hA u2 hwr3)
              have K0 := Lib.hid (bc hA v0 hwr)
              have K1 := Lib.hid (bc hA v1 hwr)
              have K2 := Lib.hid (bc hA v2 hwr)
              clear bx1 bx2 hA u0 u1 u2 v0 v1 v2 p0 p1 p2 q0 q1 q2 x0 x1 x2 y0 y1 y2
              go_loopw [10] (fun i w2 => ∃ j : Nat, j ≤ y.cols.length ∧ i = .int .i64 j ∧ Hid (Below w3.heap.size w3 w2)) (fun i _ => y.cols.length - (intOf i).toNat)
              case atStart => exact ⟨0, by omega, rfl, Below.refl _ _⟩
              case round =>
                obtain ⟨m, hm, rfl, hD⟩ := hrel
                have e1 := (Bx1.out.below (hD.out.mono (Nat.le_refl _))).cell 1 rfl
                have e2 := (Bx2.out.below (hD.out.mono (Nat.le_refl _))).cell 1 rfl
                by_cases hlm : m < y.cols.length
                · have hDD := HA.out.trans (hD.out.mono (by omega))
                  obtain ⟨g, og, rfl, hg, -, t0⟩ := strs_at (HsB.out.below (flat_stable _) hDD) hlm
                  obtain ⟨g', og', rfl, hg', -, t1⟩ := strs_at (HsB'.out.below (flat_stable _) hDD) hlm
                  generalize y.cols[m] = z at *
                  go_wp2_with fail
                  go_quiet (fail)
                  go_wp2_with fail
                  go_roundw
                  case rel => exact ⟨m + 1, by omega, by go_num, below_next hD.out (pw_drewN _ _)⟩
                  case measure => simp [intOf]; omega
                · go_wp2_with fail
                  go_roundw
                  case rel => exact ⟨j + 1, by omega, by go_num, hB.out.trans ((HA.out.trans (hD.out.mono (by omega))).mono hB.out.size)⟩
                  case measure => simp [intOf]; omega
            · go_wp2_with fail
              go_ret
              exact ⟨rfl, HB2.out.trans (hB.out.mono (by omega))⟩
end Go.Proofs.Pw
