/- Does a row fit: the program's Fit and the reference's. -/
import Derived.Test.YtahiodegnilodaaGreatDoorFitH
namespace Go.Proofs.Pw
open Go.RowKit

def longE (s : PSch) (row : List PVal) (l : List Nat) : Bool := l.any fun i => decide (2000 < (entryF s (i : Int) row).size)
def fitF (s : PSch) (row : List PVal) : Int :=
  if plainF s row = 0 then if (decide (8000 < (writeV row).1.size) || decide (2000 < (keyRowF s row).size) || longE s row (List.range s.idx.length)) then 5 else 0 else plainF s row
theorem row_ne {s : PSch} {row : List PVal} (h : plainF s row = 0) : row ≠ [] := by
  obtain ⟨h1, h2⟩ := plainF_zero h
  rintro rfl
  rw [right_eq] at h1
  unfold rightF at h1
  split at h1
  · cases h1
  · simp at h2; omega

set_option maxRecDepth 100000 in
set_option maxHeartbeats 1000000 in
theorem PFit_any (A1 A2 A3 A : Option Addr) (c1 c2 c3 c : Nat) (s : PSch) (row : List PVal) (m : Int) (w : World) (hs : RSch w s A1 A2 A3) (hr : Vals w A row) (hn : ∀ v ∈ row, i64R v.n) (hm : Small s) (hmx : w.cell? ⟨0, 0, none⟩ = some (.int .i64 m)) :
    Calls Tryz.prog 17 #[.agg #[.slice A1 s.cols.length c1, .slice A2 s.key.length c2, .slice A3 s.idx.length c3], .slice A row.length c] w (Gives w (.int .i64 (fitF s row))) := by
  have HS := Lib.hid hs
  have HV := Lib.hid hr
  have HN := Lib.hid hn
  have Hm := Lib.hid hm
  have HMX := Lib.hid hmx
  have hzm := cell_lt hmx
  have hm3 := hs.2.2.1
  have X0 := Box.new w [.slice A1 s.cols.length c1, .slice A2 s.key.length c2, .slice A3 s.idx.length c3] 27
  have HX0 := Lib.hid X0
  have hz0 := X0.lt
  have HP := Lib.hid (PPlain_any A1 A2 A3 A c1 c2 c3 c s row (w.alloc (.cells #[.slice A1 s.cols.length c1, .slice A2 s.key.length c2, .slice A3 s.idx.length c3] 27)) (hs.below (below_new _ _)) (hr.below (flat_stable _) (below_new _ _)) hn hm)
  clear hs hr hn hm hmx X0
  by_cases h0 : plainF s row = 0
  case neg =>
    have Hq : Hid (fitF s row = plainF s row) := by show _ = _; rw [fitF, if_neg h0]
    have hb : (plainF s row == 0) = false := by simpa using h0
    have hb2 : (plainF s row != 0) = true := by simpa using h0
    clear h0
    go_enter Tryz.func17, Tryz.ntmps17
    go_wp2_with fail
    refine HP.out.mono ?_
    rintro e w1 ⟨rfl, hb1⟩
    have HB1 := Lib.hid (below_next (below_new w _) hb1)
    clear hb1
    go_wp2_with fail
    go_ret
    exact ⟨by rw [Hq.out]; rfl, HB1.out⟩
  have Hq : Hid (fitF s row = if (decide (8000 < (writeV row).1.size) || decide (2000 < (keyRowF s row).size) || longE s row (List.range s.idx.length)) then 5 else 0) := by show _ = _; rw [fitF, if_pos h0]
  have HW := Lib.hid (fun w h => PWriteV_any A c row w h HN.out (row_ne h0))
  have HK := Lib.hid (fun w h1 h2 h3 => PKeyRow_any A1 A2 A3 A c1 c2 c3 c s row m w h1 h2 HN.out Hm.out h3)
  have HE := Lib.hid (fun (i : Int) w h1 h2 h3 => PEntry_any A1 A2 A3 A c1 c2 c3 c s i row m w h1 h2 HN.out Hm.out h3)
  rw [h0] at HP
  clear h0
  generalize (writeV row).2 = xb at *
  generalize (writeV row).1 = x at *
  generalize keyRowF s row = y at *
  go_enter Tryz.func17, Tryz.ntmps17
  go_wp2_with fail
  refine HP.out.mono ?_
  rintro e w1 ⟨rfl, hb1⟩
  have HB1 := Lib.hid (below_next (below_new w _) hb1)
  have HX1 := Lib.hid (HX0.out.below hb1)
  clear hb1 HP
  go_wp2_with fail
  refine (HW.out _ (HV.out.below (flat_stable _) HB1.out)).mono ?_
  rintro e w2 ⟨rfl, hb2⟩
  have HB2 := Lib.hid (below_next HB1.out hb2)
  have HX2 := Lib.hid (HX1.out.below hb2)
  have x0 := HX2.out.cell 0 rfl
  have x1 := HX2.out.cell 1 rfl
  have x2 := HX2.out.cell 2 rfl
  clear hb2 HB1 HX1
  by_cases hx : 8000 < x.size
  · have hd : decide ((8000 : Int) < (x.size : Int)) = true := decide_eq_true (by omega)
    have hb0 : Hid (true = (decide (8000 < x.size) || decide (2000 < y.size))) := by show _ = _; rw [decide_eq_true hx]; rfl
    go_wp2_with fail
    go_loopw [8, 34] (fun l i wr => ∃ j : Nat, j ≤ s.idx.length ∧ i = .int .i64 j ∧ ∃ bl : Bool, l = .bool bl ∧ Hid (bl = ((decide (8000 < x.size) || decide (2000 < y.size)) || longE s row ((List.range s.idx.length).take j))) ∧ Hid (Below w.heap.size w wr) ∧ Hid (Box wr w.heap.size 27 [.slice A1 s.cols.length c1, .slice A2 s.key.length c2, .slice A3 s.idx.length c3])) (fun _ i _ => s.idx.length - (intOf i).toNat)
    case atStart => exact ⟨0, by omega, rfl, _, rfl, by (show _ = _; rw [← hb0.out]; simp [longE]), HB2, HX2⟩
    case round =>
      clear HB2 HX2 x0 x1 x2
      obtain ⟨j, hj, rfl, bl, rfl, hbl, HB, HX⟩ := hrel
      have x0 := HX.out.cell 0 rfl
      have x1 := HX.out.cell 1 rfl
      have x2 := HX.out.cell 2 rfl
      by_cases hlt : j < s.idx.length
      · have Htk : Hid ((List.range s.idx.length).take (j + 1) = (List.range s.idx.length).take j ++ [j]) := by
          show _ = _
          rw [List.take_succ_eq_append_getElem (by simpa using hlt)]; simp
        cases bl
        · have HEj := Lib.hid (HE.out (j : Int))
          have Hla : Hid (longE s row ((List.range s.idx.length).take (j + 1)) = (longE s row ((List.range s.idx.length).take j) || decide (2000 < (entryF s (j : Int) row).size))) := by
            show _ = _
            rw [Htk.out]; simp [longE, List.any_append]
          generalize entryF s (j : Int) row = z at *
          go_wp2_with fail
          refine (HEj.out _ (HS.out.below HB.out) (HV.out.below (flat_stable _) HB.out) ((HB.out.cell (p := ⟨0, 0, none⟩) hzm).trans HMX.out)).mono ?_
          rintro e w5 ⟨rfl, hb5⟩
          have HB5 := Lib.hid (below_next HB.out hb5)
          have HX5 := Lib.hid (HX.out.below hb5)
          clear hb5 x0 x1 x2
          by_cases hz : 2000 < z.size
          · have hdz : decide ((2000 : Int) < (z.size : Int)) = true := decide_eq_true (by omega)
            have hn : Hid (true = ((decide (8000 < x.size) || decide (2000 < y.size)) || longE s row ((List.range s.idx.length).take (j + 1)))) := by
              show _ = _
              rw [Hla.out, decide_eq_true hz]; simp
            go_wp2_with fail
            go_roundw
            case rel => exact ⟨j + 1, by omega, by go_num, true, rfl, hn, HB5, HX5⟩
            case measure => simp [intOf]; omega
          · have hdz : decide ((2000 : Int) < (z.size : Int)) = false := decide_eq_false (by omega)
            have hn : Hid (false = ((decide (8000 < x.size) || decide (2000 < y.size)) || longE s row ((List.range s.idx.length).take (j + 1)))) := by
              show _ = _
              rw [Hla.out, decide_eq_false hz, Bool.or_false]; exact hbl.out
            go_wp2_with fail
            go_roundw
            case rel => exact ⟨j + 1, by omega, by go_num, false, rfl, hn, HB5, HX5⟩
            case measure => simp [intOf]; omega
        · have hn : Hid (true = ((decide (8000 < x.size) || decide (2000 < y.size)) || longE s row ((List.range s.idx.length).take (j + 1)))) := by
            show _ = _
            have h := hbl.out
            rw [Htk.out]
            simp only [longE, List.any_append]
            rw [← Bool.or_assoc]
            rw [show ((decide (8000 < x.size) || decide (2000 < y.size)) || ((List.range s.idx.length).take j).any fun i => decide (2000 < (entryF s (i : Int) row).size)) = true from h.symm]
            rfl
          go_wp2_with fail
          go_roundw
          case rel => exact ⟨j + 1, by omega, by go_num, true, rfl, hn, HB, HX⟩
          case measure => simp [intOf]; omega
      · obtain rfl : j = s.idx.length := by omega
        rw [List.take_of_length_le (by simp)] at hbl
        cases bl
        · have Hq' : Hid (fitF s row = 0) := by show _ = _; rw [Hq.out, ← hbl.out]; rfl
          go_wp2_with fail
          go_ret
          exact ⟨by rw [Hq'.out]; rfl, HB.out⟩
        · have Hq' : Hid (fitF s row = 5) := by show _ = _; rw [Hq.out, ← hbl.out]; rfl
          go_wp2_with fail
          go_ret
          exact ⟨by rw [Hq'.out]; rfl, HB.out⟩
  · have hd : decide ((8000 : Int) < (x.size : Int)) = false := decide_eq_false (by omega)
    go_wp2_with fail
    refine (HK.out _ (HS.out.below HB2.out) (HV.out.below (flat_stable _) HB2.out) ((HB2.out.cell (p := ⟨0, 0, none⟩) hzm).trans HMX.out)).mono ?_
    rintro e w3 ⟨rfl, hb3⟩
    have HB3 := Lib.hid (below_next HB2.out hb3)
    have HX3 := Lib.hid (HX2.out.below hb3)
    clear hb3 x0 x1 x2
    have x0 := HX3.out.cell 0 rfl
    have x1 := HX3.out.cell 1 rfl
    have x2 := HX3.out.cell 2 rfl
    have hd2 : decide ((2000 : Int) < (y.size : Int)) = decide (2000 < y.size) := by rw [decide_eq_decide]; omega
    have hb0 : Hid (decide (2000 < y.size) = (decide (8000 < x.size) || decide (2000 < y.size))) := by show _ = _; rw [decide_eq_false hx]; rfl
    go_wp2_with fail
    clear HB2 HX2
    go_loopw [8, 34] (fun l i wr => ∃ j : Nat, j ≤ s.idx.length ∧ i = .int .i64 j ∧ ∃ bl : Bool, l = .bool bl ∧ Hid (bl = ((decide (8000 < x.size) || decide (2000 < y.size)) || longE s row ((List.range s.idx.length).take j))) ∧ Hid (Below w.heap.size w wr) ∧ Hid (Box wr w.heap.size 27 [.slice A1 s.cols.length c1, .slice A2 s.key.length c2, .slice A3 s.idx.length c3])) (fun _ i _ => s.idx.length - (intOf i).toNat)
    case atStart => exact ⟨0, by omega, rfl, _, rfl, by (show _ = _; rw [← hb0.out]; simp [longE]), HB3, HX3⟩
    case round =>
      clear HB3 HX3 x0 x1 x2
      obtain ⟨j, hj, rfl, bl, rfl, hbl, HB, HX⟩ := hrel
      have x0 := HX.out.cell 0 rfl
      have x1 := HX.out.cell 1 rfl
      have x2 := HX.out.cell 2 rfl
      by_cases hlt : j < s.idx.length
      · have Htk : Hid ((List.range s.idx.length).take (j + 1) = (List.range s.idx.length).take j ++ [j]) := by
          show _ = _
          rw [List.take_succ_eq_append_getElem (by simpa using hlt)]; simp
        cases bl
        · have HEj := Lib.hid (HE.out (j : Int))
          have Hla : Hid (longE s row ((List.range s.idx.length).take (j + 1)) = (longE s row ((List.range s.idx.length).take j) || decide (2000 < (entryF s (j : Int) row).size))) := by
            show _ = _
            rw [Htk.out]; simp [longE, List.any_append]
          generalize entryF s (j : Int) row = z at *
          go_wp2_with fail
          refine (HEj.out _ (HS.out.below HB.out) (HV.out.below (flat_stable _) HB.out) ((HB.out.cell (p := ⟨0, 0, none⟩) hzm).trans HMX.out)).mono ?_
          rintro e w5 ⟨rfl, hb5⟩
          have HB5 := Lib.hid (below_next HB.out hb5)
          have HX5 := Lib.hid (HX.out.below hb5)
          clear hb5 x0 x1 x2
          by_cases hz : 2000 < z.size
          · have hdz : decide ((2000 : Int) < (z.size : Int)) = true := decide_eq_true (by omega)
            have hn : Hid (true = ((decide (8000 < x.size) || decide (2000 < y.size)) || longE s row ((List.range s.idx.length).take (j + 1)))) := by
              show _ = _
              rw [Hla.out, decide_eq_true hz]; simp
            go_wp2_with fail
            go_roundw
            case rel => exact ⟨j + 1, by omega, by go_num, true, rfl, hn, HB5, HX5⟩
            case measure => simp [intOf]; omega
          · have hdz : decide ((2000 : Int) < (z.size : Int)) = false := decide_eq_false (by omega)
            have hn : Hid (false = ((decide (8000 < x.size) || decide (2000 < y.size)) || longE s row ((List.range s.idx.length).take (j + 1)))) := by
              show _ = _
              rw [Hla.out, decide_eq_false hz, Bool.or_false]; exact hbl.out
            go_wp2_with fail
            go_roundw
            case rel => exact ⟨j + 1, by omega, by go_num, false, rfl, hn, HB5, HX5⟩
            case measure => simp [intOf]; omega
        · have hn : Hid (true = ((decide (8000 < x.size) || decide (2000 < y.size)) || longE s row ((List.range s.idx.length).take (j + 1)))) := by
            show _ = _
            have h := hbl.out
            rw [Htk.out]
            simp only [longE, List.any_append]
            rw [← Bool.or_assoc]
            rw [show ((decide (8000 < x.size) || decide (2000 < y.size)) || ((List.range s.idx.length).take j).any fun i => decide (2000 < (entryF s (i : Int) row).size)) = true from h.symm]
            rfl
          go_wp2_with fail
          go_roundw
          case rel => exact ⟨j + 1, by omega, by go_num, true, rfl, hn, HB, HX⟩
          case measure => simp [intOf]; omega
      · obtain rfl : j = s.idx.length := by omega
        rw [List.take_of_length_le (by simp)] at hbl
        cases bl
        · have Hq' : Hid (fitF s row = 0) := by show _ = _; rw [Hq.out, ← hbl.out]; rfl
          go_wp2_with fail
          go_ret
          exact ⟨by rw [Hq'.out]; rfl, HB.out⟩
        · have Hq' : Hid (fitF s row = 5) := by show _ = _; rw [Hq.out, ← hbl.out]; rfl
          go_wp2_with fail
          go_ret
          exact ⟨by rw [Hq'.out]; rfl, HB.out⟩
end Go.Proofs.Pw
