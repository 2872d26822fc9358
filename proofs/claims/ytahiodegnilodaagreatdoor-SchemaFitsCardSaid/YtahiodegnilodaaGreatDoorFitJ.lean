/- Does a row fit: the reference's Fit. -/
import Derived.Test.YtahiodegnilodaaGreatDoorFitI
namespace Go.Proofs.Pw
open Go.RowKit

set_option maxRecDepth 100000 in
set_option maxHeartbeats 1000000 in
theorem RFit_any (A1 A2 A3 A : Option Addr) (c1 c2 c3 c : Nat) (s : PSch) (row : List PVal) (w : World) (hs : RSch w s A1 A2 A3) (hr : Vals w A row) (hn : ∀ v ∈ row, i64R v.n) (hm : Small s) :
    Calls Tryz.prog 18 #[.agg #[.slice A1 s.cols.length c1, .slice A2 s.key.length c2, .slice A3 s.idx.length c3], .slice A row.length c] w (Gives w (.int .i64 (fitF s row))) := by
  have HS := Lib.hid hs
  have HV := Lib.hid hr
  have HN := Lib.hid hn
  have Hm := Lib.hid hm
  have hm3 := hs.2.2.1
  have X0 := Box.new w [.slice A1 s.cols.length c1, .slice A2 s.key.length c2, .slice A3 s.idx.length c3] 27
  have HX0 := Lib.hid X0
  have hz0 := X0.lt
  have HP := Lib.hid (RPlain_any A1 A2 A3 A c1 c2 c3 c s row (w.alloc (.cells #[.slice A1 s.cols.length c1, .slice A2 s.key.length c2, .slice A3 s.idx.length c3] 27)) (hs.below (below_new _ _)) (hr.below (flat_stable _) (below_new _ _)) hn hm)
  clear hs hr hn hm X0
  by_cases h0 : plainF s row = 0
  case neg =>
    have Hq : Hid (fitF s row = plainF s row) := by show _ = _; rw [fitF, if_neg h0]
    have hb : (plainF s row == 0) = false := by simpa using h0
    have hb2 : (plainF s row != 0) = true := by simpa using h0
    clear h0
    go_enter Tryz.func18, Tryz.ntmps18
    go_wp2_with fail
    refine HP.out.mono ?_
    rintro e w1 ⟨rfl, hb1⟩
    have HB1 := Lib.hid (below_next (below_new w _) hb1)
    clear hb1
    go_wp2_with fail
    go_ret
    exact ⟨by rw [Hq.out]; rfl, HB1.out⟩
  have Hq : Hid (fitF s row = if (decide (8000 < (writeV row).1.size) || decide (2000 < (keyRowF s row).size) || longE s row (List.range s.idx.length)) then 5 else 0) := by show _ = _; rw [fitF, if_pos h0]
  have HW := Lib.hid (fun w h => RWriteV_any A c row w h HN.out (row_ne h0))
  have HK := Lib.hid (fun w h1 h2 => RKeyRow_any A1 A2 A3 A c1 c2 c3 c s row w h1 h2 HN.out Hm.out)
  have HE := Lib.hid (fun (i : Int) w h1 h2 => REntry_any A1 A2 A3 A c1 c2 c3 c s i row w h1 h2 HN.out Hm.out)
  rw [h0] at HP
  clear h0
  generalize (writeV row).2 = xb at *
  generalize (writeV row).1 = x at *
  generalize keyRowF s row = y at *
  go_enter Tryz.func18, Tryz.ntmps18
  go_wp2_with fail
  refine HP.out.mono ?_
  rintro e w1 ⟨rfl, hb1⟩
  have HB1 := Lib.hid (below_next (below_new w _) hb1)
  have HX1 := Lib.hid (HX0.out.below hb1)
  clear hb1 HP
  go_wp2_with fail
  refine (HW.out _ (HV.out.below (flat_stable _) HB1.out)).mono ?_
  rintro e w2 ⟨rfl, hb2⟩
  have HB2 := Lib.hid (below_next HB1.out hb2)
  have HX2 := Lib.hid (HX1.out.below hb2)
  have x0 := HX2.out.cell 0 rfl
  have x1 := HX2.out.cell 1 rfl
  have x2 := HX2.out.cell 2 rfl
  clear hb2 HB1 HX1
  by_cases hx : 8000 < x.size
  · have hd : decide ((8000 : Int) < (x.size : Int)) = true := decide_eq_true (by omega)
    have Hq' : Hid (fitF s row = 5) := by show _ = _; rw [Hq.out, decide_eq_true hx]; rfl
    go_wp2_with fail
    go_ret
    exact ⟨by rw [Hq'.out]; rfl, HB2.out⟩
  have hd : decide ((8000 : Int) < (x.size : Int)) = false := decide_eq_false (by omega)
  rw [decide_eq_false hx] at Hq
  by_cases hy : 2000 < y.size
  · have hd2 : decide ((2000 : Int) < (y.size : Int)) = true := decide_eq_true (by omega)
    have Hq' : Hid (fitF s row = 5) := by show _ = _; rw [Hq.out, decide_eq_true hy]; rfl
    go_wp2_with fail
    refine (HK.out _ (HS.out.below HB2.out) (HV.out.below (flat_stable _) HB2.out)).mono ?_
    rintro e w3 ⟨rfl, hb3⟩
    have HB3 := Lib.hid (below_next HB2.out hb3)
    clear hb3 x0 x1 x2
    go_wp2_with fail
    go_ret
    exact ⟨by rw [Hq'.out]; rfl, HB3.out⟩
  have hd2 : decide ((2000 : Int) < (y.size : Int)) = false := decide_eq_false (by omega)
  rw [decide_eq_false hy] at Hq
  have Hq : Hid (fitF s row = if longE s row (List.range s.idx.length) then 5 else 0) := Hq
  go_wp2_with fail
  refine (HK.out _ (HS.out.below HB2.out) (HV.out.below (flat_stable _) HB2.out)).mono ?_
  rintro e w3 ⟨rfl, hb3⟩
  have HB3 := Lib.hid (below_next HB2.out hb3)
  have HX3 := Lib.hid (HX2.out.below hb3)
  clear hb3 x0 x1 x2
  have x0 := HX3.out.cell 0 rfl
  have x1 := HX3.out.cell 1 rfl
  have x2 := HX3.out.cell 2 rfl
  go_wp2_with fail
  go_loopw [8] (fun i wr => ∃ j : Nat, j ≤ s.idx.length ∧ i = .int .i64 j ∧ Hid (longE s row ((List.range s.idx.length).drop j) = longE s row (List.range s.idx.length)) ∧ Hid (Below w.heap.size w wr) ∧ Hid (Box wr w.heap.size 27 [.slice A1 s.cols.length c1, .slice A2 s.key.length c2, .slice A3 s.idx.length c3])) (fun i _ => s.idx.length - (intOf i).toNat)
  case atStart => exact ⟨0, by omega, rfl, rfl, HB3, HX3⟩
  case round =>
    clear HB2 HX2 HB3 HX3 x0 x1 x2
    obtain ⟨j, hj, rfl, hh, HB, HX⟩ := hrel
    have x0 := HX.out.cell 0 rfl
    have x1 := HX.out.cell 1 rfl
    have x2 := HX.out.cell 2 rfl
    by_cases hlt : j < s.idx.length
    · have hdr : (List.range s.idx.length).drop j = j :: (List.range s.idx.length).drop (j + 1) := by
        rw [drop_cons _ _ (by simpa using hlt)]; simp
      rw [hdr] at hh
      have hh : Hid ((decide (2000 < (entryF s (j : Int) row).size) || longE s row ((List.range s.idx.length).drop (j + 1))) = longE s row (List.range s.idx.length)) := hh
      clear hdr
      have HEj := Lib.hid (HE.out (j : Int))
      generalize entryF s (j : Int) row = z at *
      go_wp2_with fail
      refine (HEj.out _ (HS.out.below HB.out) (HV.out.below (flat_stable _) HB.out)).mono ?_
      rintro e w5 ⟨rfl, hb5⟩
      have HB5 := Lib.hid (below_next HB.out hb5)
      have HX5 := Lib.hid (HX.out.below hb5)
      clear hb5 x0 x1 x2
      by_cases hz : 2000 < z.size
      · have hdz : decide ((2000 : Int) < (z.size : Int)) = true := decide_eq_true (by omega)
        rw [decide_eq_true hz] at hh
        have Hq' : Hid (fitF s row = 5) := by show _ = _; rw [Hq.out, ← hh.out]; rfl
        go_wp2_with fail
        go_ret
        exact ⟨by rw [Hq'.out]; rfl, HB5.out⟩
      · have hdz : decide ((2000 : Int) < (z.size : Int)) = false := decide_eq_false (by omega)
        rw [decide_eq_false hz, Bool.false_or] at hh
        go_wp2_with fail
        go_roundw
        case rel => exact ⟨j + 1, by omega, by go_num, hh, HB5, HX5⟩
        case measure => simp [intOf]; omega
    · rw [List.drop_eq_nil_of_le (by simp; omega)] at hh
      have Hq' : Hid (fitF s row = 0) := by show _ = _; rw [Hq.out, ← hh.out]; rfl
      go_wp2_with fail
      go_ret
      exact ⟨by rw [Hq'.out]; rfl, HB.out⟩
end Go.Proofs.Pw
