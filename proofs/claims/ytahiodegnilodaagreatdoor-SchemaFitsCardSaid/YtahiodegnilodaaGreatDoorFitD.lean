/- The reference's plain: which row fits but for lengths. -/
import Derived.Test.YtahiodegnilodaaGreatDoorFitC
namespace Go.Proofs.Pw
open Go.RowKit

theorem RRight_small (A1 A2 A3 : Option Addr) (c1 c2 c3 : Nat) (s : PSch) (w : World) (hs : RSch w s A1 A2 A3) (hm : Small s) :
    Calls Tryz.prog 46 #[.agg #[.slice A1 s.cols.length c1, .slice A2 s.key.length c2, .slice A3 s.idx.length c3]] w (Gives w (.bool (rightP s))) := by
  have h := RRight_any A1 A2 A3 _ _ _ c1 c2 c3 s w rfl rfl rfl hs (fun c hc => Nat.le_trans (hm.cs c hc) (by decide)) (fun x hx => Nat.le_trans (hm.xs x hx).1 (by decide))
  rw [← right_eq] at h
  exact h
theorem cell_alloc_old {w : World} {b o : Nat} {v : Value} (h : w.cell? ⟨b, o, none⟩ = some v) (ob : Obj) : (w.alloc ob).cell? ⟨b, o, none⟩ = some v :=
  ((below_new w ob).cell (p := ⟨b, o, none⟩) (cell_lt h)).trans h

set_option maxRecDepth 100000 in
set_option maxHeartbeats 1000000 in
theorem RPlain_any (A1 A2 A3 A : Option Addr) (c1 c2 c3 c : Nat) (s : PSch) (row : List PVal) (w : World) (hs : RSch w s A1 A2 A3) (hr : Vals w A row) (hn : ∀ v ∈ row, i64R v.n) (hm : Small s) :
    Calls Tryz.prog 55 #[.agg #[.slice A1 s.cols.length c1, .slice A2 s.key.length c2, .slice A3 s.idx.length c3], .slice A row.length c] w (Gives w (.int .i64 (plainF s row))) := by
  have HR := Lib.hid (RRight_small A1 A2 A3 c1 c2 c3 s (w.alloc (.cells #[.slice A1 s.cols.length c1, .slice A2 s.key.length c2, .slice A3 s.idx.length c3] 27)) (hs.below (below_new _ _)) hm)
  have HC := Lib.hid hs.1
  have HV := Lib.hid hr
  have HN := Lib.hid hn
  have hm1 := hs.1.1
  have hm2 := hr.1
  have X0 := Box.new w [.slice A1 s.cols.length c1, .slice A2 s.key.length c2, .slice A3 s.idx.length c3] 27
  have HX0 := Lib.hid X0
  have hz0 := X0.lt
  clear hs hr hn hm X0
  by_cases hp : rightP s = true
  case neg =>
    have hp : rightP s = false := by simpa using hp
    have hq : Hid (plainF s row = 1) := by show _ = _; rw [plainF, if_pos hp]
    go_enter Tryz.func55, Tryz.ntmps55
    go_wp2_with fail
    refine HR.out.mono ?_
    rintro e w1 ⟨rfl, hb1⟩
    have hB := Lib.hid (below_next (below_new w _) hb1)
    go_wp2_with fail
    go_ret
    exact ⟨by rw [hq.out]; rfl, hB.out⟩
  rw [hp] at HR
  have hp' : ¬ rightP s = false := by rw [hp]; decide
  by_cases hlen : row.length = s.cols.length
  case neg =>
    have hq : Hid (plainF s row = 10) := by show _ = _; rw [plainF, if_neg hp', if_neg hlen]
    have hd : (((row.length : Nat) : Int) == (s.cols.length : Int)) = false := by simp; omega
    have hd2 : (((row.length : Nat) : Int) != (s.cols.length : Int)) = true := by simp; omega
    have Hl := Lib.hid hlen
    clear hlen hp'
    go_enter Tryz.func55, Tryz.ntmps55
    go_wp2_with fail
    refine HR.out.mono ?_
    rintro e w1 ⟨rfl, hb1⟩
    have hB := Lib.hid (below_next (below_new w _) hb1)
    have x0 := (HX0.out.below hb1).cell 0 rfl
    clear hb1
    go_wp2_with fail
    go_ret
    exact ⟨by rw [hq.out]; rfl, hB.out⟩
  have hq : Hid (plainF s row = plainL s.cols row) := by show _ = _; rw [plainF, if_neg hp', if_pos hlen]
  have hd : (((row.length : Nat) : Int) == (s.cols.length : Int)) = true := by simp; omega
  have hd2 : (((row.length : Nat) : Int) != (s.cols.length : Int)) = false := by simp; omega
  have Hl := Lib.hid hlen
  clear hlen hp' hp
  go_enter Tryz.func55, Tryz.ntmps55
  go_wp2_with fail
  refine HR.out.mono ?_
  rintro e w1 ⟨rfl, hb1⟩
  have hB := Lib.hid (below_next (below_new w _) hb1)
  have x0 := (HX0.out.below hb1).cell 0 rfl
  have hbq := hb1
  clear hb1 HR
  go_wp2_with fail
  clear x0
  have HXX := Lib.hid (HX0.out.below hbq)
  clear hbq
  go_loopw [5] (fun i wr => ∃ j : Nat, j ≤ row.length ∧ i = .int .i64 j ∧ Hid (plainL (s.cols.drop j) (row.drop j) = plainL s.cols row) ∧ Hid (Below w.heap.size w wr) ∧ Hid (Box wr w.heap.size 27 [.slice A1 s.cols.length c1, .slice A2 s.key.length c2, .slice A3 s.idx.length c3])) (fun i _ => row.length - (intOf i).toNat)
  case atStart => exact ⟨0, by omega, rfl, rfl, hB, HXX⟩
  case round =>
    clear hB HXX
    obtain ⟨j, hj, rfl, hh, hB, hXS⟩ := hrel
    by_cases hlt2 : j < row.length
    · have hlt : j < s.cols.length := by have := Hl.out; omega
      obtain ⟨b, off, rfl, hb, hbb, g0, g1, g2⟩ := cols_at (HC.out.below (flat_stable _) hB.out) hlt
      obtain ⟨b2, off2, rfl, hb2, hbb2, r0, r1, r2⟩ := vals_at (HV.out.below (flat_stable _) hB.out) hlt2
      have hny := HN.out _ (List.getElem_mem hlt2)
      rw [drop_cons _ _ hlt, drop_cons _ _ hlt2, plainL] at hh
      generalize s.cols[j] = d at *
      generalize row[j] = y at *
      have HRV := Lib.hid (fun w => RRightV_any y w hny)
      clear hny
      have hj0 : (0 : Int) ≤ j := by omega
      have hj1 : (j : Int) < (row.length : Int) := by omega
      have hX7 := Box.new wr [.int .i64 y.kind, .int .i64 y.n, .string y.s] 65
      have hXa := hXS.out.alloc (.cells #[.int .i64 y.kind, .int .i64 y.n, .string y.s] 65)
      have hBa := b_alloc (o := (.cells #[.int .i64 y.kind, .int .i64 y.n, .string y.s] 65)) hB.out
      have G0 := (cell_alloc_old g0 (.cells #[.int .i64 y.kind, .int .i64 y.n, .string y.s] 65))
      have G1 := (cell_alloc_old g1 (.cells #[.int .i64 y.kind, .int .i64 y.n, .string y.s] 65))
      have G2 := (cell_alloc_old g2 (.cells #[.int .i64 y.kind, .int .i64 y.n, .string y.s] 65))
      have hsj : (j : Int) < (s.cols.length : Int) := by omega
      go_wp2_with fail
      generalize wr.alloc (.cells #[.int .i64 y.kind, .int .i64 y.n, .string y.s] 65) = wx at *
      generalize wr.heap.size = N at *
      have t0 := hX7.cell 0 rfl
      have t1 := hX7.cell 1 rfl
      have t2 := hX7.cell 2 rfl
      have x0 := hXa.cell 0 rfl
      have hzN := hX7.lt
      have hzS := hXa.lt
      have hzb := cell_lt G0
      have HX7 := Lib.hid hX7
      have HXa := Lib.hid hXa
      have HBa := Lib.hid hBa
      clear hX7 hXa hBa g0 g1 g2 r0 r1 r2 hB hXS hb hbb hb2 hbb2
      cases hrv : rightV y
      · rw [if_pos hrv] at hh
        have hq' : Hid (plainF s row = 10) := by rw [hq.out, ← hh.out]; rfl
        rw [hrv] at HRV
        clear hrv
        refine wp_ext (by kernel_rfl) (by kernel_rfl) ?_
        repeat (go_big_quiet_step ((go_at_call 103; exact gives_ext (HRV.out _))))
        refine wpQuiet_nil ?_
        rintro ⟨w2, hb2⟩
        dsimp only
        obtain ⟨hc2, -⟩ := bcell hb2
        have HB2 := Lib.hid (below_next HBa.out hb2)
        have HX2 := Lib.hid (HXa.out.below hb2)
        clear hb2
        go_wp2_with fail
        go_ret
        exact ⟨by rw [hq'.out]; rfl, HB2.out⟩
      rw [if_neg (by rw [hrv]; decide)] at hh
      rw [hrv] at HRV
      clear hrv
      obtain ⟨yk, yn, ys⟩ := y
      obtain ⟨dn, dt, dnn⟩ := d
      dsimp only at *
      by_cases hk0 : yk = 0
      · subst hk0
        rw [if_pos rfl] at hh
        cases dnn
        · have hh : Hid (plainL (s.cols.drop (j + 1)) (row.drop (j + 1)) = plainL s.cols row) := hh
          refine wp_ext (by kernel_rfl) (by kernel_rfl) ?_
          repeat (go_big_quiet_step ((go_at_call 103; exact gives_ext (HRV.out _))))
          refine wpQuiet_nil ?_
          rintro ⟨w2, hb2⟩
          dsimp only
          obtain ⟨hc2, -⟩ := bcell hb2
          have HB2 := Lib.hid (below_next HBa.out hb2)
          have HX2 := Lib.hid (HXa.out.below hb2)
          clear hb2
          go_wp2_with fail
          go_roundw
          case rel => exact ⟨j + 1, by omega, by go_num, hh, HB2, HX2⟩
          case measure => simp [intOf]; omega
        · have hq' : Hid (plainF s row = 11) := by rw [hq.out, ← hh.out]; rfl
          refine wp_ext (by kernel_rfl) (by kernel_rfl) ?_
          repeat (go_big_quiet_step ((go_at_call 103; exact gives_ext (HRV.out _))))
          refine wpQuiet_nil ?_
          rintro ⟨w2, hb2⟩
          dsimp only
          obtain ⟨hc2, -⟩ := bcell hb2
          have HB2 := Lib.hid (below_next HBa.out hb2)
          have HX2 := Lib.hid (HXa.out.below hb2)
          clear hb2
          go_wp2_with fail
          go_ret
          exact ⟨by rw [hq'.out]; rfl, HB2.out⟩
      rw [if_neg hk0] at hh
      have e0 : (yk == 0) = false := by simp [hk0]
      have e1 : (yk != 0) = true := by simp [hk0]
      by_cases hkt : yk = dt
      · rw [if_pos hkt] at hh
        have e2 : (yk == dt) = true := by simp [hkt]
        have e3 : (yk != dt) = false := by simp [hkt]
        clear hkt hk0
        refine wp_ext (by kernel_rfl) (by kernel_rfl) ?_
        repeat (go_big_quiet_step ((go_at_call 103; exact gives_ext (HRV.out _))))
        refine wpQuiet_nil ?_
        rintro ⟨w2, hb2⟩
        dsimp only
        obtain ⟨hc2, -⟩ := bcell hb2
        have HB2 := Lib.hid (below_next HBa.out hb2)
        have HX2 := Lib.hid (HXa.out.below hb2)
        clear hb2
        go_wp2_with fail
        go_roundw
        case rel => exact ⟨j + 1, by omega, by go_num, hh, HB2, HX2⟩
        case measure => simp [intOf]; omega
      · rw [if_neg hkt] at hh
        have e2 : (yk == dt) = false := by simp [hkt]
        have e3 : (yk != dt) = true := by simp [hkt]
        have hq' : Hid (plainF s row = 10) := by rw [hq.out, ← hh.out]; rfl
        clear hkt hk0
        refine wp_ext (by kernel_rfl) (by kernel_rfl) ?_
        repeat (go_big_quiet_step ((go_at_call 103; exact gives_ext (HRV.out _))))
        refine wpQuiet_nil ?_
        rintro ⟨w2, hb2⟩
        dsimp only
        obtain ⟨hc2, -⟩ := bcell hb2
        have HB2 := Lib.hid (below_next HBa.out hb2)
        have HX2 := Lib.hid (HXa.out.below hb2)
        clear hb2
        go_wp2_with fail
        go_ret
        exact ⟨by rw [hq'.out]; rfl, HB2.out⟩
    · have hlr := Hl.out
      rw [List.drop_eq_nil_of_le (by omega)] at hh
      have hq' : Hid (plainF s row = 0) := by rw [hq.out, ← hh.out]; rfl
      clear hlr
      go_wp2_with fail
      go_ret
      exact ⟨by rw [hq'.out]; rfl, hB.out⟩
end Go.Proofs.Pw
