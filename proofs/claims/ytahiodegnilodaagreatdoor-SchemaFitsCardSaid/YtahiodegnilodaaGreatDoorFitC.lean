/- Which row fits but for lengths: the program's plain and the reference's. -/
import Derived.Test.YtahiodegnilodaaGreatDoorMFitB
import Derived.Test.YtahiodegnilodaaGreatDoorMSameA
namespace Go.Proofs.Pw
open Go.RowKit

def plainL : List PCol → List PVal → Int
  | [], _ => 0
  | _ :: _, [] => 0
  | c :: cs, v :: vs => if rightV v = false then 10 else if v.kind = 0 then if c.nn then 11 else plainL cs vs else if v.kind = c.typ then plainL cs vs else 10
def plainF (s : PSch) (row : List PVal) : Int := if rightP s = false then 1 else if row.length = s.cols.length then plainL s.cols row else 10

set_option maxRecDepth 100000 in
set_option maxHeartbeats 1000000 in
theorem PPlain_any (A1 A2 A3 A : Option Addr) (c1 c2 c3 c : Nat) (s : PSch) (row : List PVal) (w : World) (hs : RSch w s A1 A2 A3) (hr : Vals w A row) (hn : ∀ v ∈ row, i64R v.n) (hm : Small s) :
    Calls Tryz.prog 53 #[.agg #[.slice A1 s.cols.length c1, .slice A2 s.key.length c2, .slice A3 s.idx.length c3], .slice A row.length c] w (Gives w (.int .i64 (plainF s row))) := by
  have HR := Lib.hid (PRight_small A1 A2 A3 c1 c2 c3 s (w.alloc (.cells #[.slice A1 s.cols.length c1, .slice A2 s.key.length c2, .slice A3 s.idx.length c3] 27)) (hs.below (below_new _ _)) hm)
  have HC := Lib.hid hs.1
  have HV := Lib.hid hr
  have HN := Lib.hid hn
  have hm1 := hs.1.1
  have hm2 := hr.1
  have X0 := Box.new w [.slice A1 s.cols.length c1, .slice A2 s.key.length c2, .slice A3 s.idx.length c3] 27
  have HX0 := Lib.hid X0
  have hz0 := X0.lt
  clear hs hr hn hm X0
  by_cases hp : rightP s = true
  case neg =>
    have hp : rightP s = false := by simpa using hp
    have hq : Hid (plainF s row = 1) := by show _ = _; rw [plainF, if_pos hp]
    go_enter Tryz.func53, Tryz.ntmps53
    go_wp2_with fail
    refine HR.out.mono ?_
    rintro e w1 ⟨rfl, hb1⟩
    have hB := Lib.hid (below_next (below_new w _) hb1)
    go_wp2_with fail
    go_ret
    exact ⟨by rw [hq.out]; rfl, hB.out⟩
  rw [hp] at HR
  have hp' : ¬ rightP s = false := by rw [hp]; decide
  by_cases hlen : row.length = s.cols.length
  case neg =>
    have hq : Hid (plainF s row = 10) := by show _ = _; rw [plainF, if_neg hp', if_neg hlen]
    have hd : (((row.length : Nat) : Int) == (s.cols.length : Int)) = false := by simp; omega
    have hd2 : (((row.length : Nat) : Int) != (s.cols.length : Int)) = true := by simp; omega
    have Hl := Lib.hid hlen
    clear hlen hp'
    go_enter Tryz.func53, Tryz.ntmps53
    go_wp2_with fail
    refine HR.out.mono ?_
    rintro e w1 ⟨rfl, hb1⟩
    have hB := Lib.hid (below_next (below_new w _) hb1)
    have x0 := (HX0.out.below hb1).cell 0 rfl
    clear hb1
    go_wp2_with fail
    go_ret
    exact ⟨by rw [hq.out]; rfl, hB.out⟩
  have hq : Hid (plainF s row = plainL s.cols row) := by show _ = _; rw [plainF, if_neg hp', if_pos hlen]
  have hd : (((row.length : Nat) : Int) == (s.cols.length : Int)) = true := by simp; omega
  have hd2 : (((row.length : Nat) : Int) != (s.cols.length : Int)) = false := by simp; omega
  have Hl := Lib.hid hlen
  clear hlen hp' hp
  go_enter Tryz.func53, Tryz.ntmps53
  go_wp2_with fail
  refine HR.out.mono ?_
  rintro e w1 ⟨rfl, hb1⟩
  have hB := Lib.hid (below_next (below_new w _) hb1)
  have x0 := (HX0.out.below hb1).cell 0 rfl
  clear hb1 HR
  go_wp2_with fail
  clear x0
  go_loopw [22] (fun i wr => ∃ j : Nat, j ≤ s.cols.length ∧ i = .int .i64 j ∧ Hid (plainL (s.cols.drop j) (row.drop j) = plainL s.cols row) ∧ Hid (Below w.heap.size w wr)) (fun i _ => s.cols.length - (intOf i).toNat)
  case atStart => exact ⟨0, by omega, rfl, rfl, hB⟩
  case round =>
    clear hB
    obtain ⟨j, hj, rfl, hh, hB⟩ := hrel
    by_cases hlt : j < s.cols.length
    · have hlt2 : j < row.length := by have := Hl.out; omega
      obtain ⟨b, off, rfl, hb, hbb, g0, g1, g2⟩ := cols_at (HC.out.below (flat_stable _) hB.out) hlt
      obtain ⟨b2, off2, rfl, hb2, hbb2, r0, r1, r2⟩ := vals_at (HV.out.below (flat_stable _) hB.out) hlt2
      have hny := HN.out _ (List.getElem_mem hlt2)
      rw [drop_cons _ _ hlt, drop_cons _ _ hlt2, plainL] at hh
      generalize s.cols[j] = d at *
      generalize row[j] = y at *
      have HRV := Lib.hid (fun w => PRightV_any y w hny)
      clear hny
      have hj0 : (0 : Int) ≤ j := by omega
      have hj1 : (j : Int) < (row.length : Int) := by omega
      have hX6 := (Box.new wr [.string d.name, .int .i64 d.typ, .bool d.nn] 45).alloc (.cells #[.int .i64 y.kind, .int .i64 y.n, .string y.s] 65)
      have hX7 := Box.new (wr.alloc (.cells #[.string d.name, .int .i64 d.typ, .bool d.nn] 45)) [.int .i64 y.kind, .int .i64 y.n, .string y.s] 65
      have hzz : (wr.alloc (.cells #[.string d.name, .int .i64 d.typ, .bool d.nn] 45)).heap.size = wr.heap.size + 1 := by simp
      rw [hzz] at hX7
      have HX6 := Lib.hid hX6
      have HX7 := Lib.hid hX7
      clear hX6 hX7 hzz
      have hbl : b2 < wr.heap.size + 1 := by omega
      have hbn : ¬ b2 = wr.heap.size + 1 := by omega
      go_wp2_with fail
      refine (HRV.out _).mono ?_
      rintro e w2 ⟨rfl, hb2⟩
      have hX6 := HX6.out.below hb2
      have hX7 := HX7.out.below hb2
      have u1 := hX6.cell 1 rfl
      have u2 := hX6.cell 2 rfl
      have t0 := hX7.cell 0 rfl
      have HB2 := Lib.hid (below_next (b_alloc (b_alloc hB.out)) hb2)
      clear hb2 hX6 hX7 HX6 HX7 HRV g0 g1 g2 r0 r1 r2
      cases hrv : rightV y
      · rw [if_pos hrv] at hh
        have hq' : Hid (plainF s row = 10) := by rw [hq.out, ← hh.out]; rfl
        clear hrv
        go_wp2_with fail
        go_ret
        exact ⟨by rw [hq'.out]; rfl, HB2.out⟩
      rw [if_neg (by rw [hrv]; decide)] at hh
      clear hrv
      obtain ⟨yk, yn, ys⟩ := y
      obtain ⟨dn, dt, dnn⟩ := d
      dsimp only at *
      by_cases hk0 : yk = 0
      · subst hk0
        rw [if_pos rfl] at hh
        cases dnn
        · have hh : Hid (plainL (s.cols.drop (j + 1)) (row.drop (j + 1)) = plainL s.cols row) := hh
          go_wp2_with fail
          go_roundw
          case rel => exact ⟨j + 1, by omega, by go_num, hh, HB2⟩
          case measure => simp [intOf]; omega
        · have hq' : Hid (plainF s row = 11) := by rw [hq.out, ← hh.out]; rfl
          go_wp2_with fail
          go_ret
          exact ⟨by rw [hq'.out]; rfl, HB2.out⟩
      rw [if_neg hk0] at hh
      have e0 : (yk == 0) = false := by simp [hk0]
      have e1 : (yk != 0) = true := by simp [hk0]
      by_cases hkt : yk = dt
      · rw [if_pos hkt] at hh
        have e2 : (yk == dt) = true := by simp [hkt]
        have e3 : (yk != dt) = false := by simp [hkt]
        clear hkt hk0
        go_wp2_with fail
        go_roundw
        case rel => exact ⟨j + 1, by omega, by go_num, hh, HB2⟩
        case measure => simp [intOf]; omega
      · rw [if_neg hkt] at hh
        have e2 : (yk == dt) = false := by simp [hkt]
        have e3 : (yk != dt) = true := by simp [hkt]
        have hq' : Hid (plainF s row = 10) := by rw [hq.out, ← hh.out]; rfl
        clear hkt hk0
        go_wp2_with fail
        go_ret
        exact ⟨by rw [hq'.out]; rfl, HB2.out⟩
    · have hlr := Hl.out
      rw [List.drop_eq_nil_of_le (by omega)] at hh
      have hq' : Hid (plainF s row = 0) := by rw [hq.out, ← hh.out]; rfl
      clear hlr
      go_wp2_with fail
      go_ret
      exact ⟨by rw [hq'.out]; rfl, hB.out⟩
end Go.Proofs.Pw
