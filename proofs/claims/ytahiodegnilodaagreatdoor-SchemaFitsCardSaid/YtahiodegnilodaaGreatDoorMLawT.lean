/- The law SchemaReads, walked. -/
import Derived.Test.YtahiodegnilodaaGreatDoorMAwkC
import Derived.Test.YtahiodegnilodaaGreatDoorAlk
import Derived.Test.YtahiodegnilodaaGreatDoorRefE
import Derived.Test.YtahiodegnilodaaGreatDoorMPureG
import Derived.Test.YtahiodegnilodaaGreatDoorFitJ
namespace Go.Proofs.Pw
open Go.RowKit

set_option maxRecDepth 100000 in
set_option maxHeartbeats 1000000 in
theorem lawReads_any (b : ByteArray) (w : World) (hs : b.size ≤ 140737488351232) (h1 : readP b = readF b) (h2 : (readF b).2 = true → writeP (readF b).1 = (b, true)) (h3 : (readF b).2 = true → WFits (readF b).1) :
    Calls Tryz.prog 3 #[.string b] w (Gives w (.bool true)) := by
  have H1 := Lib.hid h1
  have H2 := Lib.hid h2
  have H3 := Lib.hid h3
  clear h1 h2 h3
  go_enter Tryz.func3, Tryz.ntmps3
  go_wp2_with fail
  refine (awake_any w).mono ?_
  rintro e w1 ⟨rfl, hb1⟩
  have HB1 := Lib.hid hb1
  clear hb1
  by_cases hl : 3000 < b.size
  · have hl' : (3000 : Int) < (b.size : Int) := by omega
    go_wp2_with fail
    go_ret
    exact ⟨rfl, HB1.out⟩
  have hl' : ¬ (3000 : Int) < (b.size : Int) := by omega
  have hd : decide ((3000 : Int) < (b.size : Int)) = false := by simpa using hl'
  go_wp2_with fail
  refine (PRead_any b w1 hs).mono ?_
  rw [H1.out]
  rintro e w2 ⟨A1, A2, A3, c1, c2, c3, rfl, hr2, hb2⟩
  have HB2 := Lib.hid (below_next HB1.out hb2)
  have HR2 := Lib.hid hr2
  clear hb2 hr2
  go_wp2_with fail
  refine (RRead_any b _ hs).mono ?_
  rintro e w3 ⟨B1, B2, B3, d1, d2, d3, rfl, hr3, hb3⟩
  have hbr := below_step (Below.refl w2.heap.size w2) _ hb3
  have HB3 := Lib.hid (below_next HB2.out hbr)
  have HR3 := Lib.hid hr3
  have HQ3 := Lib.hid (HR2.out.below hbr)
  have hX := (Box.new w2 [.slice A1 (readF b).1.cols.length c1, .slice A2 (readF b).1.key.length c2, .slice A3 (readF b).1.idx.length c3] 27).below hb3
  have hz := hX.lt
  have HX := Lib.hid hX
  have x0 := hX.cell 0 rfl
  have x1 := hX.cell 1 rfl
  have x2 := hX.cell 2 rfl
  clear hb3 hr3 hbr HB1 HB2 HR2 hX
  generalize readF b = R at *
  obtain ⟨s, ok⟩ := R
  dsimp only at *
  go_wp2_with fail
  refine (Alike_same A1 A2 A3 B1 B2 B3 c1 c2 c3 d1 d2 d3 s _ (HQ3.out.below (below_new _ _)) (HR3.out.below (below_new _ _))).mono ?_
  rintro e w4 ⟨rfl, hb4⟩
  have hbr := below_step (Below.refl w3.heap.size w3) _ hb4
  have HB4 := Lib.hid (below_next HB3.out hbr)
  have HQ4 := Lib.hid (HQ3.out.below hbr)
  have hX := HX.out.below hbr
  have HX4 := Lib.hid hX
  clear hb4 hbr HB3 HQ3 HR3 HX x0 x1 x2 hX
  go_wp2_with fail
  refine (PNamed_any b w4 hs).mono ?_
  rintro e w5 ⟨rfl, hb5⟩
  have HB5 := Lib.hid (below_next HB4.out hb5)
  have HQ5 := Lib.hid (HQ4.out.below hb5)
  have HX5 := Lib.hid (HX4.out.below hb5)
  clear hb5 HB4 HQ4 HX4
  go_wp2_with fail
  refine (Named_any b w5 hs).mono ?_
  rintro e w6 ⟨rfl, hb6⟩
  have HB6 := Lib.hid (below_next HB5.out hb6)
  have HQ6 := Lib.hid (HQ5.out.below hb6)
  have hX6 := HX5.out.below hb6
  have x0 := hX6.cell 0 rfl
  have x1 := hX6.cell 1 rfl
  have x2 := hX6.cell 2 rfl
  clear hb6 HB5 HQ5 HX5 hX6
  cases ok
  · go_wp2_with fail
    go_ret
    exact ⟨rfl, HB6.out⟩
  have hfit := H3.out rfl
  have hw := H2.out rfl
  clear H1 H2 H3
  go_wp2_with fail
  refine (PWrite_any A1 A2 A3 c1 c2 c3 s w6 HQ6.out (fun c hc => Nat.le_trans (hfit.cs c hc).1 (by decide)) (fun x hx => Nat.le_trans (hfit.xs x hx).1 (by decide)) (by have := hfit.nk; omega) (fun x hx => by have := (hfit.xs x hx).2.1; omega) (fun _ => hfit)).mono ?_
  rw [hw]
  rintro e w7 ⟨rfl, hb7⟩
  have HB7 := Lib.hid (below_next HB6.out hb7)
  clear hb7 HB6 HQ6
  dsimp only
  go_wp2_with fail
  go_ret
  exact ⟨rfl, HB7.out⟩
end Go.Proofs.Pw
/- SchemaReads: the law answers true at every text. -/
namespace Go.Proofs.Pw
open Go.RowKit

theorem lawReads_true (b : ByteArray) (w : World) (hs : b.size ≤ 140737488351232) : Calls Tryz.prog 3 #[.string b] w (Gives w (.bool true)) := by
  refine lawReads_any b w hs (read_eq b) (write_back b) (fun h => ?_)
  have hr : rightF (readF b).1 = true := by
    unfold readF at h ⊢
    dsimp only at h ⊢
    split at h
    · cases h
    split at h
    · cases h
    split at h
    · rename_i h1 h2 h3
      rw [if_neg h1, if_neg h2, if_pos h3]
      exact h3
    · cases h
  rw [← right_eq] at hr
  exact fits_of hr
#print axioms lawReads_true
end Go.Proofs.Pw
/- The law SchemaFits, walked. -/
namespace Go.Proofs.Pw
open Go.RowKit

def rowB : List PVal → Bool
  | [] => true
  | v :: l => if 1100 < v.s.size then false else rowB l
def rowF (l : List PVal) : Bool := if 40 < l.length then false else rowB l
set_option maxRecDepth 100000 in
set_option maxHeartbeats 1000000 in
theorem lawRow_any (A : Option Addr) (c : Nat) (xs : List PVal) (w : World) (hc : Vals w A xs) :
    Calls Tryz.prog 16 #[.slice A xs.length c] w (Gives w (.bool (rowF xs))) := by
  have HS := Lib.hid hc
  have hm := hc.1
  clear hc
  by_cases h : 40 < xs.length
  · have hd : decide ((40 : Int) < (xs.length : Int)) = true := decide_eq_true (by omega)
    go_enter Tryz.func16, Tryz.ntmps16
    go_wp2_with fail
    go_ret
    exact ⟨by rw [rowF, if_pos h]; rfl, Below.refl _ _⟩
  have hd : decide ((40 : Int) < (xs.length : Int)) = false := decide_eq_false (by omega)
  have ht : Hid (rowF xs = rowB xs) := by show _ = _; rw [rowF, if_neg h]
  go_enter Tryz.func16, Tryz.ntmps16
  go_wp2_with fail
  go_loopw [10] (fun i wr => ∃ j : Nat, j ≤ xs.length ∧ i = .int .i64 j ∧ Hid (rowB (xs.drop j) = rowB xs) ∧ Hid (Below w.heap.size w wr)) (fun i _ => xs.length - (intOf i).toNat)
  case atStart => exact ⟨0, by omega, rfl, rfl, Below.refl _ _⟩
  case round =>
    obtain ⟨j, hj, rfl, hq, hB⟩ := hrel
    by_cases hlt : j < xs.length
    · obtain ⟨b, off, rfl, hb, hbb, h1, h2, h3⟩ := vals_at (HS.out.below (flat_stable _) hB.out) hlt
      rw [drop_cons _ _ hlt] at hq
      generalize xs[j] = y at *
      have hB2 := Lib.hid (below_next hB.out (below_new wr (.cells #[.int .i64 y.kind, .int .i64 y.n, .string y.s] 65)))
      by_cases hv : 1100 < y.s.size
      · have hv' : decide ((1100 : Int) < (y.s.size : Int)) = true := decide_eq_true (by omega)
        have hq' : Hid (rowB xs = false) := by show _ = _; rw [← hq.out, rowB, if_pos hv]
        go_wp2_with fail
        go_ret
        exact ⟨by rw [ht.out, hq'.out]; rfl, hB2.out⟩
      · have hv' : decide ((1100 : Int) < (y.s.size : Int)) = false := decide_eq_false (by omega)
        rw [rowB, if_neg hv] at hq
        go_wp2_with fail
        go_roundw
        case rel => exact ⟨j + 1, by omega, by go_num, hq, hB2⟩
        case measure => simp [intOf]; omega
    · rw [List.drop_eq_nil_of_le (by omega)] at hq
      have hq' : Hid (rowB xs = true) := hq.out.symm
      go_wp2_with fail
      go_ret
      exact ⟨by rw [ht.out, hq'.out]; rfl, hB.out⟩

set_option maxRecDepth 100000 in
set_option maxHeartbeats 1000000 in
theorem lawFits_any (A1 A2 A3 A : Option Addr) (c1 c2 c3 c : Nat) (s : PSch) (row : List PVal) (i : Int) (m : Int) (w : World) (hs : RSch w s A1 A2 A3) (hr : Vals w A row) (hq : QSch s) (hn : ∀ v ∈ row, i64R v.n) (hmx : w.cell? ⟨0, 0, none⟩ = some (.int .i64 m)) :
    Calls Tryz.prog 4 #[.agg #[.slice A1 s.cols.length c1, .slice A2 s.key.length c2, .slice A3 s.idx.length c3], .slice A row.length c, .int .i64 i] w (Gives w (.bool true)) := by
  have FS := Lib.hid (fun w hs => Few_any A1 A2 A3 c1 c2 c3 s w hs (fun c hc => (hq.cs c hc).1) hq.ks.2 (fun x hx => ⟨(hq.xs x hx).1, (hq.xs x hx).2.2⟩))
  have hzm := cell_lt hmx
  have hb0 := below_new w (.cells #[.slice A1 s.cols.length c1, .slice A2 s.key.length c2, .slice A3 s.idx.length c3] 27)
  have X0 := Box.new w [.slice A1 s.cols.length c1, .slice A2 s.key.length c2, .slice A3 s.idx.length c3] 27
  have HS0 := Lib.hid (hs.below hb0)
  have HV0 := Lib.hid (hr.below (flat_stable _) hb0)
  have HM0 := Lib.hid ((hb0.cell (p := ⟨0, 0, none⟩) hzm).trans hmx)
  have HN := Lib.hid hn
  go_enter Tryz.func4, Tryz.ntmps4
  go_wp2_with fail
  generalize w.alloc (.cells #[.slice A1 s.cols.length c1, .slice A2 s.key.length c2, .slice A3 s.idx.length c3] 27) = w0 at *
  have HW := Lib.hid hb0
  have x0 := X0.cell 0 rfl
  have x1 := X0.cell 1 rfl
  have x2 := X0.cell 2 rfl
  have hz0 := X0.lt
  have hzm0 : 0 < w0.heap.size := by omega
  clear hs hr hq hb0 X0 hmx hn
  refine (awake_any _).mono ?_
  rintro e w1 ⟨rfl, hb⟩
  have HB1 := Lib.hid hb
  obtain ⟨hc1, -⟩ := bcell hb
  clear hb
  go_wp2_with fail
  refine (FS.out _ (HS0.out.below HB1.out)).mono ?_
  rintro e w2 ⟨rfl, hb⟩
  have HB2 := Lib.hid (below_next HB1.out hb)
  obtain ⟨hc2, -⟩ := bcell HB2.out
  clear hb hc1
  by_cases hf : fewSch s = true
  case neg =>
    have hf : fewSch s = false := by simpa using hf
    go_wp2_with fail
    go_ret
    exact ⟨rfl, below_next HW.out HB2.out⟩
  rw [hf]
  have Hs := Lib.hid (small_of hf)
  clear hf FS
  go_wp2_with fail
  refine (lawRow_any A c row _ (HV0.out.below (flat_stable _) HB2.out)).mono ?_
  rintro e w3 ⟨rfl, hb⟩
  have HB3 := Lib.hid (below_next HB2.out hb)
  obtain ⟨hc3, -⟩ := bcell HB3.out
  clear hb hc2 HB1 HB2
  cases hf : rowF row
  · clear hf
    go_wp2_with fail
    go_ret
    exact ⟨rfl, below_next HW.out HB3.out⟩
  clear hf
  have PF := Lib.hid (fun w h k l => PFit_any A1 A2 A3 A c1 c2 c3 c s row m w h k HN.out Hs.out l)
  have RF := Lib.hid (fun w h k => RFit_any A1 A2 A3 A c1 c2 c3 c s row w h k HN.out Hs.out)
  have PK := Lib.hid (fun w h k l => PKeyRow_any A1 A2 A3 A c1 c2 c3 c s row m w h k HN.out Hs.out l)
  have RK := Lib.hid (fun w h k => RKeyRow_any A1 A2 A3 A c1 c2 c3 c s row w h k HN.out Hs.out)
  have PE := Lib.hid (fun w h k l => PEntry_any A1 A2 A3 A c1 c2 c3 c s i row m w h k HN.out Hs.out l)
  have RE := Lib.hid (fun w h k => REntry_any A1 A2 A3 A c1 c2 c3 c s i row w h k HN.out Hs.out)
  generalize fitF s row = ft at *
  generalize keyRowF s row = ky at *
  generalize entryF s i row = en at *
  have hky : (ky.toList == ky.toList) = true := by simp
  have hen : (en.toList == en.toList) = true := by simp
  have hft : (ft == ft) = true := by simp
  have hz3 : w.heap.size < w3.heap.size := Nat.lt_of_lt_of_le hz0 HB3.out.size
  have HM3 : ∀ w4, Below w3.heap.size w3 w4 → w4.cell? ⟨0, 0, none⟩ = some (.int .i64 m) := fun w4 h => ((below_next HB3.out h).cell (p := ⟨0, 0, none⟩) hzm0).trans HM0.out
  have HM3 := Lib.hid HM3
  go_wp2_with fail
  refine wp_ext (by kernel_rfl) (by kernel_rfl) ?_
  repeat (go_big_quiet_step ((first | (go_at_call 17; exact gives_ext (PF.out _ (HS0.out.below (below_next HB3.out (Ext.h _))) (HV0.out.below (flat_stable _) (below_next HB3.out (Ext.h _))) (HM3.out _ (Ext.h _)))) | (go_at_call 18; exact gives_ext (RF.out _ (HS0.out.below (below_next HB3.out (Ext.h _))) (HV0.out.below (flat_stable _) (below_next HB3.out (Ext.h _))))) | (go_at_call 19; exact gives_ext (PK.out _ (HS0.out.below (below_next HB3.out (Ext.h _))) (HV0.out.below (flat_stable _) (below_next HB3.out (Ext.h _))) (HM3.out _ (Ext.h _)))) | (go_at_call 20; exact gives_ext (RK.out _ (HS0.out.below (below_next HB3.out (Ext.h _))) (HV0.out.below (flat_stable _) (below_next HB3.out (Ext.h _))))) | (go_at_call 21; exact gives_ext (PE.out _ (HS0.out.below (below_next HB3.out (Ext.h _))) (HV0.out.below (flat_stable _) (below_next HB3.out (Ext.h _))) (HM3.out _ (Ext.h _)))) | (go_at_call 22; exact gives_ext (RE.out _ (HS0.out.below (below_next HB3.out (Ext.h _))) (HV0.out.below (flat_stable _) (below_next HB3.out (Ext.h _))))))))
  refine wpQuiet_nil ?_
  rintro ⟨w6, hb6⟩
  dsimp only
  go_wp2_with fail
  go_ret
  exact ⟨rfl, below_next HW.out (below_next HB3.out hb6)⟩
#print axioms lawFits_any
end Go.Proofs.Pw
