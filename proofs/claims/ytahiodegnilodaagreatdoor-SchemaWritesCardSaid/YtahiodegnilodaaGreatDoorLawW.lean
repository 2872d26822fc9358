/- The law SchemaWrites, walked. -/
import Derived.Test.YtahiodegnilodaaGreatDoorSameA
import Derived.Test.YtahiodegnilodaaGreatDoorPureH
import Derived.Test.YtahiodegnilodaaGreatDoorLawF
namespace Go.Proofs.Pw
open Go.RowKit

set_option maxRecDepth 100000 in
set_option maxHeartbeats 1000000 in
theorem lawWrites_any (A1 A2 A3 B1 B2 B3 : Option Addr) (c1 c2 c3 d1 d2 d3 : Nat) (s t : PSch) (w : World) (hs : RSch w s A1 A2 A3) (ht : RSch w t B1 B2 B3) (hq : QSch s) (hq' : QSch t) :
    Calls Tryz.prog 5 #[.agg #[.slice A1 s.cols.length c1, .slice A2 s.key.length c2, .slice A3 s.idx.length c3], .agg #[.slice B1 t.cols.length d1, .slice B2 t.key.length d2, .slice B3 t.idx.length d3]] w (Gives w (.bool true)) := by
  have FS := Lib.hid (fun w hs => Few_any A1 A2 A3 c1 c2 c3 s w hs (fun c hc => (hq.cs c hc).1) hq.ks.2 (fun x hx => ⟨(hq.xs x hx).1, (hq.xs x hx).2.2⟩))
  have FT := Lib.hid (fun w hs => Few_any B1 B2 B3 d1 d2 d3 t w hs (fun c hc => (hq'.cs c hc).1) hq'.ks.2 (fun x hx => ⟨(hq'.xs x hx).1, (hq'.xs x hx).2.2⟩))
  have hb0 := below_next (below_new w (.cells #[.slice A1 s.cols.length c1, .slice A2 s.key.length c2, .slice A3 s.idx.length c3] 27)) (below_new _ (.cells #[.slice B1 t.cols.length d1, .slice B2 t.key.length d2, .slice B3 t.idx.length d3] 27))
  have X0 := (Box.new w [.slice A1 s.cols.length c1, .slice A2 s.key.length c2, .slice A3 s.idx.length c3] 27).below (below_new _ (.cells #[.slice B1 t.cols.length d1, .slice B2 t.key.length d2, .slice B3 t.idx.length d3] 27))
  have Y0 := Box.new (w.alloc (.cells #[.slice A1 s.cols.length c1, .slice A2 s.key.length c2, .slice A3 s.idx.length c3] 27)) [.slice B1 t.cols.length d1, .slice B2 t.key.length d2, .slice B3 t.idx.length d3] 27
  have HS0 := Lib.hid (hs.below hb0)
  have HT0 := Lib.hid (ht.below hb0)
  have hz1 : (w.alloc (.cells #[.slice A1 s.cols.length c1, .slice A2 s.key.length c2, .slice A3 s.idx.length c3] 27)).heap.size = w.heap.size + 1 := by simp
  rw [hz1] at Y0
  clear hz1
  go_enter Tryz.func5, Tryz.ntmps5
  go_wp2_with fail
  generalize (w.alloc (.cells #[.slice A1 s.cols.length c1, .slice A2 s.key.length c2, .slice A3 s.idx.length c3] 27)).alloc (.cells #[.slice B1 t.cols.length d1, .slice B2 t.key.length d2, .slice B3 t.idx.length d3] 27) = w0 at *
  have HW := Lib.hid hb0
  have x0 := X0.cell 0 rfl
  have x1 := X0.cell 1 rfl
  have x2 := X0.cell 2 rfl
  have y0 := Y0.cell 0 rfl
  have y1 := Y0.cell 1 rfl
  have y2 := Y0.cell 2 rfl
  have hz := Y0.lt
  have hz0 := X0.lt
  clear hs ht hq hq' hb0 X0 Y0
  refine (awake_any _).mono ?_
  rintro e w1 ⟨rfl, hb⟩
  have HB1 := Lib.hid hb
  obtain ⟨hc1, -⟩ := bcell hb
  clear hb
  go_wp2_with fail
  refine (FS.out _ (HS0.out.below HB1.out)).mono ?_
  rintro e w2 ⟨rfl, hb⟩
  have HB2 := Lib.hid (below_next HB1.out hb)
  obtain ⟨hc2, -⟩ := bcell HB2.out
  clear hb hc1
  by_cases hf : fewSch s = true
  case neg =>
    have hf : fewSch s = false := by simpa using hf
    go_wp2_with fail
    go_ret
    exact ⟨rfl, below_next HW.out HB2.out⟩
  rw [hf]
  have Hs := Lib.hid (small_of hf)
  clear hf FS
  go_wp2_with fail
  refine (FT.out _ (HT0.out.below HB2.out)).mono ?_
  rintro e w3 ⟨rfl, hb⟩
  have HB3 := Lib.hid (below_next HB2.out hb)
  obtain ⟨hc3, -⟩ := bcell HB3.out
  clear hb hc2 HB1 HB2
  by_cases hf : fewSch t = true
  case neg =>
    have hf : fewSch t = false := by simpa using hf
    go_wp2_with fail
    go_ret
    exact ⟨rfl, below_next HW.out HB3.out⟩
  rw [hf]
  have Ht := Lib.hid (small_of hf)
  clear hf FT
  have Hr : Hid ((writeP s).2 = rightP s) := by
    show (writeP s).2 = rightP s
    unfold writeP
    split
    · rename_i h; rw [h]
    · rename_i h; exact (Bool.eq_false_iff.2 h).symm
  have Hb : Hid (rightP s = true → (writeP s).1.size ≤ 140737488351232 ∧ readP (writeP s).1 = (s, true)) := fun h => by
    have e : (writeP s).1 = ⟨(encSch s).toArray⟩ := by unfold writeP; rw [if_pos h]
    refine ⟨?_, ?_⟩
    · have f := fits_of h
      rw [e]
      show (encSch s).toArray.size ≤ _
      rw [List.size_toArray]
      have l1 := flat_len encCol 258 s.cols (fun x hx => encCol_len x (f.cs x hx).1)
      have l2 := flat_len encIdx 65538 s.idx (fun x hx => encIdx_len x (f.xs x hx))
      have l3 := encNames_len s.key f.nk f.ks
      have n1 := f.nc
      have n2 := f.nx
      have : 258 * s.cols.length ≤ 258 * 255 := Nat.mul_le_mul_left _ n1
      have : 65538 * s.idx.length ≤ 65538 * 255 := Nat.mul_le_mul_left _ n2
      simp only [encSch, List.length_append, List.length_cons]
      omega
    · rw [e, read_eq, read_back h]
  have PW := Lib.hid (fun w h => PWrite_small A1 A2 A3 c1 c2 c3 s w h Hs.out)
  have RW := Lib.hid (fun w h => RWrite_small A1 A2 A3 c1 c2 c3 s w h Hs.out)
  have PR := Lib.hid (fun w h => PRight_small A1 A2 A3 c1 c2 c3 s w h Hs.out)
  have PS := Lib.hid (fun w h k => PSame_any A1 A2 A3 B1 B2 B3 c1 c2 c3 d1 d2 d3 s t w h k Hs.out Ht.out)
  have RS := Lib.hid (fun w h k => RSame_any A1 A2 A3 B1 B2 B3 c1 c2 c3 d1 d2 d3 s t w h k Hs.out Ht.out)
  generalize sameF (writeP s) (writeP t) = sm at *
  generalize hx : writeP s = x at *
  clear hx
  obtain ⟨b, ok⟩ := x
  dsimp only at *
  have hr := Hr.out
  generalize rightP s = rt at *
  subst hr
  clear Hr
  go_wp2_with fail
  refine (PW.out _ (HS0.out.below HB3.out)).mono ?_
  rintro e w4 ⟨rfl, hb⟩
  have HB4 := Lib.hid (below_next HB3.out hb)
  obtain ⟨hc4, -⟩ := bcell HB4.out
  clear hb hc3
  go_wp2_with fail
  refine (RW.out _ (HS0.out.below HB4.out)).mono ?_
  rintro e w5 ⟨rfl, hb⟩
  have HB5 := Lib.hid (below_next HB4.out hb)
  obtain ⟨hc5, -⟩ := bcell HB5.out
  clear hb hc4 HB3 HB4
  have hbb : (b.toList == b.toList) = true := by simp
  go_wp2_with fail
  have hz5 : w.heap.size + 1 < w5.heap.size := Nat.lt_of_lt_of_le hz HB5.out.size
  have hz6 : w.heap.size < w5.heap.size := Nat.lt_of_lt_of_le hz0 HB5.out.size
  cases ok
  · refine wp_ext (by kernel_rfl) (by kernel_rfl) ?_
    repeat (go_big_quiet_step ((first | (go_at_call 24; exact gives_ext (PR.out _ (HS0.out.below (below_next HB5.out (Ext.h _))))) | (go_at_call 25; exact gives_ext (PS.out _ (HS0.out.below (below_next HB5.out (Ext.h _))) (HT0.out.below (below_next HB5.out (Ext.h _))))) | (go_at_call 26; exact gives_ext (RS.out _ (HS0.out.below (below_next HB5.out (Ext.h _))) (HT0.out.below (below_next HB5.out (Ext.h _))))))))
    refine wpQuiet_nil ?_
    rintro ⟨w6, hb6⟩
    dsimp only
    go_wp2_with fail
    go_ret
    exact ⟨rfl, below_next HW.out (below_next HB5.out hb6)⟩
  · refine wp_ext (by kernel_rfl) (by kernel_rfl) ?_
    repeat (go_big_quiet_step ((first | (go_at_call 24; exact gives_ext (PR.out _ (HS0.out.below (below_next HB5.out (Ext.h _))))) | (go_at_call 25; exact gives_ext (PS.out _ (HS0.out.below (below_next HB5.out (Ext.h _))) (HT0.out.below (below_next HB5.out (Ext.h _))))) | (go_at_call 26; exact gives_ext (RS.out _ (HS0.out.below (below_next HB5.out (Ext.h _))) (HT0.out.below (below_next HB5.out (Ext.h _))))))))
    refine wpQuiet_nil ?_
    rintro ⟨w6, hb6⟩
    dsimp only
    obtain ⟨hbs, hre⟩ := Hb.out rfl
    have HB6 := Lib.hid (below_next HB5.out hb6)
    obtain ⟨hc6, -⟩ := bcell HB6.out
    clear hb6 hc5
    go_wp2_with fail
    refine (PRead_any b w6 hbs).mono ?_
    rw [hre]
    rintro e w7 ⟨D1, D2, D3, e1, e2, e3, rfl, hr7, hb⟩
    have HB7 := Lib.hid (below_next HB6.out hb)
    obtain ⟨hc7, -⟩ := bcell HB7.out
    have HR7 := Lib.hid hr7
    clear hb hc6 hr7 hre hbs
    have hzz := HB7.out.size
    dsimp only
    have hz7 : w.heap.size < w7.heap.size := by omega
    have hzn : ¬ w.heap.size = w7.heap.size := by omega
    go_wp2_with fail
    refine (Alike_same D1 D2 D3 A1 A2 A3 e1 e2 e3 c1 c2 c3 s _ (HR7.out.below (below_new _ _)) (HS0.out.below (b_alloc HB7.out))).mono ?_
    rintro e w8 ⟨rfl, hb⟩
    have HB8 := Lib.hid (below_next (b_alloc HB7.out) hb)
    clear hb
    go_wp2_with fail
    go_ret
    exact ⟨rfl, below_next HW.out HB8.out⟩
#print axioms lawWrites_any
end Go.Proofs.Pw
