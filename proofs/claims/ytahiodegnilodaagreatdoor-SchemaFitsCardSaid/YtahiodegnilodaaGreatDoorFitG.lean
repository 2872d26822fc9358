/- A row's key in an index: the program's Entry and the reference's. -/
import Derived.Test.YtahiodegnilodaaGreatDoorFitF
namespace Go.Proofs.Pw
open Go.RowKit

def entryF (s : PSch) (i : Int) (row : List PVal) : ByteArray :=
  if plainF s row = 0 then if i < 0 then ⟨#[]⟩ else if (s.idx.length : Int) ≤ i then ⟨#[]⟩ else match s.idx[i.toNat]? with | some x => (keyV (valuesF s.cols row x.cols ++ valuesF s.cols row s.key)).1 | none => ⟨#[]⟩ else ⟨#[]⟩
theorem flat_one (l : List PVal) : ∀ u ∈ l.flatMap encVal, u.oneCell' = true := by
  intro u hu
  obtain ⟨v, -, hv⟩ := List.mem_flatMap.1 hu
  simp only [encVal, List.mem_cons, List.not_mem_nil, or_false] at hv
  rcases hv with rfl | rfl | rfl <;> rfl
theorem flat_enc_len : ∀ l : List PVal, (l.flatMap encVal).length = l.length * 3
  | [] => rfl
  | v :: l => by rw [List.flatMap_cons, List.length_append, flat_enc_len l, List.length_cons]; simp [encVal]; omega

theorem rows_join {w : World} {base : Nat} {A : Option Addr} {c : Nat} {l1 l2 : List PVal} (hl : l1.length + l2.length ≤ 140737488351232) (h : w.ownsRow base 65 3 (.slice A (l1.length + l2.length) c) (l1.length + l2.length) (l1.flatMap encVal ++ l2.flatMap encVal)) : Vals w A (l1 ++ l2) := by
  have e : l1.length + l2.length = (l1 ++ l2).length := by rw [List.length_append]
  rw [e, ← List.flatMap_append] at h
  exact vals_of_row (by rw [← e]; exact hl) h

set_option maxRecDepth 100000 in
set_option maxHeartbeats 1000000 in
theorem PEntry_any (A1 A2 A3 A : Option Addr) (c1 c2 c3 c : Nat) (s : PSch) (i : Int) (row : List PVal) (m : Int) (w : World) (hs : RSch w s A1 A2 A3) (hr : Vals w A row) (hn : ∀ v ∈ row, i64R v.n) (hm : Small s) (hmx : w.cell? ⟨0, 0, none⟩ = some (.int .i64 m)) :
    Calls Tryz.prog 21 #[.agg #[.slice A1 s.cols.length c1, .slice A2 s.key.length c2, .slice A3 s.idx.length c3], .int .i64 i, .slice A row.length c] w (Gives w (.string (entryF s i row))) := by
  have HP := Lib.hid (PPlain_any A1 A2 A3 A c1 c2 c3 c s row (w.alloc (.cells #[.slice A1 s.cols.length c1, .slice A2 s.key.length c2, .slice A3 s.idx.length c3] 27)) (hs.below (below_new _ _)) (hr.below (flat_stable _) (below_new _ _)) hn hm)
  have HC := Lib.hid hs.1
  have HK := Lib.hid hs.2.1
  have HI := Lib.hid hs.2.2
  have HV := Lib.hid hr
  have HN := Lib.hid hn
  have hm3 := hs.2.2.1
  have HMX := Lib.hid hmx
  have hzm := cell_lt hmx
  have X0 := Box.new w [.slice A1 s.cols.length c1, .slice A2 s.key.length c2, .slice A3 s.idx.length c3] 27
  have HX0 := Lib.hid X0
  have hz0 := X0.lt
  clear hs hr hn hm hmx X0
  by_cases h0 : plainF s row = 0
  case neg =>
    have Hq : Hid (entryF s i row = ⟨#[]⟩) := by show _ = _; rw [entryF, if_neg h0]
    have hb : (plainF s row == 0) = false := by simpa using h0
    have hb2 : (plainF s row != 0) = true := by simpa using h0
    clear h0
    go_enter Tryz.func21, Tryz.ntmps21
    go_wp2_with fail
    refine HP.out.mono ?_
    rintro e w1 ⟨rfl, hb1⟩
    have HB1 := Lib.hid (below_next (below_new w _) hb1)
    clear hb1
    go_wp2_with fail
    go_ret
    exact ⟨by rw [Hq.out]; rfl, HB1.out⟩
  obtain ⟨hrt, hlen⟩ := plainF_zero h0
  have Hrp := Lib.hid (right_parts hrt)
  have Hlen := Lib.hid hlen
  clear hrt hlen
  rw [h0] at HP
  by_cases hi0 : i < 0
  · have Hq : Hid (entryF s i row = ⟨#[]⟩) := by show _ = _; rw [entryF, if_pos h0, if_pos hi0]
    clear h0
    go_enter Tryz.func21, Tryz.ntmps21
    go_wp2_with fail
    refine HP.out.mono ?_
    rintro e w1 ⟨rfl, hb1⟩
    have HB1 := Lib.hid (below_next (below_new w _) hb1)
    clear hb1
    go_wp2_with fail
    go_ret
    exact ⟨by rw [Hq.out]; rfl, HB1.out⟩
  by_cases hi1 : (s.idx.length : Int) ≤ i
  · have Hq : Hid (entryF s i row = ⟨#[]⟩) := by show _ = _; rw [entryF, if_pos h0, if_neg hi0, if_pos hi1]
    have hd0 : decide (i < 0) = false := decide_eq_false hi0
    have hd1 : decide ((s.idx.length : Int) ≤ i) = true := decide_eq_true hi1
    clear h0
    go_enter Tryz.func21, Tryz.ntmps21
    go_wp2_with fail
    refine HP.out.mono ?_
    rintro e w1 ⟨rfl, hb1⟩
    have HB1 := Lib.hid (below_next (below_new w _) hb1)
    have x2 := (HX0.out.below hb1).cell 2 rfl
    clear hb1
    go_wp2_with fail
    go_ret
    exact ⟨by rw [Hq.out]; rfl, HB1.out⟩
  obtain ⟨q, rfl⟩ := Int.eq_ofNat_of_zero_le (show 0 ≤ i by omega)
  have hql : q < s.idx.length := by omega
  have Hq : Hid (entryF s (q : Int) row = (keyV (valuesF s.cols row s.idx[q].cols ++ valuesF s.cols row s.key)).1) := by show _ = _; rw [entryF, if_pos h0, if_neg hi0, if_neg hi1]; simp [hql]
  have hd0 : decide ((q : Int) < 0) = false := decide_eq_false hi0
  have hd1 : decide ((s.idx.length : Int) ≤ (q : Int)) = false := decide_eq_false hi1
  have hq0 : (0 : Int) ≤ q := by omega
  have hq1 : (q : Int) < (s.idx.length : Int) := by omega
  have hpi := Hrp.out.2 _ (List.getElem_mem hql)
  have hpk := Hrp.out.1
  have HAi := Lib.hid (fun n hn => (⟨(hpi.at0 n hn).1, by rw [Hlen.out]; exact (hpi.at0 n hn).2⟩ : 0 ≤ atF n s.cols 0 ∧ atF n s.cols 0 < row.length))
  have HAk := Lib.hid (fun n hn => (⟨(hpk.at0 n hn).1, by rw [Hlen.out]; exact (hpk.at0 n hn).2⟩ : 0 ≤ atF n s.cols 0 ∧ atF n s.cols 0 < row.length))
  have Hnei := Lib.hid hpi.ne
  have Hnek := Lib.hid hpk.ne
  have hle1 := hpi.le
  have hle2 := hpk.le
  obtain ⟨b, off, B, cB, rfl, hb, hbb, g0, g1, g2, hsB⟩ := idxs_at HI.out hql
  have HsB := Lib.hid hsB
  generalize s.idx[q] = y at *
  clear hpi hpk h0 hi0 hi1 hsB Hrp
  go_enter Tryz.func21, Tryz.ntmps21
  go_wp2_with fail
  refine HP.out.mono ?_
  rintro e w1 ⟨rfl, hb1⟩
  have HB1 := Lib.hid (below_next (below_new w _) hb1)
  obtain ⟨hc1, -⟩ := bcell HB1.out
  have hX1 := HX0.out.below hb1
  have HX1 := Lib.hid hX1
  have x0 := hX1.cell 0 rfl
  have x1 := hX1.cell 1 rfl
  have x2 := hX1.cell 2 rfl
  have hz1 := hX1.lt
  clear hb1 hX1 HP
  go_wp2_with fail
  refine wp_region_held_drew (S := (fun w' => w'.cell? ⟨w.heap.size, 0, none⟩ = some (.slice A1 s.cols.length c1) ∧ w'.cell? ⟨w.heap.size, 1, none⟩ = some (.slice A2 s.key.length c2) ∧ w'.cell? ⟨w.heap.size, 2, none⟩ = some (.slice (some ⟨b, off, none⟩) s.idx.length c3) ∧ w'.cell? ⟨b, off + q * 3 + 1, none⟩ = some (.slice B y.cols.length cB))) (by kernel_rfl) ?_ (fun hHeld => ?_)
  · (try dsimp only); go_keep
  refine takeL 0 (v := ?_) (by simp) (by kernel_rfl) (by kernel_rfl) (by kernel_rfl) (fun _ _ _ h => h) (by rfl) (by assumption) ?_ ?_
  rotate_left
  · intro w hSw; (try dsimp only at hSw); (try simp only [List.getElem_cons_succ, List.getElem_cons_zero]); first | (go_simp; done) | (go_simp; with_reducible rfl)
  (try simp only [List.getElem_cons_succ, List.getElem_cons_zero])
  (try simp only [Act.put, List.setIfInBounds_toArray, List.set_cons_zero, List.set_cons_succ])
  refine takeL 1 (v := ?_) (by simp) (by kernel_rfl) (by kernel_rfl) (by kernel_rfl) (fun _ _ _ h => h) (by rfl) (by assumption) ?_ ?_
  rotate_left
  · intro w hSw; (try dsimp only at hSw); (try simp only [List.getElem_cons_succ, List.getElem_cons_zero]); first | (go_simp; done) | (go_simp; with_reducible rfl)
  (try simp only [List.getElem_cons_succ, List.getElem_cons_zero])
  (try simp only [Act.put, List.setIfInBounds_toArray, List.set_cons_zero, List.set_cons_succ])
  refine takeL 2 (v := ?_) (by simp) (by kernel_rfl) (by kernel_rfl) (by kernel_rfl) (fun _ _ _ h => h) (by rfl) (by assumption) ?_ ?_
  rotate_left
  · intro w hSw; (try dsimp only at hSw); (try simp only [List.getElem_cons_succ, List.getElem_cons_zero]); first | (go_simp; done) | (go_simp; with_reducible rfl)
  (try simp only [List.getElem_cons_succ, List.getElem_cons_zero])
  (try simp only [Act.put, List.setIfInBounds_toArray, List.set_cons_zero, List.set_cons_succ])
  refine takeL 3 (v := ?_) (by simp) (by kernel_rfl) (by kernel_rfl) (by kernel_rfl) (fun _ _ _ h => h) (by rfl) (by assumption) ?_ ?_
  rotate_left
  · intro w hSw; (try dsimp only at hSw); (try simp only [List.getElem_cons_succ, List.getElem_cons_zero]); first | (go_simp; done) | (go_simp; with_reducible rfl)
  (try simp only [List.getElem_cons_succ, List.getElem_cons_zero])
  (try simp only [Act.put, List.setIfInBounds_toArray, List.set_cons_zero, List.set_cons_succ])
  refine takeL 4 (v := ?_) (by simp) (by kernel_rfl) (by kernel_rfl) (by kernel_rfl) (fun _ _ _ h => h) (by rfl) (by assumption) ?_ ?_
  rotate_left
  · intro w hSw; (try dsimp only at hSw); (try simp only [List.getElem_cons_succ, List.getElem_cons_zero]); first | (go_simp; done) | (go_simp; with_reducible rfl)
  (try simp only [List.getElem_cons_succ, List.getElem_cons_zero])
  (try simp only [Act.put, List.setIfInBounds_toArray, List.set_cons_zero, List.set_cons_succ])
  refine takeL 5 (v := ?_) (by simp) (by kernel_rfl) (by kernel_rfl) (by kernel_rfl) (fun _ _ _ h => h) (by rfl) (by assumption) ?_ ?_
  rotate_left
  · intro w hSw; (try dsimp only at hSw); (try simp only [List.getElem_cons_succ, List.getElem_cons_zero]); first | (go_simp; done) | (go_simp; with_reducible rfl)
  (try simp only [List.getElem_cons_succ, List.getElem_cons_zero])
  (try simp only [Act.put, List.setIfInBounds_toArray, List.set_cons_zero, List.set_cons_succ])
  refine takeL 6 (v := ?_) (by simp) (by kernel_rfl) (by kernel_rfl) (by kernel_rfl) (fun _ _ _ h => h) (by rfl) (by assumption) ?_ ?_
  rotate_left
  · intro w hSw; (try dsimp only at hSw); (try simp only [List.getElem_cons_succ, List.getElem_cons_zero]); first | (go_simp; done) | (go_simp; with_reducible rfl)
  (try simp only [List.getElem_cons_succ, List.getElem_cons_zero])
  (try simp only [Act.put, List.setIfInBounds_toArray, List.set_cons_zero, List.set_cons_succ])
  refine takeL 7 (v := ?_) (by simp) (by kernel_rfl) (by kernel_rfl) (by kernel_rfl) (fun _ _ _ h => h) (by rfl) (by assumption) ?_ ?_
  rotate_left
  · intro w hSw; (try dsimp only at hSw); (try simp only [List.getElem_cons_succ, List.getElem_cons_zero]); first | (go_simp; done) | (go_simp; with_reducible rfl)
  (try simp only [List.getElem_cons_succ, List.getElem_cons_zero])
  (try simp only [Act.put, List.setIfInBounds_toArray, List.set_cons_zero, List.set_cons_succ])
  refine takeL 9 (v := ?_) (by simp) (by kernel_rfl) (by kernel_rfl) (by kernel_rfl) (fun _ _ _ h => h) (by rfl) (by assumption) ?_ ?_
  rotate_left
  · intro w hSw; (try dsimp only at hSw); (try simp only [List.getElem_cons_succ, List.getElem_cons_zero]); first | (go_simp; done) | (go_simp; with_reducible rfl)
  (try simp only [List.getElem_cons_succ, List.getElem_cons_zero])
  (try simp only [Act.put, List.setIfInBounds_toArray, List.set_cons_zero, List.set_cons_succ])
  refine takeL 10 (v := ?_) (by simp) (by kernel_rfl) (by kernel_rfl) (by kernel_rfl) (fun _ _ _ h => h) (by rfl) (by assumption) ?_ ?_
  rotate_left
  · intro w hSw; (try dsimp only at hSw); (try simp only [List.getElem_cons_succ, List.getElem_cons_zero]); first | (go_simp; done) | (go_simp; with_reducible rfl)
  (try simp only [List.getElem_cons_succ, List.getElem_cons_zero])
  (try simp only [Act.put, List.setIfInBounds_toArray, List.set_cons_zero, List.set_cons_succ])
  refine takeL 11 (v := ?_) (by simp) (by kernel_rfl) (by kernel_rfl) (by kernel_rfl) (fun _ _ _ h => h) (by rfl) (by assumption) ?_ ?_
  rotate_left
  · intro w hSw; (try dsimp only at hSw); (try simp only [List.getElem_cons_succ, List.getElem_cons_zero]); first | (go_simp; done) | (go_simp; with_reducible rfl)
  (try simp only [List.getElem_cons_succ, List.getElem_cons_zero])
  (try simp only [Act.put, List.setIfInBounds_toArray, List.set_cons_zero, List.set_cons_succ])
  refine takeL 12 (v := ?_) (by simp) (by kernel_rfl) (by kernel_rfl) (by kernel_rfl) (fun _ _ _ h => h) (by rfl) (by assumption) ?_ ?_
  rotate_left
  · intro w hSw; (try dsimp only at hSw); (try simp only [List.getElem_cons_succ, List.getElem_cons_zero]); first | (go_simp; done) | (go_simp; with_reducible rfl)
  (try simp only [List.getElem_cons_succ, List.getElem_cons_zero])
  (try simp only [Act.put, List.setIfInBounds_toArray, List.set_cons_zero, List.set_cons_succ])
  refine stepL 8 (by simp) (by kernel_rfl) (by rfl) (fun K hK => ?_)
  (try simp only [List.getElem_cons_succ, List.getElem_cons_zero])
  (go_simp; go_at_call 58; refine (PValues_any A1 A B c1 c cB _ _ s.cols row y.cols _ (HC.out.below (flat_stable _) HB1.out.drew) (HV.out.below (flat_stable _) HB1.out.drew) (HsB.out.below (flat_stable _) HB1.out.drew) HAi.out (by omega)).mono ?_; rintro e w2 ⟨A4, c4, rfl, hO, hb2⟩; replace hb2 := unq hb2; have HO2 := Lib.hid (row_mono hO (show w.heap.size ≤ _ from HB1.out.size)); have HB2 := Lib.hid (below_next HB1.out hb2); obtain ⟨hc2, -⟩ := bcell HB2.out; have hX2 := HX1.out.below hb2; have HX2 := Lib.hid hX2; clear hb2 hO x0 x1 x2 hc1; have x0 := hX2.cell 0 rfl; have x1 := hX2.cell 1 rfl; have x2 := hX2.cell 2 rfl; have hz2 := hX2.lt; clear hX2; have hzA := HB2.out.size)
  go_wp2_with fail
  refine hK.out _ _ ?_ (fun hHeld => ?_)
  · (try dsimp only); go_keep
  clear hK K
  (try simp only [Act.put, List.setIfInBounds_toArray, List.set_cons_zero, List.set_cons_succ])
  refine stepL 13 (by simp) (by kernel_rfl) (by rfl) (fun K hK => ?_)
  (try simp only [List.getElem_cons_succ, List.getElem_cons_zero])
  (go_simp; go_at_call 58; refine (PValues_any A1 A A2 c1 c c2 _ _ s.cols row s.key _ (HC.out.below (flat_stable _) HB2.out) (HV.out.below (flat_stable _) HB2.out) (HK.out.below (flat_stable _) HB2.out) HAk.out (by omega)).mono ?_; rintro e w3 ⟨A5, c5, rfl, hO, hb3⟩; have HO3 := Lib.hid (row_mono hO HB2.out.size); have HO2' := Lib.hid (row_below HO2.out hb3); have HB3 := Lib.hid (below_next HB2.out hb3); obtain ⟨hc3, -⟩ := bcell HB3.out; have hX3 := HX2.out.below hb3; have HX3 := Lib.hid hX3; have hsz3 := hb3.size; clear hb3 hO x0 x1 x2 hc2; have x0 := hX3.cell 0 rfl; have x1 := hX3.cell 1 rfl; have x2 := hX3.cell 2 rfl; have hz3 := hX3.lt; clear hX3)
  go_wp2_with fail
  refine hK.out _ _ ?_ (fun hHeld => ?_)
  · (try dsimp only); go_keep
  clear hK K
  (try simp only [Act.put, List.setIfInBounds_toArray, List.set_cons_zero, List.set_cons_succ])
  refine stepL 14 (by simp) (by kernel_rfl) (by rfl) (fun K hK => ?_)
  (try simp only [List.getElem_cons_succ, List.getElem_cons_zero])
  (have hvl1 := values_len s.cols row y.cols; have hvl2 := values_len s.cols row s.key; have hkpos : 0 < s.key.length := List.length_pos_iff.2 Hnek.out; refine append_src_wp _ _ _ 34 65 _ 3 32 Tryz.underlying34 Tryz.infoVal rfl (by decide) (by decide) _ _ _ HO2'.out HB3.out.size _ _ _ _ _ HO3.out (by omega) (by omega) (by rw [flat_enc_len]) (flat_one _) rfl rfl rfl ?_; intro A6 c6 w6 hO6 hg6; have HB6 := Lib.hid (below_row HB3.out HO2'.out hg6); obtain ⟨hc6, -⟩ := bcell HB6.out; have hX6 := HX3.out.row hg6 (row_box HO2'.out HX3.out (by decide)); have HO6 := Lib.hid hO6; clear hO6 hg6 x0 x1 x2 hc3; have x0 := hX6.cell 0 rfl; have x1 := hX6.cell 1 rfl; have x2 := hX6.cell 2 rfl; have hz6 := hX6.lt; have HX6 := Lib.hid hX6; clear hX6)
  refine hK.out _ _ ?_ (fun hHeld => ?_)
  · (try dsimp only); go_keep
  clear hK K
  (try simp only [Act.put, List.setIfInBounds_toArray, List.set_cons_zero, List.set_cons_succ])
  have hvl1 := values_len s.cols row y.cols
  have hvl2 := values_len s.cols row s.key
  have Hv6 := Lib.hid (rows_join (by omega) HO6.out)
  have hn6 : ∀ v ∈ valuesF s.cols row y.cols ++ valuesF s.cols row s.key, i64R v.n := fun v hv => by
    rcases List.mem_append.1 hv with h | h
    · exact values_mem HN.out v h
    · exact values_mem HN.out v h
  have hne6 : valuesF s.cols row y.cols ++ valuesF s.cols row s.key ≠ [] := fun h => values_ne Hnei.out (List.append_eq_nil_iff.1 h).1
  have Hn6 := Lib.hid hn6
  have Hne6 := Lib.hid hne6
  have hll : (valuesF s.cols row y.cols).length + (valuesF s.cols row s.key).length = (valuesF s.cols row y.cols ++ valuesF s.cols row s.key).length := by rw [List.length_append]
  have Hkk : ∃ kk, kk = (keyV (valuesF s.cols row y.cols ++ valuesF s.cols row s.key)).1 := ⟨_, rfl⟩
  obtain ⟨kk, Hkk⟩ := Hkk
  have HK6 := Lib.hid (fun w h hm => key_any A6 c6 (valuesF s.cols row y.cols ++ valuesF s.cols row s.key) m w h Hn6.out Hne6.out hm)
  rw [← hll, hvl1, hvl2, ← Hkk] at HK6
  rw [← Hkk] at Hq
  clear Hkk
  clear hn6 hne6 hvl1 hvl2 hll
  refine stepL 15 (by simp) (by kernel_rfl) (by rfl) (fun K hK => ?_)
  (try simp only [List.getElem_cons_succ, List.getElem_cons_zero])
  (go_simp; go_at_call 57; refine (HK6.out _ Hv6.out ((HB6.out.cell (p := ⟨0, 0, none⟩) hzm).trans HMX.out)).mono ?_; rintro e w7 ⟨rfl, hb7⟩; have HB7 := Lib.hid (below_next HB6.out hb7); obtain ⟨hc7, -⟩ := bcell HB7.out; have hX7 := HX6.out.below hb7; clear hb7 x0 x1 x2 hc6; have x0 := hX7.cell 0 rfl; have x1 := hX7.cell 1 rfl; have x2 := hX7.cell 2 rfl; clear hX7)
  go_wp2_with fail
  refine hK.out _ _ ?_ (fun hHeld => ?_)
  · (try dsimp only); go_keep
  clear hK K
  (try simp only [Act.put, List.setIfInBounds_toArray, List.set_cons_zero, List.set_cons_succ])
  refine takeL 16 (v := ?_) (by simp) (by kernel_rfl) (by kernel_rfl) (by kernel_rfl) (fun _ _ _ h => h) (by rfl) (by assumption) ?_ ?_
  rotate_left
  · intro w hSw; (try dsimp only at hSw); (try simp only [List.getElem_cons_succ, List.getElem_cons_zero]); first | (go_simp; done) | (go_simp; with_reducible rfl)
  (try simp only [List.getElem_cons_succ, List.getElem_cons_zero])
  (try simp only [Act.put, List.setIfInBounds_toArray, List.set_cons_zero, List.set_cons_succ])
  refine wpAnyH_done (by kernel_rfl) ?_ _
  go_wp2_with fail
  go_ret
  exact ⟨by rw [Hq.out]; rfl, HB7.out⟩
end Go.Proofs.Pw
