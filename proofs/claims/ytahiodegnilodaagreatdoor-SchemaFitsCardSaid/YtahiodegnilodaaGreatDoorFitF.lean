/- A row's key: the program's Key and the reference's. -/
import Derived.Test.YtahiodegnilodaaGreatDoorMCelD
import Derived.Test.YtahiodegnilodaaGreatDoorCelK
namespace Go.Proofs.Pw
open Go.RowKit

theorem plainL_nat : ∀ (cs : List PCol) (l : List PVal), plainL cs l = 0 ∨ plainL cs l = 10 ∨ plainL cs l = 11
  | [], _ => .inl (by rw [plainL])
  | _ :: _, [] => .inl (by rw [plainL])
  | c :: cs, v :: vs => by
    rw [plainL]
    split
    · exact .inr (.inl rfl)
    split
    · split
      · exact .inr (.inr rfl)
      · exact plainL_nat cs vs
    split
    · exact plainL_nat cs vs
    · exact .inr (.inl rfl)
theorem plainF_nat (s : PSch) (row : List PVal) : plainF s row = 0 ∨ plainF s row = 1 ∨ plainF s row = 10 ∨ plainF s row = 11 := by
  unfold plainF
  split
  · exact .inr (.inl rfl)
  split
  · rcases plainL_nat s.cols row with h | h | h
    · exact .inl h
    · exact .inr (.inr (.inl h))
    · exact .inr (.inr (.inr h))
  · exact .inr (.inr (.inl rfl))
theorem plainF_zero {s : PSch} {row : List PVal} (h : plainF s row = 0) : rightP s = true ∧ row.length = s.cols.length := by
  unfold plainF at h
  split at h
  · cases h
  · rename_i h1
    split at h
    · rename_i h2
      exact ⟨by simpa using h1, h2⟩
    · cases h
structure Parts1 (s : PSch) (l : List ByteArray) : Prop where
  at0 : ∀ n ∈ l, 0 ≤ atF n s.cols 0 ∧ atF n s.cols 0 < s.cols.length
  ne : l ≠ []
  le : l.length ≤ 8
theorem partF_parts {s : PSch} {l : List ByteArray} (h : partF s.cols l = true) : Parts1 s l := by
  refine ⟨fun n hn => ⟨partF_at h hn, atF_lt n s.cols⟩, ?_, ?_⟩
  · rintro rfl
    unfold partF at h
    simp at h
  · unfold partF at h
    split at h
    · cases h
    split at h
    · cases h
    · omega
theorem idxOk_parts {s : PSch} : ∀ {l : List PIdx} {p : Option ByteArray}, idxOk s.cols p l = true → ∀ x ∈ l, Parts1 s x.cols
  | y :: l, p, h, x, hx => by
    rw [idxOk] at h
    split at h
    · split at h
      · split at h
        · rename_i h1 h2 h3
          rcases List.mem_cons.1 hx with rfl | hx
          · exact partF_parts h3
          · exact idxOk_parts h x hx
        · cases h
      · cases h
    · cases h
  | [], _, _, x, hx => by simp at hx
theorem right_parts {s : PSch} (h : rightP s = true) : Parts1 s s.key ∧ ∀ x ∈ s.idx, Parts1 s x.cols := by
  rw [right_eq] at h
  unfold rightF at h
  split at h
  · cases h
  split at h
  · cases h
  split at h
  · cases h
  split at h
  · rename_i h1
    split at h
    · split at h
      · exact ⟨partF_parts h1, idxOk_parts h⟩
      · cases h
    · cases h
  · cases h
theorem values_mem {cs : List PCol} {row : List PVal} {names : List ByteArray} (hn : ∀ v ∈ row, i64R v.n) : ∀ v ∈ valuesF cs row names, i64R v.n := by
  intro v hv
  obtain ⟨n, -, rfl⟩ := List.mem_map.1 hv
  by_cases h : (atF n cs 0).toNat < row.length
  · have e : row.getD (atF n cs 0).toNat zeroV = row[(atF n cs 0).toNat] := by simp [List.getD, h]
    rw [e]
    exact hn _ (List.getElem_mem h)
  · have e : row.getD (atF n cs 0).toNat zeroV = zeroV := by simp [List.getD, List.getElem?_eq_none (Nat.le_of_not_lt h)]
    rw [e]
    exact ⟨by decide, by decide⟩
theorem values_ne {cs : List PCol} {row : List PVal} {names : List ByteArray} (hn : names ≠ []) : valuesF cs row names ≠ [] := by
  intro h
  exact hn (List.map_eq_nil_iff.1 h)
theorem values_len (cs : List PCol) (row : List PVal) (names : List ByteArray) : (valuesF cs row names).length = names.length := by simp [valuesF]
def keyRowF (s : PSch) (row : List PVal) : ByteArray := if plainF s row = 0 then (keyV (valuesF s.cols row s.key)).1 else ⟨#[]⟩
theorem vals_of_row {w : World} {base : Nat} {A : Option Addr} {c : Nat} {xs : List PVal} (hl : xs.length ≤ 140737488351232) (h : w.ownsRow base 65 3 (.slice A xs.length c) xs.length (xs.flatMap encVal)) : Vals w A xs :=
  sl_of_row encVal (fun _ => rfl) rfl hl h

set_option maxRecDepth 100000 in
set_option maxHeartbeats 1000000 in
theorem PKeyRow_any (A1 A2 A3 A : Option Addr) (c1 c2 c3 c : Nat) (s : PSch) (row : List PVal) (m : Int) (w : World) (hs : RSch w s A1 A2 A3) (hr : Vals w A row) (hn : ∀ v ∈ row, i64R v.n) (hm : Small s) (hmx : w.cell? ⟨0, 0, none⟩ = some (.int .i64 m)) :
    Calls Tryz.prog 19 #[.agg #[.slice A1 s.cols.length c1, .slice A2 s.key.length c2, .slice A3 s.idx.length c3], .slice A row.length c] w (Gives w (.string (keyRowF s row))) := by
  have HP := Lib.hid (PPlain_any A1 A2 A3 A c1 c2 c3 c s row (w.alloc (.cells #[.slice A1 s.cols.length c1, .slice A2 s.key.length c2, .slice A3 s.idx.length c3] 27)) (hs.below (below_new _ _)) (hr.below (flat_stable _) (below_new _ _)) hn hm)
  have HC := Lib.hid hs.1
  have HK := Lib.hid hs.2.1
  have HV := Lib.hid hr
  have HN := Lib.hid hn
  have HMX := Lib.hid hmx
  have hzm := cell_lt hmx
  have X0 := Box.new w [.slice A1 s.cols.length c1, .slice A2 s.key.length c2, .slice A3 s.idx.length c3] 27
  have HX0 := Lib.hid X0
  have hz0 := X0.lt
  clear hs hr hn hm hmx X0
  by_cases h0 : plainF s row = 0
  · obtain ⟨hrt, hlen⟩ := plainF_zero h0
    have hpt := (right_parts hrt).1
    have Hq : Hid (keyRowF s row = (keyV (valuesF s.cols row s.key)).1) := by show _ = _; rw [keyRowF, if_pos h0]
    have Hat := Lib.hid (fun n hn => (⟨(hpt.at0 n hn).1, by rw [hlen]; exact (hpt.at0 n hn).2⟩ : 0 ≤ atF n s.cols 0 ∧ atF n s.cols 0 < row.length))
    have Hne := Lib.hid hpt.ne
    have hk8 := hpt.le
    rw [h0] at HP
    clear hrt hlen hpt h0
    go_enter Tryz.func19, Tryz.ntmps19
    go_wp2_with fail
    refine HP.out.mono ?_
    rintro e w1 ⟨rfl, hb1⟩
    have HB1 := Lib.hid (below_next (below_new w _) hb1)
    have hX := HX0.out.below hb1
    have x0 := hX.cell 0 rfl
    have x1 := hX.cell 1 rfl
    have x2 := hX.cell 2 rfl
    clear hb1 hX HP
    go_wp2_with fail
    refine (PValues_any A1 A A2 c1 c c2 _ _ s.cols row s.key _ (HC.out.below (flat_stable _) HB1.out) (HV.out.below (flat_stable _) HB1.out) (HK.out.below (flat_stable _) HB1.out) Hat.out (by omega)).mono ?_
    rintro e w2 ⟨A4, c4, rfl, hO, hb2⟩
    have HB2 := Lib.hid (below_next HB1.out hb2)
    have hvl := values_len s.cols row s.key
    have hvals := Lib.hid (vals_of_row (by omega) hO)
    clear hb2 hO hvl x0 x1 x2
    go_wp2_with fail
    refine (key_any A4 c4 _ m _ hvals.out (values_mem HN.out) (values_ne Hne.out) ((HB2.out.cell (p := ⟨0, 0, none⟩) hzm).trans HMX.out)).mono ?_
    rintro e w3 ⟨rfl, hb3⟩
    have HB3 := Lib.hid (below_next HB2.out hb3)
    clear hb3
    go_wp2_with fail
    go_ret
    exact ⟨by rw [Hq.out]; rfl, HB3.out⟩
  · have Hq : Hid (keyRowF s row = ⟨#[]⟩) := by show _ = _; rw [keyRowF, if_neg h0]
    have hb : (plainF s row == 0) = false := by simpa using h0
    have hb2 : (plainF s row != 0) = true := by simpa using h0
    clear h0
    go_enter Tryz.func19, Tryz.ntmps19
    go_wp2_with fail
    refine HP.out.mono ?_
    rintro e w1 ⟨rfl, hb1⟩
    have HB1 := Lib.hid (below_next (below_new w _) hb1)
    clear hb1
    go_wp2_with fail
    go_ret
    exact ⟨by rw [Hq.out]; rfl, HB1.out⟩
set_option maxRecDepth 100000 in
set_option maxHeartbeats 1000000 in
theorem RKeyRow_any (A1 A2 A3 A : Option Addr) (c1 c2 c3 c : Nat) (s : PSch) (row : List PVal) (w : World) (hs : RSch w s A1 A2 A3) (hr : Vals w A row) (hn : ∀ v ∈ row, i64R v.n) (hm : Small s) :
    Calls Tryz.prog 20 #[.agg #[.slice A1 s.cols.length c1, .slice A2 s.key.length c2, .slice A3 s.idx.length c3], .slice A row.length c] w (Gives w (.string (keyRowF s row))) := by
  have HP := Lib.hid (RPlain_any A1 A2 A3 A c1 c2 c3 c s row (w.alloc (.cells #[.slice A1 s.cols.length c1, .slice A2 s.key.length c2, .slice A3 s.idx.length c3] 27)) (hs.below (below_new _ _)) (hr.below (flat_stable _) (below_new _ _)) hn hm)
  have HC := Lib.hid hs.1
  have HK := Lib.hid hs.2.1
  have HV := Lib.hid hr
  have HN := Lib.hid hn
  have X0 := Box.new w [.slice A1 s.cols.length c1, .slice A2 s.key.length c2, .slice A3 s.idx.length c3] 27
  have HX0 := Lib.hid X0
  have hz0 := X0.lt
  clear hs hr hn hm X0
  by_cases h0 : plainF s row = 0
  · obtain ⟨hrt, hlen⟩ := plainF_zero h0
    have hpt := (right_parts hrt).1
    have Hq : Hid (keyRowF s row = (keyV (valuesF s.cols row s.key)).1) := by show _ = _; rw [keyRowF, if_pos h0]
    have Hat := Lib.hid (fun n hn => (⟨(hpt.at0 n hn).1, by rw [hlen]; exact (hpt.at0 n hn).2⟩ : 0 ≤ atF n s.cols 0 ∧ atF n s.cols 0 < row.length))
    have Hne := Lib.hid hpt.ne
    have hk8 := hpt.le
    rw [h0] at HP
    clear hrt hlen hpt h0
    go_enter Tryz.func20, Tryz.ntmps20
    go_wp2_with fail
    refine HP.out.mono ?_
    rintro e w1 ⟨rfl, hb1⟩
    have HB1 := Lib.hid (below_next (below_new w _) hb1)
    have hX := HX0.out.below hb1
    have x0 := hX.cell 0 rfl
    have x1 := hX.cell 1 rfl
    have x2 := hX.cell 2 rfl
    clear hb1 hX HP
    go_wp2_with fail
    refine (RValues_any A1 A A2 c1 c c2 _ _ s.cols row s.key _ (HC.out.below (flat_stable _) HB1.out) (HV.out.below (flat_stable _) HB1.out) (HK.out.below (flat_stable _) HB1.out) Hat.out (by omega)).mono ?_
    rintro e w2 ⟨A4, c4, rfl, hO, hb2⟩
    have HB2 := Lib.hid (below_next HB1.out hb2)
    have hvl := values_len s.cols row s.key
    have hvals := Lib.hid (vals_of_row (by omega) hO)
    clear hb2 hO hvl x0 x1 x2
    go_wp2_with fail
    refine (RKeyV_any A4 c4 _ _ hvals.out (values_mem HN.out) (values_ne Hne.out)).mono ?_
    rintro e w3 ⟨rfl, hb3⟩
    have HB3 := Lib.hid (below_next HB2.out hb3)
    clear hb3
    go_wp2_with fail
    go_ret
    exact ⟨by rw [Hq.out]; rfl, HB3.out⟩
  · have Hq : Hid (keyRowF s row = ⟨#[]⟩) := by show _ = _; rw [keyRowF, if_neg h0]
    have hb : (plainF s row == 0) = false := by simpa using h0
    have hb2 : (plainF s row != 0) = true := by simpa using h0
    clear h0
    go_enter Tryz.func20, Tryz.ntmps20
    go_wp2_with fail
    refine HP.out.mono ?_
    rintro e w1 ⟨rfl, hb1⟩
    have HB1 := Lib.hid (below_next (below_new w _) hb1)
    clear hb1
    go_wp2_with fail
    go_ret
    exact ⟨by rw [Hq.out]; rfl, HB1.out⟩
end Go.Proofs.Pw
