/- The reference of layer 12: Right. -/
import Derived.Test.YtahiodegnilodaaGreatDoorMRefB
namespace Go.Proofs.Pw
open Go.RowKit

/-- The name of the index ahead of place j. -/
def prevN (l : List PIdx) : Nat → Option ByteArray
  | 0 => none
  | m + 1 => (l[m]?).map (·.name)
theorem prevN_succ (l : List PIdx) (m : Nat) (h : m < l.length) : prevN l (m + 1) = some l[m].name := by simp [prevN, h]
theorem atF_le (nm : ByteArray) (cs : List PCol) : ∀ j, atF nm cs j < ((j + cs.length : Nat) : Int) ∨ atF nm cs j = -1 := by
  induction cs with
  | nil => intro j; right; rfl
  | cons c cs ih =>
    intro j
    rw [atF]
    split
    · left; simp; omega
    · rcases ih (j + 1) with h | h
      · left; simp at h ⊢; omega
      · right; exact h
theorem atF_lt (nm : ByteArray) (cs : List PCol) : atF nm cs 0 < (cs.length : Int) := by
  rcases atF_le nm cs 0 with h | h
  · simpa using h
  · omega
theorem allAt_at {cs : List PCol} {l : List ByteArray} (h : allAt cs l = true) {n : ByteArray} (hn : n ∈ l) : 0 ≤ atF n cs 0 := by
  induction l with
  | nil => simp at hn
  | cons x l ih =>
    rw [allAt] at h
    split at h
    · exact absurd h (by decide)
    · rcases List.mem_cons.1 hn with rfl | hn
      · omega
      · exact ih h hn
theorem partF_at {cs : List PCol} {l : List ByteArray} (h : partF cs l = true) {n : ByteArray} (hn : n ∈ l) : 0 ≤ atF n cs 0 := by
  unfold partF at h
  split at h
  · exact absurd h (by decide)
  split at h
  · exact absurd h (by decide)
  split at h
  · exact allAt_at h hn
  · exact absurd h (by decide)
theorem nnAt_eq (cs : List PCol) (i : Int) (h : i.toNat < cs.length) : nnAt cs i = (cs[i.toNat]'h).nn := by
  unfold nnAt; rw [List.getElem?_eq_getElem h]

set_option maxRecDepth 100000 in
set_option maxHeartbeats 1000000 in
theorem RRight_any (A1 A2 A3 : Option Addr) (n1 n2 n3 c1 c2 c3 : Nat) (s : PSch) (w : World) (hn1 : n1 = s.cols.length) (hn2 : n2 = s.key.length) (hn3 : n3 = s.idx.length) (hs : RSch w s A1 A2 A3)
    (hb : ∀ c ∈ s.cols, c.name.size ≤ 140737488351232) (hi : ∀ x ∈ s.idx, x.name.size ≤ 140737488351232) :
    Calls Tryz.prog 46 #[.agg #[.slice A1 n1 c1, .slice A2 n2 c2, .slice A3 n3 c3]] w (Gives w (.bool (rightF s))) := by
  subst hn1 hn2 hn3
  have HC := Lib.hid hs.1
  have HK := Lib.hid hs.2.1
  have HX := Lib.hid hs.2.2
  have hm1 := hs.1.1
  have hm2 := hs.2.1.1
  have hm3 := hs.2.2.1
  have Hb := Lib.hid hb
  have Hi := Lib.hid hi
  clear hs hb hi
  by_cases h1 : s.cols.length < 1
  · go_enter Tryz.func46, Tryz.ntmps46
    go_wp2_with fail
    go_ret
    exact ⟨by rw [rightF, if_pos h1]; rfl, below_new _ _⟩
  by_cases h2 : 32 < s.cols.length
  · go_enter Tryz.func46, Tryz.ntmps46
    go_wp2_with fail
    go_ret
    exact ⟨by rw [rightF, if_neg h1, if_pos h2]; rfl, below_new _ _⟩
  by_cases h3 : 8 < s.idx.length
  · go_enter Tryz.func46, Tryz.ntmps46
    go_wp2_with fail
    go_ret
    exact ⟨by rw [rightF, if_neg h1, if_neg h2, if_pos h3]; rfl, below_new _ _⟩
  have Hp : Hid (rightF s = if partF s.cols s.key then if colsOk s.cols s.cols 0 then if keyOk s.cols s.key then idxOk s.cols none s.idx else false else false else false) := by
    rw [rightF, if_neg h1, if_neg h2, if_neg h3]; rfl
  go_enter Tryz.func46, Tryz.ntmps46
  go_wp2_with fail
  refine (part_any A1 A2 _ _ c1 c2 _ _ s.cols s.key _ rfl rfl (HC.out.below (flat_stable _) (below_new _ _)) (HK.out.below (flat_stable _) (below_new _ _))).mono ?_
  rintro e w1 ⟨rfl, hb1⟩
  obtain ⟨hc1, hf1⟩ := bcell hb1
  have hB := Lib.hid (below_next (below_new w _) hb1)
  have hz : w.heap.size < w1.heap.size := by have := hb1.size; simp at this; omega
  have hx0 : w1.cell? ⟨w.heap.size, 0, none⟩ = some (.slice A1 s.cols.length c1) := by go_simp
  have hx1 : w1.cell? ⟨w.heap.size, 1, none⟩ = some (.slice A2 s.key.length c2) := by go_simp
  have hx2 : w1.cell? ⟨w.heap.size, 2, none⟩ = some (.slice A3 s.idx.length c3) := by go_simp
  clear hb1 hc1 hf1
  by_cases hp : partF s.cols s.key = true
  case neg =>
    have hp' : partF s.cols s.key = false := by simpa using hp
    clear hp
    go_wp2_with fail
    go_ret
    exact ⟨by rw [Hp.out, hp']; rfl, hB.out⟩
  rw [hp, if_pos rfl] at Hp
  go_wp2_with fail
  go_loopw [3] (fun i wr => ∃ j : Nat, j ≤ s.cols.length ∧ i = .int .i64 j ∧ Hid (colsOk s.cols (s.cols.drop j) j = colsOk s.cols s.cols 0) ∧ Hid (Below w.heap.size w wr) ∧ w.heap.size < wr.heap.size ∧ wr.cell? ⟨w.heap.size, 0, none⟩ = some (.slice A1 s.cols.length c1) ∧ wr.cell? ⟨w.heap.size, 1, none⟩ = some (.slice A2 s.key.length c2) ∧ wr.cell? ⟨w.heap.size, 2, none⟩ = some (.slice A3 s.idx.length c3)) (fun i _ => s.cols.length - (intOf i).toNat)
  case atStart => exact ⟨0, by omega, rfl, rfl, hB.out, hz, hx0, hx1, hx2⟩
  case round =>
    clear hB hz hx0 hx1 hx2
    obtain ⟨j, hj, rfl, hq, hB, hz, hx0, hx1, hx2⟩ := hrel
    by_cases hlt : j < s.cols.length
    · obtain ⟨b, off, rfl, hb, hbb, hs0, hs1, hs2⟩ := cols_at (HC.out.below (flat_stable _) hB.out) hlt
      rw [drop_cons _ _ hlt] at hq
      have Hbj := Hb.out _ (List.getElem_mem hlt)
      generalize s.cols[j] = y at *
      go_wp2_with fail
      refine (Named_any _ _ Hbj).mono ?_
      rintro e w2 ⟨rfl, hb2⟩
      obtain ⟨hc2, hf2⟩ := bcell hb2
      have hB2 := Lib.hid (below_step hB.out _ hb2)
      have hz2 := size_step _ hb2
      clear hb2
      by_cases hn : namedF y.name = true
      case neg =>
        have hn' : namedF y.name = false := by simpa using hn
        rw [colsOk, if_neg hn] at hq
        clear hn
        go_wp2_with fail
        go_ret
        exact ⟨by rw [Hp.out, ← hq.out]; rfl, hB2.out⟩
      rw [colsOk, if_pos hn] at hq
      rw [hn]
      go_wp2_with fail
      refine (At_any _ _ c1 _ _ y.name s.cols _ rfl (HC.out.below (flat_stable _) hB2.out)).mono ?_
      rintro e w3 ⟨rfl, hb3⟩
      obtain ⟨hc3, hf3⟩ := bcell hb3
      have hB3 := Lib.hid (below_next hB2.out hb3)
      have hz3 := hb3.size
      clear hb3
      by_cases ha : atF y.name s.cols 0 = (j : Int)
      case neg =>
        rw [if_neg ha] at hq
        have ha' : (atF y.name s.cols 0 != (j : Int)) = true := by simpa using ha
        clear ha
        go_wp2_with fail
        go_ret
        exact ⟨by rw [Hp.out, ← hq.out]; rfl, hB3.out⟩
      rw [if_pos ha] at hq
      have ha' : (atF y.name s.cols 0 != (j : Int)) = false := by simpa using ha
      clear ha
      by_cases ht : y.typ < 1
      · rw [if_pos ht] at hq
        go_wp2_with fail
        go_ret
        exact ⟨by rw [Hp.out, ← hq.out]; rfl, hB3.out⟩
      rw [if_neg ht] at hq
      by_cases ht2 : 4 < y.typ
      · rw [if_pos ht2] at hq
        go_wp2_with fail
        go_ret
        exact ⟨by rw [Hp.out, ← hq.out]; rfl, hB3.out⟩
      rw [if_neg ht2] at hq
      have hzz : w.heap.size < w3.heap.size := by omega
      have hz2' : w.heap.size < w2.heap.size := by omega
      have hz2'' : w.heap.size < wr.heap.size + 1 := by omega
      go_wp2_with fail
      go_roundw
      case rel => exact ⟨j + 1, by omega, by go_num, hq, hB3.out, hzz, by go_simp, by go_simp, by go_simp⟩
      case measure => simp [intOf]; omega
    · rw [List.drop_eq_nil_of_le (by omega), colsOk] at hq
      rw [← hq.out, if_pos rfl] at Hp
      clear hq
      go_wp2_with fail
      clear hlt hj
      go_loopw [5] (fun i wr => ∃ j : Nat, j ≤ s.key.length ∧ i = .int .i64 j ∧ Hid (keyOk s.cols (s.key.drop j) = keyOk s.cols s.key) ∧ Hid (Below w.heap.size w wr) ∧ w.heap.size < wr.heap.size ∧ wr.cell? ⟨w.heap.size, 0, none⟩ = some (.slice A1 s.cols.length c1) ∧ wr.cell? ⟨w.heap.size, 1, none⟩ = some (.slice A2 s.key.length c2) ∧ wr.cell? ⟨w.heap.size, 2, none⟩ = some (.slice A3 s.idx.length c3)) (fun i _ => s.key.length - (intOf i).toNat)
      case atStart => exact ⟨0, by omega, rfl, rfl, hB.out, hz, hx0, hx1, hx2⟩
      case round =>
        clear hB hz hx0 hx1 hx2
        obtain ⟨j, hj, rfl, hq, hB, hz, hx0, hx1, hx2⟩ := hrel
        by_cases hlt : j < s.key.length
        · obtain ⟨b, off, rfl, hb, hbb, hs0⟩ := strs_at (HK.out.below (flat_stable _) hB.out) hlt
          rw [drop_cons _ _ hlt] at hq
          have hin := partF_at hp (List.getElem_mem hlt)
          generalize s.key[j] = y at *
          have hcl : (atF y s.cols 0).toNat < s.cols.length := by have := atF_lt y s.cols; omega
          obtain ⟨b', off', rfl, hb', hbb', -, -, hs2⟩ := cols_at (HC.out.below (flat_stable _) hB.out) hcl
          have hnn := nnAt_eq s.cols _ hcl
          rw [keyOk, hnn] at hq
          clear hnn
          generalize (s.cols[(atF y s.cols 0).toNat]'hcl).nn = nn at *
          generalize hat : atF y s.cols 0 = at0 at *
          have hj0 : (0 : Int) ≤ j := by omega
          have hj1 : (j : Int) < (s.key.length : Int) := by omega
          have hj2 : at0 < (s.cols.length : Int) := by omega
          go_wp2_with fail
          go_region_held3 (fun w' => w'.cell? ⟨w.heap.size, 0, none⟩ = some (.slice (some ⟨b', off', none⟩) s.cols.length c1) ∧ w'.cell? ⟨w.heap.size, 1, none⟩ = some (.slice (some ⟨b, off, none⟩) s.key.length c2) ∧ w'.cell? ⟨w.heap.size, 2, none⟩ = some (.slice A3 s.idx.length c3) ∧ w'.cell? ⟨b, off + j, none⟩ = some (.string y) ∧ w'.cell? ⟨b', off' + at0.toNat * 3 + 2, none⟩ = some (.bool nn))
            (first | go_keep)
            ((go_at_call 70; refine (At_any _ _ c1 _ _ y s.cols _ rfl (HC.out.below (flat_stable _) (by exact hB.out.drew))).mono ?_; rw [hat]; rintro e w2 ⟨rfl, hb2⟩; replace hb2 := unq hb2; obtain ⟨hc2, hf2⟩ := bcell hb2))
          have hB2 := Lib.hid (hB.out.trans (hb2.mono hB.out.size))
          have hz2 : w.heap.size < w2.heap.size := Nat.lt_of_lt_of_le hz hb2.size
          clear hb2
          cases nn with
          | false =>
            rw [if_neg (by decide)] at hq
            go_wp2_with fail
            go_ret
            exact ⟨by rw [Hp.out, ← hq.out]; rfl, hB2.out⟩
          | true =>
            rw [if_pos rfl] at hq
            go_wp2_with fail
            go_roundw
            case rel => exact ⟨j + 1, by omega, by go_num, hq, hB2.out, hz2, by go_simp, by go_simp, by go_simp⟩
            case measure => simp [intOf]; omega
        · rw [List.drop_eq_nil_of_le (by omega), keyOk] at hq
          rw [← hq.out, if_pos rfl] at Hp
          clear hq
          go_wp2_with fail
          clear hlt hj
          go_loopw [6] (fun i wr => ∃ j : Nat, j ≤ s.idx.length ∧ i = .int .i64 j ∧ Hid (idxOk s.cols (prevN s.idx j) (s.idx.drop j) = idxOk s.cols none s.idx) ∧ Hid (Below w.heap.size w wr) ∧ w.heap.size < wr.heap.size ∧ wr.cell? ⟨w.heap.size, 0, none⟩ = some (.slice A1 s.cols.length c1) ∧ wr.cell? ⟨w.heap.size, 1, none⟩ = some (.slice A2 s.key.length c2) ∧ wr.cell? ⟨w.heap.size, 2, none⟩ = some (.slice A3 s.idx.length c3)) (fun i _ => s.idx.length - (intOf i).toNat)
          case atStart => exact ⟨0, by omega, rfl, rfl, hB.out, hz, hx0, hx1, hx2⟩
          case round =>
            clear hB hz hx0 hx1 hx2
            obtain ⟨j, hj, rfl, hq, hB, hz, hx0, hx1, hx2⟩ := hrel
            by_cases hlt : j < s.idx.length
            · obtain ⟨b, off, B, cB, rfl, hb, hbb, hs0, hs1, hs2, hsB⟩ := idxs_at (HX.out.below RIdx_stable hB.out) hlt
              have HB := Lib.hid hsB
              clear hsB
              rw [drop_cons _ _ hlt] at hq
              have Hij := Hi.out _ (List.getElem_mem hlt)
              have Hprev : ∀ m, j = m + 1 → ∃ p, prevN s.idx j = some p ∧ wr.cell? ⟨b, off + m * 3, none⟩ = some (.string p) := by
                rintro m rfl
                obtain ⟨b', off', B', cB', e, -, -, hs0', -⟩ := idxs_at (HX.out.below RIdx_stable hB.out) (show m < s.idx.length by omega)
                obtain ⟨rfl, rfl⟩ : b = b' ∧ off = off' := by simpa using e
                exact ⟨_, prevN_succ s.idx m (by omega), hs0'⟩
              generalize hy : s.idx[j] = y at *
              have hz1 : w.heap.size < wr.heap.size + 1 := by omega
              have hzn : ¬ w.heap.size = wr.heap.size := by omega
              by_cases hn : namedF y.name = true
              case neg =>
                have hn : namedF y.name = false := by simpa using hn
                have hq' : Hid (false = idxOk s.cols none s.idx) := by rw [← hq.out, idxOk, hn]; rfl
                clear Hprev
                go_wp2_with fail
                refine wp_ext (by kernel_rfl) (by kernel_rfl) ?_
                repeat (go_big_quiet_step ((first | (go_at_call 13; exact gives_ext (Named_any y.name _ Hij)) | (go_at_call 90; exact gives_ext (part_any A1 B _ _ c1 cB _ _ s.cols y.cols _ rfl rfl (HC.out.below (flat_stable _) (below_step hB.out _ (Ext.h _))) (HB.out.below (flat_stable _) (below_next (below_new wr _) (Ext.h _))))))))
                refine wpQuiet_nil ?_
                rintro ⟨w2, hb2⟩
                dsimp only
                obtain ⟨hc2, hf2⟩ := bcell hb2
                have hB2 := Lib.hid (below_step hB.out _ hb2)
                have hz2 := size_step _ hb2
                clear hb2
                go_wp2_with fail
                go_ret
                exact ⟨by rw [Hp.out, ← hq'.out]; rfl, hB2.out⟩
              rw [idxOk, if_pos hn] at hq
              cases j with
              | zero =>
                rw [show prevLt (prevN s.idx 0) y.name = true from rfl, if_pos rfl] at hq
                clear Hprev
                simp only [Nat.zero_mul, Nat.add_zero] at hs0 hs1 hs2
                by_cases hpt : partF s.cols y.cols = true
                case neg =>
                  have hpt : partF s.cols y.cols = false := by simpa using hpt
                  have hq' : Hid (false = idxOk s.cols none s.idx) := by rw [← hq.out, hpt]; rfl
                  go_wp2_with fail
                  refine wp_ext (by kernel_rfl) (by kernel_rfl) ?_
                  repeat (go_big_quiet_step ((first | (go_at_call 13; exact gives_ext (Named_any y.name _ Hij)) | (go_at_call 90; exact gives_ext (part_any A1 B _ _ c1 cB _ _ s.cols y.cols _ rfl rfl (HC.out.below (flat_stable _) (below_step hB.out _ (Ext.h _))) (HB.out.below (flat_stable _) (below_next (below_new wr _) (Ext.h _))))))))
                  refine wpQuiet_nil ?_
                  rintro ⟨w2, hb2⟩
                  dsimp only
                  obtain ⟨hc2, hf2⟩ := bcell hb2
                  have hB2 := Lib.hid (below_step hB.out _ hb2)
                  have hz2 := size_step _ hb2
                  clear hb2
                  go_wp2_with fail
                  go_ret
                  exact ⟨by rw [Hp.out, ← hq'.out]; rfl, hB2.out⟩
                rw [if_pos hpt] at hq
                have hq : Hid (idxOk s.cols (prevN s.idx 1) (s.idx.drop 1) = idxOk s.cols none s.idx) := by rw [prevN_succ _ 0 hlt, hy]; exact hq
                go_wp2_with fail
                refine wp_ext (by kernel_rfl) (by kernel_rfl) ?_
                repeat (go_big_quiet_step ((first | (go_at_call 13; exact gives_ext (Named_any y.name _ Hij)) | (go_at_call 90; exact gives_ext (part_any A1 B _ _ c1 cB _ _ s.cols y.cols _ rfl rfl (HC.out.below (flat_stable _) (below_step hB.out _ (Ext.h _))) (HB.out.below (flat_stable _) (below_next (below_new wr _) (Ext.h _))))))))
                refine wpQuiet_nil ?_
                rintro ⟨w2, hb2⟩
                dsimp only
                obtain ⟨hc2, hf2⟩ := bcell hb2
                have hB2 := Lib.hid (below_step hB.out _ hb2)
                have hz2 := size_step _ hb2
                clear hb2
                have hzz : w.heap.size < w2.heap.size := by omega
                go_wp2_with fail
                go_roundw
                case rel => exact ⟨0 + 1, by omega, by go_num, hq, hB2.out, hzz, by go_simp, by go_simp, by go_simp⟩
                case measure => simp [intOf]; omega
              | succ m =>
                obtain ⟨p, hp1, hp2⟩ := Hprev m rfl
                rw [hp1, prevLt] at hq
                clear hp1 Hprev
                have hm0 : (0 : Int) ≤ m := by omega
                have hm1 : (m : Int) < (s.idx.length : Int) := by omega
                by_cases hl : ltS p y.name = true
                case neg =>
                  have hl : Op.bytesLess p.toList y.name.toList = false := by simpa [ltS] using hl
                  have hq' : Hid (false = idxOk s.cols none s.idx) := by rw [← hq.out, ltS, hl]; rfl
                  go_wp2_with fail
                  refine wp_ext (by kernel_rfl) (by kernel_rfl) ?_
                  repeat (go_big_quiet_step ((first | (go_at_call 13; exact gives_ext (Named_any y.name _ Hij)) | (go_at_call 90; exact gives_ext (part_any A1 B _ _ c1 cB _ _ s.cols y.cols _ rfl rfl (HC.out.below (flat_stable _) (below_step hB.out _ (Ext.h _))) (HB.out.below (flat_stable _) (below_next (below_new wr _) (Ext.h _))))))))
                  refine wpQuiet_nil ?_
                  rintro ⟨w2, hb2⟩
                  dsimp only
                  obtain ⟨hc2, hf2⟩ := bcell hb2
                  have hB2 := Lib.hid (below_step hB.out _ hb2)
                  have hz2 := size_step _ hb2
                  clear hb2
                  go_wp2_with fail
                  go_ret
                  exact ⟨by rw [Hp.out, ← hq'.out]; rfl, hB2.out⟩
                rw [if_pos hl] at hq
                have hl : Op.bytesLess p.toList y.name.toList = true := hl
                by_cases hpt : partF s.cols y.cols = true
                case neg =>
                  have hpt : partF s.cols y.cols = false := by simpa using hpt
                  have hq' : Hid (false = idxOk s.cols none s.idx) := by rw [← hq.out, hpt]; rfl
                  go_wp2_with fail
                  refine wp_ext (by kernel_rfl) (by kernel_rfl) ?_
                  repeat (go_big_quiet_step ((first | (go_at_call 13; exact gives_ext (Named_any y.name _ Hij)) | (go_at_call 90; exact gives_ext (part_any A1 B _ _ c1 cB _ _ s.cols y.cols _ rfl rfl (HC.out.below (flat_stable _) (below_step hB.out _ (Ext.h _))) (HB.out.below (flat_stable _) (below_next (below_new wr _) (Ext.h _))))))))
                  refine wpQuiet_nil ?_
                  rintro ⟨w2, hb2⟩
                  dsimp only
                  obtain ⟨hc2, hf2⟩ := bcell hb2
                  have hB2 := Lib.hid (below_step hB.out _ hb2)
                  have hz2 := size_step _ hb2
                  clear hb2
                  go_wp2_with fail
                  go_ret
                  exact ⟨by rw [Hp.out, ← hq'.out]; rfl, hB2.out⟩
                rw [if_pos hpt] at hq
                have hq : Hid (idxOk s.cols (prevN s.idx (m + 1 + 1)) (s.idx.drop (m + 1 + 1)) = idxOk s.cols none s.idx) := by rw [prevN_succ _ (m + 1) hlt, hy]; exact hq
                go_wp2_with fail
                refine wp_ext (by kernel_rfl) (by kernel_rfl) ?_
                repeat (go_big_quiet_step ((first | (go_at_call 13; exact gives_ext (Named_any y.name _ Hij)) | (go_at_call 90; exact gives_ext (part_any A1 B _ _ c1 cB _ _ s.cols y.cols _ rfl rfl (HC.out.below (flat_stable _) (below_step hB.out _ (Ext.h _))) (HB.out.below (flat_stable _) (below_next (below_new wr _) (Ext.h _))))))))
                refine wpQuiet_nil ?_
                rintro ⟨w2, hb2⟩
                dsimp only
                obtain ⟨hc2, hf2⟩ := bcell hb2
                have hB2 := Lib.hid (below_step hB.out _ hb2)
                have hz2 := size_step _ hb2
                clear hb2
                have hzz : w.heap.size < w2.heap.size := by omega
                go_wp2_with fail
                go_roundw
                case rel => exact ⟨(m + 1) + 1, by omega, by go_num, hq, hB2.out, hzz, by go_simp, by go_simp, by go_simp⟩
                case measure => simp [intOf]; omega
            · rw [List.drop_eq_nil_of_le (by omega)] at hq
              have hq' : Hid (true = idxOk s.cols none s.idx) := by rw [← hq.out]; exact (by cases prevN s.idx j <;> rfl : true = idxOk s.cols (prevN s.idx j) [])
              go_wp2_with fail
              go_ret
              exact ⟨by rw [Hp.out, ← hq'.out]; rfl, hB.out⟩
end Go.Proofs.Pw
