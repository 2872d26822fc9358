/- The program's schema.Write. -/
import Derived.Test.YtahiodegnilodaaGreatDoorMapD
import Derived.Test.YtahiodegnilodaaGreatDoorMSchY
namespace Go.Proofs.Pw
open Go.RowKit

def encCol (c : PCol) : List UInt8 := encName c.name ++ [byteOf c.typ.toNat] ++ encFlag c.nn
def encIdx (x : PIdx) : List UInt8 := encName x.name ++ encFlag x.uniq ++ encNames x.cols
def encSch (s : PSch) : List UInt8 := byteOf s.cols.length :: s.cols.flatMap encCol ++ encNames s.key ++ byteOf s.idx.length :: s.idx.flatMap encIdx
def writeP (s : PSch) : ByteArray × Bool := if rightP s then (⟨(encSch s).toArray⟩, true) else (⟨#[]⟩, false)
structure WFits (s : PSch) : Prop where
  nc : s.cols.length ≤ 255
  cs : ∀ c ∈ s.cols, c.name.size ≤ 255 ∧ 0 ≤ c.typ ∧ c.typ ≤ 255
  nk : s.key.length ≤ 255
  ks : ∀ k ∈ s.key, k.size ≤ 255
  nx : s.idx.length ≤ 255
  xs : ∀ x ∈ s.idx, x.name.size ≤ 255 ∧ x.cols.length ≤ 255 ∧ ∀ k ∈ x.cols, k.size ≤ 255
theorem Wr.alloc {base b : Nat} {l : List UInt8} {w : World} (h : Wr base b l w) (o : Obj) : Wr base b l (w.alloc o) := by
  obtain ⟨h1, h2, p, v, h3, h4, h5⟩ := h
  exact ⟨h1, by simp; omega, p, v, h3.alloc o, h4, row_below h5 (below_new _ _)⟩
theorem Wr.new (w : World) : Wr (w.heap.size + 1) w.heap.size [] (w.alloc (.cells #[.pointer none, .slice none 0 0] 81)) :=
  ⟨by omega, by simp, .pointer none, .slice none 0 0, Box.new w [.pointer none, .slice none 0 0] 81, .inl rfl, row_nil _ _ _ _⟩
theorem encCol_len (c : PCol) (h : c.name.size ≤ 255) : (encCol c).length ≤ 258 := by
  have := encName_len c.name h
  simp [encCol, encFlag]; omega
theorem encNames_len (l : List ByteArray) (hn : l.length ≤ 255) (h : ∀ k ∈ l, k.size ≤ 255) : (encNames l).length ≤ 65281 := by
  have := flat_len encName 256 l (fun x hx => encName_len x (h x hx))
  simp only [encNames, List.length_cons]; omega
theorem encIdx_len (x : PIdx) (h : x.name.size ≤ 255 ∧ x.cols.length ≤ 255 ∧ ∀ k ∈ x.cols, k.size ≤ 255) : (encIdx x).length ≤ 65538 := by
  have h1 := encName_len x.name h.1
  have h2 := encNames_len x.cols h.2.1 h.2.2
  simp [encIdx, encFlag]; omega

set_option maxRecDepth 100000 in
set_option maxHeartbeats 1000000 in
theorem PWrite_any (A1 A2 A3 : Option Addr) (c1 c2 c3 : Nat) (s : PSch) (w : World) (hs : RSch w s A1 A2 A3)
    (hb : ∀ c ∈ s.cols, c.name.size ≤ 140737488351232) (hi : ∀ x ∈ s.idx, x.name.size ≤ 140737488351232) (hk16 : s.key.length * 16 ≤ 140737488355328) (hx16 : ∀ x ∈ s.idx, x.cols.length * 16 ≤ 140737488355328) (hfit : rightP s = true → WFits s) :
    Calls Tryz.prog 14 #[.agg #[.slice A1 s.cols.length c1, .slice A2 s.key.length c2, .slice A3 s.idx.length c3]] w (Gives w (.tuple #[.string (writeP s).1, .bool (writeP s).2])) := by
  have HR := Lib.hid (PRight_any A1 A2 A3 c1 c2 c3 s (w.alloc (.cells #[.slice A1 s.cols.length c1, .slice A2 s.key.length c2, .slice A3 s.idx.length c3] 27)) (hs.below (below_new _ _)) hb hi hk16 hx16)
  have HC := Lib.hid hs.1
  have HK := Lib.hid hs.2.1
  have HX := Lib.hid hs.2.2
  have hm1 := hs.1.1
  have hm2 := hs.2.1.1
  have hm3 := hs.2.2.1
  have Hfit := Lib.hid hfit
  clear hs hb hi hk16 hx16 hfit
  go_enter Tryz.func14, Tryz.ntmps14
  go_wp2_with fail
  refine HR.out.mono ?_
  rintro e w1 ⟨rfl, hb1⟩
  obtain ⟨hc1, hf1⟩ := bcell hb1
  have hB := Lib.hid (below_next (below_new w _) hb1)
  have hz : w.heap.size < w1.heap.size := by have := hb1.size; simp at this; omega
  have hx0 : w1.cell? ⟨w.heap.size, 0, none⟩ = some (.slice A1 s.cols.length c1) := by go_simp
  have hx1 : w1.cell? ⟨w.heap.size, 1, none⟩ = some (.slice A2 s.key.length c2) := by go_simp
  have hx2 : w1.cell? ⟨w.heap.size, 2, none⟩ = some (.slice A3 s.idx.length c3) := by go_simp
  clear hb1 hc1 hf1 HR
  by_cases hp : rightP s = true
  case neg =>
    have hp' : rightP s = false := by simpa using hp
    clear hp
    go_wp2_with fail
    go_ret2
    exact ⟨by rw [writeP, hp']; rfl, hB.out⟩
  have hft := Hfit.out hp
  have Hwp := Lib.hid (show writeP s = (⟨(encSch s).toArray⟩, true) by rw [writeP, hp]; rfl)
  rw [hp]
  clear hp Hfit
  have Hcs := Lib.hid hft.cs
  have Hks := Lib.hid hft.ks
  have Hxs := Lib.hid hft.xs
  have hnc := hft.nc
  have hnk := hft.nk
  have hnx := hft.nx
  clear hft
  go_wp2_with fail
  have hW0 := Wr.new w1
  have hB1 : Below w.heap.size w (w1.alloc (.cells #[.pointer none, .slice none 0 0] 81)) := hB.out.alloc hB.out.size _
  have y0 := bc (below_new w1 (.cells #[.pointer none, .slice none 0 0] 81)) hx0 hz
  have y1 := bc (below_new w1 (.cells #[.pointer none, .slice none 0 0] 81)) hx1 hz
  have y2 := bc (below_new w1 (.cells #[.pointer none, .slice none 0 0] 81)) hx2 hz
  clear hx0 hx1 hx2 hB
  generalize w1.alloc (.cells #[.pointer none, .slice none 0 0] 81) = w2 at *
  generalize w1.heap.size = b at *
  have HB1 := Lib.hid hB1
  have HY := Lib.hid (And.intro y0 (And.intro y1 y2))
  refine (wnum_any (b + 1) b [] s.cols.length w2 hW0 (by simp) hnc).mono ?_
  rintro e w3 ⟨rfl, h3, h4⟩
  have H3 := Lib.hid h3
  have H4 := Lib.hid h4
  clear h3 h4 hW0 hB1 y0 y1 y2
  have z0 := (H4.out.1.cell (p := ⟨w.heap.size, 0, none⟩) hz).trans HY.out.1
  go_wp2_with fail
  go_loopw [19] (fun i wr => ∃ j : Nat, j ≤ s.cols.length ∧ i = .int .i64 j ∧ Hid (Wr (b + 1) b (byteOf s.cols.length :: (s.cols.take j).flatMap encCol) wr) ∧ Hid (WStep b w2 wr)) (fun i _ => s.cols.length - (intOf i).toNat)
  case atStart => exact ⟨0, by omega, rfl, H3.out, H4.out⟩
  case round =>
    clear H3 H4 z0
    obtain ⟨j, hj, rfl, HW, HT⟩ := hrel
    have hbz := HW.out.2.1
    by_cases hlt : j < s.cols.length
    · have hbb := HB1.out.trans (HT.out.1.mono (Nat.le_of_lt hz))
      obtain ⟨ab, off, rfl, hb, hbb', hs0, hs1, hs2⟩ := cols_at (HC.out.below (flat_stable _) hbb) hlt
      have hy := Hcs.out _ (List.getElem_mem hlt)
      have Hsn := Lib.hid (List.take_succ_eq_append_getElem hlt)
      have hll := flat_len encCol 258 (s.cols.take j) (fun x hx => encCol_len x (Hcs.out x (List.mem_of_mem_take hx)).1)
      have hlj : (s.cols.take j).length ≤ 255 := by simp; omega
      generalize s.cols[j] = y at *
      obtain ⟨hy1, hy2, hy3⟩ := hy
      obtain ⟨ty, hty⟩ := Int.eq_ofNat_of_zero_le hy2
      rw [hty] at hs1
      have hlen : (byteOf s.cols.length :: (s.cols.take j).flatMap encCol).length ≤ 1 + 258 * 255 := by
        rw [List.length_cons]
        have : 258 * (s.cols.take j).length ≤ 258 * 255 := Nat.mul_le_mul_left _ hlj
        omega
      clear hll hlj hbb hbb'
      go_wp2_with fail
      refine (wname_any (b + 1) b _ y.name _ (HW.out.alloc _) (by omega) hy1).mono ?_
      rintro e w4 ⟨rfl, h3, h4⟩
      have hX := h4.2 wr.heap.size 45 [.string y.name, .int .i64 ty, .bool y.nn] (by decide) (by omega) (Box.new wr _ _)
      have k1 := hX.cell 1 rfl
      have H3 := Lib.hid h3
      have H4 := Lib.hid ((HT.out.trans (WStep.alloc _ (by omega))).trans h4)
      have HXb := Lib.hid hX
      clear h3 h4 hX hs0 hs1 hs2
      go_wp2_with fail
      refine (wnum_any (b + 1) b _ ty _ H3.out (by rw [List.length_append]; have := encName_len y.name hy1; omega) (by omega)).mono ?_
      rintro e w5 ⟨rfl, h5, h6⟩
      have hX := h6.2 wr.heap.size _ _ (by decide) (by omega) HXb.out
      have k2 := hX.cell 2 rfl
      have H5 := Lib.hid h5
      have H6 := Lib.hid (H4.out.trans h6)
      clear h5 h6 hX k1
      go_wp2_with fail
      refine (wflag_any (b + 1) b _ y.nn _ H5.out (by have := encName_len y.name hy1; simp only [List.length_append, List.length_cons, List.length_nil] at hlen ⊢; omega)).mono ?_
      rintro e w6 ⟨rfl, h7, h8⟩
      have H8 := Lib.hid (H6.out.trans h8)
      have h9 : Wr (b + 1) b (byteOf s.cols.length :: (s.cols.take (j + 1)).flatMap encCol) w6 := by
        rw [Hsn.out, List.flatMap_append]
        have he : encCol y = encName y.name ++ [byteOf ty] ++ encFlag y.nn := by rw [encCol, hty]; rfl
        simpa [he] using h7
      have H7 := Lib.hid h9
      clear h7 h8 h9 k2
      go_wp2_with fail
      go_roundw
      case rel => exact ⟨j + 1, by omega, by go_num, H7, H8⟩
      case measure => simp [intOf]; omega
    · obtain rfl : j = s.cols.length := by omega
      rw [List.take_length] at HW
      have z1 := (HT.out.1.cell (p := ⟨w.heap.size, 1, none⟩) hz).trans HY.out.2.1
      have hbb := HB1.out.trans (HT.out.1.mono (Nat.le_of_lt hz))
      have hll := flat_len encCol 258 s.cols (fun x hx => encCol_len x (Hcs.out x hx).1)
      have hlen : (byteOf s.cols.length :: s.cols.flatMap encCol).length ≤ 1 + 258 * 255 := by
        rw [List.length_cons]
        have : 258 * s.cols.length ≤ 258 * 255 := Nat.mul_le_mul_left _ hnc
        omega
      have Hll := Lib.hid hlen
      clear hll
      go_wp2_with fail
      refine (wnames_any (b + 1) b _ A2 c2 s.key w wr HW.out (by omega) hnk Hks.out (Nat.le_of_lt hz) hbb HK.out).mono ?_
      rintro e w3 ⟨rfl, h3, h4⟩
      have H3 := Lib.hid h3
      have H4 := Lib.hid (HT.out.trans h4)
      clear h3 h4 z1 hbb
      have z2 := (H4.out.1.cell (p := ⟨w.heap.size, 2, none⟩) hz).trans HY.out.2.2
      have hlen2 := encNames_len s.key hnk Hks.out
      go_wp2_with fail
      refine (wnum_any (b + 1) b _ s.idx.length _ H3.out (by rw [List.length_append]; omega) hnx).mono ?_
      rintro e w4 ⟨rfl, h5, h6⟩
      have H6 := Lib.hid (H4.out.trans h6)
      have h7 : Wr (b + 1) b ((byteOf s.cols.length :: s.cols.flatMap encCol ++ encNames s.key) ++ [byteOf s.idx.length]) w4 := h5
      have hpre : (byteOf s.cols.length :: s.cols.flatMap encCol ++ encNames s.key).length ≤ 140000 := by rw [List.length_append]; omega
      have Hpre := Lib.hid (show encSch s = (byteOf s.cols.length :: s.cols.flatMap encCol ++ encNames s.key) ++ byteOf s.idx.length :: s.idx.flatMap encIdx from rfl)
      generalize byteOf s.cols.length :: s.cols.flatMap encCol ++ encNames s.key = pre at *
      have H7 := Lib.hid h7
      clear h5 h6 h7 z2 H3 H4
      have z2 := (H6.out.1.cell (p := ⟨w.heap.size, 2, none⟩) hz).trans HY.out.2.2
      go_wp2_with fail
      go_loopw [43] (fun i wr => ∃ j : Nat, j ≤ s.idx.length ∧ i = .int .i64 j ∧ Hid (Wr (b + 1) b (pre ++ byteOf s.idx.length :: (s.idx.take j).flatMap encIdx) wr) ∧ Hid (WStep b w2 wr)) (fun i _ => s.idx.length - (intOf i).toNat)
      case atStart => exact ⟨0, by omega, rfl, H7.out, H6.out⟩
      case round =>
        clear H7 H6 z2 HW HT hbz
        obtain ⟨j, hj, rfl, HW, HT⟩ := hrel
        have hbz := HW.out.2.1
        by_cases hlt : j < s.idx.length
        · have hbb := HB1.out.trans (HT.out.1.mono (Nat.le_of_lt hz))
          obtain ⟨ab, off, B, cB, rfl, hb, hbb', hs0, hs1, hs2, -⟩ := idxs_at (HX.out.below RIdx_stable hbb) hlt
          obtain ⟨ab', off', B', cB', e1, -, -, -, hs1', -, hsB⟩ := idxs_at HX.out hlt
          obtain ⟨rfl, rfl⟩ : ab = ab' ∧ off = off' := by simpa using e1
          have hab : ab < w.heap.size := by
            obtain ⟨b5, o5, e5, hlt5, -⟩ := HX.out.2 (ne_nil hlt)
            have : ab = b5 := by simpa using congrArg (fun a => (a.map (·.block)).getD 0) e5
            omega
          have hBB : B' = B ∧ cB' = cB := by
            have h := bc hbb hs1' hab
            rw [hs1] at h
            simp at h
            exact ⟨h.1.symm, h.2.symm⟩
          obtain ⟨rfl, rfl⟩ := hBB
          have HsB := Lib.hid hsB
          have hy := Hxs.out _ (List.getElem_mem hlt)
          have Hsn := Lib.hid (List.take_succ_eq_append_getElem hlt)
          have hll := flat_len encIdx 65538 (s.idx.take j) (fun x hx => encIdx_len x (Hxs.out x (List.mem_of_mem_take hx)))
          have hlj : (s.idx.take j).length ≤ 255 := by simp; omega
          clear hs1' e1 hsB
          generalize s.idx[j] = y at *
          obtain ⟨hy1, hy2, hy3⟩ := hy
          have Hy3 := Lib.hid hy3
          have hlen : (pre ++ byteOf s.idx.length :: (s.idx.take j).flatMap encIdx).length ≤ 140001 + 65538 * 255 := by
            rw [List.length_append, List.length_cons]
            have : 65538 * (s.idx.take j).length ≤ 65538 * 255 := Nat.mul_le_mul_left _ hlj
            omega
          have hcl : y.cols.length ≤ 140737488351232 := HsB.out.1
          clear hll hlj hbb hbb' hy3
          have hn1 := encName_len y.name hy1
          go_wp2_with fail
          refine (wname_any (b + 1) b _ y.name _ (HW.out.alloc _) (by omega) hy1).mono ?_
          rintro e w5 ⟨rfl, h3, h4⟩
          have hXb := h4.2 wr.heap.size 47 [.string y.name, .slice B' y.cols.length cB', .bool y.uniq] (by decide) (by omega) (Box.new wr _ _)
          have k2 := hXb.cell 2 rfl
          have H3 := Lib.hid h3
          have H4 := Lib.hid ((HT.out.trans (WStep.alloc _ (by omega))).trans h4)
          have HXb := Lib.hid hXb
          clear h3 h4 hXb hs0 hs1 hs2
          go_wp2_with fail
          refine (wflag_any (b + 1) b _ y.uniq _ H3.out (by rw [List.length_append]; omega)).mono ?_
          rintro e w6 ⟨rfl, h5, h6⟩
          have hXb := h6.2 wr.heap.size _ _ (by decide) (by omega) HXb.out
          have k1 := hXb.cell 1 rfl
          have H5 := Lib.hid h5
          have H6 := Lib.hid (H4.out.trans h6)
          clear h5 h6 hXb k2
          go_wp2_with fail
          have hbb := HB1.out.trans (H6.out.1.mono (Nat.le_of_lt hz))
          refine (wnames_any (b + 1) b _ B' cB' y.cols w w6 H5.out (by rw [List.length_append, List.length_append]; simp only [encFlag, List.length_cons, List.length_nil]; omega) hy2 Hy3.out (Nat.le_of_lt hz) hbb HsB.out).mono ?_
          rintro e w7 ⟨rfl, h7, h8⟩
          have H8 := Lib.hid (H6.out.trans h8)
          have h9 : Wr (b + 1) b (pre ++ byteOf s.idx.length :: (s.idx.take (j + 1)).flatMap encIdx) w7 := by
            rw [Hsn.out, List.flatMap_append]
            have he : encIdx y = encName y.name ++ encFlag y.uniq ++ encNames y.cols := rfl
            simpa [he] using h7
          have H7 := Lib.hid h9
          clear h7 h8 h9 k1 hbb
          go_wp2_with fail
          go_roundw
          case rel => exact ⟨j + 1, by omega, by go_num, H7, H8⟩
          case measure => simp [intOf]; omega
        · obtain rfl : j = s.idx.length := by omega
          rw [List.take_length, ← Hpre.out] at HW
          have hW := HW.out
          go_wp2_with fail
          refine (bString_any (b + 1) b (encSch s) wr HW.out (by simp [encSch])).mono ?_
          rintro e w5 ⟨rfl, h5⟩
          have H5 := Lib.hid (HB1.out.trans ((HT.out.1.trans h5).mono (Nat.le_of_lt hz)))
          clear h5 hW
          go_wp2_with fail
          go_ret2
          exact ⟨by rw [Hwp.out]; rfl, H5.out⟩
end Go.Proofs.Pw
