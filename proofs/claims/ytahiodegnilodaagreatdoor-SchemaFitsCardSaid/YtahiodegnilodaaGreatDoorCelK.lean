/- The reference's Key of values. -/
import Derived.Test.YtahiodegnilodaaGreatDoorCelJ
namespace Go.Proofs.Pw
open Go.RowKit

set_option maxRecDepth 100000 in
set_option maxHeartbeats 1000000 in
theorem RKeyV_any (A : Option Addr) (c : Nat) (xs : List PVal) (w : World) (hc : Vals w A xs) (hn : ∀ v ∈ xs, i64R v.n) (hne : xs ≠ []) :
    Calls Tryz.prog 59 #[.slice A xs.length c] w (Gives w (.tuple #[.string (keyV xs).1, .bool (keyV xs).2])) := by
  have HV := Lib.hid hc
  have HN := Lib.hid hn
  have hm := hc.1
  have HU := Lib.hid (RTuple_any A c xs w hc hn)
  clear hc hn
  by_cases hu : tupleF xs = true
  case neg =>
    have hu : tupleF xs = false := by simpa using hu
    have hq : Hid (keyV xs = (⟨#[]⟩, false)) := by show keyV xs = _; rw [keyV, tupV, hu]; rfl
    go_enter Tryz.func59, Tryz.ntmps59
    go_wp2_with fail
    refine HU.out.mono ?_
    rintro e w1 ⟨rfl, hb1⟩
    have hB := Lib.hid hb1
    go_wp2_with fail
    go_ret2
    exact ⟨by rw [hq.out]; rfl, hB.out⟩
  have hq : Hid (keyV xs = (BA (xs.flatMap (encV 1 9223372036854775808 encR)), true)) := by show keyV xs = _; rw [keyV, tupV, hu]; rfl
  have hlr : xs.length ≤ 64 ∧ allV xs = true := by
    unfold tupleF at hu
    split at hu
    · cases hu
    · exact ⟨by omega, hu⟩
  obtain ⟨hl64, hav⟩ := hlr
  have HA := Lib.hid (allV_all hav)
  clear hav
  go_enter Tryz.func59, Tryz.ntmps59
  go_wp2_with fail
  refine HU.out.mono ?_
  rintro e w1 ⟨rfl, hb1⟩
  rw [hu]
  have hB := Lib.hid hb1
  clear hb1 HU hu
  go_wp2_with fail
  go_loopw [4, 5] (fun v i wr => ∃ j : Nat, j ≤ xs.length ∧ i = .int .i64 j ∧ ∃ A1 c1, v = .slice A1 ((xs.take j).flatMap (encV 1 9223372036854775808 encR)).length c1 ∧ Hid (wr.ownsRow w.heap.size 5 1 (.slice A1 ((xs.take j).flatMap (encV 1 9223372036854775808 encR)).length c1) ((xs.take j).flatMap (encV 1 9223372036854775808 encR)).length (Lib.byteCells ((xs.take j).flatMap (encV 1 9223372036854775808 encR)))) ∧ Hid (Below w.heap.size w wr)) (fun _ i _ => xs.length - (intOf i).toNat)
  case atStart => exact ⟨0, by omega, rfl, none, 0, rfl, row_nil _ _ _ _, hB⟩
  case round =>
    clear hB
    obtain ⟨j, hj, rfl, A1, c1, rfl, HO, HB⟩ := hrel
    by_cases hlt : j < xs.length
    · obtain ⟨ab, off, rfl, hb, hbb, hs0, hs1, hs2⟩ := vals_at (HV.out.below (flat_stable _) HB.out) hlt
      have hr := HA.out _ (List.getElem_mem hlt)
      have hn := HN.out _ (List.getElem_mem hlt)
      have Hsn := Lib.hid (List.take_succ_eq_append_getElem hlt)
      have hll := flat_len (encV 1 9223372036854775808 encR) 2003 (xs.take j) (fun x hx => encV_len 1 9223372036854775808 encR encR_len (HA.out x (List.mem_of_mem_take hx)))
      have hlj : (xs.take j).length ≤ 64 := by simp; omega
      generalize xs[j] = y at *
      replace hll : ((xs.take j).flatMap (encV 1 9223372036854775808 encR)).length ≤ 2003 * 64 := by
        have : 2003 * (xs.take j).length ≤ 2003 * 64 := Nat.mul_le_mul_left _ hlj
        omega
      have hnx : (xs.take (j + 1)).flatMap (encV 1 9223372036854775808 encR) = (xs.take j).flatMap (encV 1 9223372036854775808 encR) ++ encV 1 9223372036854775808 encR y := by
        rw [Hsn.out, List.flatMap_append]; simp
      generalize (xs.take j).flatMap (encV 1 9223372036854775808 encR) = L at *
      have Hnx := Lib.hid hnx
      clear hnx hlj
      obtain ⟨hkk, hsz, hk2⟩ := right_kind hr
      obtain ⟨yk, yn, ys⟩ := y
      dsimp only at *
      have hj0 : (0 : Int) ≤ j := by omega
      have hj1 : (j : Int) < (xs.length : Int) := by omega
      have hz := HB.out.size
      have hX := Box.new wr [.int .i64 yk, .int .i64 yn, .string ys] 65
      have hB := b_alloc (o := (.cells #[.int .i64 yk, .int .i64 yn, .string ys] 65)) HB.out
      have hO := row_below HO.out (below_new wr (.cells #[.int .i64 yk, .int .i64 yn, .string ys] 65))
      clear HO
      rcases hkk with rfl | rfl | rfl | rfl | rfl
      · have Y0 : Hid ([Value.int .u8 1] = Lib.byteCells [byteOf 1]) := rfl
        have henc : encV 1 9223372036854775808 encR ⟨0, yn, ys⟩ = [byteOf 1] := by simp [encV]
        have Henc := Lib.hid henc
        clear henc
        go_wp2_with (at_builtin; refine bapp_blk w.heap.size _ _ 77 5 Tryz.underlying77 Tryz.infoByte _ _ _ hO hB.size _ _ Y0.out _ (by simp) (by simp only [List.length_append, List.length_cons, List.length_nil]; omega) rfl rfl _ (by simp) _ rfl (by simp) rfl ?_; intro A5 c5 w5 hO5 hg; replace hB := below_row hB hO hg; replace hX := hX.row hg (row_box hO hX (by decide)); have hsz5 := hg.size; clear hO; have hO := hO5; clear hO5 hg; have k0 := hX.cell 0 rfl; have k1 := hX.cell 1 rfl; have k2 := hX.cell 2 rfl)
        go_roundw
        case rel =>
          rw [Henc.out] at Hnx
          rw [← Hnx.out] at hO
          exact ⟨j + 1, by omega, by go_num, A5, c5, by simp [Hnx.out], hO, hB⟩
        case measure => simp [intOf]; omega
      · have Y1 : Hid ([Value.int .u8 2] = Lib.byteCells [byteOf 2]) := rfl
        have hu64 := (turned_eq yn 9223372036854775808).1
        have henc : encV 1 9223372036854775808 encR ⟨1, yn, ys⟩ = [byteOf 2] ++ bytes8 (turned yn 9223372036854775808) := by simp [encV]
        have Henc := Lib.hid henc
        have Hu64 := Lib.hid hu64
        clear henc hu64
        go_wp2_with (at_builtin; refine bapp_blk w.heap.size _ _ 77 5 Tryz.underlying77 Tryz.infoByte _ _ _ hO hB.size _ _ Y1.out _ (by simp) (by simp only [List.length_append, List.length_cons, List.length_nil]; omega) rfl rfl _ (by simp) _ rfl (by simp) rfl ?_; intro A5 c5 w5 hO5 hg; replace hB := below_row hB hO hg; replace hX := hX.row hg (row_box hO hX (by decide)); have hsz5 := hg.size; clear hO; have hO := hO5; clear hO5 hg; have k0 := hX.cell 0 rfl; have k1 := hX.cell 1 rfl; have k2 := hX.cell 2 rfl)
        refine (eightX_any (turned yn 9223372036854775808) _ _ (turned_eq yn 9223372036854775808).2 Hu64.out).mono ?_
        rintro e w6 ⟨A8, c8, rfl, hE, hb8⟩
        replace hO := row_below hO hb8
        replace hX := hX.below hb8
        replace hB := below_next hB hb8
        have k0 := hX.cell 0 rfl
        clear hb8
        go_wp2_with (at_builtin; refine bapp_src w.heap.size _ _ 77 5 Tryz.underlying77 Tryz.infoByte _ _ _ hO hB.size _ _ _ _ (bytes8 (turned yn 9223372036854775808)) (by rw [bytes8_len]) (by decide) hE (by rw [bytes8_len]; simp only [List.length_append, List.length_cons, List.length_nil]; omega) rfl rfl _ rfl (by simp) rfl ?_; intro A5 c5 w5 hO5 hg; replace hB := below_row hB hO hg; replace hX := hX.row hg (row_box hO hX (by decide)); have hsz5 := hg.size; clear hO hE; have hO := hO5; clear hO5 hg)
        go_roundw
        case rel =>
          rw [Henc.out] at Hnx
          simp only [List.append_assoc] at hO
          rw [← Hnx.out] at hO
          exact ⟨j + 1, by omega, by go_num, A5, c5, by simp [Hnx.out], hO, hB⟩
        case measure => simp [intOf]; omega
      · have Y2 : Hid ([Value.int .u8 3] = Lib.byteCells [byteOf 3]) := rfl
        have hw8 : IntKind.u8.wrap yn = yn := IntWalk.u8_in yn (by have := hk2 rfl; omega)
        have hyn : (0 : Int) ≤ yn ∧ yn ≤ 1 := by have := hk2 rfl; omega
        have henc : encV 1 9223372036854775808 encR ⟨2, yn, ys⟩ = [byteOf 3] ++ [byteOf yn.toNat] := by simp [encV]
        have Henc := Lib.hid henc
        have hby : ((byteOf yn.toNat).toNat : Int) = yn := by rw [byteOf_nat (by omega)]; omega
        have YN : Hid ([Value.int .u8 yn] = Lib.byteCells [byteOf yn.toNat]) := by show _ = [Value.int .u8 ((byteOf yn.toNat).toNat : Int)]; rw [hby]
        clear henc hby
        go_wp2_with (first | (at_builtin; refine bapp_blk w.heap.size _ _ 77 5 Tryz.underlying77 Tryz.infoByte _ _ _ hO hB.size _ _ Y2.out _ (by simp) (by simp only [List.length_append, List.length_cons, List.length_nil]; omega) rfl rfl _ (by simp) _ rfl (by simp) rfl ?_; intro A5 c5 w5 hO5 hg; replace hB := below_row hB hO hg; replace hX := hX.row hg (row_box hO hX (by decide)); have hsz5 := hg.size; clear hO; have hO := hO5; clear hO5 hg; have k0 := hX.cell 0 rfl; have k1 := hX.cell 1 rfl; have k2 := hX.cell 2 rfl) | (at_builtin; refine bapp_blk w.heap.size _ _ 77 5 Tryz.underlying77 Tryz.infoByte _ _ _ hO hB.size _ _ YN.out _ (by simp) (by simp only [List.length_append, List.length_cons, List.length_nil]; omega) rfl rfl _ (by simp) _ rfl (by simp) rfl ?_; intro A5 c5 w5 hO5 hg; replace hB := below_row hB hO hg; replace hX := hX.row hg (row_box hO hX (by decide)); have hsz5 := hg.size; clear hO; have hO := hO5; clear hO5 hg; have k0 := hX.cell 0 rfl; have k1 := hX.cell 1 rfl; have k2 := hX.cell 2 rfl))
        go_roundw
        case rel =>
          rw [Henc.out] at Hnx
          simp only [List.append_assoc] at hO
          rw [← Hnx.out] at hO
          exact ⟨j + 1, by omega, by go_num, A5, c5, by simp [Hnx.out], hO, hB⟩
        case measure => simp [intOf]; omega
      · have Y3 : Hid ([Value.int .u8 4] = Lib.byteCells [byteOf 4]) := rfl
        have henc : encV 1 9223372036854775808 encR ⟨3, yn, ys⟩ = [byteOf 4] ++ (esc ys.data.toList ++ [0, 0]) := by simp [encV, encR]
        have Henc := Lib.hid henc
        clear henc
        go_wp2_with (at_builtin; refine bapp_blk w.heap.size _ _ 77 5 Tryz.underlying77 Tryz.infoByte _ _ _ hO hB.size _ _ Y3.out _ (by simp) (by simp only [List.length_append, List.length_cons, List.length_nil]; omega) rfl rfl _ (by simp) _ rfl (by simp) rfl ?_; intro A5 c5 w5 hO5 hg; replace hB := below_row hB hO hg; replace hX := hX.row hg (row_box hO hX (by decide)); have hsz5 := hg.size; clear hO; have hO := hO5; clear hO5 hg; have k0 := hX.cell 0 rfl; have k1 := hX.cell 1 rfl; have k2 := hX.cell 2 rfl)
        clear hs0 hs1 hs2 hb hbb k0 k1 k2 hz hsz5
        generalize wr.heap.size = N at *
        have HO1 := Lib.hid hO
        have HB1 := Lib.hid hB
        have HX1 := Lib.hid hX
        clear hO hB hX
        go_loopw [4, 7] (fun v i wr => ∃ q : Nat, q ≤ ys.size ∧ i = .int .i64 q ∧ ∃ A1 c1 n, v = .slice A1 n c1 ∧ Hid (n = (L ++ [byteOf 4] ++ esc (ys.data.toList.take q)).length) ∧ Hid (wr.ownsRow w.heap.size 5 1 (.slice A1 (L ++ [byteOf 4] ++ esc (ys.data.toList.take q)).length c1) (L ++ [byteOf 4] ++ esc (ys.data.toList.take q)).length (Lib.byteCells (L ++ [byteOf 4] ++ esc (ys.data.toList.take q)))) ∧ Hid (Below w.heap.size w wr) ∧ Hid (Box wr N 65 [.int .i64 3, .int .i64 yn, .string ys])) (fun _ i _ => ys.size - (intOf i).toNat)
        case atStart => exact ⟨0, by omega, rfl, A5, c5, _, rfl, by (show _ = _; simp [esc]), by (show World.ownsRow _ _ _ _ _ _ _; simpa [esc] using HO1.out), HB1, HX1⟩
        case round =>
          clear HO1 HB1 HX1
          obtain ⟨q, hq, rfl, A1, c1, n, rfl, Hn, HO, HB, HX⟩ := hrel
          have hO := HO.out
          have hB := HB.out
          have hX := HX.out
          have k2 := hX.cell 2 rfl
          clear HO HB HX
          by_cases hqt : q < ys.size
          · have he1 := List.take_succ_eq_append_getElem (l := ys.data.toList) (i := q) (by rw [Array.length_toList]; exact hqt)
            have hbd := bytes_drop ys q hqt
            have hgq : ys.data.toList[q]'(by rw [Array.length_toList]; exact hqt) = ys[q] := rfl
            rw [hgq] at he1
            have hel := esc_len (ys.data.toList.take q)
            have htl : (ys.data.toList.take q).length ≤ 1000 := by rw [List.length_take]; omega
            have hesc : esc (ys.data.toList.take (q + 1)) = esc (ys.data.toList.take q) ++ (if ys[q] = 0 then [0, 255] else [ys[q]]) := by rw [he1]; simp [esc]
            have Hesc := Lib.hid hesc
            clear he1 hbd hgq hesc
            generalize esc (ys.data.toList.take q) = Z at *
            have YC : Hid ([Value.int .u8 (ys[q].toNat : Int)] = Lib.byteCells [ys[q]]) := rfl
            have YF : Hid ([Value.int .u8 255] = Lib.byteCells [255]) := rfl
            have hq0 : (0 : Int) ≤ q := by omega
            have hq1 : (q : Int) < (ys.size : Int) := by omega
            by_cases hc0 : ys[q] = 0
            · have hcz : ((ys[q].toNat : Int) == 0) = true := by simp [hc0]
              have Hc0 := Lib.hid hc0
              clear hc0
              go_wp2_with (first | (at_builtin; refine bapp_blk w.heap.size _ _ 77 5 Tryz.underlying77 Tryz.infoByte _ _ _ hO hB.size _ _ YC.out _ (by simp) (by simp only [List.length_append, List.length_cons, List.length_nil]; omega) rfl rfl _ (by simp) _ rfl Hn.out rfl ?_; intro A5 c5 w5 hO5 hg; replace hB := below_row hB hO hg; replace hX := hX.row hg (row_box hO hX (by decide)); have hsz5 := hg.size; clear hO; have hO := hO5; clear hO5 hg; have k2 := hX.cell 2 rfl) | (at_builtin; refine bapp_blk w.heap.size _ _ 77 5 Tryz.underlying77 Tryz.infoByte _ _ _ hO hB.size _ _ YF.out _ (by simp) (by simp only [List.length_append, List.length_cons, List.length_nil]; omega) rfl rfl _ (by simp) _ rfl (by simp) rfl ?_; intro A5 c5 w5 hO5 hg; replace hB := below_row hB hO hg; replace hX := hX.row hg (row_box hO hX (by decide)); have hsz5 := hg.size; clear hO; have hO := hO5; clear hO5 hg; have k2 := hX.cell 2 rfl))
              go_roundw
              case rel => exact ⟨q + 1, by omega, by go_num, A5, c5, _, rfl, by (show _ = _; rw [Hesc.out, if_pos Hc0.out]; simp), by (show World.ownsRow _ _ _ _ _ _ _; rw [Hesc.out, if_pos Hc0.out]; rw [Hc0.out] at hO; simpa using hO), hB, hX⟩
              case measure => simp [intOf]; omega
            · have hcz : ((ys[q].toNat : Int) == 0) = false := by
                have : ¬ ys[q].toNat = 0 := fun e => hc0 (UInt8.toNat_inj.1 e)
                simp [this]
              have Hc0 := Lib.hid hc0
              clear hc0
              go_wp2_with (at_builtin; refine bapp_blk w.heap.size _ _ 77 5 Tryz.underlying77 Tryz.infoByte _ _ _ hO hB.size _ _ YC.out _ (by simp) (by simp only [List.length_append, List.length_cons, List.length_nil]; omega) rfl rfl _ (by simp) _ rfl Hn.out rfl ?_; intro A5 c5 w5 hO5 hg; replace hB := below_row hB hO hg; replace hX := hX.row hg (row_box hO hX (by decide)); have hsz5 := hg.size; clear hO; have hO := hO5; clear hO5 hg; have k2 := hX.cell 2 rfl)
              go_roundw
              case rel => exact ⟨q + 1, by omega, by go_num, A5, c5, _, rfl, by (show _ = _; rw [Hesc.out, if_neg Hc0.out]; simp), by (show World.ownsRow _ _ _ _ _ _ _; rw [Hesc.out, if_neg Hc0.out]; simpa using hO), hB, hX⟩
              case measure => simp [intOf]; omega
          · obtain rfl : q = ys.size := by omega
            rw [List.take_of_length_le (by rw [Array.length_toList]; exact Nat.le_refl _)] at Hn hO
            have hel := esc_len ys.data.toList
            have htl : ys.data.toList.length ≤ 1000 := by rw [Array.length_toList]; exact hsz
            have YZ : Hid ([Value.int .u8 0, Value.int .u8 0] = Lib.byteCells [0, 0]) := rfl
            go_wp2_with (at_builtin; refine bapp_blk w.heap.size _ _ 77 5 Tryz.underlying77 Tryz.infoByte _ _ _ hO hB.size _ _ YZ.out _ (by simp) (by simp only [List.length_append, List.length_cons, List.length_nil]; omega) rfl rfl _ (by simp) _ rfl Hn.out rfl ?_; intro A5 c5 w5 hO5 hg; replace hB := below_row hB hO hg; replace hX := hX.row hg (row_box hO hX (by decide)); have hsz5 := hg.size; clear hO; have hO := hO5; clear hO5 hg; have k2 := hX.cell 2 rfl)
            go_roundw
            case rel =>
              rw [Henc.out] at Hnx
              have hO : w5.ownsRow w.heap.size 5 1 (.slice A5 ((xs.take (j + 1)).flatMap (encV 1 9223372036854775808 encR)).length c5) ((xs.take (j + 1)).flatMap (encV 1 9223372036854775808 encR)).length (Lib.byteCells ((xs.take (j + 1)).flatMap (encV 1 9223372036854775808 encR))) := by
                rw [Hnx.out]; simpa using hO
              exact ⟨j + 1, by omega, by go_num, A5, c5, by simp [Hnx.out], hO, hB⟩
            case measure => simp [intOf]; omega
      · have Y4 : Hid ([Value.int .u8 5] = Lib.byteCells [byteOf 5]) := rfl
        have henc : encV 1 9223372036854775808 encR ⟨4, yn, ys⟩ = [byteOf 5] ++ (esc ys.data.toList ++ [0, 0]) := by simp [encV, encR]
        have Henc := Lib.hid henc
        clear henc
        go_wp2_with (at_builtin; refine bapp_blk w.heap.size _ _ 77 5 Tryz.underlying77 Tryz.infoByte _ _ _ hO hB.size _ _ Y4.out _ (by simp) (by simp only [List.length_append, List.length_cons, List.length_nil]; omega) rfl rfl _ (by simp) _ rfl (by simp) rfl ?_; intro A5 c5 w5 hO5 hg; replace hB := below_row hB hO hg; replace hX := hX.row hg (row_box hO hX (by decide)); have hsz5 := hg.size; clear hO; have hO := hO5; clear hO5 hg; have k0 := hX.cell 0 rfl; have k1 := hX.cell 1 rfl; have k2 := hX.cell 2 rfl)
        clear hs0 hs1 hs2 hb hbb k0 k1 k2 hz hsz5
        generalize wr.heap.size = N at *
        have HO1 := Lib.hid hO
        have HB1 := Lib.hid hB
        have HX1 := Lib.hid hX
        clear hO hB hX
        go_loopw [4, 7] (fun v i wr => ∃ q : Nat, q ≤ ys.size ∧ i = .int .i64 q ∧ ∃ A1 c1 n, v = .slice A1 n c1 ∧ Hid (n = (L ++ [byteOf 5] ++ esc (ys.data.toList.take q)).length) ∧ Hid (wr.ownsRow w.heap.size 5 1 (.slice A1 (L ++ [byteOf 5] ++ esc (ys.data.toList.take q)).length c1) (L ++ [byteOf 5] ++ esc (ys.data.toList.take q)).length (Lib.byteCells (L ++ [byteOf 5] ++ esc (ys.data.toList.take q)))) ∧ Hid (Below w.heap.size w wr) ∧ Hid (Box wr N 65 [.int .i64 4, .int .i64 yn, .string ys])) (fun _ i _ => ys.size - (intOf i).toNat)
        case atStart => exact ⟨0, by omega, rfl, A5, c5, _, rfl, by (show _ = _; simp [esc]), by (show World.ownsRow _ _ _ _ _ _ _; simpa [esc] using HO1.out), HB1, HX1⟩
        case round =>
          clear HO1 HB1 HX1
          obtain ⟨q, hq, rfl, A1, c1, n, rfl, Hn, HO, HB, HX⟩ := hrel
          have hO := HO.out
          have hB := HB.out
          have hX := HX.out
          have k2 := hX.cell 2 rfl
          clear HO HB HX
          by_cases hqt : q < ys.size
          · have he1 := List.take_succ_eq_append_getElem (l := ys.data.toList) (i := q) (by rw [Array.length_toList]; exact hqt)
            have hbd := bytes_drop ys q hqt
            have hgq : ys.data.toList[q]'(by rw [Array.length_toList]; exact hqt) = ys[q] := rfl
            rw [hgq] at he1
            have hel := esc_len (ys.data.toList.take q)
            have htl : (ys.data.toList.take q).length ≤ 1000 := by rw [List.length_take]; omega
            have hesc : esc (ys.data.toList.take (q + 1)) = esc (ys.data.toList.take q) ++ (if ys[q] = 0 then [0, 255] else [ys[q]]) := by rw [he1]; simp [esc]
            have Hesc := Lib.hid hesc
            clear he1 hbd hgq hesc
            generalize esc (ys.data.toList.take q) = Z at *
            have YC : Hid ([Value.int .u8 (ys[q].toNat : Int)] = Lib.byteCells [ys[q]]) := rfl
            have YF : Hid ([Value.int .u8 255] = Lib.byteCells [255]) := rfl
            have hq0 : (0 : Int) ≤ q := by omega
            have hq1 : (q : Int) < (ys.size : Int) := by omega
            by_cases hc0 : ys[q] = 0
            · have hcz : ((ys[q].toNat : Int) == 0) = true := by simp [hc0]
              have Hc0 := Lib.hid hc0
              clear hc0
              go_wp2_with (first | (at_builtin; refine bapp_blk w.heap.size _ _ 77 5 Tryz.underlying77 Tryz.infoByte _ _ _ hO hB.size _ _ YC.out _ (by simp) (by simp only [List.length_append, List.length_cons, List.length_nil]; omega) rfl rfl _ (by simp) _ rfl Hn.out rfl ?_; intro A5 c5 w5 hO5 hg; replace hB := below_row hB hO hg; replace hX := hX.row hg (row_box hO hX (by decide)); have hsz5 := hg.size; clear hO; have hO := hO5; clear hO5 hg; have k2 := hX.cell 2 rfl) | (at_builtin; refine bapp_blk w.heap.size _ _ 77 5 Tryz.underlying77 Tryz.infoByte _ _ _ hO hB.size _ _ YF.out _ (by simp) (by simp only [List.length_append, List.length_cons, List.length_nil]; omega) rfl rfl _ (by simp) _ rfl (by simp) rfl ?_; intro A5 c5 w5 hO5 hg; replace hB := below_row hB hO hg; replace hX := hX.row hg (row_box hO hX (by decide)); have hsz5 := hg.size; clear hO; have hO := hO5; clear hO5 hg; have k2 := hX.cell 2 rfl))
              go_roundw
              case rel => exact ⟨q + 1, by omega, by go_num, A5, c5, _, rfl, by (show _ = _; rw [Hesc.out, if_pos Hc0.out]; simp), by (show World.ownsRow _ _ _ _ _ _ _; rw [Hesc.out, if_pos Hc0.out]; rw [Hc0.out] at hO; simpa using hO), hB, hX⟩
              case measure => simp [intOf]; omega
            · have hcz : ((ys[q].toNat : Int) == 0) = false := by
                have : ¬ ys[q].toNat = 0 := fun e => hc0 (UInt8.toNat_inj.1 e)
                simp [this]
              have Hc0 := Lib.hid hc0
              clear hc0
              go_wp2_with (at_builtin; refine bapp_blk w.heap.size _ _ 77 5 Tryz.underlying77 Tryz.infoByte _ _ _ hO hB.size _ _ YC.out _ (by simp) (by simp only [List.length_append, List.length_cons, List.length_nil]; omega) rfl rfl _ (by simp) _ rfl Hn.out rfl ?_; intro A5 c5 w5 hO5 hg; replace hB := below_row hB hO hg; replace hX := hX.row hg (row_box hO hX (by decide)); have hsz5 := hg.size; clear hO; have hO := hO5; clear hO5 hg; have k2 := hX.cell 2 rfl)
              go_roundw
              case rel => exact ⟨q + 1, by omega, by go_num, A5, c5, _, rfl, by (show _ = _; rw [Hesc.out, if_neg Hc0.out]; simp), by (show World.ownsRow _ _ _ _ _ _ _; rw [Hesc.out, if_neg Hc0.out]; simpa using hO), hB, hX⟩
              case measure => simp [intOf]; omega
          · obtain rfl : q = ys.size := by omega
            rw [List.take_of_length_le (by rw [Array.length_toList]; exact Nat.le_refl _)] at Hn hO
            have hel := esc_len ys.data.toList
            have htl : ys.data.toList.length ≤ 1000 := by rw [Array.length_toList]; exact hsz
            have YZ : Hid ([Value.int .u8 0, Value.int .u8 0] = Lib.byteCells [0, 0]) := rfl
            go_wp2_with (at_builtin; refine bapp_blk w.heap.size _ _ 77 5 Tryz.underlying77 Tryz.infoByte _ _ _ hO hB.size _ _ YZ.out _ (by simp) (by simp only [List.length_append, List.length_cons, List.length_nil]; omega) rfl rfl _ (by simp) _ rfl Hn.out rfl ?_; intro A5 c5 w5 hO5 hg; replace hB := below_row hB hO hg; replace hX := hX.row hg (row_box hO hX (by decide)); have hsz5 := hg.size; clear hO; have hO := hO5; clear hO5 hg; have k2 := hX.cell 2 rfl)
            go_roundw
            case rel =>
              rw [Henc.out] at Hnx
              have hO : w5.ownsRow w.heap.size 5 1 (.slice A5 ((xs.take (j + 1)).flatMap (encV 1 9223372036854775808 encR)).length c5) ((xs.take (j + 1)).flatMap (encV 1 9223372036854775808 encR)).length (Lib.byteCells ((xs.take (j + 1)).flatMap (encV 1 9223372036854775808 encR))) := by
                rw [Hnx.out]; simpa using hO
              exact ⟨j + 1, by omega, by go_num, A5, c5, by simp [Hnx.out], hO, hB⟩
            case measure => simp [intOf]; omega
    · obtain rfl : j = xs.length := by omega
      rw [List.take_length] at HO ⊢
      have hL0 : xs.flatMap (encV 1 9223372036854775808 encR) ≠ [] := by
        intro h0
        obtain ⟨v, vs, rfl⟩ := List.exists_cons_of_ne_nil hne
        simp [encV] at h0
      generalize xs.flatMap (encV 1 9223372036854775808 encR) = L at *
      have hcv := convRow hL0 HO.out _ rfl
      go_wp2_with fail
      go_ret2
      exact ⟨by rw [hq.out]; rfl, HB.out⟩
end Go.Proofs.Pw
