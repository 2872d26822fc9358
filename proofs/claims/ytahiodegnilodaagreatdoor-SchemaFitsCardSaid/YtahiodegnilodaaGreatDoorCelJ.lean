/- The reference's Write of values. -/
import Derived.Test.YtahiodegnilodaaGreatDoorCelI
import Derived.Test.YtahiodegnilodaaGreatDoorBApp
namespace Go.Proofs.Pw
open Go.RowKit

theorem turned_zero (n : Int) : IntKind.u64.wrap n = ((turned n 0 : Nat) : Int) := by
  have h := (turned_eq n 0).1
  rw [← h]
  unfold bits
  show IntKind.u64.wrap n = IntKind.u64.wrap (((BitVec.ofInt 64 (IntKind.u64.wrap n) ^^^ BitVec.ofInt 64 ((0 : Nat) : Int)).toNat : Nat) : Int)
  rw [show BitVec.ofInt 64 ((0 : Nat) : Int) = 0#64 from rfl, BitVec.xor_zero, BitVec.toNat_ofInt, IntKind.wrap_u64, IntKind.wrap_u64]
  omega
theorem eightX_any (n : Nat) (x : Int) (w : World) (hn : n < 18446744073709551616) (hx : x = (n : Int)) : Calls Tryz.prog 105 #[.int .u64 x] w fun e w' => ∃ A c, e = .returned (.slice A 8 c) ∧ w'.ownsRow w.heap.size 5 1 (.slice A 8 c) 8 (Lib.byteCells (bytes8 n)) ∧ Below w.heap.size w w' := by
  rw [hx]; exact eight_any n w hn
set_option maxRecDepth 100000 in
theorem conv_row_some {w : World} (g c : Nat) (l : List UInt8) (hc : ∀ j (hj : j < l.length), w.cell? ((⟨g, 0, none⟩ : Addr).add j) = some (.int .u8 (l[j].toNat : Int))) : (convert 77 9 (.slice (some ⟨g, 0, none⟩) l.length c)).run Tryz.prog w = .ok (.string (BA l)) w :=
  run_convert_bytes_back (P := Tryz.prog) w 77 9 5 ⟨g, 0, none⟩ c l Tryz.underlying77 Tryz.underlying5 Tryz.underlying9 hc
/-- A row of bytes as a text. -/
theorem convRow {w : World} {base : Nat} {A : Option Addr} {c : Nat} {l : List UInt8} (hl : l ≠ []) (h : w.ownsRow base 5 1 (.slice A l.length c) l.length (Lib.byteCells l)) (n : Nat) (hn : n = l.length) : (convert 77 9 (.slice A n c)).run Tryz.prog w = .ok (.string (BA l)) w := by
  subst hn
  rcases h.2 with ⟨hv, h0⟩ | ⟨g, cap, cur, hv, _⟩
  · exact absurd (List.eq_nil_of_length_eq_zero h0) hl
  · obtain rfl := (Value.slice.inj hv).1
    refine conv_row_some g c l (fun j hj => ?_)
    have hj2 : (Lib.byteCells l)[j]? = some (.int .u8 (l[j].toNat : Int)) := by
      unfold Lib.byteCells
      rw [List.getElem?_map, List.getElem?_eq_getElem hj]; rfl
    exact h.cells (g := g) rfl j _ hj2

set_option maxRecDepth 100000 in
set_option maxHeartbeats 1000000 in
theorem RWriteV_any (A : Option Addr) (c : Nat) (xs : List PVal) (w : World) (hc : Vals w A xs) (hn : ∀ v ∈ xs, i64R v.n) (hne : xs ≠ []) :
    Calls Tryz.prog 56 #[.slice A xs.length c] w (Gives w (.tuple #[.string (writeV xs).1, .bool (writeV xs).2])) := by
  have HV := Lib.hid hc
  have HN := Lib.hid hn
  have hm := hc.1
  have HU := Lib.hid (RTuple_any A c xs w hc hn)
  clear hc hn
  by_cases hu : tupleF xs = true
  case neg =>
    have hu : tupleF xs = false := by simpa using hu
    have hq : Hid (writeV xs = (⟨#[]⟩, false)) := by show writeV xs = _; rw [writeV, tupV, hu]; rfl
    go_enter Tryz.func56, Tryz.ntmps56
    go_wp2_with fail
    refine HU.out.mono ?_
    rintro e w1 ⟨rfl, hb1⟩
    have hB := Lib.hid hb1
    go_wp2_with fail
    go_ret2
    exact ⟨by rw [hq.out]; rfl, hB.out⟩
  have hq : Hid (writeV xs = (BA (xs.flatMap (encV 0 0 encP)), true)) := by show writeV xs = _; rw [writeV, tupV, hu]; rfl
  have hlr : xs.length ≤ 64 ∧ allV xs = true := by
    unfold tupleF at hu
    split at hu
    · cases hu
    · exact ⟨by omega, hu⟩
  obtain ⟨hl64, hav⟩ := hlr
  have HA := Lib.hid (allV_all hav)
  clear hav
  go_enter Tryz.func56, Tryz.ntmps56
  go_wp2_with fail
  refine HU.out.mono ?_
  rintro e w1 ⟨rfl, hb1⟩
  rw [hu]
  have hB := Lib.hid hb1
  clear hb1 HU hu
  go_wp2_with fail
  go_loopw [4, 5] (fun v i wr => ∃ j : Nat, j ≤ xs.length ∧ i = .int .i64 j ∧ ∃ A1 c1, v = .slice A1 ((xs.take j).flatMap (encV 0 0 encP)).length c1 ∧ Hid (wr.ownsRow w.heap.size 5 1 (.slice A1 ((xs.take j).flatMap (encV 0 0 encP)).length c1) ((xs.take j).flatMap (encV 0 0 encP)).length (Lib.byteCells ((xs.take j).flatMap (encV 0 0 encP)))) ∧ Hid (Below w.heap.size w wr)) (fun _ i _ => xs.length - (intOf i).toNat)
  case atStart => exact ⟨0, by omega, rfl, none, 0, rfl, row_nil _ _ _ _, hB⟩
  case round =>
    clear hB
    obtain ⟨j, hj, rfl, A1, c1, rfl, HO, HB⟩ := hrel
    by_cases hlt : j < xs.length
    · obtain ⟨ab, off, rfl, hb, hbb, hs0, hs1, hs2⟩ := vals_at (HV.out.below (flat_stable _) HB.out) hlt
      have hr := HA.out _ (List.getElem_mem hlt)
      have hn := HN.out _ (List.getElem_mem hlt)
      have Hsn := Lib.hid (List.take_succ_eq_append_getElem hlt)
      have hll := flat_len (encV 0 0 encP) 2003 (xs.take j) (fun x hx => encV_len 0 0 encP encP_len (HA.out x (List.mem_of_mem_take hx)))
      have hlj : (xs.take j).length ≤ 64 := by simp; omega
      generalize xs[j] = y at *
      replace hll : ((xs.take j).flatMap (encV 0 0 encP)).length ≤ 2003 * 64 := by
        have : 2003 * (xs.take j).length ≤ 2003 * 64 := Nat.mul_le_mul_left _ hlj
        omega
      have hnx : (xs.take (j + 1)).flatMap (encV 0 0 encP) = (xs.take j).flatMap (encV 0 0 encP) ++ encV 0 0 encP y := by
        rw [Hsn.out, List.flatMap_append]; simp
      generalize (xs.take j).flatMap (encV 0 0 encP) = L at *
      have Hnx := Lib.hid hnx
      clear hnx hlj
      obtain ⟨hkk, hsz, hk2⟩ := right_kind hr
      obtain ⟨yk, yn, ys⟩ := y
      dsimp only at *
      have hj0 : (0 : Int) ≤ j := by omega
      have hj1 : (j : Int) < (xs.length : Int) := by omega
      have hz := HB.out.size
      have hX := Box.new wr [.int .i64 yk, .int .i64 yn, .string ys] 65
      have hB := b_alloc (o := (.cells #[.int .i64 yk, .int .i64 yn, .string ys] 65)) HB.out
      have hO := row_below HO.out (below_new wr (.cells #[.int .i64 yk, .int .i64 yn, .string ys] 65))
      clear HO
      rcases hkk with rfl | rfl | rfl | rfl | rfl
      · have Y0 : Hid ([Value.int .u8 0] = Lib.byteCells [byteOf 0]) := rfl
        have henc : encV 0 0 encP ⟨0, yn, ys⟩ = [byteOf 0] := by simp [encV]
        have Henc := Lib.hid henc
        clear henc
        go_wp2_with (at_builtin; refine bapp_blk w.heap.size _ _ 77 5 Tryz.underlying77 Tryz.infoByte _ _ _ hO hB.size _ _ Y0.out _ (by simp) (by simp only [List.length_append, List.length_cons, List.length_nil]; omega) rfl rfl _ (by simp) _ rfl (by simp) rfl ?_; intro A5 c5 w5 hO5 hg; replace hB := below_row hB hO hg; replace hX := hX.row hg (row_box hO hX (by decide)); have hsz5 := hg.size; clear hO; have hO := hO5; clear hO5 hg; have k0 := hX.cell 0 rfl; have k1 := hX.cell 1 rfl; have k2 := hX.cell 2 rfl)
        go_roundw
        case rel =>
          rw [Henc.out] at Hnx
          rw [← Hnx.out] at hO
          exact ⟨j + 1, by omega, by go_num, A5, c5, by simp [Hnx.out], hO, hB⟩
        case measure => simp [intOf]; omega
      · have Y1 : Hid ([Value.int .u8 1] = Lib.byteCells [byteOf 1]) := rfl
        have hu64 : IntKind.u64.wrap yn = ((turned yn 0 : Nat) : Int) := turned_zero yn
        have henc : encV 0 0 encP ⟨1, yn, ys⟩ = [byteOf 1] ++ bytes8 (turned yn 0) := by simp [encV]
        have Henc := Lib.hid henc
        have Hu64 := Lib.hid hu64
        clear henc hu64
        go_wp2_with (at_builtin; refine bapp_blk w.heap.size _ _ 77 5 Tryz.underlying77 Tryz.infoByte _ _ _ hO hB.size _ _ Y1.out _ (by simp) (by simp only [List.length_append, List.length_cons, List.length_nil]; omega) rfl rfl _ (by simp) _ rfl (by simp) rfl ?_; intro A5 c5 w5 hO5 hg; replace hB := below_row hB hO hg; replace hX := hX.row hg (row_box hO hX (by decide)); have hsz5 := hg.size; clear hO; have hO := hO5; clear hO5 hg; have k0 := hX.cell 0 rfl; have k1 := hX.cell 1 rfl; have k2 := hX.cell 2 rfl)
        refine (eightX_any (turned yn 0) _ _ (turned_eq yn 0).2 Hu64.out).mono ?_
        rintro e w6 ⟨A8, c8, rfl, hE, hb8⟩
        replace hO := row_below hO hb8
        replace hX := hX.below hb8
        replace hB := below_next hB hb8
        have k0 := hX.cell 0 rfl
        clear hb8
        go_wp2_with (at_builtin; refine bapp_src w.heap.size _ _ 77 5 Tryz.underlying77 Tryz.infoByte _ _ _ hO hB.size _ _ _ _ (bytes8 (turned yn 0)) (by rw [bytes8_len]) (by decide) hE (by rw [bytes8_len]; simp only [List.length_append, List.length_cons, List.length_nil]; omega) rfl rfl _ rfl (by simp) rfl ?_; intro A5 c5 w5 hO5 hg; replace hB := below_row hB hO hg; replace hX := hX.row hg (row_box hO hX (by decide)); have hsz5 := hg.size; clear hO hE; have hO := hO5; clear hO5 hg)
        go_roundw
        case rel =>
          rw [Henc.out] at Hnx
          simp only [List.append_assoc] at hO
          rw [← Hnx.out] at hO
          exact ⟨j + 1, by omega, by go_num, A5, c5, by simp [Hnx.out], hO, hB⟩
        case measure => simp [intOf]; omega
      · have Y2 : Hid ([Value.int .u8 2] = Lib.byteCells [byteOf 2]) := rfl
        have hw8 : IntKind.u8.wrap yn = yn := IntWalk.u8_in yn (by have := hk2 rfl; omega)
        have hyn : (0 : Int) ≤ yn ∧ yn ≤ 1 := by have := hk2 rfl; omega
        have henc : encV 0 0 encP ⟨2, yn, ys⟩ = [byteOf 2] ++ [byteOf yn.toNat] := by simp [encV]
        have Henc := Lib.hid henc
        have hby : ((byteOf yn.toNat).toNat : Int) = yn := by rw [byteOf_nat (by omega)]; omega
        have YN : Hid ([Value.int .u8 yn] = Lib.byteCells [byteOf yn.toNat]) := by show _ = [Value.int .u8 ((byteOf yn.toNat).toNat : Int)]; rw [hby]
        clear henc hby
        go_wp2_with (first | (at_builtin; refine bapp_blk w.heap.size _ _ 77 5 Tryz.underlying77 Tryz.infoByte _ _ _ hO hB.size _ _ Y2.out _ (by simp) (by simp only [List.length_append, List.length_cons, List.length_nil]; omega) rfl rfl _ (by simp) _ rfl (by simp) rfl ?_; intro A5 c5 w5 hO5 hg; replace hB := below_row hB hO hg; replace hX := hX.row hg (row_box hO hX (by decide)); have hsz5 := hg.size; clear hO; have hO := hO5; clear hO5 hg; have k0 := hX.cell 0 rfl; have k1 := hX.cell 1 rfl; have k2 := hX.cell 2 rfl) | (at_builtin; refine bapp_blk w.heap.size _ _ 77 5 Tryz.underlying77 Tryz.infoByte _ _ _ hO hB.size _ _ YN.out _ (by simp) (by simp only [List.length_append, List.length_cons, List.length_nil]; omega) rfl rfl _ (by simp) _ rfl (by simp) rfl ?_; intro A5 c5 w5 hO5 hg; replace hB := below_row hB hO hg; replace hX := hX.row hg (row_box hO hX (by decide)); have hsz5 := hg.size; clear hO; have hO := hO5; clear hO5 hg; have k0 := hX.cell 0 rfl; have k1 := hX.cell 1 rfl; have k2 := hX.cell 2 rfl))
        go_roundw
        case rel =>
          rw [Henc.out] at Hnx
          simp only [List.append_assoc] at hO
          rw [← Hnx.out] at hO
          exact ⟨j + 1, by omega, by go_num, A5, c5, by simp [Hnx.out], hO, hB⟩
        case measure => simp [intOf]; omega
      · have Y3 : Hid ([Value.int .u8 3] = Lib.byteCells [byteOf 3]) := rfl
        have henc : encV 0 0 encP ⟨3, yn, ys⟩ = [byteOf 3] ++ ([byteOf (ys.size / 256), byteOf (ys.size % 256)] ++ ys.data.toList) := by simp [encV, encP]
        have Henc := Lib.hid henc
        clear henc
        have hw1 : IntKind.u8.wrap ((ys.size : Int) / 256) = (ys.size : Int) / 256 := IntWalk.u8_in _ (by omega)
        have hw2 : IntKind.u8.wrap ((ys.size : Int) % 256) = (ys.size : Int) % 256 := IntWalk.u8_in _ (by omega)
        have hb1 : ((byteOf (ys.size / 256)).toNat : Int) = (ys.size : Int) / 256 := by rw [byteOf_nat (by omega)]; omega
        have hb2 : ((byteOf (ys.size % 256)).toNat : Int) = (ys.size : Int) % 256 := by rw [byteOf_nat (by omega)]; omega
        have YL : Hid ([Value.int .u8 ((ys.size : Int) / 256), Value.int .u8 ((ys.size : Int) % 256)] = Lib.byteCells [byteOf (ys.size / 256), byteOf (ys.size % 256)]) := by show _ = [Value.int .u8 ((byteOf (ys.size / 256)).toNat : Int), Value.int .u8 ((byteOf (ys.size % 256)).toNat : Int)]; rw [hb1, hb2]
        clear hb1 hb2
        go_wp2_with (first | (at_builtin; refine bapp_blk w.heap.size _ _ 77 5 Tryz.underlying77 Tryz.infoByte _ _ _ hO hB.size _ _ Y3.out _ (by simp) (by simp only [List.length_append, List.length_cons, List.length_nil]; omega) rfl rfl _ (by simp) _ rfl (by simp) rfl ?_; intro A5 c5 w5 hO5 hg; replace hB := below_row hB hO hg; replace hX := hX.row hg (row_box hO hX (by decide)); have hsz5 := hg.size; clear hO; have hO := hO5; clear hO5 hg; have k0 := hX.cell 0 rfl; have k1 := hX.cell 1 rfl; have k2 := hX.cell 2 rfl) | (at_builtin; refine bapp_blk w.heap.size _ _ 77 5 Tryz.underlying77 Tryz.infoByte _ _ _ hO hB.size _ _ YL.out _ (by simp) (by simp only [List.length_append, List.length_cons, List.length_nil]; omega) rfl rfl _ (by simp) _ rfl (by simp) rfl ?_; intro A5 c5 w5 hO5 hg; replace hB := below_row hB hO hg; replace hX := hX.row hg (row_box hO hX (by decide)); have hsz5 := hg.size; clear hO; have hO := hO5; clear hO5 hg; have k0 := hX.cell 0 rfl; have k1 := hX.cell 1 rfl; have k2 := hX.cell 2 rfl) | (at_builtin; refine bapp_str w.heap.size _ _ 77 9 5 Tryz.underlying77 Tryz.underlying9 Tryz.infoByte _ _ _ hO hB.size ys (by simp only [List.length_append, List.length_cons, List.length_nil]; omega) rfl rfl _ rfl (by simp) rfl ?_; intro A5 c5 w5 hO5 hg; replace hB := below_row hB hO hg; replace hX := hX.row hg (row_box hO hX (by decide)); have hsz5 := hg.size; clear hO; have hO := hO5; clear hO5 hg; have k0 := hX.cell 0 rfl; have k1 := hX.cell 1 rfl; have k2 := hX.cell 2 rfl))
        go_roundw
        case rel =>
          rw [Henc.out] at Hnx
          simp only [List.append_assoc] at hO
          rw [← Hnx.out] at hO
          exact ⟨j + 1, by omega, by go_num, A5, c5, by simp [Hnx.out], hO, hB⟩
        case measure => simp [intOf]; omega
      · have Y4 : Hid ([Value.int .u8 4] = Lib.byteCells [byteOf 4]) := rfl
        have henc : encV 0 0 encP ⟨4, yn, ys⟩ = [byteOf 4] ++ ([byteOf (ys.size / 256), byteOf (ys.size % 256)] ++ ys.data.toList) := by simp [encV, encP]
        have Henc := Lib.hid henc
        clear henc
        have hw1 : IntKind.u8.wrap ((ys.size : Int) / 256) = (ys.size : Int) / 256 := IntWalk.u8_in _ (by omega)
        have hw2 : IntKind.u8.wrap ((ys.size : Int) % 256) = (ys.size : Int) % 256 := IntWalk.u8_in _ (by omega)
        have hb1 : ((byteOf (ys.size / 256)).toNat : Int) = (ys.size : Int) / 256 := by rw [byteOf_nat (by omega)]; omega
        have hb2 : ((byteOf (ys.size % 256)).toNat : Int) = (ys.size : Int) % 256 := by rw [byteOf_nat (by omega)]; omega
        have YL : Hid ([Value.int .u8 ((ys.size : Int) / 256), Value.int .u8 ((ys.size : Int) % 256)] = Lib.byteCells [byteOf (ys.size / 256), byteOf (ys.size % 256)]) := by show _ = [Value.int .u8 ((byteOf (ys.size / 256)).toNat : Int), Value.int .u8 ((byteOf (ys.size % 256)).toNat : Int)]; rw [hb1, hb2]
        clear hb1 hb2
        go_wp2_with (first | (at_builtin; refine bapp_blk w.heap.size _ _ 77 5 Tryz.underlying77 Tryz.infoByte _ _ _ hO hB.size _ _ Y4.out _ (by simp) (by simp only [List.length_append, List.length_cons, List.length_nil]; omega) rfl rfl _ (by simp) _ rfl (by simp) rfl ?_; intro A5 c5 w5 hO5 hg; replace hB := below_row hB hO hg; replace hX := hX.row hg (row_box hO hX (by decide)); have hsz5 := hg.size; clear hO; have hO := hO5; clear hO5 hg; have k0 := hX.cell 0 rfl; have k1 := hX.cell 1 rfl; have k2 := hX.cell 2 rfl) | (at_builtin; refine bapp_blk w.heap.size _ _ 77 5 Tryz.underlying77 Tryz.infoByte _ _ _ hO hB.size _ _ YL.out _ (by simp) (by simp only [List.length_append, List.length_cons, List.length_nil]; omega) rfl rfl _ (by simp) _ rfl (by simp) rfl ?_; intro A5 c5 w5 hO5 hg; replace hB := below_row hB hO hg; replace hX := hX.row hg (row_box hO hX (by decide)); have hsz5 := hg.size; clear hO; have hO := hO5; clear hO5 hg; have k0 := hX.cell 0 rfl; have k1 := hX.cell 1 rfl; have k2 := hX.cell 2 rfl) | (at_builtin; refine bapp_str w.heap.size _ _ 77 9 5 Tryz.underlying77 Tryz.underlying9 Tryz.infoByte _ _ _ hO hB.size ys (by simp only [List.length_append, List.length_cons, List.length_nil]; omega) rfl rfl _ rfl (by simp) rfl ?_; intro A5 c5 w5 hO5 hg; replace hB := below_row hB hO hg; replace hX := hX.row hg (row_box hO hX (by decide)); have hsz5 := hg.size; clear hO; have hO := hO5; clear hO5 hg; have k0 := hX.cell 0 rfl; have k1 := hX.cell 1 rfl; have k2 := hX.cell 2 rfl))
        go_roundw
        case rel =>
          rw [Henc.out] at Hnx
          simp only [List.append_assoc] at hO
          rw [← Hnx.out] at hO
          exact ⟨j + 1, by omega, by go_num, A5, c5, by simp [Hnx.out], hO, hB⟩
        case measure => simp [intOf]; omega
    · obtain rfl : j = xs.length := by omega
      rw [List.take_length] at HO ⊢
      have hL0 : xs.flatMap (encV 0 0 encP) ≠ [] := by
        intro h0
        obtain ⟨v, vs, rfl⟩ := List.exists_cons_of_ne_nil hne
        simp [encV] at h0
      generalize xs.flatMap (encV 0 0 encP) = L at *
      have hcv := convRow hL0 HO.out _ rfl
      go_wp2_with fail
      go_ret2
      exact ⟨by rw [hq.out]; rfl, HB.out⟩
end Go.Proofs.Pw
