/- The reference's Values. -/
import Derived.Test.YtahiodegnilodaaGreatDoorFitD
import Derived.Test.YtahiodegnilodaaGreatDoorHeldL
import Derived.Test.YtahiodegnilodaaGreatDoorMSchY
import Derived.Laws.IdiomStrings
import Derived.IntWalk
namespace Go.Proofs.Pw
open Go.RowKit

set_option maxRecDepth 100000 in
set_option maxHeartbeats 1000000 in
theorem RValues_any (A1 A A3 : Option Addr) (c1 c c3 : Nat) (k x : Value) (cs : List PCol) (row : List PVal) (names : List ByteArray) (w : World) (hc : Cols w A1 cs) (hr : Vals w A row) (hs : Strs w A3 names)
    (hat : ∀ n ∈ names, 0 ≤ atF n cs 0 ∧ atF n cs 0 < row.length) (hl : names.length ≤ 1000) :
    Calls Tryz.prog 60 #[.agg #[.slice A1 cs.length c1, k, x], .slice A row.length c, .slice A3 names.length c3] w fun e w' => ∃ A4 c4, e = .returned (.slice A4 (valuesF cs row names).length c4) ∧ w'.ownsRow w.heap.size 65 3 (.slice A4 (valuesF cs row names).length c4) (valuesF cs row names).length ((valuesF cs row names).flatMap encVal) ∧ Below w.heap.size w w' := by
  have HC := Lib.hid hc
  have HR := Lib.hid hr
  have HS := Lib.hid hs
  have Hat := Lib.hid hat
  have hm := hs.1
  have hX0 := Box.new w [.slice A1 cs.length c1, k, x] 27
  have HX0 := Lib.hid hX0
  have hz0 := hX0.lt
  have HB0 := Lib.hid (below_new w (.cells #[.slice A1 cs.length c1, k, x] 27))
  clear hc hr hs hat hX0
  go_enter Tryz.func60, Tryz.ntmps60
  go_wp2_with fail
  go_loopw [7, 8] (fun v i wr => ∃ j : Nat, j ≤ names.length ∧ i = .int .i64 j ∧ ∃ A4 c4, v = .slice A4 j c4 ∧ Hid (wr.ownsRow w.heap.size 65 3 (.slice A4 j c4) j ((valuesF cs row (names.take j)).flatMap encVal)) ∧ Hid (Below w.heap.size w wr) ∧ Hid (Box wr w.heap.size 27 [.slice A1 cs.length c1, k, x])) (fun _ i _ => names.length - (intOf i).toNat)
  case atStart => exact ⟨0, by omega, rfl, none, 0, rfl, row_nil _ _ _ _, HB0, HX0⟩
  case round =>
    clear HX0 HB0
    obtain ⟨j, hj, rfl, A4, c4, rfl, HO, HB, HX⟩ := hrel
    by_cases hlt : j < names.length
    · obtain ⟨b, off, rfl, hb, hbb, g0⟩ := strs_at HS.out hlt
      obtain ⟨ha0, ha1⟩ := Hat.out _ (List.getElem_mem hlt)
      have Hsn : Hid (valuesF cs row (names.take (j + 1)) = valuesF cs row (names.take j) ++ [row.getD (atF names[j] cs 0).toNat zeroV]) := by
        show _ = _
        rw [valuesF, valuesF, List.take_succ_eq_append_getElem hlt, List.map_append]; rfl
      generalize names[j] = nm at *
      obtain ⟨hcr, -⟩ := bcell HB.out
      have x0 := HX.out.cell 0 rfl
      have x1 := HX.out.cell 1 rfl
      have x2 := HX.out.cell 2 rfl
      have hzx := HX.out.lt
      obtain ⟨q, hq⟩ := Int.eq_ofNat_of_zero_le ha0
      have hql : q < row.length := by omega
      rw [hq] at Hsn
      have hgd : row.getD ((q : Nat) : Int).toNat zeroV = row[q] := by simp [List.getD, hql]
      rw [hgd] at Hsn
      have HP := Lib.hid (fun w h => At_any A1 cs.length c1 k x nm cs w rfl h)
      rw [hq] at HP
      obtain ⟨b2, off2, rfl, hb2, hbb2, r0, r1, r2⟩ := vals_at HR.out hql
      generalize row[q] = y at *
      clear hq ha0 ha1 hgd
      have hq0 : (0 : Int) ≤ q := by omega
      have hq1 : (q : Int) < (row.length : Int) := by omega
      have hj0 : (0 : Int) ≤ j := by omega
      have hj1 : (j : Int) < (names.length : Int) := by omega
      go_wp2_with fail
      refine wp_region_held_drew (S := (fun w' => w'.cell? ⟨w.heap.size, 0, none⟩ = some (.slice A1 cs.length c1) ∧ w'.cell? ⟨w.heap.size, 1, none⟩ = some k ∧ w'.cell? ⟨w.heap.size, 2, none⟩ = some x ∧ w'.cell? ⟨b, off + j, none⟩ = some (.string nm) ∧ w'.cell? ⟨b2, off2 + q * 3, none⟩ = some (.int .i64 y.kind) ∧ w'.cell? ⟨b2, off2 + q * 3 + 1, none⟩ = some (.int .i64 y.n) ∧ w'.cell? ⟨b2, off2 + q * 3 + 2, none⟩ = some (.string y.s))) (by kernel_rfl) ?_ (fun hHeld => ?_)
      · (try dsimp only); go_keep
      refine takeL 0 (v := ?_) (by simp) (by kernel_rfl) (by kernel_rfl) (by kernel_rfl) (fun _ _ _ h => h) (by rfl) (by assumption) ?_ ?_
      rotate_left
      · intro w hSw; (try dsimp only at hSw); (try simp only [List.getElem_cons_succ, List.getElem_cons_zero]); first | (go_simp; done) | (go_simp; with_reducible rfl)
      (try simp only [List.getElem_cons_succ, List.getElem_cons_zero])
      (try simp only [Act.put, List.setIfInBounds_toArray, List.set_cons_zero, List.set_cons_succ])
      refine takeL 1 (v := ?_) (by simp) (by kernel_rfl) (by kernel_rfl) (by kernel_rfl) (fun _ _ _ h => h) (by rfl) (by assumption) ?_ ?_
      rotate_left
      · intro w hSw; (try dsimp only at hSw); (try simp only [List.getElem_cons_succ, List.getElem_cons_zero]); first | (go_simp; done) | (go_simp; with_reducible rfl)
      (try simp only [List.getElem_cons_succ, List.getElem_cons_zero])
      (try simp only [Act.put, List.setIfInBounds_toArray, List.set_cons_zero, List.set_cons_succ])
      refine takeL 2 (v := ?_) (by simp) (by kernel_rfl) (by kernel_rfl) (by kernel_rfl) (fun _ _ _ h => h) (by rfl) (by assumption) ?_ ?_
      rotate_left
      · intro w hSw; (try dsimp only at hSw); (try simp only [List.getElem_cons_succ, List.getElem_cons_zero]); first | (go_simp; done) | (go_simp; with_reducible rfl)
      (try simp only [List.getElem_cons_succ, List.getElem_cons_zero])
      (try simp only [Act.put, List.setIfInBounds_toArray, List.set_cons_zero, List.set_cons_succ])
      refine takeL 3 (v := ?_) (by simp) (by kernel_rfl) (by kernel_rfl) (by kernel_rfl) (fun _ _ _ h => h) (by rfl) (by assumption) ?_ ?_
      rotate_left
      · intro w hSw; (try dsimp only at hSw); (try simp only [List.getElem_cons_succ, List.getElem_cons_zero]); first | (go_simp; done) | (go_simp; with_reducible rfl)
      (try simp only [List.getElem_cons_succ, List.getElem_cons_zero])
      (try simp only [Act.put, List.setIfInBounds_toArray, List.set_cons_zero, List.set_cons_succ])
      refine takeL 4 (v := ?_) (by simp) (by kernel_rfl) (by kernel_rfl) (by kernel_rfl) (fun _ _ _ h => h) (by rfl) (by assumption) ?_ ?_
      rotate_left
      · intro w hSw; (try dsimp only at hSw); (try simp only [List.getElem_cons_succ, List.getElem_cons_zero]); first | (go_simp; done) | (go_simp; with_reducible rfl)
      (try simp only [List.getElem_cons_succ, List.getElem_cons_zero])
      (try simp only [Act.put, List.setIfInBounds_toArray, List.set_cons_zero, List.set_cons_succ])
      refine takeL 5 (v := ?_) (by simp) (by kernel_rfl) (by kernel_rfl) (by kernel_rfl) (fun _ _ _ h => h) (by rfl) (by assumption) ?_ ?_
      rotate_left
      · intro w hSw; (try dsimp only at hSw); (try simp only [List.getElem_cons_succ, List.getElem_cons_zero]); first | (go_simp; done) | (go_simp; with_reducible rfl)
      (try simp only [List.getElem_cons_succ, List.getElem_cons_zero])
      (try simp only [Act.put, List.setIfInBounds_toArray, List.set_cons_zero, List.set_cons_succ])
      refine takeL 6 (v := ?_) (by simp) (by kernel_rfl) (by kernel_rfl) (by kernel_rfl) (fun _ _ _ h => h) (by rfl) (by assumption) ?_ ?_
      rotate_left
      · intro w hSw; (try dsimp only at hSw); (try simp only [List.getElem_cons_succ, List.getElem_cons_zero]); first | (go_simp; done) | (go_simp; with_reducible rfl)
      (try simp only [List.getElem_cons_succ, List.getElem_cons_zero])
      (try simp only [Act.put, List.setIfInBounds_toArray, List.set_cons_zero, List.set_cons_succ])
      refine stepL 7 (by simp) (by kernel_rfl) (by rfl) (fun K hK => ?_)
      (try simp only [List.getElem_cons_succ, List.getElem_cons_zero])
      (go_simp; go_at_call 70; refine (HP.out _ (HC.out.below (flat_stable _) (by exact HB.out.drew))).mono ?_; rintro e w1 ⟨rfl, hb1⟩; replace hb1 := unq hb1; have HB1 := Lib.hid (below_next HB.out hb1); obtain ⟨hc1, -⟩ := bcell HB1.out; have HX1 := Lib.hid (HX.out.below hb1); have HO1 := Lib.hid (row_below HO.out hb1); clear hb1 hcr; have hz1 := HB1.out.size; have y0 := HX1.out.cell 0 rfl; have y1 := HX1.out.cell 1 rfl; have y2 := HX1.out.cell 2 rfl; clear x0 x1 x2; have hzx1 := HX1.out.lt)
      go_wp2_with fail
      refine hK.out _ _ ?_ (fun hHeld => ?_)
      · (try dsimp only); go_keep
      clear hK K
      (try simp only [Act.put, List.setIfInBounds_toArray, List.set_cons_zero, List.set_cons_succ])
      refine takeL 8 (v := ?_) (by simp) (by kernel_rfl) (by kernel_rfl) (by kernel_rfl) (fun _ _ _ h => h) (by rfl) (by assumption) ?_ ?_
      rotate_left
      · intro w hSw; (try dsimp only at hSw); (try simp only [List.getElem_cons_succ, List.getElem_cons_zero]); first | (go_simp; done) | (go_simp; with_reducible rfl)
      (try simp only [List.getElem_cons_succ, List.getElem_cons_zero])
      (try simp only [Act.put, List.setIfInBounds_toArray, List.set_cons_zero, List.set_cons_succ])
      refine takeL 9 (v := ?_) (by simp) (by kernel_rfl) (by kernel_rfl) (by kernel_rfl) (fun _ _ _ h => h) (by rfl) (by assumption) ?_ ?_
      rotate_left
      · intro w hSw; (try dsimp only at hSw); (try simp only [List.getElem_cons_succ, List.getElem_cons_zero]); first | (go_simp; done) | (go_simp; with_reducible rfl)
      (try simp only [List.getElem_cons_succ, List.getElem_cons_zero])
      (try simp only [Act.put, List.setIfInBounds_toArray, List.set_cons_zero, List.set_cons_succ])
      refine stepL 10 (by simp) (by kernel_rfl) (by rfl) (fun K hK => ?_)
      (try simp only [List.getElem_cons_succ, List.getElem_cons_zero])
      go_simp
      refine hK.out _ _ ?_ (fun hHeld => ?_)
      · (try dsimp only); go_keep
      clear hK K
      (try simp only [Act.put, List.setIfInBounds_toArray, List.set_cons_zero, List.set_cons_succ])
      refine stepL 11 (by simp) (by kernel_rfl) (by rfl) (fun K hK => ?_)
      (try simp only [List.getElem_cons_succ, List.getElem_cons_zero])
      (refine append_wp w.heap.size _ _ 34 65 _ 3 32 Tryz.underlying34 Tryz.infoVal rfl (by decide) (by decide) (.slice A4 j c4) j ((valuesF cs row (names.take j)).flatMap encVal) [.int .i64 y.kind, .int .i64 y.n, .string y.s] HO1.out hz1 (by omega) rfl (by simp [Value.oneCell']) rfl rfl _ rfl rfl rfl ?_; intro g5 c5 w5 hO5 hg; have HB5 := Lib.hid (below_row HB1.out HO1.out hg); obtain ⟨hc5, -⟩ := bcell HB5.out; have HX5 := Lib.hid (HX1.out.row hg (row_box HO1.out HX1.out (by decide))); have HO5 := Lib.hid hO5; clear hO5 hg hc1 y0 y1 y2; have y0 := HX5.out.cell 0 rfl; have y1 := HX5.out.cell 1 rfl; have y2 := HX5.out.cell 2 rfl)
      refine hK.out _ _ ?_ (fun hHeld => ?_)
      · (try dsimp only); go_keep
      clear hK K
      (try simp only [Act.put, List.setIfInBounds_toArray, List.set_cons_zero, List.set_cons_succ])
      refine takeL 12 (v := ?_) (by simp) (by kernel_rfl) (by kernel_rfl) (by kernel_rfl) (fun _ _ _ h => h) (by rfl) (by assumption) ?_ ?_
      rotate_left
      · intro w hSw; (try dsimp only at hSw); (try simp only [List.getElem_cons_succ, List.getElem_cons_zero]); first | (go_simp; done) | (go_simp; with_reducible rfl)
      (try simp only [List.getElem_cons_succ, List.getElem_cons_zero])
      (try simp only [Act.put, List.setIfInBounds_toArray, List.set_cons_zero, List.set_cons_succ])
      refine wpAnyH_done (by kernel_rfl) ?_ _
      go_wp2_with fail
      go_roundw
      case rel => exact ⟨j + 1, by omega, by go_num, some ⟨g5, 0, none⟩, c5, rfl, by (show World.ownsRow _ _ _ _ _ _ _; rw [Hsn.out, List.flatMap_append]; simpa [encVal] using HO5.out), HB5, HX5⟩
      case measure => simp [intOf]; omega
    · obtain rfl : j = names.length := by omega
      rw [List.take_length] at HO
      have hv : (valuesF cs row names).length = names.length := by simp [valuesF]
      have HO' : Hid (wr.ownsRow w.heap.size 65 3 (.slice A4 (valuesF cs row names).length c4) (valuesF cs row names).length ((valuesF cs row names).flatMap encVal)) := by rw [hv]; exact HO
      go_wp2_with fail
      go_ret
      exact ⟨A4, c4, by rw [hv]; rfl, HO'.out, HB.out⟩
end Go.Proofs.Pw
/- Eight bytes of a number: the program's whole and the reference's eight. -/
namespace Go.Proofs.Pw
open Go.RowKit

def by8 (n i : Nat) : Nat := n / 2 ^ (56 - 8 * i) % 256
def bytes8 (n : Nat) : List UInt8 := (List.range 8).map fun i => byteOf (by8 n i)

theorem bytes8_len (n : Nat) : (bytes8 n).length = 8 := by simp [bytes8]
theorem bytes8_at (n i : Nat) (h : i < 8) : (bytes8 n)[i]'(by rw [bytes8_len]; exact h) = byteOf (by8 n i) := by simp [bytes8]
theorem by8_le (n i : Nat) : by8 n i ≤ 255 := by unfold by8; omega
theorem conv8 (n : Nat) (hn : n < 18446744073709551616) (w : World) (g : Nat) (h0 : w.cell? ⟨g, 0, none⟩ = some (.int .u8 ((n : Int) / 72057594037927936))) (h1 : w.cell? ⟨g, 1, none⟩ = some (.int .u8 ((n : Int) / 281474976710656 % 256))) (h2 : w.cell? ⟨g, 2, none⟩ = some (.int .u8 ((n : Int) / 1099511627776 % 256))) (h3 : w.cell? ⟨g, 3, none⟩ = some (.int .u8 ((n : Int) / 4294967296 % 256))) (h4 : w.cell? ⟨g, 4, none⟩ = some (.int .u8 ((n : Int) / 16777216 % 256))) (h5 : w.cell? ⟨g, 5, none⟩ = some (.int .u8 ((n : Int) / 65536 % 256))) (h6 : w.cell? ⟨g, 6, none⟩ = some (.int .u8 ((n : Int) / 256 % 256))) (h7 : w.cell? ⟨g, 7, none⟩ = some (.int .u8 ((n : Int) % 256))) :
    (convert 77 9 (.slice (some ⟨g, 0, none⟩) 8 8)).run Tryz.prog w = .ok (.string ⟨(bytes8 n).toArray⟩) w := by
  have := run_convert_bytes_back (P := Tryz.prog) w 77 9 5 ⟨g, 0, none⟩ 8 (bytes8 n) Tryz.underlying77 Tryz.underlying5 Tryz.underlying9 (fun j hj => by
    rw [bytes8_len] at hj
    rw [bytes8_at n j hj, byteOf_nat (by8_le n j)]
    have : j = 0 ∨ j = 1 ∨ j = 2 ∨ j = 3 ∨ j = 4 ∨ j = 5 ∨ j = 6 ∨ j = 7 := by omega
    rcases this with rfl | rfl | rfl | rfl | rfl | rfl | rfl | rfl
    · have e : ((by8 n 0 : Nat) : Int) = (n : Int) / 72057594037927936 := by simp [by8]; omega
      rw [e]; simpa [Addr.add] using h0
    · have e : ((by8 n 1 : Nat) : Int) = (n : Int) / 281474976710656 % 256 := by simp [by8]
      rw [e]; simpa [Addr.add] using h1
    · have e : ((by8 n 2 : Nat) : Int) = (n : Int) / 1099511627776 % 256 := by simp [by8]
      rw [e]; simpa [Addr.add] using h2
    · have e : ((by8 n 3 : Nat) : Int) = (n : Int) / 4294967296 % 256 := by simp [by8]
      rw [e]; simpa [Addr.add] using h3
    · have e : ((by8 n 4 : Nat) : Int) = (n : Int) / 16777216 % 256 := by simp [by8]
      rw [e]; simpa [Addr.add] using h4
    · have e : ((by8 n 5 : Nat) : Int) = (n : Int) / 65536 % 256 := by simp [by8]
      rw [e]; simpa [Addr.add] using h5
    · have e : ((by8 n 6 : Nat) : Int) = (n : Int) / 256 % 256 := by simp [by8]
      rw [e]; simpa [Addr.add] using h6
    · have e : ((by8 n 7 : Nat) : Int) = (n : Int) % 256 := by simp [by8]
      rw [e]; simpa [Addr.add] using h7
    )
  rw [bytes8_len] at this
  exact this

set_option maxRecDepth 100000 in
set_option maxHeartbeats 1000000 in
theorem whole_any (n : Nat) (w : World) (hn : n < 18446744073709551616) : Calls Tryz.prog 129 #[.int .u64 n] w (Gives w (.string ⟨(bytes8 n).toArray⟩)) := by
  have hc := conv8 n hn
  go_enter Tryz.func129, Tryz.ntmps129
  go_wp2_with fail
  refine wp_loop_rounds 9 ?_
  iterate 9
    rw [rounds_succ]
    go_wp2_with fail
  go_ret
  exact ⟨rfl, below_new _ _⟩
set_option maxRecDepth 100000 in
set_option maxHeartbeats 1000000 in
theorem eight_any (n : Nat) (w : World) (hn : n < 18446744073709551616) : Calls Tryz.prog 105 #[.int .u64 n] w fun e w' => ∃ A c, e = .returned (.slice A 8 c) ∧ w'.ownsRow w.heap.size 5 1 (.slice A 8 c) 8 (Lib.byteCells (bytes8 n)) ∧ Below w.heap.size w w' := by
  go_enter Tryz.func105, Tryz.ntmps105
  go_wp2_with fail
  go_loopw [3, 4] (fun v i wr => ∃ j : Nat, j ≤ 8 ∧ i = .int .i64 (7 - j) ∧ ∃ A c, v = .slice A j c ∧ Hid (wr.ownsRow w.heap.size 5 1 (.slice A j c) j (Lib.byteCells ((bytes8 n).take j))) ∧ Hid (Below w.heap.size w wr)) (fun _ i _ => (intOf i + 1).toNat)
  case atStart => exact ⟨0, by omega, rfl, none, 0, rfl, row_nil _ _ _ _, Below.refl _ _⟩
  case round =>
    obtain ⟨j, hj, rfl, A, c, rfl, hR, hB⟩ := hrel
    by_cases hlt : j < 8
    · have h0 : (0 : Int) ≤ 7 - j := by omega
      have hz := hB.out.size
      have hnext : Lib.byteCells ((bytes8 n).take (j + 1)) = Lib.byteCells ((bytes8 n).take j) ++ [.int .u8 ((n : Int) / 2 ^ (8 * (7 - j)) % 256)] := by
        rw [List.take_succ_eq_append_getElem (by rw [bytes8_len]; exact hlt), bytes8_at n j hlt]
        have e : 56 - 8 * j = 8 * (7 - j) := by omega
        have : ((byteOf (by8 n j)).toNat : Int) = (n : Int) / 2 ^ (8 * (7 - j)) % 256 := by
          rw [byteOf_nat (by8_le n j)]; simp [by8, e]
        simp [Lib.byteCells, this]
      have Hn := Lib.hid hnext
      clear hnext
      go_wp2_with (at_builtin; refine append_one w.heap.size _ _ 77 5 _ 1 1 Tryz.underlying77 Tryz.infoByte rfl (by decide) (by decide) (.slice A j c) j (Lib.byteCells ((bytes8 n).take j)) [_] hR.out hz (by omega) rfl (by simp [Value.oneCell']) rfl rfl wr.heap.size rfl rfl rfl ?_; intro v1 w5 hO hg; have hB5 := Lib.hid (below_row hB.out hR.out hg); obtain ⟨A1, c1, rfl⟩ := row_form hO; have HO := Lib.hid hO; clear hO hg)
      go_roundw
      case rel => exact ⟨j + 1, by omega, by (rw [show (7 : Int) - j - 1 = 7 - ((j + 1 : Nat) : Int) from by omega]), A1, c1, rfl, by (rw [Hn.out]; exact HO), hB5⟩
      case measure => simp [intOf]; omega
    · obtain rfl : j = 8 := by omega
      have h8 : (bytes8 n).take 8 = bytes8 n := List.take_of_length_le (by rw [bytes8_len]; decide)
      rw [h8] at hR
      go_wp2_with fail
      go_ret
      exact ⟨A, c, rfl, hR.out, hB.out⟩
end Go.Proofs.Pw
