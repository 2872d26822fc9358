/- The reference of layer 12: part, Right. -/
import Derived.Test.YtahiodegnilodaaGreatDoorRefA
import Derived.Deep.RegionHeld3
namespace Go.Proofs.Pw
open Go.RowKit

set_option maxHeartbeats 400000 in
theorem part_any (A1 A2 : Option Addr) (n1 n2 c1 c2 : Nat) (k x : Value) (cs : List PCol) (l : List ByteArray) (w : World) (hn1 : n1 = cs.length) (hn2 : n2 = l.length) (hc : Cols w A1 cs) (hl : Strs w A2 l) :
    Calls Tryz.prog 90 #[.agg #[.slice A1 n1 c1, k, x], .slice A2 n2 c2] w (Gives w (.bool (partF cs l))) := by
  subst hn1 hn2
  have HC := Lib.hid hc
  have HL := Lib.hid hl
  have hm := hl.1
  clear hc hl
  by_cases h1 : l.length < 1
  · go_enter Tryz.func90, Tryz.ntmps90
    go_wp2_with fail
    go_ret
    exact ⟨by rw [partF, if_pos h1]; rfl, below_new _ _⟩
  by_cases h2 : 8 < l.length
  · go_enter Tryz.func90, Tryz.ntmps90
    go_wp2_with fail
    go_ret
    exact ⟨by rw [partF, if_neg h1, if_pos h2]; rfl, below_new _ _⟩
  have Hp : Hid (partF cs l = if unlikeF [] l then allAt cs l else false) := by rw [partF, if_neg h1, if_neg h2]; rfl
  go_enter Tryz.func90, Tryz.ntmps90
  go_wp2_with fail
  refine (unlike_any A2 _ c2 l _ rfl (HL.out.below (flat_stable _) (below_new _ _))).mono ?_
  rintro e w1 ⟨rfl, hb1⟩
  obtain ⟨hc1, hf1⟩ := bcell hb1
  have hB := Lib.hid (below_next (below_new w _) hb1)
  have hz : w.heap.size < w1.heap.size := by have := hb1.size; simp at this; omega
  clear hb1
  by_cases hu : unlikeF [] l = true
  case neg =>
    have hu' : unlikeF [] l = false := by simpa using hu
    clear hu
    go_wp2_with fail
    go_ret
    exact ⟨by rw [Hp.out, hu']; rfl, hB.out⟩
  rw [hu] at Hp
  go_wp2_with fail
  go_loopw [5] (fun i wr => ∃ j : Nat, j ≤ l.length ∧ i = .int .i64 j ∧ Hid (allAt cs (l.drop j) = allAt cs l) ∧ Hid (Below w.heap.size w wr) ∧ w.heap.size < wr.heap.size ∧ wr.cell? ⟨w.heap.size, 0, none⟩ = some (.slice A1 cs.length c1) ∧ wr.cell? ⟨w.heap.size, 1, none⟩ = some k ∧ wr.cell? ⟨w.heap.size, 2, none⟩ = some x) (fun i _ => l.length - (intOf i).toNat)
  case atStart => exact ⟨0, by omega, rfl, rfl, hB.out, hz, by go_simp, by go_simp, by go_simp⟩
  case round =>
    obtain ⟨j, hj, rfl, hq, hB, hz, h0, h1, h2⟩ := hrel
    by_cases hlt : j < l.length
    · obtain ⟨b, off, rfl, hb, hbb, hs⟩ := strs_at (HL.out.below (flat_stable _) hB.out) hlt
      rw [drop_cons _ _ hlt] at hq
      generalize l[j] = y at *
      have hj0 : (0 : Int) ≤ j := by omega
      have hj1 : (j : Int) < (l.length : Int) := by omega
      go_wp2_with fail
      go_region_held3 (fun w' => w'.cell? ⟨w.heap.size, 0, none⟩ = some (.slice A1 cs.length c1) ∧ w'.cell? ⟨w.heap.size, 1, none⟩ = some k ∧ w'.cell? ⟨w.heap.size, 2, none⟩ = some x ∧ w'.cell? ⟨b, off + j, none⟩ = some (.string y))
        (first | go_keep)
        ((go_at_call 70; refine (At_any A1 _ c1 k x y cs _ rfl (HC.out.below (flat_stable _) (by exact hB.out.drew))).mono ?_; rintro e w2 ⟨rfl, hb2⟩; replace hb2 := unq hb2; obtain ⟨hc2, hf2⟩ := bcell hb2))
      have hB2 := Lib.hid (hB.out.trans (hb2.mono hB.out.size))
      have hz2 : w.heap.size < w2.heap.size := Nat.lt_of_lt_of_le hz hb2.size
      by_cases hv : atF y cs 0 < 0
      · rw [allAt, if_pos hv] at hq
        go_wp2_with fail
        go_ret
        exact ⟨by rw [Hp.out, if_pos trivial, ← hq.out]; rfl, hB2.out⟩
      · rw [allAt, if_neg hv] at hq
        go_wp2_with fail
        go_roundw
        case rel => exact ⟨j + 1, by omega, by go_num, hq, hB2.out, hz2, by go_simp, by go_simp, by go_simp⟩
        case measure => simp [intOf]; omega
    · rw [List.drop_eq_nil_of_le (by omega)] at hq
      go_wp2_with fail
      go_ret
      exact ⟨by rw [Hp.out, if_pos trivial, ← hq.out]; rfl, hB.out⟩
end Go.Proofs.Pw
