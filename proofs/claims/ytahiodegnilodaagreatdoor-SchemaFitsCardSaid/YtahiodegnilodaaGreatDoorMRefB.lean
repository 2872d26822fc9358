/- The reference of layer 12: Named, At, unlike, part. -/
import Derived.Test.YtahiodegnilodaaGreatDoorProg
import Derived.Test.YtahiodegnilodaaGreatDoorWd
import Derived.Deep.QuietTactic
import Derived.BigQuiet
import Derived.Deep.RegionHeld3
namespace Go.Proofs.Pw
open Go.RowKit

set_option maxHeartbeats 400000 in
theorem At_any (A : Option Addr) (n c : Nat) (k x : Value) (nm : ByteArray) (xs : List PCol) (w : World) (hn : n = xs.length) (hc : Cols w A xs) :
    Calls Tryz.prog 70 #[.agg #[.slice A n c, k, x], .string nm] w (Gives w (.int .i64 (atF nm xs 0))) := by
  subst hn
  have HS := Lib.hid hc
  have hm := hc.1
  clear hc
  go_enter Tryz.func70, Tryz.ntmps70
  go_wp2
  go_loop [5] (fun i => ∃ j : Nat, j ≤ xs.length ∧ i = .int .i64 j ∧ Hid (atF nm (xs.drop j) j = atF nm xs 0)) (fun i => xs.length - (intOf i).toNat)
  case atStart => exact ⟨0, by omega, rfl, rfl⟩
  case round =>
    obtain ⟨j, hj, rfl, hq⟩ := hrel
    by_cases hlt : j < xs.length
    · obtain ⟨b, off, rfl, hb, hbb, h1, -, -⟩ := cols_at HS.out hlt
      clear HS
      rw [drop_cons _ _ hlt] at hq
      generalize hx : xs[j] = x0 at *
      clear hx
      go_wp2
      · go_ret
        refine ⟨?_, below_new _ _⟩
        rw [← hq.out, atF_hit (by assumption)]; rfl
      · go_round
        case rel => exact ⟨j + 1, by omega, by go_num, by rw [← hq.out, atF_miss (by assumption)]; exact rfl⟩
        case measure => simp [intOf]; omega
    · rw [List.drop_eq_nil_of_le (by omega)] at hq
      go_wp2
      go_ret
      exact ⟨by rw [← hq.out]; rfl, below_new _ _⟩

set_option maxHeartbeats 400000 in
theorem unlike_any (A : Option Addr) (n c : Nat) (xs : List ByteArray) (w : World) (hn : n = xs.length) (hc : Strs w A xs) :
    Calls Tryz.prog 85 #[.slice A n c] w (Gives w (.bool (unlikeF [] xs))) := by
  subst hn
  have HS := Lib.hid hc
  have hm := hc.1
  clear hc
  go_enter Tryz.func85, Tryz.ntmps85
  go_wp2
  go_loopw [3, 4] (fun i _ wr => ∃ j : Nat, j ≤ xs.length ∧ i = .int .i64 j ∧ Hid (unlikeF (xs.take j) (xs.drop j) = unlikeF [] xs) ∧ ∃ q, wr = w.drewN q) (fun i _ _ => xs.length - (intOf i).toNat)
  case atStart => exact ⟨0, by omega, rfl, rfl, 0, rfl⟩
  case round =>
    obtain ⟨j, hj, rfl, hq, q0, rfl⟩ := hrel
    by_cases hlt : j < xs.length
    · obtain ⟨b, off, rfl, hb, hbb, hall⟩ := strs_all HS.out (ne_nil hlt)
      have h1 := hall j hlt
      have HA := Lib.hid hall
      clear hall HS
      rw [drop_cons _ _ hlt, unlikeF] at hq
      rw [← List.take_succ_eq_append_getElem hlt] at hq
      generalize hxj : xs[j] = xj at *
      clear hxj
      go_wp2
      go_loopw [4] (fun k wr => ∃ m : Nat, m ≤ j ∧ k = .int .i64 m ∧ Hid (hasB xj ((xs.take j).drop m) = hasB xj (xs.take j)) ∧ ∃ q, wr = w.drewN q) (fun k _ => j - (intOf k).toNat)
      case atStart => exact ⟨0, by omega, rfl, rfl, q0, rfl⟩
      case round =>
        obtain ⟨m, hm, rfl, hh, q1, rfl⟩ := hrel
        by_cases hml : m < j
        · have h2 := HA.out m (by omega)
          have hdr : ((xs.take j).drop m) = xs[m] :: (xs.take j).drop (m + 1) := by
            rw [drop_cons _ _ (by simp; omega)]; simp
          rw [hdr] at hh
          generalize xs[m] = xm at *
          clear hdr
          go_wp2
          go_quiet (fail)
          go_wp2
          · go_ret
            refine ⟨?_, below_q _ _⟩
            rw [← hq.out, ← hh.out, hasB_hit (by assumption)]; rfl
          · go_roundw
            case rel => exact ⟨m + 1, by omega, by go_num, by rw [← hh.out, hasB_miss (by assumption)]; exact rfl, q1 + nq, rfl⟩
            case measure => simp [intOf]; omega
        · rw [List.drop_eq_nil_of_le (by simp; omega)] at hh
          rw [← hh.out] at hq
          go_wp2
          go_roundw
          case rel => exact ⟨j + 1, by omega, by go_num, hq, q1, rfl⟩
          case measure => simp [intOf]; omega
    · rw [List.drop_eq_nil_of_le (by omega)] at hq
      go_wp2
      go_ret
      exact ⟨by rw [← hq.out]; rfl, pw_drewN _ _⟩

set_option maxHeartbeats 400000 in
theorem Named_any (s : ByteArray) (w : World) (hs : s.size ≤ 140737488351232) :
    Calls Tryz.prog 13 #[.string s] w (Gives w (.bool (namedF s))) := by
  by_cases h1 : s.size < 1
  · go_enter Tryz.func13, Tryz.ntmps13
    go_wp2
    go_ret
    exact ⟨by rw [namedF_nil s h1]; rfl, Below.refl _ _⟩
  have Hnf := Lib.hid (namedF_eq s (by omega))
  by_cases h2 : 40 < s.size
  · go_enter Tryz.func13, Tryz.ntmps13
    go_wp2
    go_ret
    exact ⟨by rw [Hnf.out, if_pos h2]; rfl, Below.refl _ _⟩
  rw [if_neg h2] at Hnf
  rcases Nat.lt_or_ge s[0].toNat 48 with h3 | h3
  case' inl => have Hn : Hid (namedF s = allOk s.data.toList) := by rw [Hnf.out, if_neg (by omega)]; rfl
  case' inr => rcases Nat.lt_or_ge 57 s[0].toNat with h4 | h4
  case' inr.inl => have Hn : Hid (namedF s = allOk s.data.toList) := by rw [Hnf.out, if_neg (by omega)]; rfl
  case inr.inr =>
    go_enter Tryz.func13, Tryz.ntmps13
    go_wp2
    go_ret
    exact ⟨by rw [Hnf.out, if_pos (by omega)]; rfl, Below.refl _ _⟩
  all_goals
    clear Hnf
    go_enter Tryz.func13, Tryz.ntmps13
    go_wp2
    go_loop [3, 4] (fun i _ => ∃ j : Nat, j ≤ s.size ∧ i = .int .i64 j ∧ Hid (allOk (s.data.toList.drop j) = namedF s)) (fun i _ => s.size - (intOf i).toNat)
    case atStart => exact ⟨0, by omega, rfl, Hn.out.symm⟩
    case round =>
      obtain ⟨j, hj, rfl, hq⟩ := hrel
      by_cases hlt : j < s.size
      · rw [bytes_drop _ _ hlt] at hq
        generalize hc : s[j] = c0 at *
        go_wp2
        all_goals first
          | (go_ret; exact ⟨by rw [← hq.out, allOk, if_neg (by unfold okB; simp at *; omega)]; rfl, Below.refl _ _⟩)
          | exact ⟨⟨j + 1, by omega, by go_num, by rw [← hq.out, allOk, if_pos (by unfold okB; simp at *; omega)]; exact rfl⟩, by simp [intOf]; omega⟩
      · rw [List.drop_eq_nil_of_le (by simp; omega)] at hq
        go_wp2
        go_ret
        exact ⟨by rw [← hq.out]; rfl, Below.refl _ _⟩

end Go.Proofs.Pw
/- The reference of layer 12: part, Right. -/
namespace Go.Proofs.Pw
open Go.RowKit

set_option maxHeartbeats 400000 in
theorem part_any (A1 A2 : Option Addr) (n1 n2 c1 c2 : Nat) (k x : Value) (cs : List PCol) (l : List ByteArray) (w : World) (hn1 : n1 = cs.length) (hn2 : n2 = l.length) (hc : Cols w A1 cs) (hl : Strs w A2 l) :
    Calls Tryz.prog 90 #[.agg #[.slice A1 n1 c1, k, x], .slice A2 n2 c2] w (Gives w (.bool (partF cs l))) := by
  subst hn1 hn2
  have HC := Lib.hid hc
  have HL := Lib.hid hl
  have hm := hl.1
  clear hc hl
  by_cases h1 : l.length < 1
  · go_enter Tryz.func90, Tryz.ntmps90
    go_wp2_with fail
    go_ret
    exact ⟨by rw [partF, if_pos h1]; rfl, below_new _ _⟩
  by_cases h2 : 8 < l.length
  · go_enter Tryz.func90, Tryz.ntmps90
    go_wp2_with fail
    go_ret
    exact ⟨by rw [partF, if_neg h1, if_pos h2]; rfl, below_new _ _⟩
  have Hp : Hid (partF cs l = if unlikeF [] l then allAt cs l else false) := by rw [partF, if_neg h1, if_neg h2]; rfl
  go_enter Tryz.func90, Tryz.ntmps90
  go_wp2_with fail
  refine (unlike_any A2 _ c2 l _ rfl (HL.out.below (flat_stable _) (below_new _ _))).mono ?_
  rintro e w1 ⟨rfl, hb1⟩
  obtain ⟨hc1, hf1⟩ := bcell hb1
  have hB := Lib.hid (below_next (below_new w _) hb1)
  have hz : w.heap.size < w1.heap.size := by have := hb1.size; simp at this; omega
  clear hb1
  by_cases hu : unlikeF [] l = true
  case neg =>
    have hu' : unlikeF [] l = false := by simpa using hu
    clear hu
    go_wp2_with fail
    go_ret
    exact ⟨by rw [Hp.out, hu']; rfl, hB.out⟩
  rw [hu] at Hp
  go_wp2_with fail
  go_loopw [5] (fun i wr => ∃ j : Nat, j ≤ l.length ∧ i = .int .i64 j ∧ Hid (allAt cs (l.drop j) = allAt cs l) ∧ Hid (Below w.heap.size w wr) ∧ w.heap.size < wr.heap.size ∧ wr.cell? ⟨w.heap.size, 0, none⟩ = some (.slice A1 cs.length c1) ∧ wr.cell? ⟨w.heap.size, 1, none⟩ = some k ∧ wr.cell? ⟨w.heap.size, 2, none⟩ = some x) (fun i _ => l.length - (intOf i).toNat)
  case atStart => exact ⟨0, by omega, rfl, rfl, hB.out, hz, by go_simp, by go_simp, by go_simp⟩
  case round =>
    obtain ⟨j, hj, rfl, hq, hB, hz, h0, h1, h2⟩ := hrel
    by_cases hlt : j < l.length
    · obtain ⟨b, off, rfl, hb, hbb, hs⟩ := strs_at (HL.out.below (flat_stable _) hB.out) hlt
      rw [drop_cons _ _ hlt] at hq
      generalize l[j] = y at *
      have hj0 : (0 : Int) ≤ j := by omega
      have hj1 : (j : Int) < (l.length : Int) := by omega
      go_wp2_with fail
      go_region_held3 (fun w' => w'.cell? ⟨w.heap.size, 0, none⟩ = some (.slice A1 cs.length c1) ∧ w'.cell? ⟨w.heap.size, 1, none⟩ = some k ∧ w'.cell? ⟨w.heap.size, 2, none⟩ = some x ∧ w'.cell? ⟨b, off + j, none⟩ = some (.string y))
        (first | go_keep)
        ((go_at_call 70; refine (At_any A1 _ c1 k x y cs _ rfl (HC.out.below (flat_stable _) (by exact hB.out.drew))).mono ?_; rintro e w2 ⟨rfl, hb2⟩; replace hb2 := unq hb2; obtain ⟨hc2, hf2⟩ := bcell hb2))
      have hB2 := Lib.hid (hB.out.trans (hb2.mono hB.out.size))
      have hz2 : w.heap.size < w2.heap.size := Nat.lt_of_lt_of_le hz hb2.size
      by_cases hv : atF y cs 0 < 0
      · rw [allAt, if_pos hv] at hq
        go_wp2_with fail
        go_ret
        exact ⟨by rw [Hp.out, if_pos trivial, ← hq.out]; rfl, hB2.out⟩
      · rw [allAt, if_neg hv] at hq
        go_wp2_with fail
        go_roundw
        case rel => exact ⟨j + 1, by omega, by go_num, hq, hB2.out, hz2, by go_simp, by go_simp, by go_simp⟩
        case measure => simp [intOf]; omega
    · rw [List.drop_eq_nil_of_le (by omega)] at hq
      go_wp2_with fail
      go_ret
      exact ⟨by rw [Hp.out, if_pos trivial, ← hq.out]; rfl, hB.out⟩
end Go.Proofs.Pw
