/- The reference of layer 12: Named, At, unlike, part. -/
import Derived.Test.YtahiodegnilodaaGreatDoorProg
import Derived.Test.YtahiodegnilodaaGreatDoorWd
import Derived.Deep.QuietTactic
import Derived.BigQuiet
namespace Go.Proofs.Pw
open Go.RowKit

set_option maxHeartbeats 400000 in
theorem At_any (A : Option Addr) (n c : Nat) (k x : Value) (nm : ByteArray) (xs : List PCol) (w : World) (hn : n = xs.length) (hc : Cols w A xs) :
    Calls Tryz.prog 70 #[.agg #[.slice A n c, k, x], .string nm] w (Gives w (.int .i64 (atF nm xs 0))) := by
  subst hn
  have HS := Lib.hid hc
  have hm := hc.1
  clear hc
  go_enter Tryz.func70, Tryz.ntmps70
  go_wp2
  go_loop [5] (fun i => ∃ j : Nat, j ≤ xs.length ∧ i = .int .i64 j ∧ Hid (atF nm (xs.drop j) j = atF nm xs 0)) (fun i => xs.length - (intOf i).toNat)
  case atStart => exact ⟨0, by omega, rfl, rfl⟩
  case round =>
    obtain ⟨j, hj, rfl, hq⟩ := hrel
    by_cases hlt : j < xs.length
    · obtain ⟨b, off, rfl, hb, hbb, h1, -, -⟩ := cols_at HS.out hlt
      clear HS
      rw [drop_cons _ _ hlt] at hq
      generalize hx : xs[j] = x0 at *
      clear hx
      go_wp2
      · go_ret
        refine ⟨?_, below_new _ _⟩
        rw [← hq.out, atF_hit (by assumption)]; rfl
      · go_round
        case rel => exact ⟨j + 1, by omega, by go_num, by rw [← hq.out, atF_miss (by assumption)]; exact rfl⟩
        case measure => simp [intOf]; omega
    · rw [List.drop_eq_nil_of_le (by omega)] at hq
      go_wp2
      go_ret
      exact ⟨by rw [← hq.out]; rfl, below_new _ _⟩

set_option maxHeartbeats 400000 in
theorem unlike_any (A : Option Addr) (n c : Nat) (xs : List ByteArray) (w : World) (hn : n = xs.length) (hc : Strs w A xs) :
    Calls Tryz.prog 85 #[.slice A n c] w (Gives w (.bool (unlikeF [] xs))) := by
  subst hn
  have HS := Lib.hid hc
  have hm := hc.1
  clear hc
  go_enter Tryz.func85, Tryz.ntmps85
  go_wp2
  go_loopw [3, 4] (fun i _ wr => ∃ j : Nat, j ≤ xs.length ∧ i = .int .i64 j ∧ Hid (unlikeF (xs.take j) (xs.drop j) = unlikeF [] xs) ∧ ∃ q, wr = w.drewN q) (fun i _ _ => xs.length - (intOf i).toNat)
  case atStart => exact ⟨0, by omega, rfl, rfl, 0, rfl⟩
  case round =>
    obtain ⟨j, hj, rfl, hq, q0, rfl⟩ := hrel
    by_cases hlt : j < xs.length
    · obtain ⟨b, off, rfl, hb, hbb, hall⟩ := strs_all HS.out (ne_nil hlt)
      have h1 := hall j hlt
      have HA := Lib.hid hall
      clear hall HS
      rw [drop_cons _ _ hlt, unlikeF] at hq
      rw [← List.take_succ_eq_append_getElem hlt] at hq
      generalize hxj : xs[j] = xj at *
      clear hxj
      go_wp2
      go_loopw [4] (fun k wr => ∃ m : Nat, m ≤ j ∧ k = .int .i64 m ∧ Hid (hasB xj ((xs.take j).drop m) = hasB xj (xs.take j)) ∧ ∃ q, wr = w.drewN q) (fun k _ => j - (intOf k).toNat)
      case atStart => exact ⟨0, by omega, rfl, rfl, q0, rfl⟩
      case round =>
        obtain ⟨m, hm, rfl, hh, q1, rfl⟩ := hrel
        by_cases hml : m < j
        · have h2 := HA.out m (by omega)
          have hdr : ((xs.take j).drop m) = xs[m] :: (xs.take j).drop (m + 1) := by
            rw [drop_cons _ _ (by simp; omega)]; simp
          rw [hdr] at hh
          generalize xs[m] = xm at *
          clear hdr
          go_wp2
          go_quiet (fail)
          go_wp2
          · go_ret
            refine ⟨?_, below_q _ _⟩
            rw [← hq.out, ← hh.out, hasB_hit (by assumption)]; rfl
          · go_roundw
            case rel => exact ⟨m + 1, by omega, by go_num, by rw [← hh.out, hasB_miss (by assumption)]; exact rfl, q1 + nq, rfl⟩
            case measure => simp [intOf]; omega
        · rw [List.drop_eq_nil_of_le (by simp; omega)] at hh
          rw [← hh.out] at hq
          go_wp2
          go_roundw
          case rel => exact ⟨j + 1, by omega, by go_num, hq, q1, rfl⟩
          case measure => simp [intOf]; omega
    · rw [List.drop_eq_nil_of_le (by omega)] at hq
      go_wp2
      go_ret
      exact ⟨by rw [← hq.out]; rfl, pw_drewN _ _⟩

set_option maxHeartbeats 400000 in
theorem Named_any (s : ByteArray) (w : World) (hs : s.size ≤ 140737488351232) :
    Calls Tryz.prog 13 #[.string s] w (Gives w (.bool (namedF s))) := by
  by_cases h1 : s.size < 1
  · go_enter Tryz.func13, Tryz.ntmps13
    go_wp2
    go_ret
    exact ⟨by rw [namedF_nil s h1]; rfl, Below.refl _ _⟩
  have Hnf := Lib.hid (namedF_eq s (by omega))
  by_cases h2 : 40 < s.size
  · go_enter Tryz.func13, Tryz.ntmps13
    go_wp2
    go_ret
    exact ⟨by rw [Hnf.out, if_pos h2]; rfl, Below.refl _ _⟩
  rw [if_neg h2] at Hnf
  rcases Nat.lt_or_ge s[0].toNat 48 with h3 | h3
  case' inl => have Hn : Hid (namedF s = allOk s.data.toList) := by rw [Hnf.out, if_neg (by omega)]; rfl
  case' inr => rcases Nat.lt_or_ge 57 s[0].toNat with h4 | h4
  case' inr.inl => have Hn : Hid (namedF s = allOk s.data.toList) := by rw [Hnf.out, if_neg (by omega)]; rfl
  case inr.inr =>
    go_enter Tryz.func13, Tryz.ntmps13
    go_wp2
    go_ret
    exact ⟨by rw [Hnf.out, if_pos (by omega)]; rfl, Below.refl _ _⟩
  all_goals
    clear Hnf
    go_enter Tryz.func13, Tryz.ntmps13
    go_wp2
    go_loop [3, 4] (fun i _ => ∃ j : Nat, j ≤ s.size ∧ i = .int .i64 j ∧ Hid (allOk (s.data.toList.drop j) = namedF s)) (fun i _ => s.size - (intOf i).toNat)
    case atStart => exact ⟨0, by omega, rfl, Hn.out.symm⟩
    case round =>
      obtain ⟨j, hj, rfl, hq⟩ := hrel
      by_cases hlt : j < s.size
      · rw [bytes_drop _ _ hlt] at hq
        generalize hc : s[j] = c0 at *
        go_wp2
        all_goals first
          | (go_ret; exact ⟨by rw [← hq.out, allOk, if_neg (by unfold okB; simp at *; omega)]; rfl, Below.refl _ _⟩)
          | exact ⟨⟨j + 1, by omega, by go_num, by rw [← hq.out, allOk, if_pos (by unfold okB; simp at *; omega)]; exact rfl⟩, by simp [intOf]; omega⟩
      · rw [List.drop_eq_nil_of_le (by simp; omega)] at hq
        go_wp2
        go_ret
        exact ⟨by rw [← hq.out]; rfl, Below.refl _ _⟩

end Go.Proofs.Pw
