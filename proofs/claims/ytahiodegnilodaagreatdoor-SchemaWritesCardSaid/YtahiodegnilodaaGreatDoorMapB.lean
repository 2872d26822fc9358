/- The program's schema.Right: all, and what it asks of each text. -/
import Derived.Test.YtahiodegnilodaaGreatDoorProg
import Derived.Test.YtahiodegnilodaaGreatDoorMapA
import Derived.Test.YtahiodegnilodaaGreatDoorSchC
namespace Go.Proofs.Pw
open Go.RowKit

set_option maxHeartbeats 1000000 in
theorem indexFunc_any (q : Nat) (p : ByteArray → Bool) (A : Option Addr) (c : Nat) (xs : List ByteArray) (w : World) (hc : Strs w A xs)
    (hF : ∀ x w', Below w.heap.size w w' → Calls Tryz.prog 111 #[.string x, .pointer (some ⟨q, 0, none⟩)] w' (Gives w' (.bool (p x)))) :
    Calls Tryz.prog 134 #[.slice A xs.length c, .func (.func 111) #[] #[.pointer (some ⟨q, 0, none⟩)]] w (fun e w' => ∃ r : Int, e = .returned (.int .i64 r) ∧ decide (0 ≤ r) = xs.any p ∧ Below w.heap.size w w') := by
  have HS := Lib.hid hc
  have HF := Lib.hid hF
  have hm := hc.1
  clear hc hF
  go_enter Tryz.func134, Tryz.ntmps134
  go_wp2
  go_loopw [8] (fun i wr => ∃ j : Nat, j ≤ xs.length ∧ i = .int .i64 j ∧ Hid ((xs.drop j).any p = xs.any p) ∧ Hid (Below w.heap.size w wr)) (fun i _ => xs.length - (intOf i).toNat)
  case atStart => exact ⟨0, by omega, rfl, rfl, Below.refl _ _⟩
  case round =>
    obtain ⟨j, hj, rfl, hq, hB⟩ := hrel
    by_cases hlt : j < xs.length
    · obtain ⟨b, off, rfl, hb, hbb, h1⟩ := strs_at (HS.out.below (flat_stable _) hB.out) hlt
      rw [drop_cons _ _ hlt, List.any_cons] at hq
      generalize hx : xs[j] = x0 at *
      clear hx HS
      go_wp2_with fail
      go_at_call 111
      refine (HF.out x0 _ hB.out).mono ?_
      rintro e w1 ⟨rfl, hb1⟩
      have HB := Lib.hid (below_next hB.out hb1)
      clear hb1
      cases hp : p x0
      · rw [hp, Bool.false_or] at hq
        go_wp2_with fail
        go_round
        case rel => exact ⟨j + 1, by omega, by go_num, hq, HB⟩
        case measure => simp [intOf]; omega
      · rw [hp, Bool.true_or] at hq
        go_wp2_with fail
        go_ret
        exact ⟨_, rfl, by rw [← hq.out]; simp, HB.out⟩
    · rw [List.drop_eq_nil_of_le (by omega)] at hq
      go_wp2
      go_ret
      exact ⟨_, rfl, by rw [← hq.out]; rfl, hB.out⟩
set_option maxHeartbeats 400000 in
theorem containsFunc_any (q : Nat) (p : ByteArray → Bool) (A : Option Addr) (c : Nat) (xs : List ByteArray) (w : World) (hc : Strs w A xs)
    (hF : ∀ x w', Below w.heap.size w w' → Calls Tryz.prog 111 #[.string x, .pointer (some ⟨q, 0, none⟩)] w' (Gives w' (.bool (p x)))) :
    Calls Tryz.prog 110 #[.slice A xs.length c, .func (.func 111) #[] #[.pointer (some ⟨q, 0, none⟩)]] w (Gives w (.bool (xs.any p))) := by
  have HI := Lib.hid (indexFunc_any q p A c xs w hc hF)
  have hm := hc.1
  clear hc hF
  go_enter Tryz.func110, Tryz.ntmps110
  go_wp2_with fail
  refine HI.out.mono ?_
  rintro e w1 ⟨r, rfl, hr, hb⟩
  have HB := Lib.hid hb
  clear hb
  go_wp2_with fail
  go_ret
  exact ⟨by rw [← hr]; rfl, HB.out⟩

set_option maxHeartbeats 400000 in
theorem all1_any1 (q r : Nat) (v : Bool) (x : ByteArray) (w : World) (hq : w.cell? ⟨q, 0, none⟩ = some (.func (.func 66) #[] #[.pointer (some ⟨r, 0, none⟩)]))
    (hF : ∀ w', Below w.heap.size w w' → Calls Tryz.prog 66 #[.string x, .pointer (some ⟨r, 0, none⟩)] w' (Gives w' (.bool v))) :
    Calls Tryz.prog 111 #[.string x, .pointer (some ⟨q, 0, none⟩)] w (Gives w (.bool (!v))) := by
  have HF := Lib.hid hF
  clear hF
  go_enter Tryz.func111, Tryz.ntmps111
  go_wp2_with fail
  go_at_call 66
  refine (HF.out _ (by first | exact Below.refl _ _ | exact below_new _ _)).mono ?_
  rintro e w1 ⟨rfl, hb⟩
  have HB := Lib.hid hb
  clear hb
  go_wp2_with fail
  go_ret
  exact ⟨rfl, HB.out⟩

set_option maxHeartbeats 400000 in
theorem all_any1 (r : Nat) (p : ByteArray → Bool) (A : Option Addr) (c : Nat) (xs : List ByteArray) (w : World) (hc : Strs w A xs)
    (hF : ∀ x w', Below w.heap.size w w' → Calls Tryz.prog 66 #[.string x, .pointer (some ⟨r, 0, none⟩)] w' (Gives w' (.bool (p x)))) :
    Calls Tryz.prog 65 #[.slice A xs.length c, .func (.func 66) #[] #[.pointer (some ⟨r, 0, none⟩)]] w (Gives w (.bool (xs.all p))) := by
  have HC := Lib.hid (containsFunc_any w.heap.size (fun x => !p x) A c xs (w.alloc (.cells #[.func (.func 66) #[] #[.pointer (some ⟨r, 0, none⟩)]] 31)) (hc.below (flat_stable _) (below_new _ _)) (fun x w' hb => all1_any1 _ r (p x) x w' ((hb.cell (by simp)).trans (by simp [go_sem])) (fun w2 hb2 => hF x w2 (below_next (below_next (below_new _ _) hb) hb2))))
  have hm := hc.1
  clear hc hF
  go_enter Tryz.func65, Tryz.ntmps65
  go_wp2_with fail
  refine HC.out.mono ?_
  rintro e w1 ⟨rfl, hb⟩
  have HB := Lib.hid (below_next (below_new _ _) hb)
  clear hb
  go_wp2_with fail
  go_ret
  refine ⟨?_, HB.out⟩
  rw [List.all_eq_not_any_not]
  rfl

set_option maxHeartbeats 400000 in
theorem all1_any2 (q r : Nat) (v : Bool) (x : ByteArray) (w : World) (hq : w.cell? ⟨q, 0, none⟩ = some (.func (.func 67) #[] #[.pointer (some ⟨r, 0, none⟩)]))
    (hF : ∀ w', Below w.heap.size w w' → Calls Tryz.prog 67 #[.string x, .pointer (some ⟨r, 0, none⟩)] w' (Gives w' (.bool v))) :
    Calls Tryz.prog 111 #[.string x, .pointer (some ⟨q, 0, none⟩)] w (Gives w (.bool (!v))) := by
  have HF := Lib.hid hF
  clear hF
  go_enter Tryz.func111, Tryz.ntmps111
  go_wp2_with fail
  go_at_call 67
  refine (HF.out _ (by first | exact Below.refl _ _ | exact below_new _ _)).mono ?_
  rintro e w1 ⟨rfl, hb⟩
  have HB := Lib.hid hb
  clear hb
  go_wp2_with fail
  go_ret
  exact ⟨rfl, HB.out⟩

set_option maxHeartbeats 400000 in
theorem all_any2 (r : Nat) (p : ByteArray → Bool) (A : Option Addr) (c : Nat) (xs : List ByteArray) (w : World) (hc : Strs w A xs)
    (hF : ∀ x w', Below w.heap.size w w' → Calls Tryz.prog 67 #[.string x, .pointer (some ⟨r, 0, none⟩)] w' (Gives w' (.bool (p x)))) :
    Calls Tryz.prog 65 #[.slice A xs.length c, .func (.func 67) #[] #[.pointer (some ⟨r, 0, none⟩)]] w (Gives w (.bool (xs.all p))) := by
  have HC := Lib.hid (containsFunc_any w.heap.size (fun x => !p x) A c xs (w.alloc (.cells #[.func (.func 67) #[] #[.pointer (some ⟨r, 0, none⟩)]] 31)) (hc.below (flat_stable _) (below_new _ _)) (fun x w' hb => all1_any2 _ r (p x) x w' ((hb.cell (by simp)).trans (by simp [go_sem])) (fun w2 hb2 => hF x w2 (below_next (below_next (below_new _ _) hb) hb2))))
  have hm := hc.1
  clear hc hF
  go_enter Tryz.func65, Tryz.ntmps65
  go_wp2_with fail
  refine HC.out.mono ?_
  rintro e w1 ⟨rfl, hb⟩
  have HB := Lib.hid (below_next (below_new _ _) hb)
  clear hb
  go_wp2_with fail
  go_ret
  refine ⟨?_, HB.out⟩
  rw [List.all_eq_not_any_not]
  rfl
end Go.Proofs.Pw
