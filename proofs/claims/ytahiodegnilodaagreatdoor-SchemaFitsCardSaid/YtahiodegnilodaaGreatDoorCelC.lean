/- Tuples: the program's cell.tuple and the reference's Tuple. -/
import Derived.Test.YtahiodegnilodaaGreatDoorMCelB
namespace Go.Proofs.Pw
open Go.RowKit

/-- One value of a slice of values. -/
theorem vals_at {w : World} {A : Option Addr} {xs : List PVal} (h : Vals w A xs) {j : Nat} (hj : j < xs.length) :
    ∃ b off, A = some ⟨b, off, none⟩ ∧ b < w.heap.size ∧ ¬ b = w.heap.size ∧ w.cell? ⟨b, off + j * 3, none⟩ = some (.int .i64 xs[j].kind) ∧ w.cell? ⟨b, off + j * 3 + 1, none⟩ = some (.int .i64 xs[j].n) ∧ w.cell? ⟨b, off + j * 3 + 2, none⟩ = some (.string xs[j].s) := by
  obtain ⟨b, off, hA, hlt, hc⟩ := h.2 (ne_nil hj)
  obtain ⟨vs, rfl, h2⟩ := hc j _ (List.getElem?_eq_getElem hj)
  exact ⟨b, off, hA, hlt, by omega, h2 0 _ rfl, h2 1 _ rfl, h2 2 _ rfl⟩
def allV : List PVal → Bool
  | [] => true
  | v :: l => if rightV v then allV l else false
theorem allV_all : ∀ {l : List PVal}, allV l = true → ∀ v ∈ l, rightV v = true
  | v :: l, h, x, hx => by
    rw [allV] at h
    split at h
    · rcases List.mem_cons.1 hx with rfl | hx
      · assumption
      · exact allV_all h x hx
    · cases h
  | [], _, x, hx => by simp at hx
theorem allV_any : ∀ l : List PVal, l.any (fun v => !rightV v) = !allV l
  | [] => rfl
  | v :: l => by
    rw [List.any_cons, allV, allV_any l]
    cases rightV v <;> simp
def tupleF (l : List PVal) : Bool := if 64 < l.length then false else allV l

set_option maxRecDepth 100000 in
set_option maxHeartbeats 400000 in
theorem tuple1_any (v : PVal) (w : World) (hn : i64R v.n) : Calls Tryz.prog 142 #[.agg #[.int .i64 v.kind, .int .i64 v.n, .string v.s]] w (Gives w (.bool (!rightV v))) := by
  have HR := Lib.hid (PRightV_any v (w.alloc (.cells #[.int .i64 v.kind, .int .i64 v.n, .string v.s] 65)) hn)
  go_enter Tryz.func142, Tryz.ntmps142
  go_wp2_with fail
  refine HR.out.mono ?_
  rintro e w1 ⟨rfl, hb⟩
  have HB := Lib.hid (below_next (below_new w _) hb)
  clear hb
  go_wp2_with fail
  go_ret
  exact ⟨rfl, HB.out⟩
set_option maxRecDepth 100000 in
set_option maxHeartbeats 1000000 in
theorem indexFuncV_any (A : Option Addr) (c : Nat) (xs : List PVal) (w : World) (hc : Vals w A xs) (hn : ∀ v ∈ xs, i64R v.n) :
    Calls Tryz.prog 155 #[.slice A xs.length c, .func (.func 142) #[] #[]] w (fun e w' => ∃ r : Int, e = .returned (.int .i64 r) ∧ decide (0 ≤ r) = xs.any (fun v => !rightV v) ∧ Below w.heap.size w w') := by
  have HS := Lib.hid hc
  have HN := Lib.hid hn
  have hm := hc.1
  clear hc hn
  generalize hp : (fun v => !rightV v) = p at *
  have Hp := Lib.hid hp
  clear hp
  go_enter Tryz.func155, Tryz.ntmps155
  go_wp2
  go_loopw [8] (fun i wr => ∃ j : Nat, j ≤ xs.length ∧ i = .int .i64 j ∧ Hid ((xs.drop j).any p = xs.any p) ∧ Hid (Below w.heap.size w wr)) (fun i _ => xs.length - (intOf i).toNat)
  case atStart => exact ⟨0, by omega, rfl, rfl, Below.refl _ _⟩
  case round =>
    obtain ⟨j, hj, rfl, hq, hB⟩ := hrel
    by_cases hlt : j < xs.length
    · obtain ⟨b, off, rfl, hb, hbb, h1, h2, h3⟩ := vals_at (HS.out.below (flat_stable _) hB.out) hlt
      have hn := HN.out _ (List.getElem_mem hlt)
      rw [drop_cons _ _ hlt, List.any_cons] at hq
      generalize hx : xs[j] = x0 at *
      have HT := Lib.hid (fun w => tuple1_any x0 w hn)
      clear hx HS HN hn
      have hpx : (!rightV x0) = p x0 := by rw [← Hp.out]
      rw [hpx] at HT
      clear hpx
      go_wp2_with fail
      go_at_call 142
      refine (HT.out _).mono ?_
      rintro e w1 ⟨rfl, hb1⟩
      have HB := Lib.hid (below_next hB.out hb1)
      clear hb1
      cases hp : p x0
      · rw [hp, Bool.false_or] at hq
        go_wp2_with fail
        go_round
        case rel => exact ⟨j + 1, by omega, by go_num, hq, HB⟩
        case measure => simp [intOf]; omega
      · rw [hp, Bool.true_or] at hq
        go_wp2_with fail
        go_ret
        exact ⟨_, rfl, by rw [← hq.out]; simp, HB.out⟩
    · rw [List.drop_eq_nil_of_le (by omega)] at hq
      go_wp2
      go_ret
      exact ⟨_, rfl, by rw [← hq.out]; rfl, hB.out⟩
set_option maxRecDepth 100000 in
set_option maxHeartbeats 400000 in
theorem containsFuncV_any (A : Option Addr) (c : Nat) (xs : List PVal) (w : World) (hc : Vals w A xs) (hn : ∀ v ∈ xs, i64R v.n) :
    Calls Tryz.prog 141 #[.slice A xs.length c, .func (.func 142) #[] #[]] w (Gives w (.bool (!allV xs))) := by
  have HI := Lib.hid (indexFuncV_any A c xs w hc hn)
  have hm := hc.1
  rw [allV_any] at HI
  clear hc hn
  go_enter Tryz.func141, Tryz.ntmps141
  go_wp2_with fail
  refine HI.out.mono ?_
  rintro e w1 ⟨r, rfl, hr, hb⟩
  have HB := Lib.hid hb
  clear hb
  go_wp2_with fail
  go_ret
  exact ⟨by rw [← hr]; rfl, HB.out⟩
set_option maxRecDepth 100000 in
set_option maxHeartbeats 400000 in
theorem tuple_any (A : Option Addr) (c : Nat) (xs : List PVal) (w : World) (hc : Vals w A xs) (hn : ∀ v ∈ xs, i64R v.n) :
    Calls Tryz.prog 128 #[.slice A xs.length c] w (Gives w (.bool (tupleF xs))) := by
  have HI := Lib.hid (containsFuncV_any A c xs w hc hn)
  have hm := hc.1
  clear hc hn
  by_cases h : 64 < xs.length
  · have hd : decide ((xs.length : Int) ≤ 64) = false := decide_eq_false (by omega)
    go_enter Tryz.func128, Tryz.ntmps128
    go_wp2_with fail
    go_ret
    exact ⟨by rw [tupleF, if_pos h]; rfl, Below.refl _ _⟩
  have hd : decide ((xs.length : Int) ≤ 64) = true := decide_eq_true (by omega)
  have ht : Hid (tupleF xs = allV xs) := by rw [tupleF, if_neg h]; rfl
  generalize allV xs = b at *
  go_enter Tryz.func128, Tryz.ntmps128
  go_wp2_with fail
  refine HI.out.mono ?_
  rintro e w1 ⟨rfl, hb⟩
  have HB := Lib.hid hb
  clear hb
  cases b
  · go_wp2_with fail
    go_ret
    exact ⟨by rw [ht.out]; rfl, HB.out⟩
  · go_wp2_with fail
    go_ret
    exact ⟨by rw [ht.out]; rfl, HB.out⟩
set_option maxRecDepth 100000 in
set_option maxHeartbeats 1000000 in
theorem RTuple_any (A : Option Addr) (c : Nat) (xs : List PVal) (w : World) (hc : Vals w A xs) (hn : ∀ v ∈ xs, i64R v.n) :
    Calls Tryz.prog 104 #[.slice A xs.length c] w (Gives w (.bool (tupleF xs))) := by
  have HS := Lib.hid hc
  have HN := Lib.hid hn
  have hm := hc.1
  clear hc hn
  by_cases h : 64 < xs.length
  · have hd : decide ((64 : Int) < (xs.length : Int)) = true := decide_eq_true (by omega)
    go_enter Tryz.func104, Tryz.ntmps104
    go_wp2_with fail
    go_ret
    exact ⟨by rw [tupleF, if_pos h]; rfl, Below.refl _ _⟩
  have hd : decide ((64 : Int) < (xs.length : Int)) = false := decide_eq_false (by omega)
  have ht : Hid (tupleF xs = allV xs) := by rw [tupleF, if_neg h]; rfl
  go_enter Tryz.func104, Tryz.ntmps104
  go_wp2_with fail
  go_loopw [3] (fun i wr => ∃ j : Nat, j ≤ xs.length ∧ i = .int .i64 j ∧ Hid (allV (xs.drop j) = allV xs) ∧ Hid (Below w.heap.size w wr)) (fun i _ => xs.length - (intOf i).toNat)
  case atStart => exact ⟨0, by omega, rfl, rfl, Below.refl _ _⟩
  case round =>
    obtain ⟨j, hj, rfl, hq, hB⟩ := hrel
    by_cases hlt : j < xs.length
    · obtain ⟨b, off, rfl, hb, hbb, h1, h2, h3⟩ := vals_at (HS.out.below (flat_stable _) hB.out) hlt
      have hn := HN.out _ (List.getElem_mem hlt)
      rw [drop_cons _ _ hlt] at hq
      generalize hx : xs[j] = x0 at *
      have HT := Lib.hid (fun w => RRightV_any x0 w hn)
      clear hx HS HN hn
      have hj0 : (0 : Int) ≤ j := by omega
      have hj1 : (j : Int) < (xs.length : Int) := by omega
      go_wp2_with fail
      refine (HT.out _).mono ?_
      rintro e w1 ⟨rfl, hb1⟩
      have HB := Lib.hid (below_next hB.out hb1)
      clear hb1
      cases hp : rightV x0
      · rw [allV, hp] at hq
        have hq' : Hid (allV xs = false) := hq.out.symm
        go_wp2_with fail
        go_ret
        exact ⟨by rw [ht.out, hq'.out]; rfl, HB.out⟩
      · rw [allV, hp, if_pos rfl] at hq
        go_wp2_with fail
        go_roundw
        case rel => exact ⟨j + 1, by omega, by go_num, hq, HB⟩
        case measure => simp [intOf]; omega
    · rw [List.drop_eq_nil_of_le (by omega)] at hq
      have hq' : Hid (allV xs = true) := hq.out.symm
      go_wp2_with fail
      go_ret
      exact ⟨by rw [ht.out, hq'.out]; rfl, hB.out⟩
end Go.Proofs.Pw
