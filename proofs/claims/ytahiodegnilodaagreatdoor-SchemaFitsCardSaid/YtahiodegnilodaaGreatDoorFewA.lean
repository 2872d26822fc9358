/- The law's Few: which schemas are short enough. -/
import Derived.Test.YtahiodegnilodaaGreatDoorProg
import Derived.Test.YtahiodegnilodaaGreatDoorBx
namespace Go.Proofs.Pw
open Go.RowKit

def fewCols : List PCol → Bool
  | [] => true
  | c :: r => if 60 < c.name.size then false else fewCols r
def fewStrs : List ByteArray → Bool
  | [] => true
  | c :: r => if 60 < c.size then false else fewStrs r
def fewIdxs : List PIdx → Bool
  | [] => true
  | x :: r => if 60 < x.name.size then false else if 12 < x.cols.length then false else if fewStrs x.cols then fewIdxs r else false
def fewSch (s : PSch) : Bool := if 40 < s.cols.length then false else if 12 < s.key.length then false else if 12 < s.idx.length then false else if fewCols s.cols then if fewStrs s.key then fewIdxs s.idx else false else false
theorem fewCols_all : ∀ {l : List PCol}, fewCols l = true → ∀ c ∈ l, c.name.size ≤ 60
  | c :: r, h, d, hd => by
    rw [fewCols] at h
    split at h
    · cases h
    · rcases List.mem_cons.1 hd with rfl | hd
      · omega
      · exact fewCols_all h d hd
  | [], _, d, hd => by simp at hd
theorem fewStrs_all : ∀ {l : List ByteArray}, fewStrs l = true → ∀ c ∈ l, c.size ≤ 60
  | c :: r, h, d, hd => by
    rw [fewStrs] at h
    split at h
    · cases h
    · rcases List.mem_cons.1 hd with rfl | hd
      · omega
      · exact fewStrs_all h d hd
  | [], _, d, hd => by simp at hd
theorem fewIdxs_all : ∀ {l : List PIdx}, fewIdxs l = true → ∀ x ∈ l, x.name.size ≤ 60 ∧ x.cols.length ≤ 12 ∧ ∀ c ∈ x.cols, c.size ≤ 60
  | c :: r, h, d, hd => by
    rw [fewIdxs] at h
    split at h
    · cases h
    split at h
    · cases h
    split at h
    · rename_i h1 h2 h3
      rcases List.mem_cons.1 hd with rfl | hd
      · exact ⟨by omega, by omega, fewStrs_all h3⟩
      · exact fewIdxs_all h d hd
    · cases h
  | [], _, d, hd => by simp at hd
/-- What Few lets by. -/
structure Small (s : PSch) : Prop where
  nc : s.cols.length ≤ 40
  cs : ∀ c ∈ s.cols, c.name.size ≤ 60
  nk : s.key.length ≤ 12
  ks : ∀ k ∈ s.key, k.size ≤ 60
  nx : s.idx.length ≤ 12
  xs : ∀ x ∈ s.idx, x.name.size ≤ 60 ∧ x.cols.length ≤ 12 ∧ ∀ k ∈ x.cols, k.size ≤ 60
theorem small_of {s : PSch} (h : fewSch s = true) : Small s := by
  unfold fewSch at h
  split at h
  · cases h
  split at h
  · cases h
  split at h
  · cases h
  split at h
  · split at h
    · rename_i h1 h2 h3 h4 h5
      exact ⟨by omega, fewCols_all h4, by omega, fewStrs_all h5, by omega, fewIdxs_all h⟩
    · cases h
  · cases h

set_option maxRecDepth 100000 in
set_option maxHeartbeats 1000000 in
theorem Few_any (A1 A2 A3 : Option Addr) (c1 c2 c3 : Nat) (s : PSch) (w : World) (hs : RSch w s A1 A2 A3)
    (hc : ∀ c ∈ s.cols, c.name.size ≤ 140737488351232) (hk : ∀ k ∈ s.key, k.size ≤ 140737488351232) (hi : ∀ x ∈ s.idx, x.name.size ≤ 140737488351232 ∧ ∀ k ∈ x.cols, k.size ≤ 140737488351232) :
    Calls Tryz.prog 15 #[.agg #[.slice A1 s.cols.length c1, .slice A2 s.key.length c2, .slice A3 s.idx.length c3]] w (Gives w (.bool (fewSch s))) := by
  have HC := Lib.hid hs.1
  have HK := Lib.hid hs.2.1
  have HX := Lib.hid hs.2.2
  have hm1 := hs.1.1
  have hm2 := hs.2.1.1
  have hm3 := hs.2.2.1
  have Hc := Lib.hid hc
  have Hk := Lib.hid hk
  have Hi := Lib.hid hi
  clear hs hc hk hi
  by_cases h1 : 40 < s.cols.length
  · have h1' : decide ((40 : Int) < (s.cols.length : Int)) = true := decide_eq_true (by omega)
    go_enter Tryz.func15, Tryz.ntmps15
    go_wp2_with fail
    go_ret
    exact ⟨by rw [fewSch, if_pos h1]; rfl, below_new _ _⟩
  have h1' : decide ((40 : Int) < (s.cols.length : Int)) = false := decide_eq_false (by omega)
  by_cases h2 : 12 < s.key.length
  · have h2' : decide ((12 : Int) < (s.key.length : Int)) = true := decide_eq_true (by omega)
    go_enter Tryz.func15, Tryz.ntmps15
    go_wp2_with fail
    go_ret
    exact ⟨by rw [fewSch, if_neg h1, if_pos h2]; rfl, below_new _ _⟩
  have h2' : decide ((12 : Int) < (s.key.length : Int)) = false := decide_eq_false (by omega)
  by_cases h3 : 12 < s.idx.length
  · have h3' : decide ((12 : Int) < (s.idx.length : Int)) = true := decide_eq_true (by omega)
    go_enter Tryz.func15, Tryz.ntmps15
    go_wp2_with fail
    go_ret
    exact ⟨by rw [fewSch, if_neg h1, if_neg h2, if_pos h3]; rfl, below_new _ _⟩
  have h3' : decide ((12 : Int) < (s.idx.length : Int)) = false := decide_eq_false (by omega)
  have Hp : Hid (fewSch s = if fewCols s.cols then if fewStrs s.key then fewIdxs s.idx else false else false) := by rw [fewSch, if_neg h1, if_neg h2, if_neg h3]; rfl
  go_enter Tryz.func15, Tryz.ntmps15
  go_wp2_with fail
  have HX0 := Lib.hid (Box.new w [.slice A1 s.cols.length c1, .slice A2 s.key.length c2, .slice A3 s.idx.length c3] 27)
  have HB0 := Lib.hid (below_new w (.cells #[.slice A1 s.cols.length c1, .slice A2 s.key.length c2, .slice A3 s.idx.length c3] 27))
  go_loopw [30] (fun i wr => ∃ j : Nat, j ≤ s.cols.length ∧ i = .int .i64 j ∧ Hid (fewCols (s.cols.drop j) = fewCols s.cols) ∧ Hid (Below w.heap.size w wr) ∧ Hid (Box wr w.heap.size 27 [.slice A1 s.cols.length c1, .slice A2 s.key.length c2, .slice A3 s.idx.length c3])) (fun i _ => s.cols.length - (intOf i).toNat)
  case atStart => exact ⟨0, by omega, rfl, rfl, HB0, HX0⟩
  case round =>
    clear HX0 HB0
    obtain ⟨j, hj, rfl, hq, hB, hX⟩ := hrel
    have hz := hX.out.lt
    by_cases hlt : j < s.cols.length
    · obtain ⟨b, off, rfl, hb, hbb, g0, g1, g2⟩ := cols_at (HC.out.below (flat_stable _) hB.out) hlt
      rw [drop_cons _ _ hlt] at hq
      generalize s.cols[j] = y at *
      have hX2 := Lib.hid (hX.out.below (below_new wr (.cells #[.string y.name, .int .i64 y.typ, .bool y.nn] 45)))
      have hB2 := Lib.hid (below_next hB.out (below_new wr (.cells #[.string y.name, .int .i64 y.typ, .bool y.nn] 45)))
      by_cases hv : 60 < y.name.size
      · have hv' : decide ((60 : Int) < (y.name.size : Int)) = true := decide_eq_true (by omega)
        have hq' : Hid (fewCols s.cols = false) := by rw [← hq.out, fewCols, if_pos hv]; rfl
        go_wp2_with fail
        go_ret
        exact ⟨by rw [Hp.out, hq'.out]; rfl, hB2.out⟩
      · have hv' : decide ((60 : Int) < (y.name.size : Int)) = false := decide_eq_false (by omega)
        rw [fewCols, if_neg hv] at hq
        go_wp2_with fail
        go_roundw
        case rel => exact ⟨j + 1, by omega, by go_num, hq, hB2, hX2⟩
        case measure => simp [intOf]; omega
    · rw [List.drop_eq_nil_of_le (by omega)] at hq
      rw [← hq.out] at Hp
      have x1 := hX.out.cell 1 rfl
      clear hq
      go_wp2_with fail
      go_loopw [42] (fun i wr => ∃ j : Nat, j ≤ s.key.length ∧ i = .int .i64 j ∧ Hid (fewStrs (s.key.drop j) = fewStrs s.key) ∧ Hid (Below w.heap.size w wr) ∧ Hid (Box wr w.heap.size 27 [.slice A1 s.cols.length c1, .slice A2 s.key.length c2, .slice A3 s.idx.length c3])) (fun i _ => s.key.length - (intOf i).toNat)
      case atStart => exact ⟨0, by omega, rfl, rfl, hB, hX⟩
      case round =>
        clear x1 hX hB hz
        obtain ⟨j, hj, rfl, hq, hB, hX⟩ := hrel
        have hz := hX.out.lt
        by_cases hlt : j < s.key.length
        · obtain ⟨b, off, rfl, hb, hbb, g0⟩ := strs_at (HK.out.below (flat_stable _) hB.out) hlt
          rw [drop_cons _ _ hlt] at hq
          generalize s.key[j] = y at *
          by_cases hv : 60 < y.size
          · have hv' : decide ((60 : Int) < (y.size : Int)) = true := decide_eq_true (by omega)
            have hq' : Hid (fewStrs s.key = false) := by rw [← hq.out, fewStrs, if_pos hv]; rfl
            go_wp2_with fail
            go_ret
            exact ⟨by rw [Hp.out, hq'.out]; rfl, hB.out⟩
          · have hv' : decide ((60 : Int) < (y.size : Int)) = false := decide_eq_false (by omega)
            rw [fewStrs, if_neg hv] at hq
            go_wp2_with fail
            go_roundw
            case rel => exact ⟨j + 1, by omega, by go_num, hq, hB, hX⟩
            case measure => simp [intOf]; omega
        · rw [List.drop_eq_nil_of_le (by omega)] at hq
          rw [← hq.out] at Hp
          have Hp : Hid (fewSch s = fewIdxs s.idx) := Hp
          have x2 := hX.out.cell 2 rfl
          clear hq
          go_wp2_with fail
          go_loopw [53] (fun i wr => ∃ j : Nat, j ≤ s.idx.length ∧ i = .int .i64 j ∧ Hid (fewIdxs (s.idx.drop j) = fewIdxs s.idx) ∧ Hid (Below w.heap.size w wr)) (fun i _ => s.idx.length - (intOf i).toNat)
          case atStart => exact ⟨0, by omega, rfl, rfl, hB⟩
          case round =>
            clear x2 hX hB hz
            obtain ⟨j, hj, rfl, hq, hB⟩ := hrel
            by_cases hlt : j < s.idx.length
            · obtain ⟨b, off, B, cB, rfl, hb, hbb, g0, g1, g2, hsB⟩ := idxs_at (HX.out.below RIdx_stable hB.out) hlt
              rw [drop_cons _ _ hlt] at hq
              generalize s.idx[j] = y at *
              have hcl := hsB.1
              have hsB2 := Lib.hid (hsB.below (flat_stable _) (below_new wr (.cells #[.string y.name, .slice B y.cols.length cB, .bool y.uniq] 47)))
              have hB2 := Lib.hid (below_next hB.out (below_new wr (.cells #[.string y.name, .slice B y.cols.length cB, .bool y.uniq] 47)))
              clear hsB
              by_cases hv : 60 < y.name.size
              · have hv' : decide ((60 : Int) < (y.name.size : Int)) = true := decide_eq_true (by omega)
                have hq' : Hid (fewIdxs s.idx = false) := by rw [← hq.out, fewIdxs, if_pos hv]; rfl
                go_wp2_with fail
                go_ret
                exact ⟨by rw [Hp.out, hq'.out]; rfl, hB2.out⟩
              have hv' : decide ((60 : Int) < (y.name.size : Int)) = false := decide_eq_false (by omega)
              by_cases hu : 12 < y.cols.length
              · have hu' : decide ((12 : Int) < (y.cols.length : Int)) = true := decide_eq_true (by omega)
                have hq' : Hid (fewIdxs s.idx = false) := by rw [← hq.out, fewIdxs, if_neg hv, if_pos hu]; rfl
                go_wp2_with fail
                go_ret
                exact ⟨by rw [Hp.out, hq'.out]; rfl, hB2.out⟩
              have hu' : decide ((12 : Int) < (y.cols.length : Int)) = false := decide_eq_false (by omega)
              rw [fewIdxs, if_neg hv, if_neg hu] at hq
              go_wp2_with fail
              generalize hw2 : wr.alloc (.cells #[.string y.name, .slice B y.cols.length cB, .bool y.uniq] 47) = w2 at *
              clear hw2
              go_loopw [70] (fun i wr => ∃ k : Nat, k ≤ y.cols.length ∧ i = .int .i64 k ∧ Hid (fewStrs (y.cols.drop k) = fewStrs y.cols) ∧ wr = w2) (fun i _ => y.cols.length - (intOf i).toNat)
              case atStart => exact ⟨0, by omega, rfl, rfl, rfl⟩
              case round =>
                obtain ⟨k, hk, rfl, hr, rfl⟩ := hrel
                by_cases hkt : k < y.cols.length
                · obtain ⟨b', off', rfl, hb', hbb', g0'⟩ := strs_at hsB2.out hkt
                  rw [drop_cons _ _ hkt] at hr
                  generalize y.cols[k] = x at *
                  by_cases ht : 60 < x.size
                  · have ht' : decide ((60 : Int) < (x.size : Int)) = true := decide_eq_true (by omega)
                    have hr' : Hid (fewStrs y.cols = false) := by rw [← hr.out, fewStrs, if_pos ht]; rfl
                    have hq' : Hid (fewIdxs s.idx = false) := by rw [← hq.out, hr'.out]; rfl
                    go_wp2_with fail
                    go_ret
                    exact ⟨by rw [Hp.out, hq'.out]; rfl, hB2.out⟩
                  · have ht' : decide ((60 : Int) < (x.size : Int)) = false := decide_eq_false (by omega)
                    rw [fewStrs, if_neg ht] at hr
                    go_wp2_with fail
                    go_roundw
                    case rel => exact ⟨k + 1, by omega, by go_num, hr, trivial⟩
                    case measure => simp [intOf]; omega
                · rw [List.drop_eq_nil_of_le (by omega)] at hr
                  rw [← hr.out] at hq
                  have hq : Hid (fewIdxs (s.idx.drop (j + 1)) = fewIdxs s.idx) := hq
                  go_wp2_with fail
                  go_roundw
                  case rel => exact ⟨j + 1, by omega, by go_num, hq, hB2⟩
                  case measure => simp [intOf]; omega
            · rw [List.drop_eq_nil_of_le (by omega)] at hq
              have hq' : Hid (fewIdxs s.idx = true) := by rw [← hq.out]; rfl
              go_wp2_with fail
              go_ret
              exact ⟨by rw [Hp.out, hq'.out]; rfl, hB.out⟩
end Go.Proofs.Pw
