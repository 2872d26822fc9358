/- Values: which are right: the program's cell.Right and the reference's. -/
import Derived.Test.YtahiodegnilodaaGreatDoorSchA
import Derived.Laws.StructEq
namespace Go.Proofs.Pw
open Go.RowKit

structure PVal where
  kind : Int
  n : Int
  s : ByteArray
def encVal (v : PVal) : List Value := [.int .i64 v.kind, .int .i64 v.n, .string v.s]
abbrev Vals := Sl 3 (flat encVal)
def i64R (n : Int) : Prop := -9223372036854775808 ≤ n ∧ n ≤ 9223372036854775807
def rightV (v : PVal) : Bool :=
  if v.kind = 0 then decide (v.n = 0 ∧ v.s.size = 0) else if v.kind = 1 then decide (v.s.size = 0) else if v.kind = 2 then decide ((v.n = 0 ∨ v.n = 1) ∧ v.s.size = 0) else
  if v.kind = 3 then decide (v.n = 0 ∧ v.s.size ≤ 1000) else if v.kind = 4 then decide (v.n = 0 ∧ v.s.size ≤ 1000) else false

set_option maxRecDepth 100000 in
set_option maxHeartbeats 1000000 in
theorem RRightV_any (v : PVal) (w : World) (hn : i64R v.n) : Calls Tryz.prog 103 #[.agg #[.int .i64 v.kind, .int .i64 v.n, .string v.s]] w (Gives w (.bool (rightV v))) := by
  obtain ⟨k, n, s⟩ := v
  dsimp only at *
  have hs : (s.size = 0 ∧ Hid (s.toList.isEmpty = true ∧ s.toList = [])) ∨ (¬ s.size = 0 ∧ Hid (s.toList.isEmpty = false ∧ ¬ s.toList = [])) := by
    rcases Nat.eq_zero_or_pos s.size with h | h
    · exact .inl ⟨h, str_eq h⟩
    · exact .inr ⟨by omega, str_ne h⟩
  by_cases h0 : k = 0
  · subst h0
    by_cases hn0 : n = 0
    · subst hn0
      rcases hs with ⟨h, h'⟩ | ⟨h, h'⟩
      · obtain ⟨h1, h2⟩ := h'.out
        have hr : Hid (rightV ⟨0, 0, s⟩ = true) := by simp [rightV, h, Hid]
        go_enter Tryz.func103, Tryz.ntmps103
        go_wp2_with fail
        go_ret
        exact ⟨by rw [hr.out]; rfl, below_new _ _⟩
      · obtain ⟨h1, h2⟩ := h'.out
        have hr : Hid (rightV ⟨0, 0, s⟩ = false) := by simp [rightV, h, Hid]
        go_enter Tryz.func103, Tryz.ntmps103
        go_wp2_with fail
        go_ret
        exact ⟨by rw [hr.out]; rfl, below_new _ _⟩
    · have hr : Hid (rightV ⟨0, n, s⟩ = false) := by simp [rightV, hn0, Hid]
      have hb : (n == 0) = false := by simp [hn0]
      go_enter Tryz.func103, Tryz.ntmps103
      go_wp2_with fail
      go_ret
      exact ⟨by rw [hr.out]; rfl, below_new _ _⟩
  by_cases h1 : k = 1
  · subst h1
    rcases hs with ⟨h, h'⟩ | ⟨h, h'⟩
    · obtain ⟨h1, h2⟩ := h'.out
      have hr : Hid (rightV ⟨1, n, s⟩ = true) := by simp [rightV, h, Hid]
      go_enter Tryz.func103, Tryz.ntmps103
      go_wp2_with fail
      go_ret
      exact ⟨by rw [hr.out]; rfl, below_new _ _⟩
    · obtain ⟨h1, h2⟩ := h'.out
      have hr : Hid (rightV ⟨1, n, s⟩ = false) := by simp [rightV, h, Hid]
      go_enter Tryz.func103, Tryz.ntmps103
      go_wp2_with fail
      go_ret
      exact ⟨by rw [hr.out]; rfl, below_new _ _⟩
  by_cases h2 : k = 2
  · subst h2
    by_cases hn0 : n = 0
    · subst hn0
      rcases hs with ⟨h, h'⟩ | ⟨h, h'⟩
      · obtain ⟨h1, h2⟩ := h'.out
        have hr : Hid (rightV ⟨2, 0, s⟩ = true) := by simp [rightV, h, Hid]
        go_enter Tryz.func103, Tryz.ntmps103
        go_wp2_with fail
        go_ret
        exact ⟨by rw [hr.out]; rfl, below_new _ _⟩
      · obtain ⟨h1, h2⟩ := h'.out
        have hr : Hid (rightV ⟨2, 0, s⟩ = false) := by simp [rightV, h, Hid]
        go_enter Tryz.func103, Tryz.ntmps103
        go_wp2_with fail
        go_ret
        exact ⟨by rw [hr.out]; rfl, below_new _ _⟩
    have hb : (n == 0) = false := by simp [hn0]
    by_cases hn1 : n = 1
    · subst hn1
      rcases hs with ⟨h, h'⟩ | ⟨h, h'⟩
      · obtain ⟨h1, h2⟩ := h'.out
        have hr : Hid (rightV ⟨2, 1, s⟩ = true) := by simp [rightV, h, Hid]
        go_enter Tryz.func103, Tryz.ntmps103
        go_wp2_with fail
        go_ret
        exact ⟨by rw [hr.out]; rfl, below_new _ _⟩
      · obtain ⟨h1, h2⟩ := h'.out
        have hr : Hid (rightV ⟨2, 1, s⟩ = false) := by simp [rightV, h, Hid]
        go_enter Tryz.func103, Tryz.ntmps103
        go_wp2_with fail
        go_ret
        exact ⟨by rw [hr.out]; rfl, below_new _ _⟩
    · have hr : Hid (rightV ⟨2, n, s⟩ = false) := by simp [rightV, hn0, hn1, Hid]
      have hb1 : (n == 1) = false := by simp [hn1]
      go_enter Tryz.func103, Tryz.ntmps103
      go_wp2_with fail
      go_ret
      exact ⟨by rw [hr.out]; rfl, below_new _ _⟩
  by_cases h3 : k = 3 ∨ k = 4
  · by_cases hn0 : n = 0
    · subst hn0
      by_cases hl : s.size ≤ 1000
      · have hr : Hid (rightV ⟨k, 0, s⟩ = true) := by rcases h3 with rfl | rfl <;> simp [rightV, hl, Hid]
        have hd : decide ((s.size : Int) ≤ 1000) = true := decide_eq_true (by omega)
        rcases h3 with rfl | rfl
        all_goals
          go_enter Tryz.func103, Tryz.ntmps103
          go_wp2_with fail
          go_ret
          exact ⟨by rw [hr.out]; rfl, below_new _ _⟩
      · have hr : Hid (rightV ⟨k, 0, s⟩ = false) := by rcases h3 with rfl | rfl <;> simp [rightV, hl, Hid]
        have hd : decide ((s.size : Int) ≤ 1000) = false := decide_eq_false (by omega)
        rcases h3 with rfl | rfl
        all_goals
          go_enter Tryz.func103, Tryz.ntmps103
          go_wp2_with fail
          go_ret
          exact ⟨by rw [hr.out]; rfl, below_new _ _⟩
    · have hr : Hid (rightV ⟨k, n, s⟩ = false) := by rcases h3 with rfl | rfl <;> simp [rightV, hn0, Hid]
      have hb : (n == 0) = false := by simp [hn0]
      rcases h3 with rfl | rfl
      all_goals
        go_enter Tryz.func103, Tryz.ntmps103
        go_wp2_with fail
        go_ret
        exact ⟨by rw [hr.out]; rfl, below_new _ _⟩
  · have hr : Hid (rightV ⟨k, n, s⟩ = false) := by simp [rightV, h0, h1, h2, show ¬ k = 3 from fun e => h3 (.inl e), show ¬ k = 4 from fun e => h3 (.inr e), Hid]
    have b0 : (k == 0) = false := by simp [h0]
    have b1 : (k == 1) = false := by simp [h1]
    have b2 : (k == 2) = false := by simp [h2]
    have b3 : (k == 3) = false := by simp [show ¬ k = 3 from fun e => h3 (.inl e)]
    have b4 : (k == 4) = false := by simp [show ¬ k = 4 from fun e => h3 (.inr e)]
    go_enter Tryz.func103, Tryz.ntmps103
    go_wp2_with fail
    go_ret
    exact ⟨by rw [hr.out]; rfl, below_new _ _⟩
end Go.Proofs.Pw
/- The program's cell.Right. -/
namespace Go.Proofs.Pw
open Go.RowKit

set_option maxRecDepth 100000 in
set_option maxHeartbeats 1000000 in
theorem PRightV_any (v : PVal) (w : World) (hn : i64R v.n) : Calls Tryz.prog 100 #[.agg #[.int .i64 v.kind, .int .i64 v.n, .string v.s]] w (Gives w (.bool (rightV v))) := by
  obtain ⟨k, n, s⟩ := v
  dsimp only at *
  have hs : (s.size = 0 ∧ Hid (s.toList.isEmpty = true ∧ s.toList = [])) ∨ (¬ s.size = 0 ∧ Hid (s.toList.isEmpty = false ∧ ¬ s.toList = [])) := by
    rcases Nat.eq_zero_or_pos s.size with h | h
    · exact .inl ⟨h, str_eq h⟩
    · exact .inr ⟨by omega, str_ne h⟩
  by_cases h0 : k = 0
  · subst h0
    by_cases hn0 : n = 0
    · subst hn0
      rcases hs with ⟨h, h'⟩ | ⟨h, h'⟩
      · obtain ⟨h1, h2⟩ := h'.out
        have hr : Hid (rightV ⟨0, 0, s⟩ = true) := by simp [rightV, h, Hid]
        go_enter Tryz.func100, Tryz.ntmps100
        go_wp2_with fail
        go_ret
        exact ⟨by rw [hr.out]; rfl, below_new _ _⟩
      · obtain ⟨h1, h2⟩ := h'.out
        have hr : Hid (rightV ⟨0, 0, s⟩ = false) := by simp [rightV, h, Hid]
        go_enter Tryz.func100, Tryz.ntmps100
        go_wp2_with fail
        go_ret
        exact ⟨by rw [hr.out]; rfl, below_new _ _⟩
    · have hr : Hid (rightV ⟨0, n, s⟩ = false) := by simp [rightV, hn0, Hid]
      have hb : (n == 0) = false := by simp [hn0]
      go_enter Tryz.func100, Tryz.ntmps100
      go_wp2_with fail
      go_ret
      exact ⟨by rw [hr.out]; rfl, below_new _ _⟩
  by_cases h1 : k = 1
  · subst h1
    rcases hs with ⟨h, h'⟩ | ⟨h, h'⟩
    · obtain ⟨h1, h2⟩ := h'.out
      have hr : Hid (rightV ⟨1, n, s⟩ = true) := by simp [rightV, h, Hid]
      go_enter Tryz.func100, Tryz.ntmps100
      go_wp2_with fail
      go_ret
      exact ⟨by rw [hr.out]; rfl, below_new _ _⟩
    · obtain ⟨h1, h2⟩ := h'.out
      have hr : Hid (rightV ⟨1, n, s⟩ = false) := by simp [rightV, h, Hid]
      go_enter Tryz.func100, Tryz.ntmps100
      go_wp2_with fail
      go_ret
      exact ⟨by rw [hr.out]; rfl, below_new _ _⟩
  by_cases h2 : k = 2
  · subst h2
    by_cases hn0 : n = 0
    · subst hn0
      rcases hs with ⟨h, h'⟩ | ⟨h, h'⟩
      · obtain ⟨h1, h2⟩ := h'.out
        have hr : Hid (rightV ⟨2, 0, s⟩ = true) := by simp [rightV, h, Hid]
        go_enter Tryz.func100, Tryz.ntmps100
        go_wp2_with fail
        go_ret
        exact ⟨by rw [hr.out]; rfl, below_new _ _⟩
      · obtain ⟨h1, h2⟩ := h'.out
        have hr : Hid (rightV ⟨2, 0, s⟩ = false) := by simp [rightV, h, Hid]
        go_enter Tryz.func100, Tryz.ntmps100
        go_wp2_with fail
        go_ret
        exact ⟨by rw [hr.out]; rfl, below_new _ _⟩
    have hb : (n == 0) = false := by simp [hn0]
    by_cases hn1 : n = 1
    · subst hn1
      rcases hs with ⟨h, h'⟩ | ⟨h, h'⟩
      · obtain ⟨h1, h2⟩ := h'.out
        have hr : Hid (rightV ⟨2, 1, s⟩ = true) := by simp [rightV, h, Hid]
        go_enter Tryz.func100, Tryz.ntmps100
        go_wp2_with fail
        go_ret
        exact ⟨by rw [hr.out]; rfl, below_new _ _⟩
      · obtain ⟨h1, h2⟩ := h'.out
        have hr : Hid (rightV ⟨2, 1, s⟩ = false) := by simp [rightV, h, Hid]
        go_enter Tryz.func100, Tryz.ntmps100
        go_wp2_with fail
        go_ret
        exact ⟨by rw [hr.out]; rfl, below_new _ _⟩
    · have hr : Hid (rightV ⟨2, n, s⟩ = false) := by simp [rightV, hn0, hn1, Hid]
      have hb1 : (n == 1) = false := by simp [hn1]
      go_enter Tryz.func100, Tryz.ntmps100
      go_wp2_with fail
      go_ret
      exact ⟨by rw [hr.out]; rfl, below_new _ _⟩
  by_cases h3 : k = 3 ∨ k = 4
  · by_cases hn0 : n = 0
    · subst hn0
      by_cases hl : s.size ≤ 1000
      · have hr : Hid (rightV ⟨k, 0, s⟩ = true) := by rcases h3 with rfl | rfl <;> simp [rightV, hl, Hid]
        have hd : decide ((s.size : Int) ≤ 1000) = true := decide_eq_true (by omega)
        rcases h3 with rfl | rfl
        all_goals
          go_enter Tryz.func100, Tryz.ntmps100
          go_wp2_with fail
          go_ret
          exact ⟨by rw [hr.out]; rfl, below_new _ _⟩
      · have hr : Hid (rightV ⟨k, 0, s⟩ = false) := by rcases h3 with rfl | rfl <;> simp [rightV, hl, Hid]
        have hd : decide ((s.size : Int) ≤ 1000) = false := decide_eq_false (by omega)
        rcases h3 with rfl | rfl
        all_goals
          go_enter Tryz.func100, Tryz.ntmps100
          go_wp2_with fail
          go_ret
          exact ⟨by rw [hr.out]; rfl, below_new _ _⟩
    · have hr : Hid (rightV ⟨k, n, s⟩ = false) := by rcases h3 with rfl | rfl <;> simp [rightV, hn0, Hid]
      have hb : (n == 0) = false := by simp [hn0]
      rcases h3 with rfl | rfl
      all_goals
        go_enter Tryz.func100, Tryz.ntmps100
        go_wp2_with fail
        go_ret
        exact ⟨by rw [hr.out]; rfl, below_new _ _⟩
  · have hr : Hid (rightV ⟨k, n, s⟩ = false) := by simp [rightV, h0, h1, h2, show ¬ k = 3 from fun e => h3 (.inl e), show ¬ k = 4 from fun e => h3 (.inr e), Hid]
    have b0 : (k == 0) = false := by simp [h0]
    have b1 : (k == 1) = false := by simp [h1]
    have b2 : (k == 2) = false := by simp [h2]
    have b3 : (k == 3) = false := by simp [show ¬ k = 3 from fun e => h3 (.inl e)]
    have b4 : (k == 4) = false := by simp [show ¬ k = 4 from fun e => h3 (.inr e)]
    go_enter Tryz.func100, Tryz.ntmps100
    go_wp2_with fail
    go_ret
    exact ⟨by rw [hr.out]; rfl, below_new _ _⟩
end Go.Proofs.Pw
