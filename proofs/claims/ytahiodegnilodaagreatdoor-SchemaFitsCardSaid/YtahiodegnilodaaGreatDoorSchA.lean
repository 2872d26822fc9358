/- Package schema: the reader: take, num, flag, name. -/
import Derived.Test.YtahiodegnilodaaGreatDoorProg
import Derived.Test.YtahiodegnilodaaGreatDoorRefE
namespace Go.Proofs.Pw
open Go.RowKit

theorem str_eq {c : ByteArray} (h : c.size = 0) : c.toList.isEmpty = true ∧ c.toList = [] := by
  have h0 : c.toList = [] := by
    rw [ByteArray.toList_eq]
    apply List.eq_nil_of_length_eq_zero
    simpa using h
  exact ⟨by rw [h0]; rfl, h0⟩
theorem str_ne {c : ByteArray} (h : 0 < c.size) : c.toList.isEmpty = false ∧ ¬ c.toList = [] := by
  have h0 : ¬ c.toList = [] := by
    intro h'
    rw [ByteArray.toList_eq] at h'
    have h2 := congrArg List.length h'
    simp at h2
    have : c.size = 0 := by rw [h2]; rfl
    omega
  exact ⟨by simpa using h0, h0⟩
def pTake (s : ByteArray) (bad : Bool) (n : Int) : ByteArray × ByteArray × Bool :=
  if (s.size : Int) < n then (s, ByteArray.empty, true) else (s.extract 0 n.toNat, s.extract n.toNat s.size, bad)
def pNum (s : ByteArray) (bad : Bool) : Int × ByteArray × Bool :=
  let r := pTake s bad 1
  if h : 0 < r.1.size then ((r.1[0].toNat : Int), r.2.1, r.2.2) else (0, r.2.1, r.2.2)
def pFlag (s : ByteArray) (bad : Bool) : Bool × ByteArray × Bool :=
  let r := pNum s bad
  (r.1 == 1, r.2.1, r.2.2 || decide (1 < r.1))
def pName (s : ByteArray) (bad : Bool) : ByteArray × ByteArray × Bool :=
  let r := pNum s bad
  pTake r.2.1 r.2.2 r.1
theorem pNum_range (s : ByteArray) (bad : Bool) : 0 ≤ (pNum s bad).1 ∧ (pNum s bad).1 ≤ 255 := by
  unfold pNum
  simp only
  split
  · have := (pTake s bad 1).1[0].toNat_lt; simp; omega
  · simp
theorem pTake_size (s : ByteArray) (bad : Bool) (n : Int) : (pTake s bad n).2.1.size ≤ s.size ∧ (pTake s bad n).1.size ≤ s.size ∧ (0 ≤ n → ((pTake s bad n).1.size : Int) ≤ n) := by
  unfold pTake
  split
  · simp; omega
  · simp; omega
theorem pNum_size (s : ByteArray) (bad : Bool) : (pNum s bad).2.1.size ≤ s.size := by
  have h := (pTake_size s bad 1).1
  unfold pNum
  simp only
  split <;> exact h
theorem pFlag_size (s : ByteArray) (bad : Bool) : (pFlag s bad).2.1.size ≤ s.size := pNum_size s bad
theorem pName_size (s : ByteArray) (bad : Bool) : (pName s bad).2.1.size ≤ s.size := Nat.le_trans (pTake_size _ _ _).1 (pNum_size s bad)
theorem pName_len (s : ByteArray) (bad : Bool) : (pName s bad).1.size ≤ 255 := by
  have h1 := pNum_range s bad
  have h2 := (pTake_size (pNum s bad).2.1 (pNum s bad).2.2 (pNum s bad).1).2.2 h1.1
  have h3 : (((pName s bad).1.size : Nat) : Int) ≤ (pNum s bad).1 := h2
  omega

set_option maxHeartbeats 400000 in
theorem Ptake_any (p : Nat) (s : ByteArray) (bad : Bool) (n : Int) (w : World) (hs : s.size ≤ 140737488351232) (hn : 0 ≤ n) (hb : Box w p 68 [.string s, .bool bad]) :
    Calls Tryz.prog 89 #[.pointer (some ⟨p, 0, none⟩), .int .i64 n] w (ROut 68 p w (.string (pTake s bad n).1) (pTake s bad n).2.1 (pTake s bad n).2.2) := by
  have h0 := hb.cell 0 rfl
  have h1 := hb.cell 1 rfl
  have f0 := hb.frozen 0
  have f1 := hb.frozen 1
  have HB := Lib.hid hb
  clear hb
  by_cases h : (s.size : Int) < n
  · have HT : Hid (pTake s bad n = (s, ByteArray.empty, true)) := by unfold pTake; rw [if_pos h]; rfl
    go_enter Tryz.func89, Tryz.ntmps89
    go_wp2_with fail
    go_ret
    rw [HT.out]
    exact ⟨rfl, (HB.out.set 1 (.bool true)).set 0 _, grown_trans (grown_set _ _ _ _) (grown_set _ _ _ _)⟩
  · obtain ⟨n, rfl⟩ := Int.eq_ofNat_of_zero_le hn
    have HT : Hid (pTake s bad n = (s.extract 0 n, s.extract n s.size, bad)) := by unfold pTake; rw [if_neg h]; rfl
    go_enter Tryz.func89, Tryz.ntmps89
    go_wp2_with fail
    go_ret
    rw [HT.out]
    exact ⟨rfl, HB.out.set 0 _, grown_set _ _ _ _⟩

set_option maxHeartbeats 400000 in
theorem Pnum_any (p : Nat) (s : ByteArray) (bad : Bool) (w : World) (hs : s.size ≤ 140737488351232) (hb : Box w p 68 [.string s, .bool bad]) :
    Calls Tryz.prog 39 #[.pointer (some ⟨p, 0, none⟩)] w (ROut 68 p w (.int .i64 (pNum s bad).1) (pNum s bad).2.1 (pNum s bad).2.2) := by
  have HB := Lib.hid hb
  clear hb
  have HN : ∀ x, Hid (x = pNum s bad) → Hid (x = if h : 0 < (pTake s bad 1).1.size then (((pTake s bad 1).1[0].toNat : Int), (pTake s bad 1).2.1, (pTake s bad 1).2.2) else (0, (pTake s bad 1).2.1, (pTake s bad 1).2.2)) := fun x h => h
  have HN' := HN _ rfl
  clear HN
  generalize pNum s bad = R at *
  go_enter Tryz.func39, Tryz.ntmps39
  go_wp2_with fail
  refine (Ptake_any p s bad 1 _ hs (by decide) HB.out).mono ?_
  rintro e w1 ⟨rfl, hb1, hg1⟩
  have hsz := pTake_size s bad 1
  generalize pTake s bad 1 = r at *
  obtain ⟨c, s1, b1⟩ := r
  dsimp only at *
  have HB1 := Lib.hid hb1
  have HG1 := Lib.hid hg1
  clear hb1 hg1
  by_cases h : 0 < c.size
  · rw [dif_pos h] at HN'
    obtain ⟨hc', hc''⟩ := str_ne h
    go_wp2_with fail
    go_ret
    rw [HN'.out]
    exact ⟨congrArg (fun z => Ending.returned (.int .i64 z)) (w64 _), HB1.out, HG1.out⟩
  · rw [dif_neg h] at HN'
    obtain ⟨hc', hc''⟩ := str_eq (show c.size = 0 by omega)
    go_wp2_with fail
    go_ret
    rw [HN'.out]
    exact ⟨rfl, HB1.out, HG1.out⟩

set_option maxHeartbeats 400000 in
theorem Pflag_any (p : Nat) (s : ByteArray) (bad : Bool) (w : World) (hs : s.size ≤ 140737488351232) (hb : Box w p 68 [.string s, .bool bad]) :
    Calls Tryz.prog 41 #[.pointer (some ⟨p, 0, none⟩)] w (ROut 68 p w (.bool (pFlag s bad).1) (pFlag s bad).2.1 (pFlag s bad).2.2) := by
  have HB := Lib.hid hb
  clear hb
  have HF : ∀ x, Hid (x = pFlag s bad) → Hid (x = ((pNum s bad).1 == 1, (pNum s bad).2.1, (pNum s bad).2.2 || decide (1 < (pNum s bad).1))) := fun x h => h
  have HF' := HF _ rfl
  clear HF
  generalize pFlag s bad = R at *
  go_enter Tryz.func41, Tryz.ntmps41
  go_wp2_with fail
  refine (Pnum_any p s bad _ hs HB.out).mono ?_
  rintro e w1 ⟨rfl, hb1, hg1⟩
  generalize pNum s bad = r at *
  obtain ⟨n, s1, b1⟩ := r
  dsimp only at *
  have h1 := hb1.cell 1 rfl
  have f1 := hb1.frozen 1
  have HB1 := Lib.hid hb1
  have HG1 := Lib.hid hg1
  clear hb1 hg1
  cases b1 with
  | true =>
    go_wp2_with fail
    go_ret
    rw [HF'.out]
    exact ⟨rfl, HB1.out.set 1 _, grown_trans HG1.out (grown_set _ _ _ _)⟩
  | false =>
    go_wp2_with fail
    go_ret
    rw [HF'.out]
    exact ⟨rfl, HB1.out.set 1 _, grown_trans HG1.out (grown_set _ _ _ _)⟩

set_option maxHeartbeats 400000 in
theorem Pname_any (p : Nat) (s : ByteArray) (bad : Bool) (w : World) (hs : s.size ≤ 140737488351232) (hb : Box w p 68 [.string s, .bool bad]) :
    Calls Tryz.prog 40 #[.pointer (some ⟨p, 0, none⟩)] w (ROut 68 p w (.string (pName s bad).1) (pName s bad).2.1 (pName s bad).2.2) := by
  have HB := Lib.hid hb
  clear hb
  have HF : ∀ x, Hid (x = pName s bad) → Hid (x = pTake (pNum s bad).2.1 (pNum s bad).2.2 (pNum s bad).1) := fun x h => h
  have HF' := HF _ rfl
  clear HF
  generalize pName s bad = R at *
  go_enter Tryz.func40, Tryz.ntmps40
  go_wp2_with fail
  refine (Pnum_any p s bad _ hs HB.out).mono ?_
  rintro e w1 ⟨rfl, hb1, hg1⟩
  have hr := pNum_range s bad
  have hz := pNum_size s bad
  generalize pNum s bad = r at *
  obtain ⟨n, s1, b1⟩ := r
  dsimp only at *
  have HB1 := Lib.hid hb1
  have HG1 := Lib.hid hg1
  clear hb1 hg1
  go_wp2_with fail
  refine (Ptake_any p s1 b1 n _ (by omega) hr.1 HB1.out).mono ?_
  rintro e w2 ⟨rfl, hb2, hg2⟩
  go_wp2_with fail
  go_ret
  rw [HF'.out]
  exact ⟨rfl, hb2, grown_trans HG1.out hg2⟩
end Go.Proofs.Pw
