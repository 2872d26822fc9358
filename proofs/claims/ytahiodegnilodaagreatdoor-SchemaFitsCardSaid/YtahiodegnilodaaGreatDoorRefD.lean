/- The reference of layer 12: the reader's byte, flag, name. -/
import Derived.Test.YtahiodegnilodaaGreatDoorProg
import Derived.Test.YtahiodegnilodaaGreatDoorBx
namespace Go.Proofs.Pw
open Go.RowKit

/-- The first byte, and what is left. -/
def rByte (s : ByteArray) (bad : Bool) : Int × ByteArray × Bool :=
  if bad then (0, s, true) else if h : 0 < s.size then ((s[0].toNat : Int), s.extract 1 s.size, false) else (0, s, true)
def rFlag (s : ByteArray) (bad : Bool) : Bool × ByteArray × Bool :=
  let r := rByte s bad
  if 1 < r.1 then (r.1 == 1, r.2.1, true) else (r.1 == 1, r.2.1, r.2.2)
def rName (s : ByteArray) (bad : Bool) : ByteArray × ByteArray × Bool :=
  let r := rByte s bad
  if r.2.2 then (⟨#[]⟩, r.2.1, true) else if (r.2.1.size : Int) < r.1 then (⟨#[]⟩, r.2.1, true) else (r.2.1.extract 0 r.1.toNat, r.2.1.extract r.1.toNat r.2.1.size, false)
/-- The reader's box p: v is handed back, and s', bad' are left. -/
def ROut (T p : Nat) (w : World) (v : Value) (s : ByteArray) (bad : Bool) (e : Ending) (w' : World) : Prop :=
  e = .returned v ∧ Box w' p T [.string s, .bool bad] ∧ w.grownBy w' (some p)
theorem w64 (c : UInt8) : wrap64 (c.toNat : Int) = (c.toNat : Int) := by
  have := c.toNat_lt
  unfold wrap64; omega
theorem rByte_bad (s : ByteArray) : rByte s true = (0, s, true) := rfl
theorem rByte_nil (s : ByteArray) (h : s.size = 0) : rByte s false = (0, s, true) := by unfold rByte; rw [if_neg (by decide), dif_neg (by omega)]
theorem rByte_some (s : ByteArray) (h : 0 < s.size) : rByte s false = ((s[0].toNat : Int), s.extract 1 s.size, false) := by unfold rByte; rw [if_neg (by decide), dif_pos h]
theorem rByte_range (s : ByteArray) (bad : Bool) : 0 ≤ (rByte s bad).1 ∧ (rByte s bad).1 ≤ 255 := by
  unfold rByte
  split
  · simp
  · split
    · have := s[0].toNat_lt; simp; omega
    · simp
theorem rByte_size (s : ByteArray) (bad : Bool) : (rByte s bad).2.1.size ≤ s.size := by
  unfold rByte
  split
  · simp
  · split <;> simp

set_option maxHeartbeats 400000 in
theorem Rbyte_any (p : Nat) (s : ByteArray) (bad : Bool) (w : World) (hs : s.size ≤ 140737488351232) (hb : Box w p 74 [.string s, .bool bad]) :
    Calls Tryz.prog 43 #[.pointer (some ⟨p, 0, none⟩)] w (ROut 74 p w (.int .i64 (rByte s bad).1) (rByte s bad).2.1 (rByte s bad).2.2) := by
  have h0 := hb.cell 0 rfl
  have h1 := hb.cell 1 rfl
  have f0 := hb.frozen 0
  have f1 := hb.frozen 1
  have HB := Lib.hid hb
  clear hb
  cases bad with
  | true =>
    go_enter Tryz.func43, Tryz.ntmps43
    go_wp2_with fail
    go_ret
    exact ⟨by rw [rByte_bad]; rfl, HB.out.set 1 (.bool true), grown_set _ _ _ _⟩
  | false =>
    by_cases h : s.size = 0
    · go_enter Tryz.func43, Tryz.ntmps43
      go_wp2_with fail
      go_ret
      exact ⟨by rw [rByte_nil s h]; rfl, by rw [rByte_nil s h]; exact HB.out.set 1 (.bool true), grown_set _ _ _ _⟩
    · have h' : 0 < s.size := by omega
      go_enter Tryz.func43, Tryz.ntmps43
      go_wp2_with fail
      go_ret
      exact ⟨by rw [rByte_some s h']; exact congrArg (fun z => Ending.returned (.int .i64 z)) (w64 _), by rw [rByte_some s h']; exact HB.out.set 0 _, grown_set _ _ _ _⟩

set_option maxHeartbeats 400000 in
theorem Rflag_any (p : Nat) (s : ByteArray) (bad : Bool) (w : World) (hs : s.size ≤ 140737488351232) (hb : Box w p 74 [.string s, .bool bad]) :
    Calls Tryz.prog 45 #[.pointer (some ⟨p, 0, none⟩)] w (ROut 74 p w (.bool (rFlag s bad).1) (rFlag s bad).2.1 (rFlag s bad).2.2) := by
  have HB := Lib.hid hb
  have hr := rByte_range s bad
  go_enter Tryz.func45, Tryz.ntmps45
  go_wp2_with fail
  refine (Rbyte_any p s bad _ hs HB.out).mono ?_
  rintro e w1 ⟨rfl, hb1, hg1⟩
  have h0 := hb1.cell 0 rfl
  have h1 := hb1.cell 1 rfl
  have f1 := hb1.frozen 1
  have HF : ∀ x, Hid (x = rFlag s bad) → Hid (x = if 1 < (rByte s bad).1 then ((rByte s bad).1 == 1, (rByte s bad).2.1, true) else ((rByte s bad).1 == 1, (rByte s bad).2.1, (rByte s bad).2.2)) := fun x h => h
  have HF' := HF _ rfl
  clear HF
  generalize rFlag s bad = R at *
  generalize rByte s bad = r at *
  obtain ⟨n, s1, b1⟩ := r
  have HB1 := Lib.hid hb1
  have HG1 := Lib.hid hg1
  clear hb1 hg1 hb
  dsimp only at *
  by_cases hn : 1 < n
  · rw [if_pos hn] at HF'
    go_wp2_with fail
    go_ret
    rw [HF'.out]
    exact ⟨rfl, HB1.out.set 1 _, grown_trans HG1.out (grown_set _ _ _ _)⟩
  · rw [if_neg hn] at HF'
    go_wp2_with fail
    go_ret
    rw [HF'.out]
    exact ⟨rfl, HB1.out, HG1.out⟩

set_option maxHeartbeats 400000 in
theorem Rname_any (p : Nat) (s : ByteArray) (bad : Bool) (w : World) (hs : s.size ≤ 140737488351232) (hb : Box w p 74 [.string s, .bool bad]) :
    Calls Tryz.prog 44 #[.pointer (some ⟨p, 0, none⟩)] w (ROut 74 p w (.string (rName s bad).1) (rName s bad).2.1 (rName s bad).2.2) := by
  have HB := Lib.hid hb
  have hr := rByte_range s bad
  have hz := rByte_size s bad
  go_enter Tryz.func44, Tryz.ntmps44
  go_wp2_with fail
  refine (Rbyte_any p s bad _ hs HB.out).mono ?_
  rintro e w1 ⟨rfl, hb1, hg1⟩
  have h0 := hb1.cell 0 rfl
  have h1 := hb1.cell 1 rfl
  have f0 := hb1.frozen 0
  have f1 := hb1.frozen 1
  have HF : ∀ x, Hid (x = rName s bad) → Hid (x = if (rByte s bad).2.2 then ((⟨#[]⟩ : ByteArray), (rByte s bad).2.1, true) else if ((rByte s bad).2.1.size : Int) < (rByte s bad).1 then (⟨#[]⟩, (rByte s bad).2.1, true) else ((rByte s bad).2.1.extract 0 (rByte s bad).1.toNat, (rByte s bad).2.1.extract (rByte s bad).1.toNat (rByte s bad).2.1.size, false)) := fun x h => h
  have HF' := HF _ rfl
  clear HF
  generalize rName s bad = R at *
  generalize rByte s bad = r at *
  obtain ⟨n, s1, b1⟩ := r
  have HB1 := Lib.hid hb1
  have HG1 := Lib.hid hg1
  clear hb1 hg1 hb
  dsimp only at *
  cases b1 with
  | true =>
    rw [if_pos rfl] at HF'
    go_wp2_with fail
    go_ret
    rw [HF'.out]
    exact ⟨rfl, HB1.out.set 1 _, grown_trans HG1.out (grown_set _ _ _ _)⟩
  | false =>
    rw [if_neg (by decide)] at HF'
    by_cases hn : (s1.size : Int) < n
    · rw [if_pos hn] at HF'
      go_wp2_with fail
      go_ret
      rw [HF'.out]
      exact ⟨rfl, HB1.out.set 1 _, grown_trans HG1.out (grown_set _ _ _ _)⟩
    · rw [if_neg hn] at HF'
      obtain ⟨m, rfl⟩ := Int.eq_ofNat_of_zero_le hr.1
      go_wp2_with fail
      go_ret
      rw [HF'.out]
      exact ⟨rfl, HB1.out.set 0 _, grown_trans HG1.out (grown_set _ _ _ _)⟩
end Go.Proofs.Pw
