/- Package schema: the reader's names. -/
import Derived.Test.YtahiodegnilodaaGreatDoorSchA
namespace Go.Proofs.Pw
open Go.RowKit

def pNames : Nat → ByteArray → Bool → List ByteArray → List ByteArray × ByteArray × Bool
  | 0, s, bad, acc => (acc, s, bad)
  | k + 1, s, bad, acc => if bad then pNames k s bad acc else
    let a := pName s bad
    pNames k a.2.1 a.2.2 (acc ++ [a.1])
/-- A new list of texts is handed back; the reader's box p has turned. -/
def NOut (T p : Nat) (e' : TypeId) (w : World) (R : List ByteArray × ByteArray × Bool) (e : Ending) (w' : World) : Prop :=
  ∃ A c, e = .returned (.slice A R.1.length c) ∧ Box w' p T [.string R.2.1, .bool R.2.2] ∧ Chg [p] w w' ∧ w'.ownsRow w.heap.size e' 1 (.slice A R.1.length c) R.1.length (R.1.flatMap encS)
theorem pNames_len : ∀ (k : Nat) (s : ByteArray) (bad : Bool) (acc : List ByteArray), (pNames k s bad acc).1.length ≤ acc.length + k
  | 0, _, _, _ => by simp [pNames]
  | k + 1, s, bad, acc => by
    rw [pNames]
    split
    · have := pNames_len k s bad acc; omega
    · have := pNames_len k (pName s bad).2.1 (pName s bad).2.2 (acc ++ [(pName s bad).1])
      simp at this ⊢; omega
theorem pNames_size : ∀ (k : Nat) (s : ByteArray) (bad : Bool) (acc : List ByteArray), (pNames k s bad acc).2.1.size ≤ s.size
  | 0, _, _, _ => by simp [pNames]
  | k + 1, s, bad, acc => by
    rw [pNames]
    split
    · exact pNames_size k s bad acc
    · exact Nat.le_trans (pNames_size k _ _ _) (pName_size s bad)

set_option maxHeartbeats 1000000 in
theorem Pnames_any (p : Nat) (s : ByteArray) (bad : Bool) (w : World) (hs : s.size ≤ 140737488351232) (hb : Box w p 68 [.string s, .bool bad]) :
    Calls Tryz.prog 42 #[.pointer (some ⟨p, 0, none⟩)] w (NOut 68 p 9 w (pNames (pNum s bad).1.toNat (pNum s bad).2.1 (pNum s bad).2.2 [])) := by
  have hps := hb.lt
  have HB := Lib.hid hb
  clear hb
  generalize hR : pNames (pNum s bad).1.toNat (pNum s bad).2.1 (pNum s bad).2.2 [] = R at *
  have HR := Lib.hid hR
  clear hR
  go_enter Tryz.func42, Tryz.ntmps42
  go_wp2_with fail
  refine (Pnum_any p s bad _ hs HB.out).mono ?_
  rintro e w1 ⟨rfl, hb1, hg1⟩
  have hr := pNum_range s bad
  have hz := pNum_size s bad
  generalize pNum s bad = r at *
  obtain ⟨n, s1, b1⟩ := r
  dsimp only at *
  obtain ⟨n, rfl⟩ := Int.eq_ofNat_of_zero_le hr.1
  rw [Int.toNat_natCast] at HR
  have hn' : n ≤ 255 := by omega
  have HB1 := Lib.hid hb1
  have HC1 := Lib.hid (Chg.ofGrown hg1)
  clear hb1 hg1 hr
  go_wp2_with fail
  go_loopw [3, 6] (fun v i wr => ∃ (j : Nat) (s : ByteArray) (bad : Bool) (l : List ByteArray) (m : Nat) (A : Option Addr) (c : Nat), j ≤ n ∧ i = .int .i64 j ∧ v = .slice A m c ∧ s.size ≤ 140737488351232 ∧ m ≤ j ∧ Hid (l.length = m) ∧ Hid (pNames (n - j) s bad l = R) ∧ Hid (Chg [p] w wr) ∧ Hid (Box wr p 68 [.string s, .bool bad]) ∧
    Hid (wr.ownsRow w.heap.size 9 1 (.slice A m c) m (l.flatMap encS))) (fun _ i _ => n - (intOf i).toNat)
  case atStart => exact ⟨0, s1, b1, [], 0, none, 0, by omega, rfl, rfl, by omega, by omega, rfl, HR.out, HC1.out, HB1.out, row_nil _ _ _ _⟩
  case round =>
    obtain ⟨j, s, bad, l, m, A, c, hj, rfl, rfl, hsl, hmj, hal, hq, HC, HP, HO⟩ := hrel
    have h1 := HP.out.cell 1 rfl
    have hzw := HC.out.size
    by_cases hlt : j < n
    · cases bad with
      | true =>
        rw [show n - j = (n - (j + 1)) + 1 from by omega, pNames, if_pos rfl] at hq
        go_wp2_with fail
        go_roundw
        case rel => exact ⟨j + 1, s, true, l, m, A, c, by omega, by go_num, rfl, hsl, by omega, hal, hq, HC.out, HP.out, HO.out⟩
        case measure => simp [intOf]; omega
      | false =>
        rw [show n - j = (n - (j + 1)) + 1 from by omega, pNames, if_neg (by decide)] at hq
        have hs2 := pName_size s false
        go_wp2_with fail
        refine (Pname_any p s false _ hsl HP.out).mono ?_
        rintro e w2 ⟨rfl, hP2, hg2⟩
        generalize pName s false = r2 at *
        obtain ⟨nm, s2, b2⟩ := r2
        dsimp only at *
        have hc2 := HC.out.trans (Chg.ofGrown hg2)
        have HO2 := Lib.hid (row_chg HO.out (Chg.ofGrown hg2) (by simp; omega))
        have hz2 := hc2.size
        have HC2 := Lib.hid hc2
        have HP2 := Lib.hid hP2
        clear hc2 hP2 hg2
        go_wp2_with (at_builtin; go_loud (refine append_one w.heap.size _ _ 24 9 _ 1 16 Tryz.underlying24 Tryz.infoStr rfl (by decide) (by decide) (.slice A m c) m (l.flatMap encS) [.string nm] HO2.out hz2 (by omega) rfl (by simp [Value.oneCell']) rfl rfl _ rfl rfl rfl ?_); intro v1 w5 hO6 hg6; obtain ⟨A1, c1, rfl⟩ := row_form hO6; have HG6 := Lib.hid hg6; clear hg6; have HO6 := Lib.hid hO6; clear hO6)
        have hC6 := HC2.out.app HO2.out HG6.out
        have hP6 := HP2.out.app HO2.out HG6.out hps
        go_roundw
        case rel => exact ⟨j + 1, s2, b2, l ++ [nm], m + 1, A1, c1, by omega, by go_num, rfl, by omega, by omega, by rw [List.length_append, hal.out]; exact rfl, hq, hC6, hP6, by rw [List.flatMap_append]; exact HO6.out⟩
        case measure => simp [intOf]; omega
    · rw [show n - j = 0 from by omega, pNames] at hq
      go_wp2_with fail
      go_ret
      rw [← hq.out]
      dsimp only
      exact ⟨A, c, by rw [hal.out]; rfl, HP.out, HC.out, by rw [hal.out]; exact HO.out⟩
end Go.Proofs.Pw
