/- The program's schema.Read. -/
import Derived.Test.YtahiodegnilodaaGreatDoorMapD
import Derived.Test.YtahiodegnilodaaGreatDoorSchB
namespace Go.Proofs.Pw
open Go.RowKit

def pCols : Nat → ByteArray → Bool → List PCol → List PCol × ByteArray × Bool
  | 0, s, bad, acc => (acc, s, bad)
  | k + 1, s, bad, acc => if bad then pCols k s bad acc else
    let a := pName s bad
    let t := pNum a.2.1 a.2.2
    let f := pFlag t.2.1 t.2.2
    pCols k f.2.1 f.2.2 (acc ++ [⟨a.1, t.1, f.1⟩])
def pIdxs : Nat → ByteArray → Bool → List PIdx → List PIdx × ByteArray × Bool
  | 0, s, bad, acc => (acc, s, bad)
  | k + 1, s, bad, acc => if bad then pIdxs k s bad acc else
    let a := pName s bad
    let f := pFlag a.2.1 a.2.2
    let m := pNum f.2.1 f.2.2
    let l := pNames m.1.toNat m.2.1 m.2.2 []
    pIdxs k l.2.1 l.2.2 (acc ++ [⟨a.1, l.1, f.1⟩])
def readP (b : ByteArray) : PSch × Bool :=
  let n := pNum b false
  let cs := pCols n.1.toNat n.2.1 n.2.2 []
  let m := pNum cs.2.1 cs.2.2
  let ks := pNames m.1.toNat m.2.1 m.2.2 []
  let o := pNum ks.2.1 ks.2.2
  let xs := pIdxs o.1.toNat o.2.1 o.2.2 []
  if xs.2.2 then (⟨[], [], []⟩, false) else if xs.2.1.size ≠ 0 then (⟨[], [], []⟩, false) else if rightP ⟨cs.1, ks.1, xs.1⟩ then (⟨cs.1, ks.1, xs.1⟩, true) else (⟨[], [], []⟩, false)
theorem pCols_names : ∀ (k : Nat) (s : ByteArray) (bad : Bool) (acc : List PCol), (∀ c ∈ acc, c.name.size ≤ 255) → ∀ c ∈ (pCols k s bad acc).1, c.name.size ≤ 255
  | 0, _, _, _, h => h
  | k + 1, s, bad, acc, h => by
    rw [pCols]
    split
    · exact pCols_names k _ _ _ h
    · refine pCols_names k _ _ _ fun c hc => ?_
      rcases List.mem_append.1 hc with hc | hc
      · exact h c hc
      · simp only [List.mem_singleton] at hc
        subst hc
        exact pName_len _ _
theorem pCols_size : ∀ (k : Nat) (s : ByteArray) (bad : Bool) (acc : List PCol), (pCols k s bad acc).2.1.size ≤ s.size
  | 0, _, _, _ => Nat.le_refl _
  | k + 1, s, bad, acc => by
    rw [pCols]
    split
    · exact pCols_size k s bad acc
    · exact Nat.le_trans (pCols_size k _ _ _) (Nat.le_trans (pFlag_size _ _) (Nat.le_trans (pNum_size _ _) (pName_size s bad)))
theorem pIdxs_size : ∀ (k : Nat) (s : ByteArray) (bad : Bool) (acc : List PIdx), (pIdxs k s bad acc).2.1.size ≤ s.size
  | 0, _, _, _ => Nat.le_refl _
  | k + 1, s, bad, acc => by
    rw [pIdxs]
    split
    · exact pIdxs_size k s bad acc
    · exact Nat.le_trans (pIdxs_size k _ _ _) (Nat.le_trans (pNames_size _ _ _ _) (Nat.le_trans (pNum_size _ _) (Nat.le_trans (pFlag_size _ _) (pName_size s bad))))
theorem pIdxs_names : ∀ (k : Nat) (s : ByteArray) (bad : Bool) (acc : List PIdx), (∀ c ∈ acc, c.name.size ≤ 255 ∧ c.cols.length ≤ 255) → ∀ c ∈ (pIdxs k s bad acc).1, c.name.size ≤ 255 ∧ c.cols.length ≤ 255
  | 0, _, _, _, h => h
  | k + 1, s, bad, acc, h => by
    rw [pIdxs]
    split
    · exact pIdxs_names k _ _ _ h
    · refine pIdxs_names k _ _ _ fun c hc => ?_
      rcases List.mem_append.1 hc with hc | hc
      · exact h c hc
      · simp only [List.mem_singleton] at hc
        subst hc
        refine ⟨pName_len _ _, ?_⟩
        dsimp only
        have h1 := pNum_range (pFlag (pName s bad).2.1 (pName s bad).2.2).2.1 (pFlag (pName s bad).2.1 (pName s bad).2.2).2.2
        have h2 := pNames_len (pNum (pFlag (pName s bad).2.1 (pName s bad).2.2).2.1 (pFlag (pName s bad).2.1 (pName s bad).2.2).2.2).1.toNat (pNum (pFlag (pName s bad).2.1 (pName s bad).2.2).2.1 (pFlag (pName s bad).2.1 (pName s bad).2.2).2.2).2.1 (pNum (pFlag (pName s bad).2.1 (pName s bad).2.2).2.1 (pFlag (pName s bad).2.1 (pName s bad).2.2).2.2).2.2 []
        simp only [List.length_nil] at h2
        omega

set_option maxRecDepth 100000 in
set_option maxHeartbeats 2000000 in
theorem PRead_any (b : ByteArray) (w : World) (hs : b.size ≤ 140737488351232) :
    Calls Tryz.prog 9 #[.string b] w (ReadPost w (readP b)) := by
  generalize hRF : readP b = RF
  unfold readP at hRF
  have Hrd := Lib.hid hRF
  clear hRF
  go_enter Tryz.func9, Tryz.ntmps9
  go_wp2_with fail
  have hP : Box (((w.alloc (.cells #[.slice none 0 0, .slice none 0 0, .slice none 0 0] 27)).alloc (.cells #[.string b, .bool false] 68)).alloc (.cells #[.slice none 0 0, .slice none 0 0, .slice none 0 0] 27)) (w.heap.size + 1) 68 [.string b, .bool false] := by
    have := (Box.new (w.alloc (.cells #[.slice none 0 0, .slice none 0 0, .slice none 0 0] 27)) [.string b, .bool false] 68).alloc (.cells #[.slice none 0 0, .slice none 0 0, .slice none 0 0] 27)
    simpa using this
  have hR : Box (((w.alloc (.cells #[.slice none 0 0, .slice none 0 0, .slice none 0 0] 27)).alloc (.cells #[.string b, .bool false] 68)).alloc (.cells #[.slice none 0 0, .slice none 0 0, .slice none 0 0] 27)) w.heap.size 27 [.slice none 0 0, .slice none 0 0, .slice none 0 0] :=
    ((Box.new w [.slice none 0 0, .slice none 0 0, .slice none 0 0] 27).alloc _).alloc _
  have hQ : Box (((w.alloc (.cells #[.slice none 0 0, .slice none 0 0, .slice none 0 0] 27)).alloc (.cells #[.string b, .bool false] 68)).alloc (.cells #[.slice none 0 0, .slice none 0 0, .slice none 0 0] 27)) (w.heap.size + 1 + 1) 27 [.slice none 0 0, .slice none 0 0, .slice none 0 0] := by
    have := Box.new ((w.alloc (.cells #[.slice none 0 0, .slice none 0 0, .slice none 0 0] 27)).alloc (.cells #[.string b, .bool false] 68)) [.slice none 0 0, .slice none 0 0, .slice none 0 0] 27
    simpa using this
  have hB : Below w.heap.size w (((w.alloc (.cells #[.slice none 0 0, .slice none 0 0, .slice none 0 0] 27)).alloc (.cells #[.string b, .bool false] 68)).alloc (.cells #[.slice none 0 0, .slice none 0 0, .slice none 0 0] 27)) :=
    below_next (below_next (below_new _ _) (below_new _ _)) (below_new _ _)
  have hsz : (((w.alloc (.cells #[.slice none 0 0, .slice none 0 0, .slice none 0 0] 27)).alloc (.cells #[.string b, .bool false] 68)).alloc (.cells #[.slice none 0 0, .slice none 0 0, .slice none 0 0] 27)).heap.size = w.heap.size + 1 + 1 + 1 := by simp
  generalize (((w.alloc (.cells #[.slice none 0 0, .slice none 0 0, .slice none 0 0] 27)).alloc (.cells #[.string b, .bool false] 68)).alloc (.cells #[.slice none 0 0, .slice none 0 0, .slice none 0 0] 27)) = W at *
  obtain ⟨B0, hB0⟩ : ∃ B0, B0 = w.heap.size + 1 + 1 + 1 := ⟨_, rfl⟩
  have hq1 : w.heap.size + 1 + 1 < B0 := by omega
  have hszW : B0 ≤ W.heap.size := by omega
  clear hsz hB0
  generalize hp : w.heap.size + 1 = p at *
  have hrp : w.heap.size < p := by omega
  clear hp
  generalize hq : p + 1 = q at *
  have hpq : p < q := by omega
  clear hq
  refine (Pnum_any p b false _ hs hP).mono ?_
  rintro e w1 ⟨rfl, hP1, hg1⟩
  have hc1 := Chg.ofGrown hg1
  have hR1 := hR.chg hc1 (by simp; omega)
  have hQ1 := hQ.chg hc1 (by simp; omega)
  have hB1 := hc1.below hB (by simp; omega)
  have hz1 : B0 ≤ w1.heap.size := Nat.le_trans hszW hc1.size
  have hn := pNum_range b false
  have hsz1 := pNum_size b false
  generalize hr1 : pNum b false = r1 at *
  obtain ⟨n, s1, b1⟩ := r1
  dsimp only at *
  obtain ⟨n, rfl⟩ := Int.eq_ofNat_of_zero_le hn.1
  have hn' : n ≤ 255 := by omega
  clear hn hP hR hQ hB hg1 hc1 hszW
  rw [Int.toNat_natCast] at Hrd
  have HB1 := Lib.hid hB1
  have HP1 := Lib.hid hP1
  have HQ1 := Lib.hid hQ1
  have HR1 := Lib.hid hR1
  clear hB1 hP1 hQ1 hR1
  have hnC := pCols_names n s1 b1 [] (by simp)
  have hsC := pCols_size n s1 b1 []
  generalize hRC : pCols n s1 b1 [] = RC at *
  have HRC := Lib.hid hRC
  have HnC := Lib.hid hnC
  clear hRC hnC
  go_wp2_with fail
  go_loopw [11] (fun i wr => ∃ (j : Nat) (s : ByteArray) (bad : Bool) (acc : List PCol) (m : Nat) (A : Option Addr) (c : Nat), j ≤ n ∧ i = .int .i64 j ∧ s.size ≤ 140737488351232 ∧ m ≤ j ∧ Hid (acc.length = m) ∧ Hid (pCols (n - j) s bad acc = RC) ∧ Hid (Below w.heap.size w wr) ∧ B0 ≤ wr.heap.size ∧
    Hid (Box wr p 68 [.string s, .bool bad]) ∧ Hid (Box wr w.heap.size 27 [.slice none 0 0, .slice none 0 0, .slice none 0 0]) ∧ Hid (Box wr q 27 [.slice A m c, .slice none 0 0, .slice none 0 0]) ∧ Hid (wr.ownsRow B0 45 3 (.slice A m c) m (acc.flatMap encC))) (fun i _ => n - (intOf i).toNat)
  case atStart => exact ⟨0, s1, b1, [], 0, none, 0, by omega, rfl, by omega, by omega, rfl, HRC.out, HB1.out, hz1, HP1.out, HR1.out, HQ1.out, row_nil _ _ _ _⟩
  case round =>
    clear HB1 HP1 HQ1 HR1 hz1 hr1 hsz1
    obtain ⟨j, s, bad, acc, m, A, c, hj, rfl, hsl, hmj, hal, hq0, HB, hz, HP, HR, HQ, HO⟩ := hrel
    have h1 := HP.out.cell 1 rfl
    by_cases hlt : j < n
    · cases bad with
      | true =>
        rw [show n - j = (n - (j + 1)) + 1 from by omega, pCols, if_pos rfl] at hq0
        go_wp2_with fail
        go_roundw
        case rel => exact ⟨j + 1, s, true, acc, m, A, c, by omega, by go_num, hsl, by omega, hal, hq0, HB.out, hz, HP.out, HR.out, HQ.out, HO.out⟩
        case measure => simp [intOf]; omega
      | false =>
        rw [show n - j = (n - (j + 1)) + 1 from by omega, pCols, if_neg (by decide)] at hq0
        have q0 := HQ.out.cell 0 rfl
        have hs2 := pName_size s false
        generalize hr2 : pName s false = r2 at *
        obtain ⟨nm, s2, b2⟩ := r2
        dsimp only at *
        have hs3 := pNum_size s2 b2
        generalize hr3 : pNum s2 b2 = r3 at *
        obtain ⟨ty, s3, b3⟩ := r3
        dsimp only at *
        have hs4 := pFlag_size s3 b3
        generalize hr4 : pFlag s3 b3 = r4 at *
        obtain ⟨fl, s4, b4⟩ := r4
        dsimp only at *
        have Hr2 := Lib.hid hr2
        have Hr3 := Lib.hid hr3
        have Hr4 := Lib.hid hr4
        clear hr2 hr3 hr4
--L0
        have hsl2 : s2.size ≤ 140737488351232 := by omega
        have hsl3 : s3.size ≤ 140737488351232 := by omega
        go_wp2_with fail
        go_region_law ((first | (rw [if_pos (by rfl)]; go_simp; go_at_call 40; refine (Pname_any p s false _ hsl HP.out.drew).mono ?_; rw [Hr2.out]; dsimp only; rintro e w2 ⟨rfl, hP2, hg2⟩; have hc2 := Chg.ofGrown (grown_trans (grown_drew wr (some p)) hg2); have hQ2 := HQ.out.chg hc2 (by simp; omega); have q0' := hQ2.cell 0 rfl; have HC2 := Lib.hid hc2; clear hc2; have HP2 := Lib.hid hP2; clear hP2; clear hQ2; clear hg2) | (rw [if_pos (by rfl)]; go_simp; go_at_call 39; refine (Pnum_any p s2 b2 _ hsl2 HP2.out).mono ?_; rw [Hr3.out]; dsimp only; rintro e w3 ⟨rfl, hP3, hg3⟩; have hc3 := HC2.out.trans (Chg.ofGrown hg3); have hQ3 := HQ.out.chg hc3 (by simp; omega); have q0'' := hQ3.cell 0 rfl; have HC3 := Lib.hid hc3; clear hc3; have HP3 := Lib.hid hP3; clear hP3; clear hQ3; clear hg3) | (rw [if_pos (by rfl)]; go_simp; go_at_call 41; refine (Pflag_any p s3 b3 _ hsl3 HP3.out).mono ?_; rw [Hr4.out]; dsimp only; rintro e w4 ⟨rfl, hP4, hg4⟩; have hc4 := HC3.out.trans (Chg.ofGrown hg4); have hQ4 := HQ.out.chg hc4 (by simp; omega); have q3 := hQ4.cell 0 rfl; have q3f := hQ4.frozen 0; have q3a := (fun o => (hQ4.alloc o).cell 0 rfl : ∀ o, (w4.alloc o).cell? ⟨q, 0, none⟩ = some (Value.slice A m c)); have HC4 := Lib.hid hc4; clear hc4; have HP4 := Lib.hid hP4; clear hP4; have HQ4 := Lib.hid hQ4; clear hQ4; clear hg4; have HO4 := Lib.hid (row_chg HO.out HC4.out (by simp; omega)); have hz4 : B0 ≤ w4.heap.size := Nat.le_trans hz HC4.out.size) | (refine append_step B0 _ _ 23 45 _ 3 32 Tryz.underlying23 Tryz.infoCol rfl (by decide) (by decide) (.slice A m c) m (acc.flatMap encC) [.string nm, .int .i64 ty, .bool fl] HO4.out hz4 (by omega) rfl (by simp [Value.oneCell']) rfl rfl _ rfl rfl rfl ?_; intro g c5 w5 hO6 hg6; have hQ6 := HQ4.out.app HO4.out hg6 (by omega); have q4 := hQ6.cell 0 rfl; have qf4 := hQ6.frozen 0; have HQ6 := Lib.hid hQ6; clear hQ6; have HO6 := Lib.hid hO6; clear hO6; have HG6 := Lib.hid hg6; clear hg6)))
--L1
        all_goals
          have hR5 := HR.out.chg HC4.out (by simp; omega)
          have hB5 := HC4.out.below HB.out (by simp; omega)
          have hR6 := (hR5.app HO4.out HG6.out (by omega)).other (show w.heap.size ≠ q by omega) 0 (.slice (some ⟨g, 0, none⟩) (m + 1) c5)
          have hP6 := (HP4.out.app HO4.out HG6.out (by omega)).other (show p ≠ q by omega) 0 (.slice (some ⟨g, 0, none⟩) (m + 1) c5)
          have hQ7 := HQ6.out.set 0 (.slice (some ⟨g, 0, none⟩) (m + 1) c5)
          have hB6 := below_set (below_row hB5 (row_mono HO4.out (show w.heap.size ≤ B0 by omega)) HG6.out) (show w.heap.size ≤ q by omega) 0 (.slice (some ⟨g, 0, none⟩) (m + 1) c5)
          have hz6 : B0 ≤ (w5.setCell ⟨q, 0, none⟩ (.slice (some ⟨g, 0, none⟩) (m + 1) c5)).heap.size := Nat.le_trans hz4 (Nat.le_trans HG6.out.size (by simp))
          have hO7 := row_set (q := q) HO6.out (fun e => by have := (row_base HO6.out e).1; omega) 0 (.slice (some ⟨g, 0, none⟩) (m + 1) c5)
          have HA := Lib.hid (And.intro hR6 (And.intro hP6 (And.intro hQ7 (And.intro hB6 hO7))))
          clear hR5 hB5 hR6 hP6 hQ7 hB6 hO7
          go_wp2_with fail
          go_roundw
          case rel =>
            obtain ⟨hR6, hP6, hQ7, hB6, hO7⟩ := HA.out
            exact ⟨j + 1, s4, b4, acc ++ [⟨nm, ty, fl⟩], m + 1, _, _, by omega, by go_num, by omega, by omega, by rw [List.length_append, hal.out]; exact rfl, hq0, hB6, hz6, hP6, hR6, hQ7, by rw [List.flatMap_append]; exact hO7⟩
          case measure => simp [intOf]; omega
--/L1
--L2
    · rw [show n - j = 0 from by omega, pCols] at hq0
      have hRC := hq0.out
      subst hRC
      clear hq0 HRC
      dsimp only at *
      go_wp2_with fail
      refine (Pnames_any p s bad _ hsl HP.out).mono ?_
      rintro e w1 ⟨A2, c2, rfl, hP1, hc1, hV1⟩
      have hn2 := pNum_range s bad
      have hz2 := pNum_size s bad
      generalize pNum s bad = r1 at *
      obtain ⟨m2, s1, b1⟩ := r1
      dsimp only at *
      have hl2 := pNames_len m2.toNat s1 b1 []
      have hs2 := pNames_size m2.toNat s1 b1 []
      generalize pNames m2.toNat s1 b1 [] = r2 at *
      obtain ⟨ks, s2, b2⟩ := r2
      dsimp only at *
      simp only [List.length_nil, Nat.zero_add] at hl2
      have hkl : ks.length ≤ 255 := by omega
      have hs2' : s2.size ≤ 140737488351232 := by omega
      have hR1 := HR.out.chg hc1 (by simp; omega)
      have hQ1 := HQ.out.chg hc1 (by simp; omega)
      have q1 := hQ1.cell 1 rfl
      have qf := hQ1.frozen 1
      have hB1 := hc1.below HB.out (by simp; omega)
      have hz1 : B0 ≤ w1.heap.size := Nat.le_trans hz hc1.size
      have hO1 := row_chg HO.out hc1 (by simp; omega)
      have HP1 := Lib.hid (hP1.other (show p ≠ q by omega) 1 (.slice A2 ks.length c2))
      have HQ1 := Lib.hid (hQ1.set 1 (.slice A2 ks.length c2))
      have HR1 := Lib.hid (hR1.other (show w.heap.size ≠ q by omega) 1 (.slice A2 ks.length c2))
      have HB1 := Lib.hid (below_set hB1 (show w.heap.size ≤ q by omega) 1 (.slice A2 ks.length c2))
      have hz1' : B0 ≤ (w1.setCell ⟨q, 1, none⟩ (.slice A2 ks.length c2)).heap.size := Nat.le_trans hz1 (by simp)
      have HO1 := Lib.hid (row_chg hO1 (Chg.set w1 q 1 (.slice A2 ks.length c2)) (by simp; omega))
      have HV1 := Lib.hid (row_chg (row_mono hV1 hz) (Chg.set w1 q 1 (.slice A2 ks.length c2)) (by simp; omega))
      clear hP1 hc1 hV1 hR1 hQ1 hB1 hO1 HP HR HQ HB HO hz2 h1
      go_wp2_with fail
      generalize w1.setCell ⟨q, 1, none⟩ (.slice A2 ks.length c2) = w2 at *
      refine (Pnum_any p s2 b2 _ hs2' HP1.out).mono ?_
      rintro e w3 ⟨rfl, hP3, hg3⟩
      have hc3 := Chg.ofGrown hg3
      have HP3 := Lib.hid hP3
      have HR3 := Lib.hid (HR1.out.chg hc3 (by simp; omega))
      have HQ3 := Lib.hid (HQ1.out.chg hc3 (by simp; omega))
      have HB3 := Lib.hid (hc3.below HB1.out (by simp; omega))
      have hz3 : B0 ≤ w3.heap.size := Nat.le_trans hz1' hc3.size
      have HO3 := Lib.hid (row_chg HO1.out hc3 (by simp; omega))
      have HV3 := Lib.hid (row_chg HV1.out hc3 (by simp; omega))
      have hn3 := pNum_range s2 b2
      have hsz3 := pNum_size s2 b2
      generalize pNum s2 b2 = r3 at *
      obtain ⟨o, s3, b3⟩ := r3
      dsimp only at *
      obtain ⟨o, rfl⟩ := Int.eq_ofNat_of_zero_le hn3.1
      have ho' : o ≤ 255 := by omega
      rw [Int.toNat_natCast] at Hrd
      clear hn3 hP3 hg3 hc3 HP1 HR1 HQ1 HB1 HO1 HV1 hz1 hz1' q1 qf
      have hnX := pIdxs_names o s3 b3 [] (by simp)
      have hsX := pIdxs_size o s3 b3 []
      generalize hRX : pIdxs o s3 b3 [] = RX at *
      have HRX := Lib.hid hRX
      have HnX := Lib.hid hnX
      clear hRX hnX
      go_wp2_with fail
      go_loopw [36] (fun i wr => ∃ (j : Nat) (s : ByteArray) (bad : Bool) (xs : List PIdx) (mi : Nat) (A3 : Option Addr) (c3 : Nat), j ≤ o ∧ i = .int .i64 j ∧ s.size ≤ 140737488351232 ∧ mi ≤ j ∧ Hid (pIdxs (o - j) s bad xs = RX) ∧ Hid (Below w.heap.size w wr) ∧ B0 ≤ wr.heap.size ∧
        Hid (Box wr p 68 [.string s, .bool bad]) ∧ Hid (Box wr w.heap.size 27 [.slice none 0 0, .slice none 0 0, .slice none 0 0]) ∧ Hid (Box wr q 27 [.slice A m c, .slice A2 ks.length c2, .slice A3 mi c3]) ∧ Hid (wr.ownsRow B0 45 3 (.slice A m c) m (acc.flatMap encC)) ∧ Hid (wr.ownsRow B0 9 1 (.slice A2 ks.length c2) ks.length (ks.flatMap encS)) ∧ Hid (OwnIdx wr B0 47 9 (.slice A3 mi c3) mi xs)) (fun i _ => o - (intOf i).toNat)
      case atStart => exact ⟨0, s3, b3, [], 0, none, 0, by omega, rfl, by omega, by omega, HRX.out, HB3.out, hz3, HP3.out, HR3.out, HQ3.out, HO3.out, HV3.out, OwnIdx.nil _ _ _ _⟩
      case round =>
        clear HB3 HP3 HQ3 HR3 HO3 HV3 hz3 hsz3 hsX
        obtain ⟨j, s, bad, xs, mi, A3, c3, hj, rfl, hsl, hmj, hq0, HB, hz, HP, HR, HQ, HO, HV, HI⟩ := hrel
        have h1 := HP.out.cell 1 rfl
        by_cases hlt : j < o
        · cases bad with
          | true =>
            rw [show o - j = (o - (j + 1)) + 1 from by omega, pIdxs, if_pos rfl] at hq0
            go_wp2_with fail
            go_roundw
            case rel => exact ⟨j + 1, s, true, xs, mi, A3, c3, by omega, by go_num, hsl, by omega, hq0, HB.out, hz, HP.out, HR.out, HQ.out, HO.out, HV.out, HI.out⟩
            case measure => simp [intOf]; omega
          | false =>
--I0
            rw [show o - j = (o - (j + 1)) + 1 from by omega, pIdxs, if_neg (by decide)] at hq0
            have q0 := HQ.out.cell 2 rfl
            have hs2 := pName_size s false
            generalize hr2 : pName s false = r2 at *
            obtain ⟨nm, s2, b2⟩ := r2
            dsimp only at *
            have hs3 := pFlag_size s2 b2
            generalize hr3 : pFlag s2 b2 = r3 at *
            obtain ⟨fl, s3, b3⟩ := r3
            dsimp only at *
            have hs4 := Nat.le_trans (pNames_size (pNum s3 b3).1.toNat (pNum s3 b3).2.1 (pNum s3 b3).2.2 []) (pNum_size s3 b3)
            have hl4 := pNames_len (pNum s3 b3).1.toNat (pNum s3 b3).2.1 (pNum s3 b3).2.2 []
            have hr5 := pNum_range s3 b3
            simp only [List.length_nil, Nat.zero_add] at hl4
            generalize hr4 : pNames (pNum s3 b3).1.toNat (pNum s3 b3).2.1 (pNum s3 b3).2.2 [] = r4 at *
            obtain ⟨l, s4, b4⟩ := r4
            dsimp only at *
            have hll : l.length ≤ 255 := by omega
            have Hr2 := Lib.hid hr2
            have Hr3 := Lib.hid hr3
            have Hr4 := Lib.hid hr4
            clear hr2 hr3 hr4 hl4 hr5
            have hsl2 : s2.size ≤ 140737488351232 := by omega
            have hsl3 : s3.size ≤ 140737488351232 := by omega
            obtain ⟨i0, css, i1, i2, i3⟩ := HI.out
            have HI1 := Lib.hid i1
            have HI3 := Lib.hid i3
            clear i1 i3 HI
            go_wp2_with fail
            go_region_law ((first | (rw [if_pos (by rfl)]; go_simp; go_at_call 40; refine (Pname_any p s false _ hsl HP.out.drew).mono ?_; rw [Hr2.out]; dsimp only; rintro e w2 ⟨rfl, hP2, hg2⟩; have hc2 := Chg.ofGrown (grown_trans (grown_drew wr (some p)) hg2); have hQ2 := HQ.out.chg hc2 (by simp; omega); have q0' := hQ2.cell 2 rfl; have HC2 := Lib.hid hc2; clear hc2; have HP2 := Lib.hid hP2; clear hP2; clear hQ2; clear hg2) | (rw [if_pos (by rfl)]; go_simp; go_at_call 41; refine (Pflag_any p s2 b2 _ hsl2 HP2.out).mono ?_; rw [Hr3.out]; dsimp only; rintro e w3 ⟨rfl, hP3, hg3⟩; have hc3 := HC2.out.trans (Chg.ofGrown hg3); have hQ3 := HQ.out.chg hc3 (by simp; omega); have q0'' := hQ3.cell 2 rfl; have HC3 := Lib.hid hc3; clear hc3; have HP3 := Lib.hid hP3; clear hP3; clear hQ3; clear hg3) | (rw [if_pos (by rfl)]; go_simp; go_at_call 42; refine (Pnames_any p s3 b3 _ hsl3 HP3.out).mono ?_; rw [Hr4.out]; rintro e w4 ⟨A4, c4, rfl, hP4, hg4, hW4⟩; dsimp only at hP4 hg4 hW4 ⊢; have hc4 := HC3.out.trans hg4; have hQ4 := HQ.out.chg hc4 (by simp; omega); have q3 := hQ4.cell 2 rfl; have q3f := hQ4.frozen 2; have q3a := (fun o => (hQ4.alloc o).cell 2 rfl : ∀ o, (w4.alloc o).cell? ⟨q, 2, none⟩ = some (Value.slice A3 mi c3)); have HW4 := Lib.hid (row_mono hW4 (Nat.le_trans hz HC3.out.size)); clear hW4; have HC4 := Lib.hid hc4; clear hc4; have HP4 := Lib.hid hP4; clear hP4; have HQ4 := Lib.hid hQ4; clear hQ4; clear hg4; have HI4 := Lib.hid (row_chg HI1.out HC4.out (by simp; omega)); have hz4 : B0 ≤ w4.heap.size := Nat.le_trans hz HC4.out.size) | (refine append_step B0 _ _ 25 47 _ 3 48 Tryz.underlying25 Tryz.infoIdx rfl (by decide) (by decide) (.slice A3 mi c3) mi css.flatten [.string nm, .slice A4 l.length c4, .bool fl] HI4.out hz4 (by omega) rfl (by simp [Value.oneCell']) rfl rfl _ rfl rfl rfl ?_; intro g c5 w5 hO6 hg6; have hQ6 := HQ4.out.app HI4.out hg6 (by omega); have q4 := hQ6.cell 2 rfl; have qf4 := hQ6.frozen 2; have HQ6 := Lib.hid hQ6; clear hQ6; have HO6 := Lib.hid hO6; clear hO6; have HG6 := Lib.hid hg6; clear hg6)))
            all_goals
              have h3' : ∀ (i : Nat) (x : PIdx) (cs : List Value), xs[i]? = some x → css[i]? = some cs → ∃ A c, cs = [.string x.name, .slice A x.cols.length c, .bool x.uniq] ∧ w4.ownsRow B0 9 1 (.slice A x.cols.length c) x.cols.length (x.cols.flatMap encS) ∧ x.cols.length ≤ 255 := fun i x cs hx hcs => by
                obtain ⟨A, c, k1, k2, k3⟩ := HI3.out i x cs hx hcs
                exact ⟨A, c, k1, row_chg k2 HC4.out (by simp; omega), k3⟩
              have hI6 := OwnIdx.snoc i0 HI4.out i2 h3' (by decide) HG6.out (x := ⟨nm, l, fl⟩) HW4.out hll HO6.out
              have hR5 := HR.out.chg HC4.out (by simp; omega)
              have hB5 := HC4.out.below HB.out (by simp; omega)
              have hO5 := row_chg HO.out HC4.out (by simp; omega)
              have hV5 := row_chg HV.out HC4.out (by simp; omega)
              have hR6 := (hR5.app HI4.out HG6.out (by omega)).other (show w.heap.size ≠ q by omega) 2 (.slice (some ⟨g, 0, none⟩) (mi + 1) c5)
              have hP6 := (HP4.out.app HI4.out HG6.out (by omega)).other (show p ≠ q by omega) 2 (.slice (some ⟨g, 0, none⟩) (mi + 1) c5)
              have hQ7 := HQ6.out.set 2 (.slice (some ⟨g, 0, none⟩) (mi + 1) c5)
              have hB6 := below_set (below_row hB5 (row_mono HI4.out (show w.heap.size ≤ B0 by omega)) HG6.out) (show w.heap.size ≤ q by omega) 2 (.slice (some ⟨g, 0, none⟩) (mi + 1) c5)
              have hz6 : B0 ≤ (w5.setCell ⟨q, 2, none⟩ (.slice (some ⟨g, 0, none⟩) (mi + 1) c5)).heap.size := Nat.le_trans hz4 (Nat.le_trans HG6.out.size (by simp))
              have hO7 := row_chg (row_app hO5 HI4.out HG6.out (by decide)) (Chg.set w5 q 2 (.slice (some ⟨g, 0, none⟩) (mi + 1) c5)) (by simp; omega)
              have hV7 := row_chg (row_app hV5 HI4.out HG6.out (by decide)) (Chg.set w5 q 2 (.slice (some ⟨g, 0, none⟩) (mi + 1) c5)) (by simp; omega)
              have hI7 := hI6.chg (Chg.set w5 q 2 (.slice (some ⟨g, 0, none⟩) (mi + 1) c5)) (by simp; omega)
              have HA := Lib.hid (And.intro hR6 (And.intro hP6 (And.intro hQ7 (And.intro hB6 (And.intro hO7 (And.intro hV7 hI7))))))
              clear hR5 hB5 hR6 hP6 hQ7 hB6 hO7 hV7 hI7 hO5 hV5 hI6 h3'
              go_wp2_with fail
              go_roundw
              case rel =>
                obtain ⟨hR6, hP6, hQ7, hB6, hO7, hV7, hI7⟩ := HA.out
                exact ⟨j + 1, s4, b4, xs ++ [(⟨nm, l, fl⟩ : PIdx)], mi + 1, _, _, by omega, by go_num, by omega, by omega, hq0, hB6, hz6, hP6, hR6, hQ7, hO7, hV7, hI7⟩
              case measure => simp [intOf]; omega
--/I0
        · rw [show o - j = 0 from by omega, pIdxs] at hq0
          have hRX := hq0.out
          subst hRX
          clear hq0 HRX
          dsimp only at *
          have h0 := HP.out.cell 0 rfl
          have q0 := HQ.out.cell 0 rfl
          have q1 := HQ.out.cell 1 rfl
          have q2 := HQ.out.cell 2 rfl
          have f0 := HR.out.frozen 0
          have f1 := HR.out.frozen 1
          have f2 := HR.out.frozen 2
          have r0 := HR.out.cell 0 rfl
          have r1 := HR.out.cell 1 rfl
          have r2 := HR.out.cell 2 rfl
          have hS : ∀ (W : World) (u0 u1 u2 : Value), Box W w.heap.size 27 [.slice none 0 0, .slice none 0 0, .slice none 0 0] → Below w.heap.size w W →
              Below w.heap.size w (((W.setCell ⟨w.heap.size, 0, none⟩ u0).setCell ⟨w.heap.size, 1, none⟩ u1).setCell ⟨w.heap.size, 2, none⟩ u2) ∧ Chg [w.heap.size] W (((W.setCell ⟨w.heap.size, 0, none⟩ u0).setCell ⟨w.heap.size, 1, none⟩ u1).setCell ⟨w.heap.size, 2, none⟩ u2) ∧
              (((W.setCell ⟨w.heap.size, 0, none⟩ u0).setCell ⟨w.heap.size, 1, none⟩ u1).setCell ⟨w.heap.size, 2, none⟩ u2).cell? ⟨w.heap.size, 0, none⟩ = some u0 ∧ (((W.setCell ⟨w.heap.size, 0, none⟩ u0).setCell ⟨w.heap.size, 1, none⟩ u1).setCell ⟨w.heap.size, 2, none⟩ u2).cell? ⟨w.heap.size, 1, none⟩ = some u1 ∧
              (((W.setCell ⟨w.heap.size, 0, none⟩ u0).setCell ⟨w.heap.size, 1, none⟩ u1).setCell ⟨w.heap.size, 2, none⟩ u2).cell? ⟨w.heap.size, 2, none⟩ = some u2 :=
            fun W u0 u1 u2 hb h => ⟨below_set (below_set (below_set h (Nat.le_refl _) 0 u0) (Nat.le_refl _) 1 u1) (Nat.le_refl _) 2 u2, ((Chg.set W _ 0 u0).trans (Chg.set _ _ 1 u1)).trans (Chg.set _ _ 2 u2),
              (((hb.set 0 u0).set 1 u1).set 2 u2).cell 0 rfl, (((hb.set 0 u0).set 1 u1).set 2 u2).cell 1 rfl, (((hb.set 0 u0).set 1 u1).set 2 u2).cell 2 rfl⟩
          have HS := Lib.hid hS
          clear hS
          have hrs : w.heap.size < wr.heap.size := HR.out.lt
          have hxl := HI.out.1
          have hal' := hal.out
          have hal2 : acc.length ≤ 255 := by omega
          have hxl2 : xs.length ≤ 255 := by omega
          rw [← hal'] at q0 HQ HO
          subst hxl
          clear hal hal'
          cases bad with
          | true =>
            rw [if_pos rfl] at Hrd
            go_wp2_with fail
            obtain ⟨hb6, -, x0, x1, x2⟩ := HS.out _ (.slice none 0 0) (.slice none 0 0) (.slice none 0 0) HR.out HB.out
            refine bodyPost_ret (v := .tuple #[.agg #[.slice none 0 0, .slice none 0 0, .slice none 0 0], .bool false]) (by simp [results, Tryz.results9, go_sem, x0, x1, x2]) rfl ?_
            rw [← Hrd.out]
            exact ⟨none, none, none, 0, 0, 0, rfl, ⟨Sl.nil _ _ _ _, Sl.nil _ _ _ _, Sl.nil _ _ _ _⟩, hb6⟩
          | false =>
            rw [if_neg (by decide)] at Hrd
            by_cases hse : s.size = 0
            case neg =>
              rw [if_pos hse] at Hrd
              have hse' : ¬ s.toList = [] := fun h => hse (by rw [ByteArray.toList_eq] at h; simpa using congrArg List.length h)
              go_wp2_with fail
              obtain ⟨hb6, -, x0, x1, x2⟩ := HS.out _ (.slice none 0 0) (.slice none 0 0) (.slice none 0 0) HR.out HB.out
              refine bodyPost_ret (v := .tuple #[.agg #[.slice none 0 0, .slice none 0 0, .slice none 0 0], .bool false]) (by simp [results, Tryz.results9, go_sem, x0, x1, x2]) rfl ?_
              rw [← Hrd.out]
              exact ⟨none, none, none, 0, 0, 0, rfl, ⟨Sl.nil _ _ _ _, Sl.nil _ _ _ _, Sl.nil _ _ _ _⟩, hb6⟩
            have hse' : s.toList = [] := by rw [ByteArray.toList_eq]; exact List.eq_nil_of_length_eq_zero (by simpa using hse)
            rw [if_neg (by omega)] at Hrd
            have hRS : RSch wr ⟨acc, ks, xs⟩ A A2 A3 := ⟨sl_of_row encC (fun _ => rfl) rfl (by show acc.length ≤ _; omega) HO.out, sl_of_row encS (fun _ => rfl) rfl (by show ks.length ≤ _; omega) HV.out, HI.out.sl rfl (by show xs.length ≤ _; omega)⟩
            have HRS := Lib.hid hRS
            clear hRS
            go_wp2_with fail
            refine (PRight_any A A2 A3 c c2 c3 ⟨acc, ks, xs⟩ _ HRS.out (fun c hc => Nat.le_trans (HnC.out c hc) (by decide)) (fun c hc => Nat.le_trans (HnX.out c hc).1 (by decide)) (by show ks.length * 16 ≤ _; omega) (fun c hc => by have := (HnX.out c hc).2; omega)).mono ?_
            rintro e w5 ⟨rfl, hb5⟩
            obtain ⟨hc5, hf5⟩ := bcell hb5
            have HB5 := Lib.hid (below_next HB.out hb5)
            have HRS5 := Lib.hid (HRS.out.below hb5)
            have HQ5 := Lib.hid (HQ.out.below hb5)
            have HR5 := HR.out.below hb5
            have HO5 := Lib.hid (row_below HO.out hb5)
            have HV5 := Lib.hid (row_below HV.out hb5)
            have HI5 := Lib.hid (HI.out.chg (Chg.ofBelow hb5 []) (by simp))
            have hz5 := hb5.size
            have hqs := HQ.out.lt
            clear hb5
            by_cases hri : rightP ⟨acc, ks, xs⟩ = true
            · rw [if_pos hri] at Hrd
              rw [hri]
              go_wp2_with fail
              obtain ⟨hb6, hc6, x0, x1, x2⟩ := HS.out _ (.slice A acc.length c) (.slice A2 ks.length c2) (.slice A3 xs.length c3) HR5 HB5.out
              refine bodyPost_ret (v := .tuple #[.agg #[.slice A acc.length c, .slice A2 ks.length c2, .slice A3 xs.length c3], .bool true]) (by simp [results, Tryz.results9, go_sem, x0, x1, x2]) rfl ?_
              rw [← Hrd.out]
              exact ⟨A, A2, A3, c, c2, c3, rfl, ⟨sl_of_row encC (fun _ => rfl) rfl (by show acc.length ≤ _; omega) (row_chg HO5.out hc6 (by simp; omega)), sl_of_row encS (fun _ => rfl) rfl (by show ks.length ≤ _; omega) (row_chg HV5.out hc6 (by simp; omega)), (HI5.out.chg hc6 (by simp; omega)).sl rfl (by show xs.length ≤ _; omega)⟩, hb6⟩
            · rw [if_neg hri] at Hrd
              have hri' : rightP ⟨acc, ks, xs⟩ = false := by simpa using hri
              rw [hri']
              go_wp2_with fail
              obtain ⟨hb6, -, x0, x1, x2⟩ := HS.out _ (.slice none 0 0) (.slice none 0 0) (.slice none 0 0) HR5 HB5.out
              refine bodyPost_ret (v := .tuple #[.agg #[.slice none 0 0, .slice none 0 0, .slice none 0 0], .bool false]) (by simp [results, Tryz.results9, go_sem, x0, x1, x2]) rfl ?_
              rw [← Hrd.out]
              exact ⟨none, none, none, 0, 0, 0, rfl, ⟨Sl.nil _ _ _ _, Sl.nil _ _ _ _, Sl.nil _ _ _ _⟩, hb6⟩
end Go.Proofs.Pw
