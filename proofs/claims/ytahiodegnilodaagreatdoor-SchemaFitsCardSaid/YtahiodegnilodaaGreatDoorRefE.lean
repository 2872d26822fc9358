/- The reference of layer 12: Read: the columns' loop. -/
import Derived.Test.YtahiodegnilodaaGreatDoorRefC
import Derived.Test.YtahiodegnilodaaGreatDoorRefD
import Derived.Deep.DeepCutAuto
import Derived.Deep.CutBlock
import Derived.Deep.RegionHeld3
import Derived.Deep.RegionLaw
namespace Go.Proofs.Pw
open Go.RowKit

def rCols : Nat → ByteArray → Bool → List PCol → List PCol × ByteArray × Bool
  | 0, s, bad, acc => (acc, s, bad)
  | k + 1, s, bad, acc => if bad then (acc, s, bad) else
    let a := rName s bad
    let t := rByte a.2.1 a.2.2
    let f := rFlag t.2.1 t.2.2
    rCols k f.2.1 f.2.2 (acc ++ [⟨a.1, t.1, f.1⟩])
def rNames : Nat → ByteArray → Bool → List ByteArray → List ByteArray × ByteArray × Bool
  | 0, s, bad, acc => (acc, s, bad)
  | k + 1, s, bad, acc => if bad then (acc, s, bad) else
    let a := rName s bad
    rNames k a.2.1 a.2.2 (acc ++ [a.1])
def rIdxs : Nat → ByteArray → Bool → List PIdx → List PIdx × ByteArray × Bool
  | 0, s, bad, acc => (acc, s, bad)
  | k + 1, s, bad, acc => if bad then (acc, s, bad) else
    let a := rName s bad
    let f := rFlag a.2.1 a.2.2
    let m := rByte f.2.1 f.2.2
    let l := rNames m.1.toNat m.2.1 m.2.2 []
    rIdxs k l.2.1 l.2.2 (acc ++ [⟨a.1, l.1, f.1⟩])
def readF (b : ByteArray) : PSch × Bool :=
  let n := rByte b false
  let cs := rCols n.1.toNat n.2.1 n.2.2 []
  let m := rByte cs.2.1 cs.2.2
  let ks := rNames m.1.toNat m.2.1 m.2.2 []
  let o := rByte ks.2.1 ks.2.2
  let xs := rIdxs o.1.toNat o.2.1 o.2.2 []
  if xs.2.2 then (⟨[], [], []⟩, false) else if xs.2.1.size ≠ 0 then (⟨[], [], []⟩, false) else if rightF ⟨cs.1, ks.1, xs.1⟩ then (⟨cs.1, ks.1, xs.1⟩, true) else (⟨[], [], []⟩, false)

theorem Tryz.infoCol : (Tryz.prog.info? 45).map (fun i => (i.zero, i.size, i.bytes)) = some (some (.agg #[.string ⟨#[]⟩, .int .i64 0, .bool false]), 3, 32) := by kernel_rfl
theorem Tryz.infoStr : (Tryz.prog.info? 9).map (fun i => (i.zero, i.size, i.bytes)) = some (some (.string ⟨#[]⟩), 1, 16) := by kernel_rfl
theorem Tryz.infoIdx : (Tryz.prog.info? 47).map (fun i => (i.zero, i.size, i.bytes)) = some (some (.agg #[.string ⟨#[]⟩, .slice none 0 0, .bool false]), 3, 48) := by kernel_rfl

/-- A schema, and whether it is one, are handed back. -/
def ReadPost (w : World) (R : PSch × Bool) (e : Ending) (w' : World) : Prop :=
  ∃ A1 A2 A3 c1 c2 c3, e = .returned (.tuple #[.agg #[.slice A1 R.1.cols.length c1, .slice A2 R.1.key.length c2, .slice A3 R.1.idx.length c3], .bool R.2]) ∧ RSch w' R.1 A1 A2 A3 ∧ Below w.heap.size w w'
theorem rName_size (s : ByteArray) (bad : Bool) : (rName s bad).2.1.size ≤ s.size := by
  have h := rByte_size s bad
  unfold rName
  simp only
  split
  · exact h
  · split
    · exact h
    · simp; omega
theorem rFlag_size (s : ByteArray) (bad : Bool) : (rFlag s bad).2.1.size ≤ s.size := by
  have h := rByte_size s bad
  unfold rFlag
  simp only
  split <;> exact h

theorem flatten_at {k : Nat} : ∀ (css : List (List Value)) (_ : ∀ cs ∈ css, cs.length = k) (i : Nat) (cs : List Value) (j : Nat) (v : Value), css[i]? = some cs → cs[j]? = some v → css.flatten[i * k + j]? = some v
  | [], _, i, cs, j, v, h, _ => by simp at h
  | y :: css, hl, 0, cs, j, v, h, hv => by
    simp only [List.getElem?_cons_zero, Option.some.injEq] at h
    subst h
    rw [List.flatten_cons, Nat.zero_mul, Nat.zero_add, List.getElem?_append_left (by exact (List.getElem?_eq_some_iff.1 hv).1)]
    exact hv
  | y :: css, hl, i + 1, cs, j, v, h, hv => by
    have hy := hl y (by simp)
    rw [List.flatten_cons, List.getElem?_append_right (by rw [hy, Nat.succ_mul]; omega), hy, show (i + 1) * k + j - k = i * k + j from by rw [Nat.succ_mul]; omega]
    exact flatten_at css (fun c hc => hl c (by simp [hc])) i cs j v (by simpa using h) hv
/-- A row of indexes of the call's own, each with a row of names of the call's own. -/
def OwnIdx (w : World) (base : Nat) (e e' : TypeId) (v : Value) (n : Nat) (xs : List PIdx) : Prop :=
  xs.length = n ∧ ∃ css : List (List Value), w.ownsRow base e 3 v n css.flatten ∧ css.length = n ∧
    ∀ (i : Nat) (x : PIdx) (cs : List Value), xs[i]? = some x → css[i]? = some cs → ∃ A c, cs = [.string x.name, .slice A x.cols.length c, .bool x.uniq] ∧ w.ownsRow base e' 1 (.slice A x.cols.length c) x.cols.length (x.cols.flatMap encS) ∧ x.cols.length ≤ 255
theorem OwnIdx.chg {w w' : World} {base : Nat} {e e' : TypeId} {v : Value} {n : Nat} {xs : List PIdx} (h : OwnIdx w base e e' v n xs) {S : List Nat} (hc : Chg S w w') (hS : ∀ s ∈ S, s < base ∨ w.heap.size ≤ s) : OwnIdx w' base e e' v n xs := by
  obtain ⟨h0, css, h1, h2, h3⟩ := h
  refine ⟨h0, css, row_chg h1 hc hS, h2, fun i x cs hx hcs => ?_⟩
  obtain ⟨A, c, k1, k2, k3⟩ := h3 i x cs hx hcs
  exact ⟨A, c, k1, row_chg k2 hc hS, k3⟩
theorem OwnIdx.snoc {w w1 : World} {base : Nat} {e e' : TypeId} {v v1 : Value} {n : Nat} {xs : List PIdx} {css : List (List Value)} (h0 : xs.length = n) (h1 : w.ownsRow base e 3 v n css.flatten) (h2 : css.length = n)
    (h3 : ∀ (i : Nat) (x : PIdx) (cs : List Value), xs[i]? = some x → css[i]? = some cs → ∃ A c, cs = [.string x.name, .slice A x.cols.length c, .bool x.uniq] ∧ w.ownsRow base e' 1 (.slice A x.cols.length c) x.cols.length (x.cols.flatMap encS) ∧ x.cols.length ≤ 255)
    (hne : e' ≠ e) (hg : w.grownBy w1 v.ownBlock) {x : PIdx} {A : Option Addr} {c : Nat} (hr : w.ownsRow base e' 1 (.slice A x.cols.length c) x.cols.length (x.cols.flatMap encS)) (hx : x.cols.length ≤ 255)
    (h6 : w1.ownsRow base e 3 v1 (n + 1) (css.flatten ++ [.string x.name, .slice A x.cols.length c, .bool x.uniq])) : OwnIdx w1 base e e' v1 (n + 1) (xs ++ [x]) := by
  refine ⟨by simp [h0], css ++ [[.string x.name, .slice A x.cols.length c, .bool x.uniq]], by simpa using h6, by simp [h2], fun i y cs hy hcs => ?_⟩
  by_cases hi : i < n
  · rw [List.getElem?_append_left (by omega)] at hy hcs
    obtain ⟨A', c', k1, k2, k3⟩ := h3 i y cs hy hcs
    exact ⟨A', c', k1, row_app k2 h1 hg hne, k3⟩
  · rw [List.getElem?_append_right (by omega)] at hy hcs
    have hin : i - xs.length = 0 := by
      have := (List.getElem?_eq_some_iff.1 hy).1
      simp at this; omega
    rw [hin] at hy
    rw [h2, ← h0, hin] at hcs
    simp only [List.getElem?_cons_zero, Option.some.injEq] at hy hcs
    subst hy hcs
    exact ⟨A, c, rfl, row_app hr h1 hg hne, hx⟩
theorem OwnIdx.sl {w : World} {base : Nat} {e e' : TypeId} {A : Option Addr} {n c : Nat} {xs : List PIdx} (h : OwnIdx w base e e' (.slice A n c) n xs) (hn : n = xs.length) (hl : xs.length ≤ 140737488351232) : Idxs w A xs := by
  obtain ⟨h0, css, h1, h2, h3⟩ := h
  subst hn
  refine ⟨hl, fun hne => ?_⟩
  have hpos : 0 < xs.length := List.length_pos_iff.2 hne
  rcases h1.2 with ⟨_, h0⟩ | ⟨g, cap, cur, hv, hb, hh, _, _, _, hr⟩
  · omega
  · injection hv with hA _ _
    refine ⟨g, 0, hA, (Array.getElem?_eq_some_iff.1 hh).1, fun i x hx => ?_⟩
    have hi : i < css.length := by rw [h2]; exact (List.getElem?_eq_some_iff.1 hx).1
    obtain ⟨A', c', k1, k2, k3⟩ := h3 i x css[i] hx (List.getElem?_eq_getElem hi)
    refine ⟨css[i], ⟨A', c', k1, sl_of_row encS (fun _ => rfl) rfl (by omega) k2⟩, fun j v hj => ?_⟩
    have h3len : ∀ cs ∈ css, cs.length = 3 := by
      intro cs hcs
      obtain ⟨m, hm, rfl⟩ := List.getElem_of_mem hcs
      obtain ⟨A'', c'', q1, _⟩ := h3 m xs[m] css[m] (List.getElem?_eq_getElem (by omega)) (List.getElem?_eq_getElem hm)
      rw [q1]; rfl
    have hc := flatten_at css h3len i css[i] j v (List.getElem?_eq_getElem hi) hj
    rw [← hr, List.getElem?_take] at hc
    split at hc
    · simp only [World.cell?, hh, Nat.zero_add]
      simpa using hc
    · cases hc
theorem OwnIdx.nil (w : World) (base : Nat) (e e' : TypeId) : OwnIdx w base e e' (.slice none 0 0) 0 [] :=
  ⟨rfl, [], row_nil _ _ _ _, rfl, fun i x cs hx => by simp at hx⟩

theorem rName_len (s : ByteArray) (bad : Bool) : (rName s bad).1.size ≤ 255 := by
  have h := rByte_range s bad
  unfold rName
  simp only
  split
  · exact Nat.zero_le _
  · split
    · exact Nat.zero_le _
    · simp; omega
theorem rCols_names : ∀ (k : Nat) (s : ByteArray) (bad : Bool) (acc : List PCol), (∀ c ∈ acc, c.name.size ≤ 255) → ∀ c ∈ (rCols k s bad acc).1, c.name.size ≤ 255
  | 0, _, _, _, h => h
  | k + 1, s, bad, acc, h => by
    rw [rCols]
    split
    · exact h
    · refine rCols_names k _ _ _ fun c hc => ?_
      rcases List.mem_append.1 hc with hc | hc
      · exact h c hc
      · simp only [List.mem_singleton] at hc
        subst hc
        exact rName_len _ _
theorem rIdxs_names : ∀ (k : Nat) (s : ByteArray) (bad : Bool) (acc : List PIdx), (∀ c ∈ acc, c.name.size ≤ 255) → ∀ c ∈ (rIdxs k s bad acc).1, c.name.size ≤ 255
  | 0, _, _, _, h => h
  | k + 1, s, bad, acc, h => by
    rw [rIdxs]
    split
    · exact h
    · refine rIdxs_names k _ _ _ fun c hc => ?_
      rcases List.mem_append.1 hc with hc | hc
      · exact h c hc
      · simp only [List.mem_singleton] at hc
        subst hc
        exact rName_len _ _

set_option maxRecDepth 100000 in
set_option maxHeartbeats 2000000 in
theorem RRead_any (b : ByteArray) (w : World) (hs : b.size ≤ 140737488351232) :
    Calls Tryz.prog 10 #[.string b] w (ReadPost w (readF b)) := by
  generalize hRF : readF b = RF
  unfold readF at hRF
  have Hrd := Lib.hid hRF
  clear hRF
  go_enter Tryz.func10, Tryz.ntmps10
  go_wp2_with fail
  have hP : Box (((w.alloc (.cells #[.slice none 0 0, .slice none 0 0, .slice none 0 0] 27)).alloc (.cells #[.string b, .bool false] 74)).alloc (.cells #[.slice none 0 0, .slice none 0 0, .slice none 0 0] 27)) (w.heap.size + 1) 74 [.string b, .bool false] := by
    have := (Box.new (w.alloc (.cells #[.slice none 0 0, .slice none 0 0, .slice none 0 0] 27)) [.string b, .bool false] 74).alloc (.cells #[.slice none 0 0, .slice none 0 0, .slice none 0 0] 27)
    simpa using this
  have hR : Box (((w.alloc (.cells #[.slice none 0 0, .slice none 0 0, .slice none 0 0] 27)).alloc (.cells #[.string b, .bool false] 74)).alloc (.cells #[.slice none 0 0, .slice none 0 0, .slice none 0 0] 27)) w.heap.size 27 [.slice none 0 0, .slice none 0 0, .slice none 0 0] :=
    ((Box.new w [.slice none 0 0, .slice none 0 0, .slice none 0 0] 27).alloc _).alloc _
  have hQ : Box (((w.alloc (.cells #[.slice none 0 0, .slice none 0 0, .slice none 0 0] 27)).alloc (.cells #[.string b, .bool false] 74)).alloc (.cells #[.slice none 0 0, .slice none 0 0, .slice none 0 0] 27)) (w.heap.size + 1 + 1) 27 [.slice none 0 0, .slice none 0 0, .slice none 0 0] := by
    have := Box.new ((w.alloc (.cells #[.slice none 0 0, .slice none 0 0, .slice none 0 0] 27)).alloc (.cells #[.string b, .bool false] 74)) [.slice none 0 0, .slice none 0 0, .slice none 0 0] 27
    simpa using this
  have hB : Below w.heap.size w (((w.alloc (.cells #[.slice none 0 0, .slice none 0 0, .slice none 0 0] 27)).alloc (.cells #[.string b, .bool false] 74)).alloc (.cells #[.slice none 0 0, .slice none 0 0, .slice none 0 0] 27)) :=
    below_next (below_next (below_new _ _) (below_new _ _)) (below_new _ _)
  have hsz : (((w.alloc (.cells #[.slice none 0 0, .slice none 0 0, .slice none 0 0] 27)).alloc (.cells #[.string b, .bool false] 74)).alloc (.cells #[.slice none 0 0, .slice none 0 0, .slice none 0 0] 27)).heap.size = w.heap.size + 1 + 1 + 1 := by simp
  generalize (((w.alloc (.cells #[.slice none 0 0, .slice none 0 0, .slice none 0 0] 27)).alloc (.cells #[.string b, .bool false] 74)).alloc (.cells #[.slice none 0 0, .slice none 0 0, .slice none 0 0] 27)) = W at *
  obtain ⟨B0, hB0⟩ : ∃ B0, B0 = w.heap.size + 1 + 1 + 1 := ⟨_, rfl⟩
  have hq1 : w.heap.size + 1 + 1 < B0 := by omega
  have hszW : B0 ≤ W.heap.size := by omega
  clear hsz hB0
  generalize hp : w.heap.size + 1 = p at *
  have hrp : w.heap.size < p := by omega
  clear hp
  generalize hq : p + 1 = q at *
  have hpq : p < q := by omega
  clear hq
  refine (Rbyte_any p b false _ hs hP).mono ?_
  rintro e w1 ⟨rfl, hP1, hg1⟩
  have hc1 := Chg.ofGrown hg1
  have hR1 := hR.chg hc1 (by simp; omega)
  have hQ1 := hQ.chg hc1 (by simp; omega)
  have hB1 := hc1.below hB (by simp; omega)
  have hz1 : B0 ≤ w1.heap.size := Nat.le_trans hszW hc1.size
  have hn := rByte_range b false
  have hsz1 := rByte_size b false
  generalize hr1 : rByte b false = r1 at *
  obtain ⟨n, s1, b1⟩ := r1
  dsimp only at *
  obtain ⟨n, rfl⟩ := Int.eq_ofNat_of_zero_le hn.1
  have hn' : n ≤ 255 := by omega
  clear hn hP hR hQ hB hg1 hc1 hszW
  rw [Int.toNat_natCast] at Hrd
  have HB1 := Lib.hid hB1
  have HP1 := Lib.hid hP1
  have HQ1 := Lib.hid hQ1
  have HR1 := Lib.hid hR1
  clear hB1 hP1 hQ1 hR1
  go_upto_block 0 with fail
  go_cut [] (fun wr => ∃ (s : ByteArray) (bad : Bool) (acc : List PCol) (v : Value), s.size ≤ 140737488351232 ∧ acc.length ≤ 255 ∧ Hid ((acc, s, bad) = rCols n s1 b1 []) ∧ Hid (Below w.heap.size w wr) ∧ B0 ≤ wr.heap.size ∧
    Hid (Box wr p 74 [.string s, .bool bad]) ∧ Hid (Box wr w.heap.size 27 [.slice none 0 0, .slice none 0 0, .slice none 0 0]) ∧ Hid (Box wr q 27 [v, .slice none 0 0, .slice none 0 0]) ∧ Hid (wr.ownsRow B0 45 3 v acc.length (acc.flatMap encC)))
  case first =>
    go_wp2_with fail
    go_loopw [7, 8] (fun i _ wr => ∃ (j : Nat) (s : ByteArray) (bad : Bool) (acc : List PCol) (v : Value), j ≤ n ∧ i = .int .i64 j ∧ s.size ≤ 140737488351232 ∧ Hid (acc.length = j) ∧ Hid (rCols (n - j) s bad acc = rCols n s1 b1 []) ∧ Hid (Below w.heap.size w wr) ∧ B0 ≤ wr.heap.size ∧
      Hid (Box wr p 74 [.string s, .bool bad]) ∧ Hid (Box wr w.heap.size 27 [.slice none 0 0, .slice none 0 0, .slice none 0 0]) ∧ Hid (Box wr q 27 [v, .slice none 0 0, .slice none 0 0]) ∧ Hid (wr.ownsRow B0 45 3 v j (acc.flatMap encC))) (fun i _ _ => n - (intOf i).toNat)
    case atStart => exact ⟨0, s1, b1, [], .slice none 0 0, by omega, rfl, by omega, rfl, rfl, HB1.out, hz1, HP1.out, HR1.out, HQ1.out, row_nil _ _ _ _⟩
    case round =>
      clear HB1 HP1 HQ1 HR1 hz1 hr1 hsz1 Hrd
      obtain ⟨j, s, bad, acc, v, hj, rfl, hsl, hal, hq0, HB, hz, HP, HR, HQ, HO⟩ := hrel
      have h0 := HP.out.cell 0 rfl
      have h1 := HP.out.cell 1 rfl
      by_cases hlt : j < n
      · have hlt' : decide ((j : Int) < (n : Int)) = true := by simp; omega
        cases bad with
        | true =>
          rw [show n - j = (n - j - 1) + 1 from by omega, rCols, if_pos rfl] at hq0
          go_wp2_with fail
          go_meet
          exact ⟨s, true, acc, v, hsl, by rw [hal.out]; omega, hq0.out, HB.out, hz, HP.out, HR.out, HQ.out, by rw [hal.out]; exact HO.out⟩
        | false =>
          rw [show n - j = (n - (j + 1)) + 1 from by omega, rCols, if_neg (by decide)] at hq0
          go_wp2_with fail
          refine (Rname_any p s false _ hsl HP.out).mono ?_
          rintro e w2 ⟨rfl, hP2, hg2⟩
          have hc2 := Chg.ofGrown hg2
          have hR2 := HR.out.chg hc2 (by simp; omega)
          have hQ2 := HQ.out.chg hc2 (by simp; omega)
          have hB2 := hc2.below HB.out (by simp; omega)
          have hz2 : B0 ≤ w2.heap.size := Nat.le_trans hz hc2.size
          have hO2 := row_chg HO.out hc2 (by simp; omega)
          have hs2 := rName_size s false
          generalize rName s false = r2 at *
          obtain ⟨nm, s2, b2⟩ := r2
          dsimp only at *
          clear HP HR HQ HO HB hg2 hc2 h0 h1
          have HP2 := Lib.hid hP2
          have HR2 := Lib.hid hR2
          have HQ2 := Lib.hid hQ2
          have HB2 := Lib.hid hB2
          have HO2 := Lib.hid hO2
          clear hP2 hR2 hQ2 hB2 hO2
          go_wp2_with fail
          have hpX : p ≠ w2.heap.size := by omega
          have hXp : w2.heap.size ∉ [p] := by simp; omega
          refine (Rbyte_any p s2 b2 _ (by omega) (HP2.out.alloc _)).mono ?_
          rintro e w3 ⟨rfl, hP3, hg3⟩
          have hX3 := (Box.new w2 [.string nm, .int .i64 0, .bool false] 45).chg (Chg.ofGrown hg3) hXp
          have hT3 : Chg [p, w2.heap.size] w2 w3 := (Chg.alloc _ w2 _).trans ((Chg.ofGrown hg3).mono (by simp))
          have hs3 := rByte_size s2 b2
          have hr3 := rByte_range s2 b2
          generalize rByte s2 b2 = r3 at *
          obtain ⟨ty, s3, b3⟩ := r3
          dsimp only at *
          have HP3 := Lib.hid hP3
          have HX3 := Lib.hid hX3
          have HT3 := Lib.hid hT3
          clear hP3 hT3 hg3
          have k1 := hX3.cell 1 rfl
          have g1 := hX3.frozen 1
          clear hX3
          go_wp2_with fail
          refine (Rflag_any p s3 b3 _ (by omega) (HP3.out.other hpX 1 _)).mono ?_
          rintro e w4 ⟨rfl, hP4, hg4⟩
          have hX4 := (HX3.out.set 1 (.int .i64 ty)).chg (Chg.ofGrown hg4) hXp
          have hT4 : Chg [p, w2.heap.size] w2 w4 := (HT3.out.trans ((Chg.set w3 w2.heap.size 1 (.int .i64 ty)).mono (by simp))).trans ((Chg.ofGrown hg4).mono (by simp))
          have hs4 := rFlag_size s3 b3
          generalize rFlag s3 b3 = r4 at *
          obtain ⟨fl, s4, b4⟩ := r4
          dsimp only at *
          clear k1 g1 HX3 HT3 HP3
          have k0 := hX4.cell 0 rfl
          have k1 := hX4.cell 1 rfl
          have k2 := hX4.cell 2 rfl
          have g2 := hX4.frozen 2
          have hT5 : Chg [p, w2.heap.size] w2 (w4.setCell ⟨w2.heap.size, 2, none⟩ (.bool fl)) := hT4.trans ((Chg.set w4 w2.heap.size 2 (.bool fl)).mono (by simp))
          have hP5 := hP4.other hpX 2 (.bool fl)
          have hR5 := HR2.out.chg hT5 (by simp; omega)
          have hQ5 := HQ2.out.chg hT5 (by simp; omega)
          have hB5 := hT5.below HB2.out (by simp; omega)
          have hO5 := row_chg HO2.out hT5 (by simp; omega)
          have hz5 : B0 ≤ (w4.setCell ⟨w2.heap.size, 2, none⟩ (.bool fl)).heap.size := Nat.le_trans hz2 hT5.size
          have q0 : w4.cell? ⟨q, 0, none⟩ = some v := (HQ2.out.chg hT4 (by simp; omega)).cell 0 rfl
          have qf : w4.frozen? ⟨q, 0, none⟩ = false := (HQ2.out.chg hT4 (by simp; omega)).frozen 0
          have hne : ¬ w2.heap.size = q := by omega
          have hne' : ¬ q = w2.heap.size := by omega
          have HO5 := Lib.hid hO5
          have HB5 := Lib.hid hB5
          have HQ5 := Lib.hid hQ5
          have HR5 := Lib.hid hR5
          have HP5 := Lib.hid hP5
          have hqz := hQ5.lt
          clear hO5 hB5 hQ5 hR5 hP5 hT5 hT4 hX4 hP4 hg4
          obtain ⟨A, cc, rfl⟩ := row_form HO5.out
          go_wp2_with (at_builtin; go_loud (refine append_one B0 _ _ 23 45 _ 3 32 Tryz.underlying23 Tryz.infoCol rfl (by decide) (by decide) (.slice A j cc) j (acc.flatMap encC) [.string nm, .int .i64 ty, .bool fl] HO5.out (by exact hz5) (by omega) rfl (by simp [Value.oneCell']) rfl rfl w4.heap.size (by simp) rfl rfl ?_); intro v1 w5 hO6 hg6; obtain ⟨A1, c1, rfl⟩ := row_form hO6; have m0 := (HQ5.out.app HO5.out hg6 (by omega)).cell 0 rfl; have mf := (HQ5.out.app HO5.out hg6 (by omega)).frozen 0; have HG6 := Lib.hid hg6; clear hg6; have HO6 := Lib.hid hO6; clear hO6)
          have hq1A : (Value.slice A1 (j + 1) c1).ownBlock ≠ some q := fun e => by have := (row_base HO6.out e).1; omega
          have hR6 := (HR5.out.app HO5.out HG6.out (by omega)).other (show w.heap.size ≠ q by omega) 0 (.slice A1 (j + 1) c1)
          have hP6 := (HP5.out.app HO5.out HG6.out (by omega)).other (show p ≠ q by omega) 0 (.slice A1 (j + 1) c1)
          have hQ6 := (HQ5.out.app HO5.out HG6.out (by omega)).set 0 (.slice A1 (j + 1) c1)
          have hB6 := below_set (below_row HB5.out (row_mono HO5.out (show w.heap.size ≤ B0 by omega)) HG6.out) (show w.heap.size ≤ q by omega) 0 (.slice A1 (j + 1) c1)
          have hz6 : B0 ≤ (w5.setCell ⟨q, 0, none⟩ (.slice A1 (j + 1) c1)).heap.size := Nat.le_trans hz5 (Nat.le_trans HG6.out.size (by simp))
          have hO7 := row_set HO6.out hq1A 0 (.slice A1 (j + 1) c1)
          go_roundw
          case rel => exact ⟨j + 1, s4, b4, acc ++ [⟨nm, ty, fl⟩], _, by omega, by go_num, by omega, by rw [List.length_append, hal.out]; exact rfl, hq0, hB6, hz6, hP6, hR6, hQ6, by rw [List.flatMap_append]; exact hO7⟩
          case measure => simp [intOf]; omega
      · have hlt' : decide ((j : Int) < (n : Int)) = false := by simp; omega
        rw [show n - j = 0 from by omega, rCols] at hq0
        go_wp2_with fail
        go_meet
        exact ⟨s, bad, acc, v, hsl, by rw [hal.out]; omega, hq0.out, HB.out, hz, HP.out, HR.out, HQ.out, by rw [hal.out]; exact HO.out⟩
  case rest =>
    clear HB1 HP1 HQ1 HR1 hz1 hr1 hsz1
    obtain ⟨s, bad, acc, v, hsl, hal, hq0, HB, hz, HP, HR, HQ, HO⟩ := hcut
    have hnmC := rCols_names n s1 b1 [] (by simp)
    rw [← hq0.out] at Hrd hnmC
    have HNC := Lib.hid hnmC
    clear hnmC
    clear hq0
    dsimp only at *
    go_wp2_with fail
    refine (Rbyte_any p s bad _ hsl HP.out).mono ?_
    rintro e w1 ⟨rfl, hP1, hg1⟩
    have hc1 := Chg.ofGrown hg1
    have HP1 := Lib.hid hP1
    have HR1 := Lib.hid (HR.out.chg hc1 (by simp; omega))
    have HQ1 := Lib.hid (HQ.out.chg hc1 (by simp; omega))
    have HB1 := Lib.hid (hc1.below HB.out (by simp; omega))
    have hz1 : B0 ≤ w1.heap.size := Nat.le_trans hz hc1.size
    have HO1 := Lib.hid (row_chg HO.out hc1 (by simp; omega))
    have hn := rByte_range s bad
    have hsz1 := rByte_size s bad
    generalize rByte s bad = r1 at *
    obtain ⟨m, s1, b1⟩ := r1
    dsimp only at *
    obtain ⟨m, rfl⟩ := Int.eq_ofNat_of_zero_le hn.1
    have hm' : m ≤ 255 := by omega
    rw [Int.toNat_natCast] at Hrd
    clear hn hP1 hg1 hc1 HP HR HQ HB HO hz
    go_upto_block 2 with fail
    go_cut [] (fun wr => ∃ (s : ByteArray) (bad : Bool) (ks : List ByteArray) (v2 : Value), s.size ≤ 140737488351232 ∧ ks.length ≤ 255 ∧ Hid ((ks, s, bad) = rNames m s1 b1 []) ∧ Hid (Below w.heap.size w wr) ∧ B0 ≤ wr.heap.size ∧
      Hid (Box wr p 74 [.string s, .bool bad]) ∧ Hid (Box wr w.heap.size 27 [.slice none 0 0, .slice none 0 0, .slice none 0 0]) ∧ Hid (Box wr q 27 [v, v2, .slice none 0 0]) ∧ Hid (wr.ownsRow B0 45 3 v acc.length (acc.flatMap encC)) ∧ Hid (wr.ownsRow B0 9 1 v2 ks.length (ks.flatMap encS)))
    case first =>
      go_wp2_with fail
      go_loopw [9] (fun i wr => ∃ (j : Nat) (s : ByteArray) (bad : Bool) (ks : List ByteArray) (v2 : Value), j ≤ m ∧ i = .int .i64 j ∧ s.size ≤ 140737488351232 ∧ Hid (ks.length = j) ∧ Hid (rNames (m - j) s bad ks = rNames m s1 b1 []) ∧ Hid (Below w.heap.size w wr) ∧ B0 ≤ wr.heap.size ∧
        Hid (Box wr p 74 [.string s, .bool bad]) ∧ Hid (Box wr w.heap.size 27 [.slice none 0 0, .slice none 0 0, .slice none 0 0]) ∧ Hid (Box wr q 27 [v, v2, .slice none 0 0]) ∧ Hid (wr.ownsRow B0 45 3 v acc.length (acc.flatMap encC)) ∧ Hid (wr.ownsRow B0 9 1 v2 j (ks.flatMap encS))) (fun i _ => m - (intOf i).toNat)
      case atStart => exact ⟨0, s1, b1, [], .slice none 0 0, by omega, rfl, by omega, rfl, rfl, HB1.out, hz1, HP1.out, HR1.out, HQ1.out, HO1.out, row_nil _ _ _ _⟩
      case round =>
        clear HB1 HP1 HQ1 HR1 HO1 hz1 hsz1 Hrd
        obtain ⟨j, s, bad, ks, v2, hj, rfl, hsl, hal, hq0, HB, hz, HP, HR, HQ, HO, HV⟩ := hrel
        have h0 := HP.out.cell 0 rfl
        have h1 := HP.out.cell 1 rfl
        by_cases hlt : j < m
        · have hlt' : decide ((j : Int) < (m : Int)) = true := by simp; omega
          cases bad with
          | true =>
            rw [show m - j = (m - j - 1) + 1 from by omega, rNames, if_pos rfl] at hq0
            go_wp2_with fail
            go_meet
            exact ⟨s, true, ks, v2, hsl, by rw [hal.out]; omega, hq0.out, HB.out, hz, HP.out, HR.out, HQ.out, HO.out, by rw [hal.out]; exact HV.out⟩
          | false =>
            rw [show m - j = (m - (j + 1)) + 1 from by omega, rNames, if_neg (by decide)] at hq0
            obtain ⟨A, cc, rfl⟩ := row_form HV.out
            have q1 := HQ.out.cell 1 rfl
            have qf := HQ.out.frozen 1
            have hs2 := rName_size s false
            generalize hr2 : rName s false = r2 at *
            obtain ⟨nm, s2, b2⟩ := r2
            dsimp only at *
            have Hr2 := Lib.hid hr2
            clear hr2
            go_wp2_with fail
            go_region_law ((first | (rw [if_pos (by rfl)]; go_simp; go_at_call 44; refine (Rname_any p s false _ hsl HP.out.drew).mono ?_; rw [Hr2.out]; dsimp only; rintro e w2 ⟨rfl, hP2, hg2⟩; have hc2 := Chg.ofGrown (grown_trans (grown_drew wr (some p)) hg2); have hQ2 := HQ.out.chg hc2 (by simp; omega); have q1' := hQ2.cell 1 rfl; have qf' := hQ2.frozen 1; have qa := (fun o => (hQ2.alloc o).cell 1 rfl : ∀ o, (w2.alloc o).cell? ⟨q, 1, none⟩ = some (Value.slice A j cc)); have HC2 := Lib.hid hc2; clear hc2; have HP2 := Lib.hid hP2; clear hP2; have HQ2 := Lib.hid hQ2; clear hQ2; clear hg2; have HV2 := Lib.hid (row_chg HV.out HC2.out (by simp; omega)); have hz2 : B0 ≤ w2.heap.size := Nat.le_trans hz HC2.out.size) | (refine append_step B0 _ _ 24 9 _ 1 16 Tryz.underlying24 Tryz.infoStr rfl (by decide) (by decide) (.slice A j cc) j (ks.flatMap encS) [.string nm] HV2.out hz2 (by omega) rfl (by simp [Value.oneCell']) rfl rfl _ rfl rfl rfl ?_; intro g c5 w5 hO6 hg6; have hQ6 := HQ2.out.app HV2.out hg6 (by omega); have q1'' := hQ6.cell 1 rfl; have qf'' := hQ6.frozen 1; have HQ6 := Lib.hid hQ6; clear hQ6; have HO6 := Lib.hid hO6; clear hO6; have HG6 := Lib.hid hg6; clear hg6)))
            all_goals
              have hqg : (Value.slice (some ⟨g, 0, none⟩) (j + 1) c5).ownBlock ≠ some q := fun e => by have := (row_base HO6.out e).1; omega
              have hR5 := HR.out.chg HC2.out (by simp; omega)
              have hO5 := row_chg HO.out HC2.out (by simp; omega)
              have hB5 := HC2.out.below HB.out (by simp; omega)
              have hR6 := (hR5.app HV2.out HG6.out (by omega)).other (show w.heap.size ≠ q by omega) 1 (.slice (some ⟨g, 0, none⟩) (j + 1) c5)
              have hP6 := (HP2.out.app HV2.out HG6.out (by omega)).other (show p ≠ q by omega) 1 (.slice (some ⟨g, 0, none⟩) (j + 1) c5)
              have hQ6 := HQ6.out.set 1 (.slice (some ⟨g, 0, none⟩) (j + 1) c5)
              have hB6 := below_set (below_row hB5 (row_mono HV2.out (show w.heap.size ≤ B0 by omega)) HG6.out) (show w.heap.size ≤ q by omega) 1 (.slice (some ⟨g, 0, none⟩) (j + 1) c5)
              have hz6 : B0 ≤ (w5.setCell ⟨q, 1, none⟩ (.slice (some ⟨g, 0, none⟩) (j + 1) c5)).heap.size := Nat.le_trans hz2 (Nat.le_trans HG6.out.size (by simp))
              have hO6 := row_app hO5 HV2.out HG6.out (by decide)
              have hO7 := row_set (q := q) hO6 (fun e => by have := (row_base hO6 e).1; omega) 1 (.slice (some ⟨g, 0, none⟩) (j + 1) c5)
              have hV7 := row_set HO6.out hqg 1 (.slice (some ⟨g, 0, none⟩) (j + 1) c5)
              have HA := Lib.hid (And.intro hR6 (And.intro hP6 (And.intro hQ6 (And.intro hB6 (And.intro hO7 hV7)))))
              clear hR5 hO5 hB5 hR6 hP6 hQ6 hB6 hO6 hO7 hV7
              go_wp2_with fail
              go_roundw
              case rel =>
                obtain ⟨hR6, hP6, hQ6, hB6, hO7, hV7⟩ := HA.out
                exact ⟨j + 1, s2, b2, ks ++ [nm], _, by omega, by go_num, by omega, by rw [List.length_append, hal.out]; exact rfl, hq0, hB6, hz6, hP6, hR6, hQ6, hO7, by rw [List.flatMap_append]; exact hV7⟩
              case measure => simp [intOf]; omega
        · have hlt' : decide ((j : Int) < (m : Int)) = false := by simp; omega
          rw [show m - j = 0 from by omega, rNames] at hq0
          go_wp2_with fail
          go_meet
          exact ⟨s, bad, ks, v2, hsl, by rw [hal.out]; omega, hq0.out, HB.out, hz, HP.out, HR.out, HQ.out, HO.out, by rw [hal.out]; exact HV.out⟩
    case rest =>
      clear HB1 HP1 HQ1 HR1 HO1 hz1 hsz1
      obtain ⟨s, bad, ks, v2, hsl, hkl, hq0, HB, hz, HP, HR, HQ, HO, HV⟩ := hcut
      rw [← hq0.out] at Hrd
      clear hq0
      dsimp only at *
      go_wp2_with fail
      refine (Rbyte_any p s bad _ hsl HP.out).mono ?_
      rintro e w1 ⟨rfl, hP1, hg1⟩
      have hc1 := Chg.ofGrown hg1
      have HP1 := Lib.hid hP1
      have HR1 := Lib.hid (HR.out.chg hc1 (by simp; omega))
      have HQ1 := Lib.hid (HQ.out.chg hc1 (by simp; omega))
      have HB1 := Lib.hid (hc1.below HB.out (by simp; omega))
      have hz1 : B0 ≤ w1.heap.size := Nat.le_trans hz hc1.size
      have HO1 := Lib.hid (row_chg HO.out hc1 (by simp; omega))
      have HV1 := Lib.hid (row_chg HV.out hc1 (by simp; omega))
      have hn := rByte_range s bad
      have hsz1 := rByte_size s bad
      generalize rByte s bad = r1 at *
      obtain ⟨o, s1, b1⟩ := r1
      dsimp only at *
      obtain ⟨o, rfl⟩ := Int.eq_ofNat_of_zero_le hn.1
      have ho' : o ≤ 255 := by omega
      rw [Int.toNat_natCast] at Hrd
      clear hn hP1 hg1 hc1 HP HR HQ HB HO HV hz
      go_upto_block 4 with fail
      go_cut [] (fun wr => ∃ (s : ByteArray) (bad : Bool) (xs : List PIdx) (v3 : Value), s.size ≤ 140737488351232 ∧ xs.length ≤ 255 ∧ Hid ((xs, s, bad) = rIdxs o s1 b1 []) ∧ Hid (Below w.heap.size w wr) ∧ B0 ≤ wr.heap.size ∧
        Hid (Box wr p 74 [.string s, .bool bad]) ∧ Hid (Box wr w.heap.size 27 [.slice none 0 0, .slice none 0 0, .slice none 0 0]) ∧ Hid (Box wr q 27 [v, v2, v3]) ∧ Hid (wr.ownsRow B0 45 3 v acc.length (acc.flatMap encC)) ∧ Hid (wr.ownsRow B0 9 1 v2 ks.length (ks.flatMap encS)) ∧ Hid (OwnIdx wr B0 47 9 v3 xs.length xs))
      case first =>
        go_wp2_with fail
        go_loopw [10, 11] (fun i _ wr => ∃ (j : Nat) (s : ByteArray) (bad : Bool) (xs : List PIdx) (v3 : Value), j ≤ o ∧ i = .int .i64 j ∧ s.size ≤ 140737488351232 ∧ Hid (rIdxs (o - j) s bad xs = rIdxs o s1 b1 []) ∧ Hid (Below w.heap.size w wr) ∧ B0 ≤ wr.heap.size ∧
          Hid (Box wr p 74 [.string s, .bool bad]) ∧ Hid (Box wr w.heap.size 27 [.slice none 0 0, .slice none 0 0, .slice none 0 0]) ∧ Hid (Box wr q 27 [v, v2, v3]) ∧ Hid (wr.ownsRow B0 45 3 v acc.length (acc.flatMap encC)) ∧ Hid (wr.ownsRow B0 9 1 v2 ks.length (ks.flatMap encS)) ∧ Hid (OwnIdx wr B0 47 9 v3 j xs)) (fun i _ _ => o - (intOf i).toNat)
        case atStart => exact ⟨0, s1, b1, [], .slice none 0 0, by omega, rfl, by omega, rfl, HB1.out, hz1, HP1.out, HR1.out, HQ1.out, HO1.out, HV1.out, OwnIdx.nil _ _ _ _⟩
        case round =>
          clear HB1 HP1 HQ1 HR1 HO1 HV1 hz1 hsz1 Hrd
          obtain ⟨j, s, bad, xs, v3, hj, rfl, hsl, hq0, HB, hz, HP, HR, HQ, HO, HV, HI⟩ := hrel
          have h0 := HP.out.cell 0 rfl
          have h1 := HP.out.cell 1 rfl
          by_cases hlt : j < o
          · have hlt' : decide ((j : Int) < (o : Int)) = true := by simp; omega
            cases bad with
            | true =>
              rw [show o - j = (o - j - 1) + 1 from by omega, rIdxs, if_pos rfl] at hq0
              go_wp2_with fail
              go_meet
              exact ⟨s, true, xs, v3, hsl, by rw [HI.out.1]; omega, hq0.out, HB.out, hz, HP.out, HR.out, HQ.out, HO.out, HV.out, by rw [HI.out.1]; exact HI.out⟩
            | false =>
              rw [show o - j = (o - (j + 1)) + 1 from by omega, rIdxs, if_neg (by decide)] at hq0
              go_wp2_with fail
              refine (Rname_any p s false _ hsl HP.out).mono ?_
              rintro e w2 ⟨rfl, hP2, hg2⟩
              have hc2 := Chg.ofGrown hg2
              have HP2 := Lib.hid hP2
              have HR2 := Lib.hid (HR.out.chg hc2 (by simp; omega))
              have HQ2 := Lib.hid (HQ.out.chg hc2 (by simp; omega))
              have HB2 := Lib.hid (hc2.below HB.out (by simp; omega))
              have hz2 : B0 ≤ w2.heap.size := Nat.le_trans hz hc2.size
              have HO2 := Lib.hid (row_chg HO.out hc2 (by simp; omega))
              have HV2 := Lib.hid (row_chg HV.out hc2 (by simp; omega))
              have HI2 := Lib.hid (HI.out.chg hc2 (by simp; omega))
              have hs2 := rName_size s false
              generalize rName s false = r2 at *
              obtain ⟨nm, s2, b2⟩ := r2
              dsimp only at *
              clear HP HR HQ HO HV HI HB hg2 hc2 h0 h1 hP2
              have hpX : p ≠ w2.heap.size := by omega
              have hXp : w2.heap.size ∉ [p] := by simp; omega
              go_wp2_with fail
              refine (Rflag_any p s2 b2 _ (by omega) (HP2.out.alloc _)).mono ?_
              rintro e w3 ⟨rfl, hP3, hg3⟩
              have hX3 := (Box.new w2 [.string nm, .slice none 0 0, .bool false] 47).chg (Chg.ofGrown hg3) hXp
              have HT3 := Lib.hid (show Chg [p, w2.heap.size] w2 w3 from (Chg.alloc _ w2 _).trans ((Chg.ofGrown hg3).mono (by simp)))
              have hs3 := rFlag_size s2 b2
              generalize rFlag s2 b2 = r3 at *
              obtain ⟨fl, s3, b3⟩ := r3
              dsimp only at *
              have HP3 := Lib.hid hP3
              have HX3 := Lib.hid hX3
              clear hP3 hg3
              have k1 := hX3.cell 2 rfl
              have g1 := hX3.frozen 2
              clear hX3
              go_wp2_with fail
              refine (Rbyte_any p s3 b3 _ (by omega) (HP3.out.other hpX 2 _)).mono ?_
              rintro e w4 ⟨rfl, hP4, hg4⟩
              have HX4 := Lib.hid ((HX3.out.set 2 (.bool fl)).chg (Chg.ofGrown hg4) hXp)
              have HT4 := Lib.hid ((HT3.out.trans ((Chg.set w3 w2.heap.size 2 (.bool fl)).mono (by simp))).trans ((Chg.ofGrown hg4).mono (by simp)))
              have hs4 := rByte_size s3 b3
              have hr4 := rByte_range s3 b3
              generalize rByte s3 b3 = r4 at *
              obtain ⟨mm, s4, b4⟩ := r4
              dsimp only at *
              obtain ⟨mm, rfl⟩ := Int.eq_ofNat_of_zero_le hr4.1
              rw [Int.toNat_natCast] at hq0
              have hmm : mm ≤ 255 := by omega
              have HP4 := Lib.hid hP4
              clear k1 g1 HX3 HT3 HP3 hP4 hg4
              have hz4 : w2.heap.size < w4.heap.size := HX4.out.lt
              go_upto_block 6 with fail
              go_cut [] (fun wr => ∃ (s : ByteArray) (bad : Bool) (l : List ByteArray) (A : Option Addr) (c : Nat), s.size ≤ 140737488351232 ∧ l.length ≤ 255 ∧ Hid ((l, s, bad) = rNames mm s4 b4 []) ∧ Hid (Chg [p, w2.heap.size] w4 wr) ∧
                Hid (Box wr p 74 [.string s, .bool bad]) ∧ Hid (Box wr w2.heap.size 47 [.string nm, .slice A l.length c, .bool fl]) ∧ Hid (wr.ownsRow w4.heap.size 9 1 (.slice A l.length c) l.length (l.flatMap encS)))
              case first =>
                go_wp2_with fail
                go_loopw [13] (fun i wr => ∃ (jj : Nat) (s : ByteArray) (bad : Bool) (l : List ByteArray) (A : Option Addr) (c : Nat), jj ≤ mm ∧ i = .int .i64 jj ∧ s.size ≤ 140737488351232 ∧ Hid (l.length = jj) ∧ Hid (rNames (mm - jj) s bad l = rNames mm s4 b4 []) ∧ Hid (Chg [p, w2.heap.size] w4 wr) ∧
                  Hid (Box wr p 74 [.string s, .bool bad]) ∧ Hid (Box wr w2.heap.size 47 [.string nm, .slice A jj c, .bool fl]) ∧ Hid (wr.ownsRow w4.heap.size 9 1 (.slice A jj c) jj (l.flatMap encS))) (fun i _ => mm - (intOf i).toNat)
                case atStart => exact ⟨0, s4, b4, [], none, 0, by omega, rfl, by omega, rfl, rfl, Chg.refl _ _, HP4.out, HX4.out, row_nil _ _ _ _⟩
                case round =>
                  obtain ⟨jj, s, bad, l, A, cc, hjj, rfl, hsl, hal, hqi, HC, HP, HX, HW⟩ := hrel
                  have h0 := HP.out.cell 0 rfl
                  have h1 := HP.out.cell 1 rfl
                  have hzr := HC.out.size
                  by_cases hlt2 : jj < mm
                  · have hlt2' : decide ((jj : Int) < (mm : Int)) = true := by simp; omega
                    cases bad with
                    | true =>
                      rw [show mm - jj = (mm - jj - 1) + 1 from by omega, rNames, if_pos rfl] at hqi
                      go_wp2_with fail
                      go_meet
                      exact ⟨s, true, l, A, cc, hsl, by rw [hal.out]; omega, hqi.out, HC.out, HP.out, by rw [hal.out]; exact HX.out, by rw [hal.out]; exact HW.out⟩
                    | false =>
                      rw [show mm - jj = (mm - (jj + 1)) + 1 from by omega, rNames, if_neg (by decide)] at hqi
                      have q1 := HX.out.cell 1 rfl
                      have qf := HX.out.frozen 1
                      have hs2' := rName_size s false
                      generalize hr2 : rName s false = r2 at *
                      obtain ⟨ni, s5, b5⟩ := r2
                      dsimp only at *
                      have Hr2 := Lib.hid hr2
                      clear hr2
                      go_wp2_with fail
                      go_region_law ((first | (rw [if_pos (by rfl)]; go_simp; go_at_call 44; refine (Rname_any p s false _ hsl HP.out.drew).mono ?_; rw [Hr2.out]; dsimp only; rintro e w5 ⟨rfl, hP5, hg5⟩; have hc5 := Chg.ofGrown (grown_trans (grown_drew wr (some p)) hg5); have hX5 := HX.out.chg hc5 (by simp; omega); have q1' := hX5.cell 1 rfl; have qf' := hX5.frozen 1; have qa := (fun o => (hX5.alloc o).cell 1 rfl : ∀ o, (w5.alloc o).cell? ⟨w2.heap.size, 1, none⟩ = some (Value.slice A jj cc)); have HC5 := Lib.hid hc5; clear hc5; have HP5 := Lib.hid hP5; clear hP5; have HX5 := Lib.hid hX5; clear hX5; clear hg5; have HW5 := Lib.hid (row_chg HW.out HC5.out (by simp; omega)); have hz5 : w4.heap.size ≤ w5.heap.size := Nat.le_trans hzr HC5.out.size) | (refine append_step w4.heap.size _ _ 24 9 _ 1 16 Tryz.underlying24 Tryz.infoStr rfl (by decide) (by decide) (.slice A jj cc) jj (l.flatMap encS) [.string ni] HW5.out hz5 (by omega) rfl (by simp [Value.oneCell']) rfl rfl _ rfl rfl rfl ?_; intro g c6 w6 hO6 hg6; have hX6 := HX5.out.app HW5.out hg6 hz4; have q1'' := hX6.cell 1 rfl; have qf'' := hX6.frozen 1; have HX6 := Lib.hid hX6; clear hX6; have HW6 := Lib.hid hO6; clear hO6; have HG6 := Lib.hid hg6; clear hg6)))
                      all_goals
                        have hP6 := (HP5.out.app HW5.out HG6.out (by omega)).other hpX 1 (.slice (some ⟨g, 0, none⟩) (jj + 1) c6)
                        have hX7 := HX6.out.set 1 (.slice (some ⟨g, 0, none⟩) (jj + 1) c6)
                        have hC7 : Chg [p, w2.heap.size] w4 (w6.setCell ⟨w2.heap.size, 1, none⟩ (.slice (some ⟨g, 0, none⟩) (jj + 1) c6)) :=
                          ((HC.out.trans (HC5.out.mono (by simp))).app HW5.out HG6.out).trans ((Chg.set w6 w2.heap.size 1 _).mono (by simp))
                        have hW7 := row_set (q := w2.heap.size) HW6.out (fun e => by have := (row_base HW6.out e).1; omega) 1 (.slice (some ⟨g, 0, none⟩) (jj + 1) c6)
                        have HA := Lib.hid (And.intro hP6 (And.intro hX7 (And.intro hC7 hW7)))
                        clear hP6 hX7 hC7 hW7
                        go_wp2_with fail
                        go_roundw
                        case rel =>
                          obtain ⟨hP6, hX7, hC7, hW7⟩ := HA.out
                          exact ⟨jj + 1, s5, b5, l ++ [ni], _, _, by omega, by go_num, by omega, by rw [List.length_append, hal.out]; exact rfl, hqi, hC7, hP6, hX7, by rw [List.flatMap_append]; exact hW7⟩
                        case measure => simp [intOf]; omega
                  · have hlt2' : decide ((jj : Int) < (mm : Int)) = false := by simp; omega
                    rw [show mm - jj = 0 from by omega, rNames] at hqi
                    go_wp2_with fail
                    go_meet
                    exact ⟨s, bad, l, A, cc, hsl, by rw [hal.out]; omega, hqi.out, HC.out, HP.out, by rw [hal.out]; exact HX.out, by rw [hal.out]; exact HW.out⟩
              case rest =>
                obtain ⟨s5, b5, l, A, c, hsl5, hll, hqi, HC, HP, HX, HW⟩ := hcut
                rw [← hqi.out] at hq0
                dsimp only at hq0
                have hT := HT4.out.trans HC.out
                have hR5 := HR2.out.chg hT (by simp; omega)
                have hQ5 := HQ2.out.chg hT (by simp; omega)
                have hB5 := hT.below HB2.out (by simp; omega)
                have hO5 := row_chg HO2.out hT (by simp; omega)
                have hV5 := row_chg HV2.out hT (by simp; omega)
                obtain ⟨i0, css, i1, i2, i3⟩ := HI2.out.chg hT (by simp; omega)
                have hz5 : B0 ≤ wc.heap.size := Nat.le_trans hz2 hT.size
                have q0 := hQ5.cell 2 rfl
                have k0 := HX.out.cell 0 rfl
                have k1 := HX.out.cell 1 rfl
                have k2 := HX.out.cell 2 rfl
                have HA := Lib.hid (And.intro hR5 (And.intro hQ5 (And.intro hB5 (And.intro hO5 (And.intro hV5 hT)))))
                have HI1 := Lib.hid i1
                have HI3 := Lib.hid i3
                have HI0 := Lib.hid i0
                have HI2' := Lib.hid i2
                have HQ5 := Lib.hid hQ5
                have hqs := hQ5.lt
                clear hR5 hQ5 hB5 hO5 hV5 hT i0 i1 i2 i3 HR2 HQ2 HB2 HO2 HV2 HI2 HP2 HX4 HT4 HP4
                obtain ⟨A3, c3, rfl⟩ := row_form HI1.out
                go_wp2_with (at_builtin; go_loud (refine append_one B0 _ _ 25 47 _ 3 48 Tryz.underlying25 Tryz.infoIdx rfl (by decide) (by decide) (.slice A3 j c3) j css.flatten [.string nm, .slice A l.length c, .bool fl] HI1.out (by exact hz5) (by omega) rfl (by simp [Value.oneCell']) rfl rfl wc.heap.size rfl rfl rfl ?_); intro v1 w5 hO6 hg6; obtain ⟨A1, c1, rfl⟩ := row_form hO6; have m0 := (HQ5.out.app HI1.out hg6 (by omega)).cell 2 rfl; have mf := (HQ5.out.app HI1.out hg6 (by omega)).frozen 2; have HG6 := Lib.hid hg6; clear hg6; have HO6 := Lib.hid hO6; clear hO6)
                obtain ⟨hR5, hQ5, hB5, hO5, hV5, hT⟩ := HA.out
                have hI6 := OwnIdx.snoc HI0.out HI1.out HI2'.out HI3.out (by decide) HG6.out (x := ⟨nm, l, fl⟩) (row_mono HW.out (by omega)) hll HO6.out
                have hR6 := (hR5.app HI1.out HG6.out (by omega)).other (show w.heap.size ≠ q by omega) 2 (.slice A1 (j + 1) c1)
                have hP6 := (HP.out.app HI1.out HG6.out (by omega)).other (show p ≠ q by omega) 2 (.slice A1 (j + 1) c1)
                have hQ6 := (hQ5.app HI1.out HG6.out (by omega)).set 2 (.slice A1 (j + 1) c1)
                have hB6 := below_set (below_row hB5 (row_mono HI1.out (show w.heap.size ≤ B0 by omega)) HG6.out) (show w.heap.size ≤ q by omega) 2 (.slice A1 (j + 1) c1)
                have hz6 : B0 ≤ (w5.setCell ⟨q, 2, none⟩ (.slice A1 (j + 1) c1)).heap.size := Nat.le_trans hz5 (Nat.le_trans HG6.out.size (by simp))
                have hO7 := row_chg (row_app hO5 HI1.out HG6.out (by decide)) (Chg.set w5 q 2 (.slice A1 (j + 1) c1)) (by simp; omega)
                have hV7 := row_chg (row_app hV5 HI1.out HG6.out (by decide)) (Chg.set w5 q 2 (.slice A1 (j + 1) c1)) (by simp; omega)
                have hI7 := hI6.chg (Chg.set w5 q 2 (.slice A1 (j + 1) c1)) (by simp; omega)
                clear hR5 hQ5 hB5 hO5 hV5 hT hI6
                go_roundw
                case rel => exact ⟨j + 1, s5, b5, xs ++ [(⟨nm, l, fl⟩ : PIdx)], _, by omega, by go_num, by omega, hq0, hB6, hz6, hP6, hR6, hQ6, hO7, hV7, hI7⟩
                case measure => simp [intOf]; omega
          · have hlt' : decide ((j : Int) < (o : Int)) = false := by simp; omega
            rw [show o - j = 0 from by omega, rIdxs] at hq0
            go_wp2_with fail
            go_meet
            exact ⟨s, bad, xs, v3, hsl, by rw [HI.out.1]; omega, hq0.out, HB.out, hz, HP.out, HR.out, HQ.out, HO.out, HV.out, by rw [HI.out.1]; exact HI.out⟩
      case rest =>
        clear HB1 HP1 HQ1 HR1 HO1 HV1 hz1 hsz1
        obtain ⟨s, bad, xs, v3, hsl, hxl, hq0, HB, hz, HP, HR, HQ, HO, HV, HI⟩ := hcut
        have hnmX := rIdxs_names o s1 b1 [] (by simp)
        rw [← hq0.out] at Hrd hnmX
        have HNX := Lib.hid hnmX
        clear hnmX
        clear hq0
        dsimp only at *
        have h0 := HP.out.cell 0 rfl
        have h1 := HP.out.cell 1 rfl
        have q0 := HQ.out.cell 0 rfl
        have q1 := HQ.out.cell 1 rfl
        have q2 := HQ.out.cell 2 rfl
        have r0 := HR.out.cell 0 rfl
        have r1 := HR.out.cell 1 rfl
        have r2 := HR.out.cell 2 rfl
        have f0 := HR.out.frozen 0
        have f1 := HR.out.frozen 1
        have f2 := HR.out.frozen 2
        have hS : ∀ (W : World) (u0 u1 u2 : Value), Box W w.heap.size 27 [.slice none 0 0, .slice none 0 0, .slice none 0 0] → Below w.heap.size w W →
            Below w.heap.size w (((W.setCell ⟨w.heap.size, 0, none⟩ u0).setCell ⟨w.heap.size, 1, none⟩ u1).setCell ⟨w.heap.size, 2, none⟩ u2) ∧ Chg [w.heap.size] W (((W.setCell ⟨w.heap.size, 0, none⟩ u0).setCell ⟨w.heap.size, 1, none⟩ u1).setCell ⟨w.heap.size, 2, none⟩ u2) ∧
            (((W.setCell ⟨w.heap.size, 0, none⟩ u0).setCell ⟨w.heap.size, 1, none⟩ u1).setCell ⟨w.heap.size, 2, none⟩ u2).cell? ⟨w.heap.size, 0, none⟩ = some u0 ∧ (((W.setCell ⟨w.heap.size, 0, none⟩ u0).setCell ⟨w.heap.size, 1, none⟩ u1).setCell ⟨w.heap.size, 2, none⟩ u2).cell? ⟨w.heap.size, 1, none⟩ = some u1 ∧
            (((W.setCell ⟨w.heap.size, 0, none⟩ u0).setCell ⟨w.heap.size, 1, none⟩ u1).setCell ⟨w.heap.size, 2, none⟩ u2).cell? ⟨w.heap.size, 2, none⟩ = some u2 :=
          fun W u0 u1 u2 hb h => ⟨below_set (below_set (below_set h (Nat.le_refl _) 0 u0) (Nat.le_refl _) 1 u1) (Nat.le_refl _) 2 u2, ((Chg.set W _ 0 u0).trans (Chg.set _ _ 1 u1)).trans (Chg.set _ _ 2 u2),
            (((hb.set 0 u0).set 1 u1).set 2 u2).cell 0 rfl, (((hb.set 0 u0).set 1 u1).set 2 u2).cell 1 rfl, (((hb.set 0 u0).set 1 u1).set 2 u2).cell 2 rfl⟩
        have HS := Lib.hid hS
        clear hS
        have hrs : w.heap.size < wc.heap.size := HR.out.lt
        cases bad with
        | true =>
          rw [if_pos rfl] at Hrd
          go_wp2_with fail
          obtain ⟨hb6, -, x0, x1, x2⟩ := HS.out _ (.slice none 0 0) (.slice none 0 0) (.slice none 0 0) HR.out HB.out
          refine bodyPost_ret (v := .tuple #[.agg #[.slice none 0 0, .slice none 0 0, .slice none 0 0], .bool false]) (by simp [results, Tryz.results10, go_sem, x0, x1, x2]) rfl ?_
          rw [← Hrd.out]
          exact ⟨none, none, none, 0, 0, 0, rfl, ⟨Sl.nil _ _ _ _, Sl.nil _ _ _ _, Sl.nil _ _ _ _⟩, hb6⟩
        | false =>
          rw [if_neg (by decide)] at Hrd
          by_cases hse : s.size = 0
          case neg =>
            rw [if_pos hse] at Hrd
            have hse' : ¬ s.toList = [] := fun h => hse (by rw [ByteArray.toList_eq] at h; simpa using congrArg List.length h)
            go_wp2_with fail
            obtain ⟨hb6, -, x0, x1, x2⟩ := HS.out _ (.slice none 0 0) (.slice none 0 0) (.slice none 0 0) HR.out HB.out
            refine bodyPost_ret (v := .tuple #[.agg #[.slice none 0 0, .slice none 0 0, .slice none 0 0], .bool false]) (by simp [results, Tryz.results10, go_sem, x0, x1, x2]) rfl ?_
            rw [← Hrd.out]
            exact ⟨none, none, none, 0, 0, 0, rfl, ⟨Sl.nil _ _ _ _, Sl.nil _ _ _ _, Sl.nil _ _ _ _⟩, hb6⟩
          have hse' : s.toList = [] := by rw [ByteArray.toList_eq]; exact List.eq_nil_of_length_eq_zero (by simpa using hse)
          rw [if_neg (by omega)] at Hrd
          obtain ⟨A1, c1, rfl⟩ := row_form HO.out
          obtain ⟨A2, c2, rfl⟩ := row_form HV.out
          obtain ⟨A3, c3, rfl⟩ := row_form HI.out.2.choose_spec.1
          have hRS : RSch wc ⟨acc, ks, xs⟩ A1 A2 A3 := ⟨sl_of_row encC (fun _ => rfl) rfl (by show acc.length ≤ _; omega) HO.out, sl_of_row encS (fun _ => rfl) rfl (by show ks.length ≤ _; omega) HV.out, HI.out.sl rfl (by show xs.length ≤ _; omega)⟩
          have HRS := Lib.hid hRS
          clear hRS
          go_wp2_with fail
          refine (RRight_any A1 A2 A3 _ _ _ c1 c2 c3 ⟨acc, ks, xs⟩ _ rfl rfl rfl HRS.out (fun c hc => Nat.le_trans (HNC.out c hc) (by decide)) (fun c hc => Nat.le_trans (HNX.out c hc) (by decide))).mono ?_
          rintro e w5 ⟨rfl, hb5⟩
          obtain ⟨hc5, hf5⟩ := bcell hb5
          have HB5 := Lib.hid (below_next HB.out hb5)
          have HRS5 := Lib.hid (HRS.out.below hb5)
          have HQ5 := Lib.hid (HQ.out.below hb5)
          have HR5 := HR.out.below hb5
          have HO5 := Lib.hid (row_below HO.out hb5)
          have HV5 := Lib.hid (row_below HV.out hb5)
          have HI5 := Lib.hid (HI.out.chg (Chg.ofBelow hb5 []) (by simp))
          have hz5 := hb5.size
          have hqs := HQ.out.lt
          clear hb5
          by_cases hri : rightF ⟨acc, ks, xs⟩ = true
          · rw [if_pos hri] at Hrd
            rw [hri]
            go_wp2_with fail
            obtain ⟨hb6, hc6, x0, x1, x2⟩ := HS.out _ (.slice A1 acc.length c1) (.slice A2 ks.length c2) (.slice A3 xs.length c3) HR5 HB5.out
            refine bodyPost_ret (v := .tuple #[.agg #[.slice A1 acc.length c1, .slice A2 ks.length c2, .slice A3 xs.length c3], .bool true]) (by simp [results, Tryz.results10, go_sem, x0, x1, x2]) rfl ?_
            rw [← Hrd.out]
            exact ⟨A1, A2, A3, c1, c2, c3, rfl, ⟨sl_of_row encC (fun _ => rfl) rfl (by show acc.length ≤ _; omega) (row_chg HO5.out hc6 (by simp; omega)), sl_of_row encS (fun _ => rfl) rfl (by show ks.length ≤ _; omega) (row_chg HV5.out hc6 (by simp; omega)), (HI5.out.chg hc6 (by simp; omega)).sl rfl (by show xs.length ≤ _; omega)⟩, hb6⟩
          · rw [if_neg hri] at Hrd
            have hri' : rightF ⟨acc, ks, xs⟩ = false := by simpa using hri
            rw [hri']
            go_wp2_with fail
            obtain ⟨hb6, -, x0, x1, x2⟩ := HS.out _ (.slice none 0 0) (.slice none 0 0) (.slice none 0 0) HR5 HB5.out
            refine bodyPost_ret (v := .tuple #[.agg #[.slice none 0 0, .slice none 0 0, .slice none 0 0], .bool false]) (by simp [results, Tryz.results10, go_sem, x0, x1, x2]) rfl ?_
            rw [← Hrd.out]
            exact ⟨none, none, none, 0, 0, 0, rfl, ⟨Sl.nil _ _ _ _, Sl.nil _ _ _ _, Sl.nil _ _ _ _⟩, hb6⟩
end Go.Proofs.Pw
