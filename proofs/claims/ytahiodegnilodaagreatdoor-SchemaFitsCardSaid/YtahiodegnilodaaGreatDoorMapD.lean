/- The program's schema.Right. -/
import Derived.Carry
import Derived.Test.YtahiodegnilodaaGreatDoorMMapC
namespace Go.Proofs.Pw
open Go.RowKit

def typP (n : Int) : Bool := decide (1 ≤ n ∧ n ≤ 4)
def colsP : List PCol → List PCol → Bool
  | _, [] => true
  | seen, c :: r => if (getC seen c.name).isSome then false else if namedF c.name then if typP c.typ then colsP (seen ++ [c]) r else false else false
def idxP (cs : List PCol) : ByteArray → List PIdx → Bool
  | _, [] => true
  | p, x :: r => if namedF x.name then if ltS p x.name then if fewF x.cols then if x.cols.all (fun k => (getC cs k).isSome) then idxP cs x.name r else false else false else false else false
def rightP (s : PSch) : Bool :=
  if s.cols.length < 1 then false else if 32 < s.cols.length then false else if 8 < s.idx.length then false else
  if fewF s.key then if colsP [] s.cols then if s.key.all (nnP s.cols) then idxP s.cols ⟨#[]⟩ s.idx else false else false else false

theorem lt_yes {p n : ByteArray} (h : ltS p n = true) : Op.bytesLess n.toList p.toList = false ∧ ¬ n.toList = p.toList := by
  unfold ltS at h
  rw [bytesLess_eq] at h ⊢
  have h := of_decide_eq_true h
  exact ⟨decide_eq_false (List.lt_asymm h), fun e => List.lt_irrefl _ (e ▸ h)⟩
theorem lt_not {p n : ByteArray} (h : ¬ ltS p n = true) : Op.bytesLess n.toList p.toList = true ∨ (Op.bytesLess n.toList p.toList = false ∧ n.toList = p.toList) := by
  by_cases h1 : Op.bytesLess n.toList p.toList = true
  · exact .inl h1
  · refine .inr ⟨by simpa using h1, ?_⟩
    unfold ltS at h
    rw [bytesLess_eq] at h h1
    exact List.le_antisymm (by simpa using h) (by simpa using h1)
theorem bc {w w' : World} (h : Below w.heap.size w w') {p o : Nat} {v : Value} (hv : w.cell? ⟨p, o, none⟩ = some v) (hp : p < w.heap.size) : w'.cell? ⟨p, o, none⟩ = some v := (h.cell (p := ⟨p, o, none⟩) hp).trans hv

set_option maxRecDepth 100000 in
set_option maxHeartbeats 1000000 in
theorem PRight_any (A1 A2 A3 : Option Addr) (c1 c2 c3 : Nat) (s : PSch) (w : World) (hs : RSch w s A1 A2 A3)
    (hb : ∀ c ∈ s.cols, c.name.size ≤ 140737488351232) (hi : ∀ x ∈ s.idx, x.name.size ≤ 140737488351232) (hk16 : s.key.length * 16 ≤ 140737488355328) (hx16 : ∀ x ∈ s.idx, x.cols.length * 16 ≤ 140737488355328) :
    Calls Tryz.prog 24 #[.agg #[.slice A1 s.cols.length c1, .slice A2 s.key.length c2, .slice A3 s.idx.length c3]] w (Gives w (.bool (rightP s))) := by
  have HC := Lib.hid hs.1
  have HK := Lib.hid hs.2.1
  have HX := Lib.hid hs.2.2
  have hm1 := hs.1.1
  have hm2 := hs.2.1.1
  have hm3 := hs.2.2.1
  have Hb := Lib.hid hb
  have Hi := Lib.hid hi
  have Hk16 := Lib.hid hk16
  have Hx16 := Lib.hid hx16
  clear hs hb hi hk16 hx16
  by_cases h1 : s.cols.length < 1
  · go_enter Tryz.func24, Tryz.ntmps24
    go_wp2_with fail
    go_ret
    exact ⟨by rw [rightP, if_pos h1]; rfl, below_new _ _⟩
  by_cases h2 : 32 < s.cols.length
  · go_enter Tryz.func24, Tryz.ntmps24
    go_wp2_with fail
    go_ret
    exact ⟨by rw [rightP, if_neg h1, if_pos h2]; rfl, below_new _ _⟩
  by_cases h3 : 8 < s.idx.length
  · go_enter Tryz.func24, Tryz.ntmps24
    go_wp2_with fail
    go_ret
    exact ⟨by rw [rightP, if_neg h1, if_neg h2, if_pos h3]; rfl, below_new _ _⟩
  have Hp : Hid (rightP s = if fewF s.key then if colsP [] s.cols then if s.key.all (nnP s.cols) then idxP s.cols ⟨#[]⟩ s.idx else false else false else false) := by
    rw [rightP, if_neg h1, if_neg h2, if_neg h3]; rfl
  go_enter Tryz.func24, Tryz.ntmps24
  go_wp2_with fail
  refine (few_any A2 _ c2 s.key _ rfl (HK.out.below (flat_stable _) (below_new _ _)) Hk16.out).mono ?_
  rintro e w1 ⟨rfl, hb1⟩
  obtain ⟨hc1, hf1⟩ := bcell hb1
  have hB := Lib.hid (below_next (below_new w _) hb1)
  have hz : w.heap.size < w1.heap.size := by have := hb1.size; simp at this; omega
  have hx0 : w1.cell? ⟨w.heap.size, 0, none⟩ = some (.slice A1 s.cols.length c1) := by go_simp
  have hx1 : w1.cell? ⟨w.heap.size, 1, none⟩ = some (.slice A2 s.key.length c2) := by go_simp
  have hx2 : w1.cell? ⟨w.heap.size, 2, none⟩ = some (.slice A3 s.idx.length c3) := by go_simp
  clear hb1 hc1 hf1
  by_cases hp : fewF s.key = true
  case neg =>
    have hp' : fewF s.key = false := by simpa using hp
    clear hp
    go_wp2_with fail
    go_ret
    exact ⟨by rw [Hp.out, hp']; rfl, hB.out⟩
  rw [hp, if_pos rfl] at Hp
  rw [hp]
  have hmm := @run_makeMap Tryz.prog
  go_wp2_with fail
  have hzM : w.heap.size < w1.heap.size := hz
  have hB0 : Below w.heap.size w ((w1.alloc (.map #[] 0)).alloc (.cells #[.map (some w1.heap.size)] 92)) := (hB.out.alloc hB.out.size _).alloc (by have := hB.out.size; simp; omega) _
  have hM0 : StrMap ((w1.alloc (.map #[] 0)).alloc (.cells #[.map (some w1.heap.size)] 92)) w1.heap.size (mapC []) := (StrMap.new w1).below (below_new _ _)
  have hz0 : w1.heap.size + 1 < ((w1.alloc (.map #[] 0)).alloc (.cells #[.map (some w1.heap.size)] 92)).heap.size := by simp
  have y0 : ((w1.alloc (.map #[] 0)).alloc (.cells #[.map (some w1.heap.size)] 92)).cell? ⟨w.heap.size, 0, none⟩ = some (.slice A1 s.cols.length c1) := by go_simp
  have y1 : ((w1.alloc (.map #[] 0)).alloc (.cells #[.map (some w1.heap.size)] 92)).cell? ⟨w.heap.size, 1, none⟩ = some (.slice A2 s.key.length c2) := by go_simp
  have y2 : ((w1.alloc (.map #[] 0)).alloc (.cells #[.map (some w1.heap.size)] 92)).cell? ⟨w.heap.size, 2, none⟩ = some (.slice A3 s.idx.length c3) := by go_simp
  have y3 : ((w1.alloc (.map #[] 0)).alloc (.cells #[.map (some w1.heap.size)] 92)).cell? ⟨w1.heap.size + 1, 0, none⟩ = some (.map (some w1.heap.size)) := by go_simp
  generalize (w1.alloc (.map #[] 0)).alloc (.cells #[.map (some w1.heap.size)] 92) = w2 at *
  clear hB hz hx0 hx1 hx2 hmm
  generalize w1.heap.size = M at *
  have HM0 := Lib.hid hM0
  have HB0 := Lib.hid hB0
  clear hM0 hB0
  go_loopw [38] (fun i wr => ∃ j : Nat, j ≤ s.cols.length ∧ i = .int .i64 j ∧ Hid (colsP (s.cols.take j) (s.cols.drop j) = colsP [] s.cols) ∧ Hid (Below w.heap.size w wr) ∧ Hid (StrMap wr M (mapC (s.cols.take j))) ∧ M + 1 < wr.heap.size ∧ wr.cell? ⟨w.heap.size, 0, none⟩ = some (.slice A1 s.cols.length c1) ∧ wr.cell? ⟨w.heap.size, 1, none⟩ = some (.slice A2 s.key.length c2) ∧ wr.cell? ⟨w.heap.size, 2, none⟩ = some (.slice A3 s.idx.length c3) ∧ wr.cell? ⟨M + 1, 0, none⟩ = some (.map (some M))) (fun i _ => s.cols.length - (intOf i).toNat)
  case atStart => exact ⟨0, by omega, rfl, rfl, HB0.out, HM0.out, hz0, y0, y1, y2, y3⟩
  case round =>
    clear HB0 HM0 hz0 y0 y1 y2 y3
    obtain ⟨j, hj, rfl, hq, hB, hM, hz, x0, x1, x2, x3⟩ := hrel
    by_cases hlt : j < s.cols.length
    · obtain ⟨b, off, rfl, hb, hbb, hs0, hs1, hs2⟩ := cols_at (HC.out.below (flat_stable _) hB.out) hlt
      rw [drop_cons _ _ hlt, colsP] at hq
      have Hbj := Hb.out _ (List.getElem_mem hlt)
      have Hsn := Lib.hid (List.take_succ_eq_append_getElem hlt)
      generalize s.cols[j] = y at *
      have hl : ∀ o, (Instr.lookup 92 (.map (some M)) (.string y.name) true).run Tryz.prog (wr.alloc o) = .ok (.tuple #[aggC ((getC (s.cols.take j) y.name).getD zeroC), .bool (getC (s.cols.take j) y.name).isSome]) (wr.alloc o) := fun o => look2 (hM.out.below (below_new _ _)) _
      unfold aggC at hl
      generalize (getC (s.cols.take j) y.name).getD zeroC = z0 at *
      have hM1 : ¬ M + 1 = wr.heap.size := by omega
      have hM2 : ¬ M + 1 = wr.heap.size + 1 := by omega
      have hM3 : M + 1 < wr.heap.size + 1 + 1 := by omega
      have hw0 : w.heap.size < wr.heap.size := by omega
      have hw1 : w.heap.size < wr.heap.size + 1 + 1 := by omega
      cases hg : (getC (s.cols.take j) y.name).isSome
      case true =>
        rw [hg, if_pos rfl] at hq
        rw [hg] at hl
        go_wp2_with fail
        go_ret
        exact ⟨by rw [Hp.out, ← hq.out]; rfl, (hB.out.alloc hB.out.size _).alloc (by have := hB.out.size; simp; omega) _⟩
      rw [hg, if_neg (by decide)] at hq
      rw [hg] at hl
      go_wp2_with fail
      refine (PNamed_any _ _ Hbj).mono ?_
      rintro e w3 ⟨rfl, hb3⟩
      obtain ⟨hc3, hf3⟩ := bcell hb3
      have hB3 := Lib.hid (below_step hB.out _ (below_step (Below.refl _ _) _ hb3))
      have hM5 := Lib.hid (StrMap.below (hM.out.below (below_step (below_new wr _) _ hb3)) (Below.refl _ _))
      have hbr := below_step (below_new wr _) _ hb3
      have k0 : w3.cell? ⟨wr.heap.size, 0, none⟩ = some (.string y.name) := by go_simp
      have k1 : w3.cell? ⟨wr.heap.size, 1, none⟩ = some (.int .i64 y.typ) := by go_simp
      have k2 : w3.cell? ⟨wr.heap.size, 2, none⟩ = some (.bool y.nn) := by go_simp
      have m0 : w3.cell? ⟨w.heap.size, 0, none⟩ = some (.slice (some ⟨b, off, none⟩) s.cols.length c1) := bc hbr x0 (by omega)
      have m1 : w3.cell? ⟨w.heap.size, 1, none⟩ = some (.slice A2 s.key.length c2) := bc hbr x1 (by omega)
      have m2 : w3.cell? ⟨w.heap.size, 2, none⟩ = some (.slice A3 s.idx.length c3) := bc hbr x2 (by omega)
      have m3 : w3.cell? ⟨M + 1, 0, none⟩ = some (.map (some M)) := bc hbr x3 (by omega)
      have hz3 : wr.heap.size + 1 < w3.heap.size := by have := hb3.size; simp at this; omega
      clear hb3 hc3 hf3 hbr x0 x1 x2 x3 hs0 hs1 hs2 hl hM hB
      generalize hkk : wr.heap.size = kk at *
      by_cases hn : namedF y.name = true
      case neg =>
        have hn' : namedF y.name = false := by simpa using hn
        rw [hn', if_neg (by decide)] at hq
        rw [hn']
        clear hn
        go_wp2_with fail
        go_ret
        exact ⟨by rw [Hp.out, ← hq.out]; rfl, hB3.out⟩
      rw [hn, if_pos rfl] at hq
      rw [hn]
      go_wp2_with fail
      refine (typed_any _ _).mono ?_
      rintro e w4 ⟨rfl, hb4⟩
      obtain ⟨hc4, hf4⟩ := bcell hb4
      have hB4 := Lib.hid (below_next hB3.out hb4)
      have hM4 := Lib.hid (hM5.out.below hb4)
      have n0 : w4.cell? ⟨kk, 0, none⟩ = some (.string y.name) := bc hb4 k0 (by omega)
      have n1 : w4.cell? ⟨kk, 1, none⟩ = some (.int .i64 y.typ) := bc hb4 k1 (by omega)
      have n2 : w4.cell? ⟨kk, 2, none⟩ = some (.bool y.nn) := bc hb4 k2 (by omega)
      have l0 : w4.cell? ⟨w.heap.size, 0, none⟩ = some (.slice (some ⟨b, off, none⟩) s.cols.length c1) := bc hb4 m0 (by omega)
      have l1 : w4.cell? ⟨w.heap.size, 1, none⟩ = some (.slice A2 s.key.length c2) := bc hb4 m1 (by omega)
      have l2 : w4.cell? ⟨w.heap.size, 2, none⟩ = some (.slice A3 s.idx.length c3) := bc hb4 m2 (by omega)
      have l3 : w4.cell? ⟨M + 1, 0, none⟩ = some (.map (some M)) := bc hb4 m3 (by omega)
      have hz4 : M + 1 < w4.heap.size := by have := hb4.size; omega
      clear hb4 hc4 hf4 k0 k1 k2 m0 m1 m2 m3 hz3 hB3 hM5
      rw [show decide (1 ≤ y.typ ∧ y.typ ≤ 4) = typP y.typ from rfl]
      by_cases ht : typP y.typ = true
      case neg =>
        have ht' : typP y.typ = false := by simpa using ht
        rw [ht', if_neg (by decide)] at hq
        rw [ht']
        clear ht
        go_wp2_with fail
        go_ret
        exact ⟨by rw [Hp.out, ← hq.out]; rfl, hB4.out⟩
      rw [ht, if_pos rfl] at hq
      rw [ht]
      obtain ⟨w5, hput, hM5, hg5⟩ := run_put Tryz.underlying92 Tryz.underlying9 hM4.out y.name (aggC y)
      rw [put_mapC _ _ (by simpa using hg), ← Hsn.out] at hM5
      rw [← Hsn.out] at hq
      unfold aggC at hput
      have HM5 := Lib.hid hM5
      have HG5 := Lib.hid hg5
      clear hM5 hg5
      go_wp2_with fail
      have hc5 : ∀ p o v, p < w4.heap.size → p ≠ M → w4.cell? ⟨p, o, none⟩ = some v → w5.cell? ⟨p, o, none⟩ = some v := fun p o v hp hne h => (World.cell?_of_block (w := w4) (HG5.out.block p hp (by simp; omega))).trans h
      have hz5 := HG5.out.size
      have hB5 := hB4.out.grown HG5.out hB4.out.size (fun q hq => by cases hq; omega)
      go_roundw
      case rel => exact ⟨j + 1, by omega, by go_num, hq, hB5, HM5.out, by omega, hc5 _ _ _ (by omega) (by omega) l0, hc5 _ _ _ (by omega) (by omega) l1, hc5 _ _ _ (by omega) (by omega) l2, hc5 _ _ _ (by omega) (by omega) l3⟩
      case measure => simp [intOf]; omega
    · rw [List.drop_eq_nil_of_le (by omega), colsP] at hq
      obtain rfl : j = s.cols.length := by omega
      rw [List.take_length] at hM
      rw [← hq.out, if_pos rfl] at Hp
      clear hq hlt hj
      go_wp2_with fail
      refine (all_any1 (M + 1) (nnP s.cols) A2 c2 s.key wr (HK.out.below (flat_stable _) hB.out) (fun x w' hb => right1_any (M + 1) M s.cols x w' ((hb.cell (by exact hz)).trans x3) (hM.out.below hb))).mono ?_
      rintro e w3 ⟨rfl, hb3⟩
      obtain ⟨hc3, hf3⟩ := bcell hb3
      have hB3 := Lib.hid (below_next hB.out hb3)
      have hM3 := Lib.hid (hM.out.below hb3)
      have hw0 : w.heap.size < wr.heap.size := by omega
      have m0 : w3.cell? ⟨w.heap.size, 0, none⟩ = some (.slice A1 s.cols.length c1) := bc hb3 x0 (by omega)
      have m1 : w3.cell? ⟨w.heap.size, 1, none⟩ = some (.slice A2 s.key.length c2) := bc hb3 x1 (by omega)
      have m2 : w3.cell? ⟨w.heap.size, 2, none⟩ = some (.slice A3 s.idx.length c3) := bc hb3 x2 (by omega)
      have m3 : w3.cell? ⟨M + 1, 0, none⟩ = some (.map (some M)) := bc hb3 x3 (by omega)
      have hz3 : M + 1 < w3.heap.size := by have := hb3.size; omega
      clear hb3 hc3 hf3 x0 x1 x2 x3 hM hB hz hw0
      by_cases ha : s.key.all (nnP s.cols) = true
      case neg =>
        have ha' : s.key.all (nnP s.cols) = false := by simpa using ha
        rw [ha', if_neg (by decide)] at Hp
        rw [ha']
        clear ha
        go_wp2_with fail
        go_ret
        exact ⟨Hp.out ▸ rfl, hB3.out⟩
      rw [ha, if_pos rfl] at Hp
      rw [ha]
      go_wp2_with fail
      have hw0 : w.heap.size < w3.heap.size := by omega
      go_loopw [8, 75] (fun pv i wr => ∃ (j : Nat) (p : ByteArray), j ≤ s.idx.length ∧ i = .int .i64 j ∧ pv = .string p ∧ Hid (idxP s.cols p (s.idx.drop j) = idxP s.cols ⟨#[]⟩ s.idx) ∧ Hid (Below w.heap.size w wr) ∧ Hid (StrMap wr M (mapC s.cols)) ∧ M + 1 < wr.heap.size ∧ wr.cell? ⟨w.heap.size, 0, none⟩ = some (.slice A1 s.cols.length c1) ∧ wr.cell? ⟨w.heap.size, 1, none⟩ = some (.slice A2 s.key.length c2) ∧ wr.cell? ⟨w.heap.size, 2, none⟩ = some (.slice A3 s.idx.length c3) ∧ wr.cell? ⟨M + 1, 0, none⟩ = some (.map (some M))) (fun _ i _ => s.idx.length - (intOf i).toNat)
      case atStart => exact ⟨0, ⟨#[]⟩, by omega, rfl, rfl, rfl, hB3.out, hM3.out, hz3, m0, m1, m2, m3⟩
      case round =>
        clear hB3 hM3 hz3 m0 m1 m2 m3 hw0
        obtain ⟨j, p, hj, rfl, rfl, hq, hB, hM, hz, x0, x1, x2, x3⟩ := hrel
        by_cases hlt : j < s.idx.length
        · obtain ⟨b, off, B, cB, rfl, hb, hbb, hs0, hs1, hs2, hsB⟩ := idxs_at (HX.out.below RIdx_stable hB.out) hlt
          have HB := Lib.hid hsB
          clear hsB
          rw [drop_cons _ _ hlt, idxP] at hq
          have Hij := Hi.out _ (List.getElem_mem hlt)
          have Hxj := Lib.hid (Hx16.out _ (List.getElem_mem hlt))
          generalize s.idx[j] = y at *
          have hy8 : y.cols.length ≤ 140737488351232 := HB.out.1
          have hw0 : w.heap.size < wr.heap.size := by omega
          have hM1 : ¬ M + 1 = wr.heap.size := by omega
          have hM3 : M + 1 < wr.heap.size + 1 := by omega
          have hw1 : w.heap.size < wr.heap.size + 1 := by omega
          go_wp2_with fail
          refine (all_any2 (M + 1) (fun k => (getC s.cols k).isSome) B cB y.cols _ (HB.out.below (flat_stable _) (below_new _ _)) (fun x w' hb => right2_any (M + 1) M s.cols x w' (bc (below_step (Below.refl wr.heap.size wr) _ hb) x3 hz) (hM.out.below (below_step (Below.refl wr.heap.size wr) _ hb)))).mono ?_
          rintro e w4 ⟨rfl, hb4⟩
          have hbr := below_step (Below.refl wr.heap.size wr) _ hb4
          have hB4 := Lib.hid (below_next hB.out hbr)
          have hM4 := Lib.hid (hM.out.below hbr)
          have HB4 := Lib.hid (HB.out.below (flat_stable _) hbr)
          obtain ⟨hc4, hf4⟩ := bcell hb4
          have k0 : w4.cell? ⟨wr.heap.size, 0, none⟩ = some (.string y.name) := by go_simp
          have k1 : w4.cell? ⟨wr.heap.size, 1, none⟩ = some (.slice B y.cols.length cB) := by go_simp
          have m0 := bc hbr x0 (by omega)
          have m1 := bc hbr x1 (by omega)
          have m2 := bc hbr x2 (by omega)
          have m3 := bc hbr x3 (by omega)
          have hz4 : wr.heap.size < w4.heap.size := by have := hb4.size; simp at this; omega
          clear hb4 hc4 hf4 hbr x0 x1 x2 x3 hs0 hs1 hs2 hM hB HB
          generalize hkk : wr.heap.size = kk at *
          generalize hal : (y.cols.all fun k => (getC s.cols k).isSome) = al at *
          go_wp2_with fail
          refine (PNamed_any _ _ Hij).mono ?_
          rintro e w5 ⟨rfl, hb5⟩
          have hB5 := Lib.hid (below_next hB4.out hb5)
          have hM5 := Lib.hid (hM4.out.below hb5)
          have HB5 := Lib.hid (HB4.out.below (flat_stable _) hb5)
          have n0 := bc hb5 k0 (by omega)
          have n1 := bc hb5 k1 (by omega)
          have l0 := bc hb5 m0 (by omega)
          have l1 := bc hb5 m1 (by omega)
          have l2 := bc hb5 m2 (by omega)
          have l3 := bc hb5 m3 (by omega)
          have hz5 : kk < w5.heap.size := by have := hb5.size; omega
          clear hb5 k0 k1 m0 m1 m2 m3 hz4 hB4 hM4 HB4
          by_cases hn : namedF y.name = true
          case neg =>
            have hn' : namedF y.name = false := by simpa using hn
            rw [hn', if_neg (by decide)] at hq
            rw [hn']
            clear hn
            go_wp2_with fail
            go_ret
            exact ⟨by rw [Hp.out, ← hq.out]; rfl, hB5.out⟩
          rw [hn, if_pos rfl] at hq
          rw [hn]
          by_cases hl : ltS p y.name = true
          case neg =>
            rw [if_neg hl] at hq
            rcases lt_not hl with hl1 | ⟨hl1, hl2⟩
            · go_wp2_with fail
              go_ret
              exact ⟨by rw [Hp.out, ← hq.out]; rfl, hB5.out⟩
            · go_wp2_with fail
              go_ret
              exact ⟨by rw [Hp.out, ← hq.out]; rfl, hB5.out⟩
          obtain ⟨hl1, hl2⟩ := lt_yes hl
          have hl3 : (y.name.toList == p.toList) = false := by simpa using hl2
          rw [if_pos hl] at hq
          clear hl
          go_wp2_with fail
          refine (few_any B _ cB y.cols _ rfl HB5.out Hxj.out).mono ?_
          rintro e w6 ⟨rfl, hb6⟩
          have hB6 := Lib.hid (below_next hB5.out hb6)
          have hM6 := Lib.hid (hM5.out.below hb6)
          have k0 := bc hb6 n0 (by omega)
          have m0 := bc hb6 l0 (by omega)
          have m1 := bc hb6 l1 (by omega)
          have m2 := bc hb6 l2 (by omega)
          have m3 := bc hb6 l3 (by omega)
          have hz6 : M + 1 < w6.heap.size := by have := hb6.size; omega
          clear hb6 n0 n1 l0 l1 l2 l3 hz5 hB5 hM5
          by_cases hf : fewF y.cols = true
          case neg =>
            have hf' : fewF y.cols = false := by simpa using hf
            rw [if_neg hf] at hq
            rw [hf']
            clear hf
            go_wp2_with fail
            go_ret
            exact ⟨by rw [Hp.out, ← hq.out]; rfl, hB6.out⟩
          rw [hf, if_pos rfl] at hq
          rw [hf]
          cases al
          · rw [if_neg (by decide)] at hq
            go_wp2_with fail
            go_ret
            exact ⟨by rw [Hp.out, ← hq.out]; rfl, hB6.out⟩
          · rw [if_pos rfl] at hq
            go_wp2_with fail
            go_roundw
            case rel => exact ⟨j + 1, y.name, by omega, by go_num, rfl, hq, hB6, hM6, hz6, m0, m1, m2, m3⟩
            case measure => simp [intOf]; omega
        · rw [List.drop_eq_nil_of_le (by omega), idxP] at hq
          rw [← hq.out] at Hp
          clear hq
          go_wp2_with fail
          go_ret
          exact ⟨Hp.out ▸ rfl, hB.out⟩
end Go.Proofs.Pw
