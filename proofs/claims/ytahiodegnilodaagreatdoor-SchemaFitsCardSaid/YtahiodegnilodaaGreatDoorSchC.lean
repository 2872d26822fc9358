/- Package schema: Named, few, typed; slices.Sorted of a list's texts. -/
import Derived.Test.YtahiodegnilodaaGreatDoorSeqA
import Derived.Test.YtahiodegnilodaaGreatDoorSchA
import Derived.Test.YtahiodegnilodaaGreatDoorShelf
import Derived.Shelf.Strings.SlTrimAscii
import Derived.Sort.OwnSorted
namespace Go.Proofs
open Go.RowKit
def Pw.cutset : List UInt8 := [97, 98, 99, 100, 101, 102, 103, 104, 105, 106, 107, 108, 109, 110, 111, 112, 113, 114, 115, 116, 117, 118, 119, 120, 121, 122, 48, 49, 50, 51, 52, 53, 54, 55, 56, 57, 95]
theorem Tryz.strings_Trim_cut (s : ByteArray) (w : World) (hs : s.size ≤ 9223372036854775807) :
    Calls Tryz.prog 47 #[.string s, .string ⟨#[97, 98, 99, 100, 101, 102, 103, 104, 105, 106, 107, 108, 109, 110, 111, 112, 113, 114, 115, 116, 117, 118, 119, 120, 121, 122, 48, 49, 50, 51, 52, 53, 54, 55, 56, 57, 95]⟩] w fun e w' =>
      e = .returned (.string ⟨(Lib.trimS s.data.toList Pw.cutset).toArray⟩) ∧ Below w.heap.size w w' :=
  Any.strings_Trim_laid Tryz.lays160 (by kernel_rfl) s _ w hs (by decide) (ascii_of_all (by decide))
end Go.Proofs
namespace Go.Proofs.Pw
open Go.RowKit Go.Sort Go.Lib

def bs (l : List ByteArray) : List (List UInt8) := l.map fun s => s.data.toList
def sortF (l : List ByteArray) : List (List UInt8) := (bs l).mergeSort fun x y => decide (x ≤ y)
def fewF (l : List ByteArray) : Bool := if l.length < 1 then false else if 8 < l.length then false else decide ((Lib.compact (sortF l)).length = l.length)
theorem bs_enc (l : List ByteArray) : (bs l).map encStr = l.map Value.string := by simp [bs, encStr]
theorem bs_len (l : List ByteArray) : (bs l).length = l.length := by simp [bs]
theorem sortF_len (l : List ByteArray) : (sortF l).length = l.length := by simp [sortF, bs]

set_option maxHeartbeats 1000000 in
theorem sorted_any (Bs cap : Nat) (A : Option Addr) (xs : List ByteArray) (hbytes : xs.length * 16 ≤ 140737488355328) (w : World) (hBs : Bs < w.heap.size)
    (hc : w.cell? ⟨Bs, 0, none⟩ = some (.slice A xs.length cap)) (hS : xs ≠ [] → ∃ b off, A = some ⟨b, off, none⟩ ∧ b < w.heap.size ∧ ∀ i, ∀ hi : i < xs.length, w.cell? ⟨b, off + i, none⟩ = some (.string xs[i])) :
    Calls Tryz.prog 107 #[.func (.func 133) #[] #[.pointer (some ⟨Bs, 0, none⟩)]] w fun e W' => ∃ v, e = .returned v ∧ W'.ownsRow w.heap.size 9 1 v xs.length ((sortF xs).map encStr) ∧ Below w.heap.size w W' := by
  have hA := Lib.hid (collect_any Bs cap A xs hbytes w hBs hc hS)
  clear hc hS
  go_enter Tryz.func107, Tryz.ntmps107
  go_wp2_with fail
  refine hA.out.mono ?_
  rintro e W ⟨v, rfl, hrow, -, hb⟩
  rcases hrow.2 with ⟨rfl, hz⟩ | ⟨gb, cp, cur, rfl, hbase, hgb, r1, r2, r3, r4⟩
  · have hx : xs = [] := List.eq_nil_of_length_eq_zero hz
    subst hx
    have HR := Lib.hid hrow
    have HB := Lib.hid hb
    clear hrow hb
    go_wp2_with fail
    refine (Tryz.slices_Sort_string_none none 0 W).mono ?_
    rintro e w' ⟨rfl, rfl⟩
    go_wp2_with fail
    go_ret
    exact ⟨_, rfl, by simpa [sortF, bs] using HR.out, HB.out⟩
  · have hH : Holds encStr W gb 0 (bs xs).toArray := holds_of_block hgb (by rw [bs_len, bs_enc]; simpa using r4)
    have hgl : gb < W.heap.size := (Array.getElem?_eq_some_iff.1 hgb).1
    have hcs := Tryz.slices_Sort_string gb 0 cp (bs xs) W hH hgl (by rw [bs_len]; omega)
    rw [bs_len] at hcs
    have HS := Lib.hid hcs
    have HG := Lib.hid (And.intro hbase (And.intro hgb (And.intro r1 (And.intro r2 r3))))
    have HB := Lib.hid hb
    clear hcs hH hgb r4 hb hrow r2 r3
    go_wp2_with fail
    refine HS.out.mono ?_
    rintro e w' ⟨rfl, nn, os, rfl⟩
    generalize hW' : grow (putRow encStr (Sort.ahead W nn) gb 0 ((bs xs).mergeSort fun x y => decide (x ≤ y)).toArray) os = W'
    have HW := Lib.hid hW'
    clear hW'
    go_wp2_with fail
    go_ret
    obtain ⟨g1, g2, g3, g4, g5⟩ := HG.out
    rw [← HW.out]
    refine ⟨_, rfl, ?_, HB.out.grown (grownBy_sorted _) HB.out.size (fun j hj => by cases hj; exact g1)⟩
    have := ownsRow_sorted (n := nn) (os := os) (ss := bs xs) (ts := sortF xs) (by rw [sortF_len, bs_len]) g1 g2 (by rw [bs_len]; exact g3) g4 g5
    rw [bs_len] at this
    exact this

set_option maxHeartbeats 1000000 in
theorem few_any (A : Option Addr) (n c : Nat) (xs : List ByteArray) (w : World) (hn : n = xs.length) (hs : Strs w A xs) (hb16 : xs.length * 16 ≤ 140737488355328) :
    Calls Tryz.prog 63 #[.slice A n c] w (Gives w (.bool (fewF xs))) := by
  subst hn
  have HS := Lib.hid hs
  have hm := hs.1
  clear hs
  go_enter Tryz.func63, Tryz.ntmps63
  go_wp2_with fail
  refine (values_in A xs.length c _).mono ?_
  rintro e w' ⟨rfl, rfl⟩
  go_wp2_with fail
  refine (sorted_any w.heap.size c A xs hb16 _ (by simp) ((Box.new w [.slice A xs.length c] 24).cell 0 rfl) (fun hne => ?_)).mono ?_
  · obtain ⟨b, off, hA, hlt, -, hall⟩ := strs_all HS.out hne
    exact ⟨b, off, hA, by simp; omega, fun i hi => ((below_new w (.cells #[.slice A xs.length c] 24)).cell (p := ⟨b, off + i, none⟩) hlt).trans (hall i hi)⟩
  rintro e w1 ⟨v, rfl, hrow, hb⟩
  have HB := Lib.hid (below_next (below_new w _) hb)
  have HR := Lib.hid (row_mono (base' := w.heap.size) hrow (by simp))
  clear hrow hb
  by_cases h1 : xs.length < 1
  · have h1' : decide ((1 : Int) ≤ (xs.length : Int)) = false := by simp; omega
    go_wp2_with fail
    go_ret
    exact ⟨by rw [fewF, if_pos h1]; rfl, HB.out⟩
  have h1' : decide ((1 : Int) ≤ (xs.length : Int)) = true := by simp; omega
  by_cases h2 : 8 < xs.length
  · have h2' : decide ((xs.length : Int) ≤ 8) = false := by simp; omega
    go_wp2_with fail
    go_ret
    exact ⟨by rw [fewF, if_neg h1, if_pos h2]; rfl, HB.out⟩
  have h2' : decide ((xs.length : Int) ≤ 8) = true := by simp; omega
  rcases HR.out.2 with ⟨rfl, hz⟩ | ⟨gb, cp, cur, rfl, hbase, hgb, r1, r2, r3, r4⟩
  · omega
  have hH : Holds encStr w1 gb 0 (sortF xs).toArray := holds_of_block hgb (by rw [sortF_len]; simpa using r4)
  have hcs := Tryz.slices_Compact_string gb 0 cp (sortF xs) w1 hH (by rw [sortF_len]; omega) (by rw [sortF_len]; exact r1)
  rw [sortF_len] at hcs
  have HC := Lib.hid hcs
  clear hcs hH hgb r3 r4
  go_wp2_with fail
  refine HC.out.mono ?_
  rintro e w2 ⟨rfl, q, rfl⟩
  have hb2 : Below w.heap.size w (putRow encStr (Sort.ahead w1 q) gb 0 (Lib.compact (sortF xs) ++ List.replicate (xs.length - (Lib.compact (sortF xs)).length) []).toArray) := by
    have hg := grownBy_sorted (w := w1) (g := gb) (n := q) (os := #[]) (Lib.compact (sortF xs) ++ List.replicate (xs.length - (Lib.compact (sortF xs)).length) []).toArray
    rw [grow_empty] at hg
    exact HB.out.grown hg HB.out.size (fun j hj => by cases hj; exact hbase)
  generalize putRow encStr (Sort.ahead w1 q) gb 0 (Lib.compact (sortF xs) ++ List.replicate (xs.length - (Lib.compact (sortF xs)).length) []).toArray = w2 at *
  have HB2 := Lib.hid hb2
  clear hb2
  have HF : Hid (fewF xs = decide ((Lib.compact (sortF xs)).length = xs.length)) := by rw [fewF, if_neg h1, if_neg h2]; rfl
  generalize (Lib.compact (sortF xs)).length = m at *
  go_wp2_with fail
  go_ret
  rw [HF.out]
  refine ⟨?_, HB2.out⟩
  by_cases h : m = xs.length
  · simp [h]
  · have h' : ¬ (m : Int) = (xs.length : Int) := by omega
    simp [h, h']

set_option maxHeartbeats 400000 in
theorem typed_any (n : Int) (w : World) : Calls Tryz.prog 64 #[.int .i64 n] w (Gives w (.bool (decide (1 ≤ n ∧ n ≤ 4)))) := by
  by_cases h : 1 ≤ n
  · go_enter Tryz.func64, Tryz.ntmps64
    go_wp2_with fail
    go_ret
    exact ⟨by simp [h], Below.refl _ _⟩
  · go_enter Tryz.func64, Tryz.ntmps64
    go_wp2_with fail
    go_ret
    have h' : decide (1 ≤ n) = false := by simpa using h
    exact ⟨by simp [h'], Below.refl _ _⟩

theorem cut_nat : ∀ n, n < 256 → (cutset.contains (UInt8.ofNat n)) = decide (okB (UInt8.ofNat n)) := by decide +kernel
theorem cut_ok (c : UInt8) : cutset.contains c = decide (okB c) := by
  have h := cut_nat c.toNat c.toNat_lt
  rwa [UInt8.ofNat_toNat] at h
theorem dw_nil (p : UInt8 → Bool) : ∀ l : List UInt8, l.dropWhile p = [] ↔ ∀ x ∈ l, p x = true
  | [] => by simp
  | c :: l => by
    rw [List.dropWhile_cons]
    by_cases h : p c = true
    · rw [if_pos h, dw_nil p l]; simp [h]
    · rw [if_neg h]; simp [h]
theorem dw_mem (p : UInt8 → Bool) : ∀ (l : List UInt8) (x : UInt8), x ∈ l → p x = true ∨ x ∈ l.dropWhile p
  | [], x, h => by simp at h
  | c :: l, x, h => by
    rw [List.dropWhile_cons]
    by_cases hc : p c = true
    · rw [if_pos hc]
      rcases List.mem_cons.1 h with rfl | h
      · exact .inl hc
      · exact dw_mem p l x h
    · rw [if_neg hc]; exact .inr h
theorem trimS_nil (l cs : List UInt8) : Lib.trimS l cs = [] ↔ ∀ x ∈ l, cs.contains x = true := by
  unfold Lib.trimS Lib.trimLeftS Lib.trimRightS
  rw [dw_nil]
  constructor
  · intro h x hx
    rcases dw_mem (fun x => cs.contains x) l.reverse x (List.mem_reverse.2 hx) with h1 | h1
    · exact h1
    · exact h x (List.mem_reverse.2 h1)
  · intro h x hx
    exact h x (List.mem_reverse.1 ((List.dropWhile_sublist _).subset (List.mem_reverse.1 hx)))
theorem allOk_iff : ∀ l : List UInt8, allOk l = true ↔ ∀ x ∈ l, cutset.contains x = true
  | [] => by simp [allOk]
  | c :: l => by
    rw [allOk]
    have hc := cut_ok c
    by_cases h : okB c
    · rw [if_pos h, allOk_iff l]
      simp only [h, decide_true] at hc
      rw [List.forall_mem_cons]
      simp only [hc, true_and]
    · rw [if_neg h]
      simp only [h, decide_false] at hc
      rw [List.forall_mem_cons]
      simp only [hc, Bool.false_eq_true, false_and]

set_option maxHeartbeats 1000000 in
theorem PNamed_any (s : ByteArray) (w : World) (hs : s.size ≤ 140737488351232) : Calls Tryz.prog 12 #[.string s] w (Gives w (.bool (namedF s))) := by
  by_cases h0 : s.size < 1
  · obtain ⟨e1, e2⟩ := str_eq (show s.size = 0 by omega)
    go_enter Tryz.func12, Tryz.ntmps12
    go_wp2_with fail
    go_ret
    exact ⟨by rw [namedF_nil s h0]; simp [*], Below.refl _ _⟩
  obtain ⟨e1, e2⟩ := str_ne (show 0 < s.size by omega)
  have Hnf := Lib.hid (namedF_eq s (by omega))
  by_cases h2 : 40 < s.size
  · have h2' : decide ((s.size : Int) ≤ 40) = false := by simp; omega
    go_enter Tryz.func12, Tryz.ntmps12
    go_wp2_with fail
    go_ret
    exact ⟨by rw [Hnf.out, if_pos h2]; rfl, Below.refl _ _⟩
  rw [if_neg h2] at Hnf
  have h2' : decide ((s.size : Int) ≤ 40) = true := by simp; omega
  have hT := Tryz.strings_Trim_cut s w (by omega)
  have HT := Lib.hid hT
  clear hT
  go_enter Tryz.func12, Tryz.ntmps12
  go_wp2_with fail
  refine HT.out.mono ?_
  rintro e w1 ⟨rfl, hb1⟩
  have HB := Lib.hid hb1
  clear hb1
  have hiff := allOk_iff s.data.toList
  rw [← trimS_nil] at hiff
  have hz : (⟨(Lib.trimS s.data.toList cutset).toArray⟩ : ByteArray).size = (Lib.trimS s.data.toList cutset).length := by simp [ByteArray.size]
  generalize hu : (⟨(Lib.trimS s.data.toList cutset).toArray⟩ : ByteArray) = u at *
  clear hu
  by_cases ho : allOk s.data.toList = true
  · rw [hiff.1 ho] at hz
    obtain ⟨u1, u2⟩ := str_eq (show u.size = 0 from hz)
    rw [ho] at Hnf
    clear hiff hz ho
    go_wp2_with fail
    all_goals go_ret
    all_goals refine ⟨?_, HB.out⟩
    all_goals rw [Hnf.out]
    all_goals (split <;> simp <;> omega)
  · have hne : ¬ Lib.trimS s.data.toList cutset = [] := fun h => ho (hiff.2 h)
    have hpos : 0 < u.size := by rw [hz]; exact List.length_pos_iff.2 hne
    obtain ⟨u1, u2⟩ := str_ne hpos
    have ho' : allOk s.data.toList = false := by simpa using ho
    rw [ho'] at Hnf
    clear hiff hz ho hne hpos
    go_wp2_with fail
    go_ret
    exact ⟨by rw [Hnf.out]; simp [*], HB.out⟩
end Go.Proofs.Pw
