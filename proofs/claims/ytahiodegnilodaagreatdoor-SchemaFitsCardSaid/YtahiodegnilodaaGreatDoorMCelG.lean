/- A value's text: with its length ahead, or with an end. -/
import Derived.Test.YtahiodegnilodaaGreatDoorMCelD
import Derived.Test.YtahiodegnilodaaGreatDoorRefW
import Derived.Test.YtahiodegnilodaaGreatDoorShelf
import Derived.Lib.Replace
import Derived.Lib.SplitLaws
import Derived.Lib.IndexBytes
namespace Go.Proofs.Pw
open Go.RowKit

def encP (s : ByteArray) : List UInt8 := [byteOf (s.size / 256), byteOf (s.size % 256)] ++ s.data.toList

set_option maxHeartbeats 400000 in
theorem plain1_any (s : ByteArray) (w : World) (h : s.size ≤ 65535) : Calls Tryz.prog 124 #[.string s] w (Gives w (.string (BA (encP s)))) := by
  have hc := conv2 (s.size / 256) (s.size % 256) (by omega) (by omega)
  have ha := run_cat_s (P := Tryz.prog) [byteOf (s.size / 256), byteOf (s.size % 256)] s (by simp; omega)
  go_enter Tryz.func124, Tryz.ntmps124
  go_wp2_with fail
  go_ret
  exact ⟨rfl, below_new _ _⟩
end Go.Proofs.Pw
/- ReplaceAll of one byte, plain. -/
namespace Go.Proofs.Pw
open Go.RowKit

def esc (l : List UInt8) : List UInt8 := l.flatMap (fun c => if c = 0 then [0, 255] else [c])
theorem indexByte_none : ∀ (l : List UInt8) (c : UInt8), Lib.indexByte l c = -1 → l.count c = 0
  | [], _, _ => rfl
  | b :: l, c, h => by
    unfold Lib.indexByte at h
    have hg := Lib.indexByte_ge l c
    split at h
    · omega
    · rename_i hb
      have hbc : ¬ (b == c) = true := hb
      split at h
      · rename_i h1
        rw [List.count_cons, if_neg hbc, Nat.add_zero]
        exact indexByte_none l c (by simpa using h1)
      · omega
theorem esc_repl : ∀ (n : Nat) (l : List UInt8), l.length ≤ n → ∀ k, l.count 0 ≤ k → Lib.replaceK [0] [0, 255] k l = esc l
  | n, [], _, k, _ => by
    cases k with
    | zero => rfl
    | succ k => rw [Lib.replaceK, Lib.index_one]; rfl
  | 0, _ :: _, h, _, _ => by simp at h
  | n + 1, b :: l, h, k, hk => by
    simp only [List.length_cons] at h
    by_cases hb : b = 0
    · subst hb
      rw [List.count_cons_self] at hk
      obtain ⟨k, rfl⟩ : ∃ k', k = k' + 1 := ⟨k - 1, by omega⟩
      have hi : Lib.index (0 :: l) [0] = ((0 : Nat) : Int) := by rw [Lib.index_one]; simp [Lib.indexByte]
      rw [Lib.replaceK_hit _ _ _ _ 0 hi]
      have ih := esc_repl n l (by omega) k (by omega)
      simp only [List.take_zero, List.nil_append, List.length_cons, List.length_nil, Nat.zero_add, List.drop_succ_cons, List.drop_zero]
      rw [ih]
      simp [esc]
    · have hb' : (b == (0 : UInt8)) = false := by simpa using hb
      have hcnt : (b :: l).count 0 = l.count 0 := by rw [List.count_cons, hb']; simp
      rw [hcnt] at hk
      have he : esc (b :: l) = b :: esc l := by simp [esc, hb]
      have ih := esc_repl n l (by omega) k hk
      cases k with
      | zero =>
        rw [Lib.replaceK] at ih ⊢
        rw [he, ← ih]
      | succ k =>
        have hi := Lib.index_one (b :: l) 0
        have hi2 := Lib.index_one l 0
        rw [Lib.indexByte, hb'] at hi
        simp only [Bool.false_eq_true, if_false] at hi
        rw [Lib.replaceK, hi2] at ih
        rw [Lib.replaceK, hi]
        have hg := Lib.indexByte_ge l 0
        by_cases hn : (Lib.indexByte l 0 == -1) = true
        · rw [if_pos hn] at ih
          rw [hn]
          simp only [if_true, beq_self_eq_true]
          rw [he, ← ih]
        · rw [if_neg hn] at ih
          have hn' : (Lib.indexByte l 0 == -1) = false := by simpa using hn
          rw [hn']
          have hne : ¬ Lib.indexByte l 0 = -1 := by simpa using hn'
          have hnn : ¬ ((Lib.indexByte l 0 + 1 == -1) = true) := by simp; omega
          simp only [Bool.false_eq_true, if_false]
          rw [if_neg hnn, he, ← ih]
          obtain ⟨i, hi⟩ := Int.eq_ofNat_of_zero_le (a := Lib.indexByte l 0) (by omega)
          rw [hi]
          have e1 : ((i : Int) + 1).toNat = i + 1 := by omega
          rw [e1, Int.toNat_natCast]
          simp
theorem esc_all (l : List UInt8) : Lib.replaceAll l [0] [0, 255] = esc l := by
  unfold Lib.replaceAll Lib.replace
  rw [if_neg (by decide)]
  refine esc_repl l.length l (Nat.le_refl _) _ ?_
  unfold Lib.replaceNum
  rw [if_pos (.inl (by decide)), Lib.count_one]
  exact Nat.le_refl _
end Go.Proofs.Pw
/- A key's text: the program's rising form. -/
namespace Go.Proofs.Pw
open Go.RowKit

def encR (s : ByteArray) : List UInt8 := esc s.data.toList ++ [0, 0]
theorem esc_len (l : List UInt8) : (esc l).length ≤ 2 * l.length := by
  induction l with
  | nil => simp [esc]
  | cons c l ih =>
    have : (esc (c :: l)).length = (if c = 0 then 2 else 1) + (esc l).length := by
      simp only [esc, List.flatMap_cons, List.length_append]
      split <;> simp
    rw [this, List.length_cons]
    split <;> omega
set_option maxHeartbeats 400000 in
theorem rising1_any (s : ByteArray) (m : Int) (w : World) (h : s.size ≤ 65535) (hm : w.cell? ⟨0, 0, none⟩ = some (.int .i64 m)) : Calls Tryz.prog 143 #[.string s] w (Gives w (.string (BA (encR s)))) := by
  have hR := Tryz.strings_ReplaceAll s ⟨#[0]⟩ ⟨#[0, 255]⟩ m w (by omega) hm (by decide) (by
    have h1 : Lib.countB s ⟨#[0]⟩ ≤ s.size := by
      show Lib.count s.data.toList [0] ≤ _
      rw [Lib.count_one]
      refine Nat.le_trans (List.count_le_length) ?_
      rw [Array.length_toList]; exact Nat.le_refl _
    have h2 : (⟨#[0, 255]⟩ : ByteArray).size = 2 := rfl
    rw [h2]; omega)
  rw [show (⟨#[0]⟩ : ByteArray).data.toList = [0] from rfl, show (⟨#[0, 255]⟩ : ByteArray).data.toList = [0, 255] from rfl, esc_all] at hR
  have HR := Lib.hid hR
  clear hm hR
  have hl := esc_len s.data.toList
  have hs : s.data.toList.length = s.size := by rw [Array.length_toList]; rfl
  have ha := run_cat (P := Tryz.prog) (esc s.data.toList) [0, 0] (by simp; omega)
  rw [show BA [0, 0] = ⟨#[0, 0]⟩ from rfl] at ha
  go_enter Tryz.func143, Tryz.ntmps143
  go_wp2_with fail
  refine HR.out.mono ?_
  rintro e w1 ⟨rfl, hb⟩
  rw [show (⟨(esc s.data.toList).toArray⟩ : ByteArray) = BA (esc s.data.toList) from rfl]
  have HB := Lib.hid hb
  clear hb
  go_wp2_with fail
  go_ret
  exact ⟨rfl, HB.out⟩
end Go.Proofs.Pw
