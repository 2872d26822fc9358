/- The program's cell.Write, cell.Key, and the schema's key. -/
import Derived.Test.YtahiodegnilodaaGreatDoorCelH
import Derived.Laws.EntriesVeiled
namespace Go.Proofs.Pw
open Go.RowKit

theorem encP_len (s : ByteArray) : (encP s).length ≤ 2 * s.size + 2 := by
  have : s.data.toList.length = s.size := by rw [Array.length_toList]; rfl
  simp only [encP, List.length_append, List.length_cons, List.length_nil]; omega
theorem encR_len (s : ByteArray) : (encR s).length ≤ 2 * s.size + 2 := by
  have : s.data.toList.length = s.size := by rw [Array.length_toList]; rfl
  have := esc_len s.data.toList
  simp only [encR, List.length_append, List.length_cons, List.length_nil]; omega
abbrev writeV := tupV 0 0 encP
abbrev keyV := tupV 1 9223372036854775808 encR

set_option maxRecDepth 100000 in
set_option maxHeartbeats 400000 in
theorem plainForm_any (w : World) : Calls Tryz.prog 101 #[] w (Gives w (.agg #[.int .i64 ((0 : Nat) : Int), .int .u64 ((0 : Nat) : Int), .func (.func 124) #[] #[], .func (.func 125) #[] #[]])) := by
  go_enter Tryz.func101, Tryz.ntmps101
  go_wp2_with fail
  exact bodyPost_ret (v := .agg #[.int .i64 0, .int .u64 0, .func (.func 124) #[] #[], .func (.func 125) #[] #[]]) (by simp [results, Tryz.results101, go_sem]) rfl ⟨rfl, below_new _ _⟩
set_option maxRecDepth 100000 in
set_option maxHeartbeats 400000 in
theorem risingForm_any (w : World) : Calls Tryz.prog 130 #[] w (Gives w (.agg #[.int .i64 ((1 : Nat) : Int), .int .u64 ((9223372036854775808 : Nat) : Int), .func (.func 143) #[] #[], .func (.func 145) #[] #[]])) := by
  go_enter Tryz.func130, Tryz.ntmps130
  go_wp2_with fail
  exact bodyPost_ret (v := .agg #[.int .i64 1, .int .u64 9223372036854775808, .func (.func 143) #[] #[], .func (.func 145) #[] #[]]) (by simp [results, Tryz.results130, go_sem]) rfl ⟨rfl, below_new _ _⟩
set_option maxRecDepth 100000 in
set_option maxHeartbeats 400000 in
theorem PWriteV_any (A : Option Addr) (c : Nat) (xs : List PVal) (w : World) (hc : Vals w A xs) (hn : ∀ v ∈ xs, i64R v.n) (hne : xs ≠ []) :
    Calls Tryz.prog 54 #[.slice A xs.length c] w (Gives w (.tuple #[.string (writeV xs).1, .bool (writeV xs).2])) := by
  have HV := Lib.hid hc
  have HN := Lib.hid hn
  clear hc hn
  go_enter Tryz.func54, Tryz.ntmps54
  go_wp2_with fail
  refine (plainForm_any w).mono ?_
  rintro e w1 ⟨rfl, hb⟩
  have HB := Lib.hid hb
  clear hb
  go_wp2_with fail
  refine (tupled_any 0 0 124 125 encP A c xs w1 (HV.out.below (flat_stable _) HB.out) HN.out hne (by decide) (by decide) encP_len (.inl rfl) (fun s w' hs _ => plain1_any s w' hs)).mono ?_
  rintro e w2 ⟨rfl, hb⟩
  have HB2 := Lib.hid (below_next HB.out hb)
  clear hb
  go_wp2_with fail
  go_ret2
  exact ⟨rfl, HB2.out⟩
set_option maxRecDepth 100000 in
set_option maxHeartbeats 400000 in
theorem PKeyV_any (A : Option Addr) (c : Nat) (xs : List PVal) (m : Int) (w : World) (hc : Vals w A xs) (hn : ∀ v ∈ xs, i64R v.n) (hne : xs ≠ []) (hm : w.cell? ⟨0, 0, none⟩ = some (.int .i64 m)) :
    Calls Tryz.prog 106 #[.slice A xs.length c] w (Gives w (.tuple #[.string (keyV xs).1, .bool (keyV xs).2])) := by
  have HV := Lib.hid hc
  have HN := Lib.hid hn
  have HM := Lib.hid hm
  have hz : 0 < w.heap.size := (cell_lt hm)
  clear hc hn hm
  go_enter Tryz.func106, Tryz.ntmps106
  go_wp2_with fail
  refine (risingForm_any w).mono ?_
  rintro e w1 ⟨rfl, hb⟩
  have HB := Lib.hid hb
  clear hb
  go_wp2_with fail
  refine (tupled_any 1 9223372036854775808 143 145 encR A c xs w1 (HV.out.below (flat_stable _) HB.out) HN.out hne (by decide) (by decide) encR_len (.inr rfl) (fun s w' hs hb => rising1_any s m w' hs (((below_next HB.out hb).cell (p := ⟨0, 0, none⟩) hz).trans HM.out))).mono ?_
  rintro e w2 ⟨rfl, hb⟩
  have HB2 := Lib.hid (below_next HB.out hb)
  clear hb
  go_wp2_with fail
  go_ret2
  exact ⟨rfl, HB2.out⟩
set_option maxRecDepth 100000 in
set_option maxHeartbeats 400000 in
theorem key_any (A : Option Addr) (c : Nat) (xs : List PVal) (m : Int) (w : World) (hc : Vals w A xs) (hn : ∀ v ∈ xs, i64R v.n) (hne : xs ≠ []) (hm : w.cell? ⟨0, 0, none⟩ = some (.int .i64 m)) :
    Calls Tryz.prog 57 #[.slice A xs.length c] w (Gives w (.string (keyV xs).1)) := by
  have HK := Lib.hid (PKeyV_any A c xs m w hc hn hne hm)
  clear hc hn hm
  go_enter Tryz.func57, Tryz.ntmps57
  go_wp2_with fail
  refine HK.out.mono ?_
  rintro e w1 ⟨rfl, hb⟩
  have HB := Lib.hid hb
  clear hb
  go_wp2_with fail
  go_ret
  exact ⟨rfl, HB.out⟩
end Go.Proofs.Pw
