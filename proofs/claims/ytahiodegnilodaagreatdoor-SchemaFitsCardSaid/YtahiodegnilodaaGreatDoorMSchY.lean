/- strings.Builder's String, in a block of the writer's own type. -/
import Derived.Shelf.Strings.Builder1
import Derived.Test.YtahiodegnilodaaGreatDoorSchW
namespace Go.Proofs.Pw
open Go.RowKit

theorem Tryz.cellsByte : Tryz.prog.cellsOf 5 = 1 := by kernel_rfl
set_option maxRecDepth 100000 in
set_option maxHeartbeats 1000000 in
theorem bString_any (base b : Nat) (l : List UInt8) (w : World) (h : Wr base b l w) (h0 : l ≠ []) :
    Calls Tryz.prog 52 #[.pointer (some ⟨b, 0, none⟩)] w fun e w' => e = .returned (.string ⟨l.toArray⟩) ∧ Below b w w' := by
  obtain ⟨hbb, hbz, p, v, hB, hp, hown⟩ := h
  have hl0 : l.length ≠ 0 := by simpa using h0
  obtain ⟨g, cap, cur, rfl, hbg, hg, hnc, hcm, hcs, htake⟩ : ∃ g cap cur, v = .slice (some ⟨g, 0, none⟩) l.length cap ∧ base ≤ g ∧ w.heap[g]? = some (.cells cur 5 (0, 0)) ∧ l.length ≤ cap ∧ cap ≤ maxLen ∧ cur.size = cap * 1 ∧ cur.toList.take (l.length * 1) = Lib.byteCells l := by
    rcases hown.2 with ⟨_, hz⟩ | ⟨g, cap, cur, hv, r⟩
    · exact absurd hz hl0
    · exact ⟨g, cap, cur, hv, r⟩
  have c1 : w.drew.cell? ⟨b, 1, none⟩ = some (.slice (some ⟨g, 0, none⟩) l.length cap) := (hB.drew).cell 1 rfl
  have hSD : (Builtin.unsafeSliceData_ #[77] 128 #[.slice (some ⟨g, 0, none⟩) l.length cap]).run Tryz.prog w.drew = .ok (.pointer (some ⟨g, 0, none⟩)) w.drew :=
    Lib.run_unsafeSliceData_row _ _ _ _ _ _ (by omega)
  have hUS : (Builtin.unsafeString_ #[128, 3] 9 #[.pointer (some ⟨g, 0, none⟩), .int .i64 l.length]).run Tryz.prog w.drew = .ok (.string ⟨l.toArray⟩) (w.drew.freeze ⟨g, 0, none⟩ l.length) := by
    refine Lib.run_unsafeString_row w.drew 128 3 9 5 Tryz.underlying128 Tryz.cellsByte g cur.size (by have hg' : w.drew.heap[g]? = some (.cells cur 5 (0, 0)) := hg; simp [World.shape?, hg']) l h0 (by omega) (by unfold maxLen at hcm; omega) ?_
    intro j x hx
    have := hown.cells (g := g) rfl j (.int .u8 x.toNat) (by simp [Lib.byteCells, hx])
    exact this
  have HS := Lib.hid hown
  have mixed : Tryz.prog.follows .mixedOrders = true := by kernel_rfl
  clear hown hB hg
  go_enter Tryz.func52, Tryz.ntmps52
  go_wp2
  go_region_o
  all_goals (go_wp2; go_ret; exact ⟨rfl, Lib.below_freeze (Below.drew (Below.refl b w)) (p := ⟨g, 0, none⟩) (by show b ≤ g; omega) _⟩)
end Go.Proofs.Pw
/- The program's writer: num, name, flag, names. -/
namespace Go.Proofs.Pw
open Go.RowKit

def byteOf (n : Nat) : UInt8 := UInt8.ofNat n
def encName (s : ByteArray) : List UInt8 := byteOf s.size :: s.data.toList
def encFlag (b : Bool) : List UInt8 := [byteOf (if b then 1 else 0)]
def encNames (l : List ByteArray) : List UInt8 := byteOf l.length :: l.flatMap encName
theorem byteOf_nat {n : Nat} (h : n ≤ 255) : (byteOf n).toNat = n := by
  unfold byteOf
  rw [UInt8.toNat_ofNat']
  exact Nat.mod_eq_of_lt (by omega)

set_option maxRecDepth 100000 in
set_option maxHeartbeats 1000000 in
theorem wnum_any (base b : Nat) (l : List UInt8) (n : Nat) (w : World) (h : Wr base b l w) (hl : l.length + 1 ≤ 140737488355328) (hn : n ≤ 255) :
    Calls Tryz.prog 48 #[.pointer (some ⟨b, 0, none⟩), .int .i64 n] w (WOut base b (.tuple #[]) (l ++ [byteOf n]) w) := by
  have hW := writeByte_any base b l (byteOf n) w h hl
  rw [byteOf_nat hn] at hW
  have HW := Lib.hid hW
  clear h hW
  go_enter Tryz.func48, Tryz.ntmps48
  go_wp2_with fail
  refine HW.out.mono ?_
  rintro e w1 ⟨rfl, h1, h2⟩
  have H1 := Lib.hid h1
  have H2 := Lib.hid h2
  clear h1 h2
  go_wp2_with fail
  go_end0
  exact ⟨rfl, H1.out, H2.out⟩

set_option maxRecDepth 100000 in
set_option maxHeartbeats 1000000 in
theorem wname_any (base b : Nat) (l : List UInt8) (s : ByteArray) (w : World) (h : Wr base b l w) (hl : l.length + 1 + s.size ≤ 140737488355328) (hn : s.size ≤ 255) :
    Calls Tryz.prog 49 #[.pointer (some ⟨b, 0, none⟩), .string s] w (WOut base b (.tuple #[]) (l ++ encName s) w) := by
  have H := Lib.hid h
  clear h
  go_enter Tryz.func49, Tryz.ntmps49
  go_wp2_with fail
  refine (wnum_any base b l s.size w H.out (by omega) hn).mono ?_
  rintro e w1 ⟨rfl, h1, h2⟩
  have H1 := Lib.hid h1
  have H2 := Lib.hid h2
  clear h1 h2
  go_wp2_with fail
  refine (writeString_any base b (l ++ [byteOf s.size]) s w1 H1.out (by simp; omega)).mono ?_
  rintro e w2 ⟨rfl, h3, h4⟩
  have H3 := Lib.hid h3
  have H4 := Lib.hid h4
  clear h3 h4
  go_wp2_with fail
  go_end0
  refine ⟨rfl, ?_, H2.out.trans H4.out⟩
  have := H3.out
  rwa [List.append_assoc] at this

set_option maxRecDepth 100000 in
set_option maxHeartbeats 1000000 in
theorem wflag_any (base b : Nat) (l : List UInt8) (f : Bool) (w : World) (h : Wr base b l w) (hl : l.length + 1 ≤ 140737488355328) :
    Calls Tryz.prog 50 #[.pointer (some ⟨b, 0, none⟩), .bool f] w (WOut base b (.tuple #[]) (l ++ encFlag f) w) := by
  cases f
  · have HW := Lib.hid (wnum_any base b l 0 w h hl (by omega))
    clear h
    go_enter Tryz.func50, Tryz.ntmps50
    go_wp2_with fail
    refine HW.out.mono ?_
    rintro e w1 ⟨rfl, h1, h2⟩
    have H1 := Lib.hid h1
    have H2 := Lib.hid h2
    clear h1 h2
    go_wp2_with fail
    go_end0
    exact ⟨rfl, H1.out, H2.out⟩
  · have HW := Lib.hid (wnum_any base b l 1 w h hl (by omega))
    clear h
    go_enter Tryz.func50, Tryz.ntmps50
    go_wp2_with fail
    refine HW.out.mono ?_
    rintro e w1 ⟨rfl, h1, h2⟩
    have H1 := Lib.hid h1
    have H2 := Lib.hid h2
    clear h1 h2
    go_wp2_with fail
    go_end0
    exact ⟨rfl, H1.out, H2.out⟩

theorem encName_len (s : ByteArray) (h : s.size ≤ 255) : (encName s).length ≤ 256 := by
  show s.data.toList.length + 1 ≤ 256
  rw [Array.length_toList]
  exact Nat.succ_le_succ h
theorem flat_len {α : Type} (f : α → List UInt8) (m : Nat) : ∀ (xs : List α), (∀ x ∈ xs, (f x).length ≤ m) → (xs.flatMap f).length ≤ m * xs.length
  | [], _ => by simp
  | x :: xs, h => by
    have h1 := h x (by simp)
    have h2 := flat_len f m xs (fun y hy => h y (by simp [hy]))
    rw [List.flatMap_cons, List.length_append, List.length_cons, Nat.mul_succ]
    omega

set_option maxRecDepth 100000 in
set_option maxHeartbeats 1000000 in
theorem wnames_any (base b : Nat) (l : List UInt8) (A : Option Addr) (c : Nat) (xs : List ByteArray) (w0 w : World) (h : Wr base b l w) (hl : l.length ≤ 140737000000000) (hn : xs.length ≤ 255) (hx : ∀ x ∈ xs, x.size ≤ 255)
    (hw0 : w0.heap.size ≤ b) (hb0 : Below w0.heap.size w0 w) (hs : Strs w0 A xs) :
    Calls Tryz.prog 51 #[.pointer (some ⟨b, 0, none⟩), .slice A xs.length c] w (WOut base b (.tuple #[]) (l ++ encNames xs) w) := by
  have H := Lib.hid h
  have HS := Lib.hid hs
  have Hx := Lib.hid hx
  have HB0 := Lib.hid hb0
  clear h hs hx hb0
  go_enter Tryz.func51, Tryz.ntmps51
  go_wp2_with fail
  refine (wnum_any base b l xs.length w H.out (by omega) hn).mono ?_
  rintro e w1 ⟨rfl, h1, h2⟩
  have H1 := Lib.hid h1
  have H2 := Lib.hid h2
  clear h1 h2
  go_wp2_with fail
  go_loopw [12] (fun i wr => ∃ j : Nat, j ≤ xs.length ∧ i = .int .i64 j ∧ Hid (Wr base b (l ++ byteOf xs.length :: (xs.take j).flatMap encName) wr) ∧ Hid (WStep b w wr)) (fun i _ => xs.length - (intOf i).toNat)
  case atStart => exact ⟨0, by omega, rfl, H1.out, H2.out⟩
  case round =>
    clear H1 H2 H
    obtain ⟨j, hj, rfl, HW, HT⟩ := hrel
    by_cases hlt : j < xs.length
    · have hbb := HB0.out.trans (HT.out.1.mono hw0)
      obtain ⟨ab, off, rfl, hb, hbb', hs0⟩ := strs_at (HS.out.below (flat_stable _) hbb) hlt
      have hy := Hx.out _ (List.getElem_mem hlt)
      have Hsn := Lib.hid (List.take_succ_eq_append_getElem hlt)
      have hll := flat_len encName 256 (xs.take j) (fun x hx => encName_len x (Hx.out x (List.mem_of_mem_take hx)))
      have hlj : (xs.take j).length ≤ 255 := by simp; omega
      generalize xs[j] = y at *
      have hlen : (l ++ byteOf xs.length :: (xs.take j).flatMap encName).length ≤ 140737000000000 + 1 + 256 * 255 := by
        rw [List.length_append, List.length_cons]
        have : 256 * (xs.take j).length ≤ 256 * 255 := Nat.mul_le_mul_left _ hlj
        omega
      clear hll hlj hbb hbb'
      go_wp2_with fail
      refine (wname_any base b _ y _ HW.out (by omega) hy).mono ?_
      rintro e w3 ⟨rfl, h3, h4⟩
      rw [List.append_assoc, List.cons_append, show List.flatMap encName (xs.take j) ++ encName y = List.flatMap encName (xs.take (j + 1)) from by rw [Hsn.out, List.flatMap_append]; simp] at h3
      have H3 := Lib.hid h3
      have H4 := Lib.hid (HT.out.trans h4)
      clear h3 h4
      go_wp2_with fail
      go_roundw
      case rel => exact ⟨j + 1, by omega, by go_num, H3, H4⟩
      case measure => simp [intOf]; omega
    · obtain rfl : j = xs.length := by omega
      rw [List.take_length] at HW
      go_wp2_with fail
      go_end0
      exact ⟨rfl, HW.out, HT.out⟩
end Go.Proofs.Pw
