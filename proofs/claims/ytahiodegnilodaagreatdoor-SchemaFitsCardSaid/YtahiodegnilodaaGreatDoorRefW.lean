/- The reference's Write: one, name, Write. -/
import Derived.Test.YtahiodegnilodaaGreatDoorRefC
import Derived.Test.YtahiodegnilodaaGreatDoorSchV
import Derived.Test.YtahiodegnilodaaGreatDoorHeldL
import Derived.Laws.IdiomStrings
import Derived.Laws.Concat
import Derived.IntWalk
namespace Go.Proofs.Pw
open Go.RowKit

/-- A flag's number. -/
def flagN : Bool → Nat
  | true => 1
  | false => 0
theorem flagN_le (b : Bool) : flagN b ≤ 255 := by cases b <;> decide
theorem flagN_enc (b : Bool) : encFlag b = [byteOf (flagN b)] := by cases b <;> rfl
/-- Bytes as a text. -/
def BA (l : List UInt8) : ByteArray := ⟨l.toArray⟩
theorem BA_size (l : List UInt8) : (BA l).size = l.length := by unfold BA; simp [ByteArray.size]
theorem BA_list (l : List UInt8) : (BA l).data.toList = l := by unfold BA; simp
theorem BA_of (s : ByteArray) : BA s.data.toList = s := by unfold BA; cases s; simp
theorem conv1 (n : Nat) (h : n ≤ 255) (w : World) (g : Nat) (h0 : w.cell? ⟨g, 0, none⟩ = some (.int .u8 n)) : (convert 77 9 (.slice (some ⟨g, 0, none⟩) 1 1)).run Tryz.prog w = .ok (.string (BA [byteOf n])) w := by
  have hb := byteOf_nat h
  exact run_convert_bytes_back (P := Tryz.prog) w 77 9 5 ⟨g, 0, none⟩ 1 [byteOf n] Tryz.underlying77 Tryz.underlying5 Tryz.underlying9 (fun j hj => by
    obtain rfl : j = 0 := by simp at hj; omega
    simpa [hb, Addr.add] using h0)
theorem conv2 (n m : Nat) (h : n ≤ 255) (h' : m ≤ 255) (w : World) (g : Nat) (h0 : w.cell? ⟨g, 0, none⟩ = some (.int .u8 n)) (h1 : w.cell? ⟨g, 1, none⟩ = some (.int .u8 m)) : (convert 77 9 (.slice (some ⟨g, 0, none⟩) 2 2)).run Tryz.prog w = .ok (.string (BA [byteOf n, byteOf m])) w := by
  have hb := byteOf_nat h
  have hb' := byteOf_nat h'
  exact run_convert_bytes_back (P := Tryz.prog) w 77 9 5 ⟨g, 0, none⟩ 2 [byteOf n, byteOf m] Tryz.underlying77 Tryz.underlying5 Tryz.underlying9 (fun j hj => by
    have : j = 0 ∨ j = 1 := by simp at hj; omega
    rcases this with rfl | rfl
    · simpa [hb, Addr.add] using h0
    · simpa [hb', Addr.add] using h1)
theorem cell_lt {w : World} {b o : Nat} {v : Value} (h : w.cell? ⟨b, o, none⟩ = some v) : b < w.heap.size := by
  unfold World.cell? at h
  split at h
  · rename_i e; exact (Array.getElem?_eq_some_iff.1 e).1
  · cases h
theorem b_alloc {w a : World} {o : Obj} (h : Below w.heap.size w a) : Below w.heap.size w (a.alloc o) := below_next h (below_new a o)
theorem b_drew {w a : World} (h : Below w.heap.size w a) : Below w.heap.size w a.drew := h.drew
theorem b_drewN {w a : World} {n : Nat} (h : Below w.heap.size w a) : Below w.heap.size w (a.drewN n) := below_next h (pw_drewN a n)
theorem BA_cat (a b : List UInt8) : BA a ++ BA b = BA (a ++ b) := by
  unfold BA
  apply ByteArray.ext
  simp
theorem run_cat {P : Program} (a b : List UInt8) (h : a.length + b.length ≤ 9223372036854775807) (w : World) : (Op.stringOp .add (BA a) (BA b)).run P w = .ok (.string (BA (a ++ b))) w := by
  rw [run_string_add_sum (P := P) (w := w) (BA a) (BA b) (by rw [BA_size, BA_size]; exact h), BA_cat]
theorem run_cat_s {P : Program} (a : List UInt8) (s : ByteArray) (h : a.length + s.size ≤ 9223372036854775807) (w : World) : (Op.stringOp .add (BA a) s).run P w = .ok (.string (BA (a ++ s.data.toList))) w := by
  have := run_cat (P := P) a s.data.toList (by rw [Array.length_toList]; exact h) w
  rwa [BA_of] at this

set_option maxHeartbeats 400000 in
theorem rOne_any (b : Bool) (w : World) : Calls Tryz.prog 62 #[.bool b] w (Gives w (.int .u8 (flagN b))) := by
  cases b
  · go_enter Tryz.func62, Tryz.ntmps62
    go_wp2_with fail
    go_ret
    exact ⟨rfl, Below.refl _ _⟩
  · go_enter Tryz.func62, Tryz.ntmps62
    go_wp2_with fail
    go_ret
    exact ⟨rfl, Below.refl _ _⟩
set_option maxHeartbeats 400000 in
theorem rNameW_any (s : ByteArray) (w : World) (h : s.size ≤ 255) : Calls Tryz.prog 61 #[.string s] w (Gives w (.string (BA (encName s)))) := by
  have hc := conv1 s.size h
  have ha := run_cat_s (P := Tryz.prog) [byteOf s.size] s (by simp; omega)
  go_enter Tryz.func61, Tryz.ntmps61
  go_wp2_with fail
  go_ret
  exact ⟨rfl, below_new _ _⟩
def writeR (s : PSch) : ByteArray × Bool := if rightF s then (⟨(encSch s).toArray⟩, true) else (⟨#[]⟩, false)

set_option maxRecDepth 100000 in
set_option maxHeartbeats 1000000 in
theorem RWrite_any (A1 A2 A3 : Option Addr) (c1 c2 c3 : Nat) (s : PSch) (w : World) (hs : RSch w s A1 A2 A3)
    (hb : ∀ c ∈ s.cols, c.name.size ≤ 140737488351232) (hi : ∀ x ∈ s.idx, x.name.size ≤ 140737488351232) (hfit : rightF s = true → WFits s) :
    Calls Tryz.prog 23 #[.agg #[.slice A1 s.cols.length c1, .slice A2 s.key.length c2, .slice A3 s.idx.length c3]] w (Gives w (.tuple #[.string (writeR s).1, .bool (writeR s).2])) := by
  have HR := Lib.hid (RRight_any A1 A2 A3 _ _ _ c1 c2 c3 s (w.alloc (.cells #[.slice A1 s.cols.length c1, .slice A2 s.key.length c2, .slice A3 s.idx.length c3] 27)) rfl rfl rfl (hs.below (below_new _ _)) hb hi)
  have HC := Lib.hid hs.1
  have HK := Lib.hid hs.2.1
  have HX := Lib.hid hs.2.2
  have Hfit := Lib.hid hfit
  clear hs hb hi hfit
  by_cases hp : rightF s = true
  case neg =>
    have hp : rightF s = false := by simpa using hp
    have hq : Hid (writeR s = (⟨#[]⟩, false)) := by rw [writeR, hp]; rfl
    go_enter Tryz.func23, Tryz.ntmps23
    go_wp2_with fail
    refine HR.out.mono ?_
    rintro e w1 ⟨rfl, hb1⟩
    have hB := Lib.hid (below_next (below_new w _) hb1)
    go_wp2_with fail
    go_ret2
    exact ⟨by rw [hq.out]; rfl, hB.out⟩
  have hft := Hfit.out hp
  have Hwp : Hid (writeR s = (⟨(encSch s).toArray⟩, true)) := by rw [writeR, if_pos hp]; rfl
  have Hcs := Lib.hid hft.cs
  have Hks := Lib.hid hft.ks
  have Hxs := Lib.hid hft.xs
  have hnc := hft.nc
  have hnk := hft.nk
  have hnx := hft.nx
  clear hft Hfit
  go_enter Tryz.func23, Tryz.ntmps23
  go_wp2_with fail
  refine HR.out.mono ?_
  rintro e w1 ⟨rfl, hb1⟩
  rw [hp]
  have hB := Lib.hid (below_next (below_new w _) hb1)
  have HQ := Lib.hid ((Box.new w [.slice A1 s.cols.length c1, .slice A2 s.key.length c2, .slice A3 s.idx.length c3] 27).below hb1)
  clear hb1 HR hp
  have hz := HQ.out.lt
  have x0 := HQ.out.cell 0 rfl
  have hk1 := conv1 s.cols.length hnc
  go_wp2_with fail
  clear x0
  have HQ2 := Lib.hid (HQ.out.below (below_new w1 (.cells #[.int .u8 s.cols.length] 5)))
  have hB2 := Lib.hid (b_alloc (o := (.cells #[.int .u8 s.cols.length] 5)) hB.out)
  clear HQ hB hk1
  go_loopw [4, 5] (fun out i wr => ∃ j : Nat, j ≤ s.cols.length ∧ i = .int .i64 j ∧ out = .string (BA (byteOf s.cols.length :: (s.cols.take j).flatMap encCol)) ∧ Hid (Below w.heap.size w wr) ∧ Hid (Box wr w.heap.size 27 [.slice A1 s.cols.length c1, .slice A2 s.key.length c2, .slice A3 s.idx.length c3])) (fun _ i _ => s.cols.length - (intOf i).toNat)
  case atStart => exact ⟨0, by omega, rfl, rfl, hB2, HQ2⟩
  case round =>
    clear HQ2 hB2
    obtain ⟨j, hj, rfl, rfl, hB, hX⟩ := hrel
    have hz := hX.out.lt
    have x0 := hX.out.cell 0 rfl
    by_cases hlt : j < s.cols.length
    · obtain ⟨b, off, rfl, hb, hbb, g0, g1, g2⟩ := cols_at (HC.out.below (flat_stable _) hB.out) hlt
      have hy := Hcs.out _ (List.getElem_mem hlt)
      have Hsn := Lib.hid (List.take_succ_eq_append_getElem hlt)
      generalize s.cols[j] = y at *
      obtain ⟨hy1, hy2, hy3⟩ := hy
      obtain ⟨ty, hty⟩ := Int.eq_ofNat_of_zero_le hy2
      rw [hty] at g1 hy3
      have hw8 := IntWalk.u8_in (ty : Int) (by omega)
      have hk2 := conv2 ty (flagN y.nn) (by omega) (flagN_le _)
      have hll := flat_len encCol 258 (s.cols.take j) (fun x hx => encCol_len x (Hcs.out x (List.mem_of_mem_take hx)).1)
      have hlj : (s.cols.take j).length ≤ 255 := by simp; omega
      have hlen : (byteOf s.cols.length :: (s.cols.take j).flatMap encCol).length ≤ 1 + 258 * 255 := by
        rw [List.length_cons]
        have : 258 * (s.cols.take j).length ≤ 258 * 255 := Nat.mul_le_mul_left _ hlj
        omega
      have hen := encName_len y.name hy1
      have hec : (byteOf s.cols.length :: (s.cols.take (j + 1)).flatMap encCol = (byteOf s.cols.length :: (s.cols.take j).flatMap encCol) ++ encName y.name ++ [byteOf ty, byteOf (flagN y.nn)]) := by
        rw [Hsn.out, List.flatMap_append]
        simp [encCol, flagN_enc, hty]
      generalize byteOf s.cols.length :: (s.cols.take j).flatMap encCol = L at *
      have ha1 := run_cat (P := Tryz.prog) L (encName y.name) (by omega)
      have ha2 := run_cat (P := Tryz.prog) (L ++ encName y.name) [byteOf ty, byteOf (flagN y.nn)] (by rw [List.length_append]; simp; omega)
      have Hec := Lib.hid hec
      clear hll hlj hlen hen hec
      have Hty := Lib.hid hty
      clear hty hy2
      go_wp2_with fail
      have hXb := Box.new wr [.string y.name, .int .i64 ty, .bool y.nn] 45
      have hX3 := Lib.hid (hX.out.below (below_new wr (.cells #[.string y.name, .int .i64 ty, .bool y.nn] 45)))
      have hB3 := b_alloc (o := (.cells #[.string y.name, .int .i64 ty, .bool y.nn] 45)) hB.out
      generalize hwx : wr.alloc (.cells #[.string y.name, .int .i64 ty, .bool y.nn] 45) = wx at *
      have k0 := hXb.cell 0 rfl
      have k1 := hXb.cell 1 rfl
      have k2 := hXb.cell 2 rfl
      have hzx := hXb.lt
      generalize wr.heap.size = N at *
      have HB := Lib.hid hB3
      clear hwx hXb hB3 hX hB x0 g0 g1 g2
      refine wp_region_held_drew (S := (fun w' => w'.cell? ⟨N, 0, none⟩ = some (.string y.name) ∧ w'.cell? ⟨N, 1, none⟩ = some (.int .i64 ty) ∧ w'.cell? ⟨N, 2, none⟩ = some (.bool y.nn))) (by kernel_rfl) ?_ (fun hHeld => ?_)
      · (try dsimp only); go_keep
      refine takeL 0 (v := ?_) (by simp) (by kernel_rfl) (by kernel_rfl) (by kernel_rfl) (fun _ _ _ h => h) (by rfl) (by assumption) ?_ ?_
      rotate_left
      · intro w hSw; (try dsimp only at hSw); (try simp only [List.getElem_cons_succ, List.getElem_cons_zero]); first | (go_simp; done) | (go_simp; with_reducible rfl)
      (try simp only [List.getElem_cons_succ, List.getElem_cons_zero])
      (try simp only [Act.put, List.setIfInBounds_toArray, List.set_cons_zero, List.set_cons_succ])
      refine takeL 1 (v := ?_) (by simp) (by kernel_rfl) (by kernel_rfl) (by kernel_rfl) (fun _ _ _ h => h) (by rfl) (by assumption) ?_ ?_
      rotate_left
      · intro w hSw; (try dsimp only at hSw); (try simp only [List.getElem_cons_succ, List.getElem_cons_zero]); first | (go_simp; done) | (go_simp; with_reducible rfl)
      (try simp only [List.getElem_cons_succ, List.getElem_cons_zero])
      (try simp only [Act.put, List.setIfInBounds_toArray, List.set_cons_zero, List.set_cons_succ])
      refine takeL 2 (v := ?_) (by simp) (by kernel_rfl) (by kernel_rfl) (by kernel_rfl) (fun _ _ _ h => h) (by rfl) (by assumption) ?_ ?_
      rotate_left
      · intro w hSw; (try dsimp only at hSw); (try simp only [List.getElem_cons_succ, List.getElem_cons_zero]); first | (go_simp; done) | (go_simp; with_reducible rfl)
      (try simp only [List.getElem_cons_succ, List.getElem_cons_zero])
      (try simp only [Act.put, List.setIfInBounds_toArray, List.set_cons_zero, List.set_cons_succ])
      refine takeL 5 (v := ?_) (by simp) (by kernel_rfl) (by kernel_rfl) (by kernel_rfl) (fun _ _ _ h => h) (by rfl) (by assumption) ?_ ?_
      rotate_left
      · intro w hSw; (try dsimp only at hSw); (try simp only [List.getElem_cons_succ, List.getElem_cons_zero]); first | (go_simp; done) | (go_simp; with_reducible rfl)
      (try simp only [List.getElem_cons_succ, List.getElem_cons_zero])
      (try simp only [Act.put, List.setIfInBounds_toArray, List.set_cons_zero, List.set_cons_succ])
      refine takeL 6 (v := ?_) (by simp) (by kernel_rfl) (by kernel_rfl) (by kernel_rfl) (fun _ _ _ h => h) (by rfl) (by assumption) ?_ ?_
      rotate_left
      · intro w hSw; (try dsimp only at hSw); (try simp only [List.getElem_cons_succ, List.getElem_cons_zero]); first | (go_simp; done) | (go_simp; with_reducible rfl)
      (try simp only [List.getElem_cons_succ, List.getElem_cons_zero])
      (try simp only [Act.put, List.setIfInBounds_toArray, List.set_cons_zero, List.set_cons_succ])
      refine takeL 7 (v := ?_) (by simp) (by kernel_rfl) (by kernel_rfl) (by kernel_rfl) (fun _ _ _ h => h) (by rfl) (by assumption) ?_ ?_
      rotate_left
      · intro w hSw; (try dsimp only at hSw); (try simp only [List.getElem_cons_succ, List.getElem_cons_zero]); first | (go_simp; done) | (go_simp; with_reducible rfl)
      (try simp only [List.getElem_cons_succ, List.getElem_cons_zero])
      (try simp only [Act.put, List.setIfInBounds_toArray, List.set_cons_zero, List.set_cons_succ])
      refine takeL 8 (v := ?_) (by simp) (by kernel_rfl) (by kernel_rfl) (by kernel_rfl) (fun _ _ _ h => h) (by rfl) (by assumption) ?_ ?_
      rotate_left
      · intro w hSw; (try dsimp only at hSw); (try simp only [List.getElem_cons_succ, List.getElem_cons_zero]); first | (go_simp; done) | (go_simp; with_reducible rfl)
      (try simp only [List.getElem_cons_succ, List.getElem_cons_zero])
      (try simp only [Act.put, List.setIfInBounds_toArray, List.set_cons_zero, List.set_cons_succ])
      refine takeL 9 (v := ?_) (by simp) (by kernel_rfl) (by kernel_rfl) (by kernel_rfl) (fun _ _ _ h => h) (by rfl) (by assumption) ?_ ?_
      rotate_left
      · intro w hSw; (try dsimp only at hSw); (try simp only [List.getElem_cons_succ, List.getElem_cons_zero]); first | (go_simp; done) | (go_simp; with_reducible rfl)
      (try simp only [List.getElem_cons_succ, List.getElem_cons_zero])
      (try simp only [Act.put, List.setIfInBounds_toArray, List.set_cons_zero, List.set_cons_succ])
      refine stepL 3 (by simp) (by kernel_rfl) (by rfl) (fun K hK => ?_)
      (try simp only [List.getElem_cons_succ, List.getElem_cons_zero])
      (go_simp; go_at_call 61; refine (rNameW_any y.name _ hy1).mono ?_; rintro e w2 ⟨rfl, hb2⟩; (try replace hb2 := unq hb2); obtain ⟨hc2, hf2⟩ := bcell hb2; have hz2 := hb2.size; (try simp at hz2); have hn2 : N < w2.heap.size := by omega)
      go_wp2_with fail
      refine hK.out _ _ ?_ (fun hHeld => ?_)
      · (try dsimp only); go_keep
      clear hK K
      (try simp only [Act.put, List.setIfInBounds_toArray, List.set_cons_zero, List.set_cons_succ])
      refine takeL 4 (v := ?_) (by simp) (by kernel_rfl) (by kernel_rfl) (by kernel_rfl) (fun _ _ _ h => h) (by rfl) (by assumption) ?_ ?_
      rotate_left
      · intro w hSw; (try dsimp only at hSw); (try simp only [List.getElem_cons_succ, List.getElem_cons_zero]); first | (go_simp; done) | (go_simp; with_reducible rfl)
      (try simp only [List.getElem_cons_succ, List.getElem_cons_zero])
      (try simp only [Act.put, List.setIfInBounds_toArray, List.set_cons_zero, List.set_cons_succ])
      refine stepL 10 (by simp) (by kernel_rfl) (by rfl) (fun K hK => ?_)
      (try simp only [List.getElem_cons_succ, List.getElem_cons_zero])
      (go_simp; go_at_call 62; refine (rOne_any y.nn _).mono ?_; rintro e w3 ⟨rfl, hb3⟩; (try replace hb3 := unq hb3); obtain ⟨hc3, hf3⟩ := bcell hb3; have hz3 := hb3.size; (try simp at hz3); have hn3 : N < w3.heap.size := by omega)
      go_wp2_with fail
      refine hK.out _ _ ?_ (fun hHeld => ?_)
      · (try dsimp only); go_keep
      clear hK K
      (try simp only [Act.put, List.setIfInBounds_toArray, List.set_cons_zero, List.set_cons_succ])
      refine stepL 11 (by simp) (by kernel_rfl) (by rfl) (fun K hK => ?_)
      (try simp only [List.getElem_cons_succ, List.getElem_cons_zero])
      go_simp
      refine hK.out _ _ ?_ (fun hHeld => ?_)
      · (try dsimp only); go_keep
      clear hK K
      (try simp only [Act.put, List.setIfInBounds_toArray, List.set_cons_zero, List.set_cons_succ])
      refine stepL 12 (by simp) (by kernel_rfl) (by rfl) (fun K hK => ?_)
      (try simp only [List.getElem_cons_succ, List.getElem_cons_zero])
      go_simp
      refine hK.out _ _ ?_ (fun hHeld => ?_)
      · (try dsimp only); go_keep
      clear hK K
      (try simp only [Act.put, List.setIfInBounds_toArray, List.set_cons_zero, List.set_cons_succ])
      refine takeL 13 (v := ?_) (by simp) (by kernel_rfl) (by kernel_rfl) (by kernel_rfl) (fun _ _ _ h => h) (by rfl) (by assumption) ?_ ?_
      rotate_left
      · intro w hSw; (try dsimp only at hSw); (try simp only [List.getElem_cons_succ, List.getElem_cons_zero]); first | (go_simp; done) | (go_simp; with_reducible rfl)
      (try simp only [List.getElem_cons_succ, List.getElem_cons_zero])
      (try simp only [Act.put, List.setIfInBounds_toArray, List.set_cons_zero, List.set_cons_succ])
      refine takeL 14 (v := ?_) (by simp) (by kernel_rfl) (by kernel_rfl) (by kernel_rfl) (fun _ _ _ h => h) (by rfl) (by assumption) ?_ ?_
      rotate_left
      · intro w hSw; (try dsimp only at hSw); (try simp only [List.getElem_cons_succ, List.getElem_cons_zero]); first | (go_simp; done) | (go_simp; with_reducible rfl)
      (try simp only [List.getElem_cons_succ, List.getElem_cons_zero])
      (try simp only [Act.put, List.setIfInBounds_toArray, List.set_cons_zero, List.set_cons_succ])
      refine wpAnyH_done (by kernel_rfl) ?_ _
      all_goals
        go_wp2_with fail
        go_roundw
        case rel => exact ⟨j + 1, by omega, by go_num, by (rw [Hec.out]; try rw [List.append_assoc]), Lib.hid (by (repeat (first | exact HB.out | apply b_alloc | apply b_drew | apply b_drewN | refine below_next ?_ (by assumption)))), Lib.hid (hX3.out.below (by (repeat (first | exact Below.refl _ _ | apply b_alloc | apply b_drew | apply b_drewN | refine below_next ?_ (by assumption)))))⟩
        case measure => simp [intOf]; omega
    · obtain rfl : j = s.cols.length := by omega
      rw [List.take_length]
      have hll := flat_len encCol 258 s.cols (fun x hx => encCol_len x (Hcs.out x hx).1)
      have hlen : (byteOf s.cols.length :: s.cols.flatMap encCol).length ≤ 1 + 258 * 255 := by
        rw [List.length_cons]
        have : 258 * s.cols.length ≤ 258 * 255 := Nat.mul_le_mul_left _ hnc
        omega
      have Hpre := Lib.hid (show encSch s = (byteOf s.cols.length :: s.cols.flatMap encCol) ++ encNames s.key ++ byteOf s.idx.length :: s.idx.flatMap encIdx from rfl)
      generalize byteOf s.cols.length :: s.cols.flatMap encCol = L at *
      have x1 := hX.out.cell 1 rfl
      have hk1 := conv1 s.key.length hnk
      have hw8 := IntWalk.u8_in (s.key.length : Int) (by omega)
      have ha1 := run_cat (P := Tryz.prog) L [byteOf s.key.length] (by simp; omega)
      have hX2 := Lib.hid (hX.out.below (below_new wr (.cells #[.int .u8 s.key.length] 5)))
      have hB2 := Lib.hid (b_alloc (o := (.cells #[.int .u8 s.key.length] 5)) hB.out)
      clear hll
      go_wp2_with fail
      clear hk1 hw8 ha1 x0 x1 hX hB
      have hlL : L.length ≤ 1 + 258 * 255 := hlen
      go_loopw [4, 7] (fun out i wr => ∃ j : Nat, j ≤ s.key.length ∧ i = .int .i64 j ∧ out = .string (BA (L ++ byteOf s.key.length :: (s.key.take j).flatMap encName)) ∧ Hid (Below w.heap.size w wr) ∧ Hid (Box wr w.heap.size 27 [.slice A1 s.cols.length c1, .slice A2 s.key.length c2, .slice A3 s.idx.length c3])) (fun _ i _ => s.key.length - (intOf i).toNat)
      case atStart => exact ⟨0, by omega, rfl, rfl, hB2, hX2⟩
      case round =>
        clear hB2 hX2 hz hlt hj
        obtain ⟨j, hj, rfl, rfl, hB, hX⟩ := hrel
        have hz := hX.out.lt
        have x1 := hX.out.cell 1 rfl
        by_cases hlt : j < s.key.length
        · obtain ⟨b, off, rfl, hb, hbb, g0⟩ := strs_at (HK.out.below (flat_stable _) hB.out) hlt
          have hy := Hks.out _ (List.getElem_mem hlt)
          have Hsn := Lib.hid (List.take_succ_eq_append_getElem hlt)
          generalize s.key[j] = y at *
          have hll := flat_len encName 256 (s.key.take j) (fun x hx => encName_len x (Hks.out x (List.mem_of_mem_take hx)))
          have hlj : (s.key.take j).length ≤ 255 := by simp; omega
          have hl2 : (L ++ byteOf s.key.length :: (s.key.take j).flatMap encName).length ≤ 2 + 258 * 255 + 256 * 255 := by
            rw [List.length_append, List.length_cons]
            have : 256 * (s.key.take j).length ≤ 256 * 255 := Nat.mul_le_mul_left _ hlj
            omega
          have hen := encName_len y hy
          have hec : L ++ byteOf s.key.length :: (s.key.take (j + 1)).flatMap encName = (L ++ byteOf s.key.length :: (s.key.take j).flatMap encName) ++ encName y := by
            rw [Hsn.out, List.flatMap_append]
            simp
          generalize L ++ byteOf s.key.length :: (s.key.take j).flatMap encName = M at *
          have ha1 := run_cat (P := Tryz.prog) M (encName y) (by omega)
          have Hec := Lib.hid hec
          clear hll hlj hl2 hen hec
          have hj0 : (0 : Int) ≤ j := by omega
          have hj1 : (j : Int) < (s.key.length : Int) := by omega
          go_wp2_with fail
          refine (rNameW_any y _ hy).mono ?_
          rintro e w2 ⟨rfl, hb2⟩
          go_wp2_with fail
          go_roundw
          case rel => exact ⟨j + 1, by omega, by go_num, by rw [Hec.out], Lib.hid (by (repeat (first | exact hB.out | apply b_alloc | apply b_drew | apply b_drewN | refine below_next ?_ (by assumption)))), Lib.hid (hX.out.below (by (repeat (first | exact Below.refl _ _ | apply b_alloc | apply b_drew | apply b_drewN | refine below_next ?_ (by assumption)))))⟩
          case measure => simp [intOf]; omega
        · obtain rfl : j = s.key.length := by omega
          rw [List.take_length]
          have hel := encNames_len s.key hnk Hks.out
          have hpl : (L ++ encNames s.key).length ≤ 140000 := by rw [List.length_append]; omega
          have Hpre : Hid (encSch s = (L ++ encNames s.key) ++ byteOf s.idx.length :: s.idx.flatMap encIdx) := Hpre
          rw [show L ++ byteOf s.key.length :: s.key.flatMap encName = L ++ encNames s.key from rfl]
          generalize L ++ encNames s.key = P at *
          have x2 := hX.out.cell 2 rfl
          have hk1 := conv1 s.idx.length hnx
          have hw8 := IntWalk.u8_in (s.idx.length : Int) (by omega)
          have ha1 := run_cat (P := Tryz.prog) P [byteOf s.idx.length] (by simp; omega)
          have hX2 := Lib.hid (hX.out.below (below_new wr (.cells #[.int .u8 s.idx.length] 5)))
          have hB2 := Lib.hid (b_alloc (o := (.cells #[.int .u8 s.idx.length] 5)) hB.out)
          clear hel
          go_wp2_with fail
          clear hk1 hw8 ha1 x1 x2 hX hB
          go_loopw [4, 8] (fun out i wr => ∃ j : Nat, j ≤ s.idx.length ∧ i = .int .i64 j ∧ out = .string (BA (P ++ byteOf s.idx.length :: (s.idx.take j).flatMap encIdx)) ∧ Hid (Below w.heap.size w wr) ∧ Hid (Box wr w.heap.size 27 [.slice A1 s.cols.length c1, .slice A2 s.key.length c2, .slice A3 s.idx.length c3])) (fun _ i _ => s.idx.length - (intOf i).toNat)
          case atStart => exact ⟨0, by omega, rfl, rfl, hB2, hX2⟩
          case round =>
            clear hB2 hX2 hz hlt hj hlL
            obtain ⟨j, hj, rfl, rfl, hB, hX⟩ := hrel
            have hz := hX.out.lt
            have x2 := hX.out.cell 2 rfl
            by_cases hlt : j < s.idx.length
            · obtain ⟨b, off, B, cB, rfl, hb, hbb, g0, g1, g2, hsB⟩ := idxs_at (HX.out.below RIdx_stable hB.out) hlt
              have hy := Hxs.out _ (List.getElem_mem hlt)
              have Hsn := Lib.hid (List.take_succ_eq_append_getElem hlt)
              have hll := flat_len encIdx 65538 (s.idx.take j) (fun x hx => encIdx_len x (Hxs.out x (List.mem_of_mem_take hx)))
              have hlj : (s.idx.take j).length ≤ 255 := by simp; omega
              generalize s.idx[j] = y at *
              obtain ⟨hy1, hy2, hy3⟩ := hy
              have Hy3 := Lib.hid hy3
              have HsB := Lib.hid (hsB.below (flat_stable _) (below_new wr (.cells #[.string y.name, .slice B y.cols.length cB, .bool y.uniq] 47)))
              have hl2 : (P ++ byteOf s.idx.length :: (s.idx.take j).flatMap encIdx).length ≤ 140001 + 65538 * 255 := by
                rw [List.length_append, List.length_cons]
                have : 65538 * (s.idx.take j).length ≤ 65538 * 255 := Nat.mul_le_mul_left _ hlj
                omega
              have hen := encName_len y.name hy1
              have hec : P ++ byteOf s.idx.length :: (s.idx.take (j + 1)).flatMap encIdx = (P ++ byteOf s.idx.length :: (s.idx.take j).flatMap encIdx) ++ encName y.name ++ [byteOf (flagN y.uniq), byteOf y.cols.length] ++ y.cols.flatMap encName := by
                rw [Hsn.out, List.flatMap_append]
                simp [encIdx, flagN_enc, encNames]
              generalize P ++ byteOf s.idx.length :: (s.idx.take j).flatMap encIdx = M at *
              have ha1 := run_cat (P := Tryz.prog) M (encName y.name) (by omega)
              have ha2 := run_cat (P := Tryz.prog) (M ++ encName y.name) [byteOf (flagN y.uniq), byteOf y.cols.length] (by rw [List.length_append]; simp; omega)
              have Hec := Lib.hid hec
              have hml : (M ++ encName y.name ++ [byteOf (flagN y.uniq), byteOf y.cols.length]).length ≤ 17000000 := by rw [List.length_append, List.length_append]; simp only [List.length_cons, List.length_nil]; omega
              have Hml := Lib.hid hml
              clear hll hlj hen hec hy3 hsB hml
              have hw8 := IntWalk.u8_in (y.cols.length : Int) (by omega)
              have hk2 := conv2 (flagN y.uniq) y.cols.length (flagN_le _) hy2
              go_wp2_with fail
              have hXb := Box.new wr [.string y.name, .slice B y.cols.length cB, .bool y.uniq] 47
              have hX3 := Lib.hid (hX.out.below (below_new wr (.cells #[.string y.name, .slice B y.cols.length cB, .bool y.uniq] 47)))
              have hB3 := b_alloc (o := (.cells #[.string y.name, .slice B y.cols.length cB, .bool y.uniq] 47)) hB.out
              generalize hwx : wr.alloc (.cells #[.string y.name, .slice B y.cols.length cB, .bool y.uniq] 47) = wx at *
              have k0 := hXb.cell 0 rfl
              have k1 := hXb.cell 1 rfl
              have k2 := hXb.cell 2 rfl
              have hzx := hXb.lt
              generalize wr.heap.size = N at *
              have HB := Lib.hid hB3
              have HXb := Lib.hid hXb
              clear hwx hXb hB3 hX hB x2 g0 g1 g2 hl2
              refine wp_region_held_drew (S := (fun w' => w'.cell? ⟨N, 0, none⟩ = some (.string y.name) ∧ w'.cell? ⟨N, 1, none⟩ = some (.slice B y.cols.length cB) ∧ w'.cell? ⟨N, 2, none⟩ = some (.bool y.uniq))) (by kernel_rfl) ?_ (fun hHeld => ?_)
              · (try dsimp only); go_keep
              refine takeL 0 (v := ?_) (by simp) (by kernel_rfl) (by kernel_rfl) (by kernel_rfl) (fun _ _ _ h => h) (by rfl) (by assumption) ?_ ?_
              rotate_left
              · intro w hSw; (try dsimp only at hSw); (try simp only [List.getElem_cons_succ, List.getElem_cons_zero]); first | (go_simp; done) | (go_simp; with_reducible rfl)
              (try simp only [List.getElem_cons_succ, List.getElem_cons_zero])
              (try simp only [Act.put, List.setIfInBounds_toArray, List.set_cons_zero, List.set_cons_succ])
              refine takeL 1 (v := ?_) (by simp) (by kernel_rfl) (by kernel_rfl) (by kernel_rfl) (fun _ _ _ h => h) (by rfl) (by assumption) ?_ ?_
              rotate_left
              · intro w hSw; (try dsimp only at hSw); (try simp only [List.getElem_cons_succ, List.getElem_cons_zero]); first | (go_simp; done) | (go_simp; with_reducible rfl)
              (try simp only [List.getElem_cons_succ, List.getElem_cons_zero])
              (try simp only [Act.put, List.setIfInBounds_toArray, List.set_cons_zero, List.set_cons_succ])
              refine takeL 2 (v := ?_) (by simp) (by kernel_rfl) (by kernel_rfl) (by kernel_rfl) (fun _ _ _ h => h) (by rfl) (by assumption) ?_ ?_
              rotate_left
              · intro w hSw; (try dsimp only at hSw); (try simp only [List.getElem_cons_succ, List.getElem_cons_zero]); first | (go_simp; done) | (go_simp; with_reducible rfl)
              (try simp only [List.getElem_cons_succ, List.getElem_cons_zero])
              (try simp only [Act.put, List.setIfInBounds_toArray, List.set_cons_zero, List.set_cons_succ])
              refine takeL 5 (v := ?_) (by simp) (by kernel_rfl) (by kernel_rfl) (by kernel_rfl) (fun _ _ _ h => h) (by rfl) (by assumption) ?_ ?_
              rotate_left
              · intro w hSw; (try dsimp only at hSw); (try simp only [List.getElem_cons_succ, List.getElem_cons_zero]); first | (go_simp; done) | (go_simp; with_reducible rfl)
              (try simp only [List.getElem_cons_succ, List.getElem_cons_zero])
              (try simp only [Act.put, List.setIfInBounds_toArray, List.set_cons_zero, List.set_cons_succ])
              refine takeL 6 (v := ?_) (by simp) (by kernel_rfl) (by kernel_rfl) (by kernel_rfl) (fun _ _ _ h => h) (by rfl) (by assumption) ?_ ?_
              rotate_left
              · intro w hSw; (try dsimp only at hSw); (try simp only [List.getElem_cons_succ, List.getElem_cons_zero]); first | (go_simp; done) | (go_simp; with_reducible rfl)
              (try simp only [List.getElem_cons_succ, List.getElem_cons_zero])
              (try simp only [Act.put, List.setIfInBounds_toArray, List.set_cons_zero, List.set_cons_succ])
              refine takeL 8 (v := ?_) (by simp) (by kernel_rfl) (by kernel_rfl) (by kernel_rfl) (fun _ _ _ h => h) (by rfl) (by assumption) ?_ ?_
              rotate_left
              · intro w hSw; (try dsimp only at hSw); (try simp only [List.getElem_cons_succ, List.getElem_cons_zero]); first | (go_simp; done) | (go_simp; with_reducible rfl)
              (try simp only [List.getElem_cons_succ, List.getElem_cons_zero])
              (try simp only [Act.put, List.setIfInBounds_toArray, List.set_cons_zero, List.set_cons_succ])
              refine takeL 9 (v := ?_) (by simp) (by kernel_rfl) (by kernel_rfl) (by kernel_rfl) (fun _ _ _ h => h) (by rfl) (by assumption) ?_ ?_
              rotate_left
              · intro w hSw; (try dsimp only at hSw); (try simp only [List.getElem_cons_succ, List.getElem_cons_zero]); first | (go_simp; done) | (go_simp; with_reducible rfl)
              (try simp only [List.getElem_cons_succ, List.getElem_cons_zero])
              (try simp only [Act.put, List.setIfInBounds_toArray, List.set_cons_zero, List.set_cons_succ])
              refine takeL 10 (v := ?_) (by simp) (by kernel_rfl) (by kernel_rfl) (by kernel_rfl) (fun _ _ _ h => h) (by rfl) (by assumption) ?_ ?_
              rotate_left
              · intro w hSw; (try dsimp only at hSw); (try simp only [List.getElem_cons_succ, List.getElem_cons_zero]); first | (go_simp; done) | (go_simp; with_reducible rfl)
              (try simp only [List.getElem_cons_succ, List.getElem_cons_zero])
              (try simp only [Act.put, List.setIfInBounds_toArray, List.set_cons_zero, List.set_cons_succ])
              refine takeL 11 (v := ?_) (by simp) (by kernel_rfl) (by kernel_rfl) (by kernel_rfl) (fun _ _ _ h => h) (by rfl) (by assumption) ?_ ?_
              rotate_left
              · intro w hSw; (try dsimp only at hSw); (try simp only [List.getElem_cons_succ, List.getElem_cons_zero]); first | (go_simp; done) | (go_simp; with_reducible rfl)
              (try simp only [List.getElem_cons_succ, List.getElem_cons_zero])
              (try simp only [Act.put, List.setIfInBounds_toArray, List.set_cons_zero, List.set_cons_succ])
              refine stepL 3 (by simp) (by kernel_rfl) (by rfl) (fun K hK => ?_)
              (try simp only [List.getElem_cons_succ, List.getElem_cons_zero])
              (go_simp; go_at_call 61; refine (rNameW_any y.name _ hy1).mono ?_; rintro e w2 ⟨rfl, hb2⟩; (try replace hb2 := unq hb2); obtain ⟨hc2, hf2⟩ := bcell hb2; have hz2 := hb2.size; (try simp at hz2); have hn2 : N < w2.heap.size := by omega)
              go_wp2_with fail
              refine hK.out _ _ ?_ (fun hHeld => ?_)
              · (try dsimp only); go_keep
              clear hK K
              (try simp only [Act.put, List.setIfInBounds_toArray, List.set_cons_zero, List.set_cons_succ])
              refine takeL 4 (v := ?_) (by simp) (by kernel_rfl) (by kernel_rfl) (by kernel_rfl) (fun _ _ _ h => h) (by rfl) (by assumption) ?_ ?_
              rotate_left
              · intro w hSw; (try dsimp only at hSw); (try simp only [List.getElem_cons_succ, List.getElem_cons_zero]); first | (go_simp; done) | (go_simp; with_reducible rfl)
              (try simp only [List.getElem_cons_succ, List.getElem_cons_zero])
              (try simp only [Act.put, List.setIfInBounds_toArray, List.set_cons_zero, List.set_cons_succ])
              refine stepL 7 (by simp) (by kernel_rfl) (by rfl) (fun K hK => ?_)
              (try simp only [List.getElem_cons_succ, List.getElem_cons_zero])
              (go_simp; go_at_call 62; refine (rOne_any y.uniq _).mono ?_; rintro e w3 ⟨rfl, hb3⟩; (try replace hb3 := unq hb3); obtain ⟨hc3, hf3⟩ := bcell hb3; have hz3 := hb3.size; (try simp at hz3); have hn3 : N < w3.heap.size := by omega)
              go_wp2_with fail
              refine hK.out _ _ ?_ (fun hHeld => ?_)
              · (try dsimp only); go_keep
              clear hK K
              (try simp only [Act.put, List.setIfInBounds_toArray, List.set_cons_zero, List.set_cons_succ])
              refine stepL 12 (by simp) (by kernel_rfl) (by rfl) (fun K hK => ?_)
              (try simp only [List.getElem_cons_succ, List.getElem_cons_zero])
              go_simp
              refine hK.out _ _ ?_ (fun hHeld => ?_)
              · (try dsimp only); go_keep
              clear hK K
              (try simp only [Act.put, List.setIfInBounds_toArray, List.set_cons_zero, List.set_cons_succ])
              refine stepL 13 (by simp) (by kernel_rfl) (by rfl) (fun K hK => ?_)
              (try simp only [List.getElem_cons_succ, List.getElem_cons_zero])
              go_simp
              refine hK.out _ _ ?_ (fun hHeld => ?_)
              · (try dsimp only); go_keep
              clear hK K
              (try simp only [Act.put, List.setIfInBounds_toArray, List.set_cons_zero, List.set_cons_succ])
              refine takeL 14 (v := ?_) (by simp) (by kernel_rfl) (by kernel_rfl) (by kernel_rfl) (fun _ _ _ h => h) (by rfl) (by assumption) ?_ ?_
              rotate_left
              · intro w hSw; (try dsimp only at hSw); (try simp only [List.getElem_cons_succ, List.getElem_cons_zero]); first | (go_simp; done) | (go_simp; with_reducible rfl)
              (try simp only [List.getElem_cons_succ, List.getElem_cons_zero])
              (try simp only [Act.put, List.setIfInBounds_toArray, List.set_cons_zero, List.set_cons_succ])
              refine takeL 15 (v := ?_) (by simp) (by kernel_rfl) (by kernel_rfl) (by kernel_rfl) (fun _ _ _ h => h) (by rfl) (by assumption) ?_ ?_
              rotate_left
              · intro w hSw; (try dsimp only at hSw); (try simp only [List.getElem_cons_succ, List.getElem_cons_zero]); first | (go_simp; done) | (go_simp; with_reducible rfl)
              (try simp only [List.getElem_cons_succ, List.getElem_cons_zero])
              (try simp only [Act.put, List.setIfInBounds_toArray, List.set_cons_zero, List.set_cons_succ])
              refine wpAnyH_done (by kernel_rfl) ?_ _
              all_goals
                go_wp2_with fail
                go_loopw [4, 10] (fun out i wr => ∃ k : Nat, k ≤ y.cols.length ∧ i = .int .i64 k ∧ out = .string (BA (M ++ encName y.name ++ [byteOf (flagN y.uniq), byteOf y.cols.length] ++ (y.cols.take k).flatMap encName)) ∧ Hid (Below wx.heap.size wx wr)) (fun _ i _ => y.cols.length - (intOf i).toNat)
                case atStart => exact ⟨0, by omega, rfl, by simp, Lib.hid (by (repeat (first | exact Below.refl _ _ | apply b_alloc | apply b_drew | apply b_drewN | refine below_next ?_ (by assumption))))⟩
                case round =>
                  obtain ⟨k, hk, rfl, rfl, hB5⟩ := hrel
                  have e1 := (HXb.out.below hB5.out).cell 1 rfl
                  by_cases hkt : k < y.cols.length
                  · obtain ⟨b', off', rfl, hb', hbb', g0'⟩ := strs_at (HsB.out.below (flat_stable _) hB5.out) hkt
                    have hx := Hy3.out _ (List.getElem_mem hkt)
                    have Hsn2 := Lib.hid (List.take_succ_eq_append_getElem hkt)
                    generalize y.cols[k] = x at *
                    have hll := flat_len encName 256 (y.cols.take k) (fun x hx => encName_len x (Hy3.out x (List.mem_of_mem_take hx)))
                    have hlj : (y.cols.take k).length ≤ 255 := by simp; omega
                    have hl3 : (M ++ encName y.name ++ [byteOf (flagN y.uniq), byteOf y.cols.length] ++ (y.cols.take k).flatMap encName).length ≤ 17100000 := by
                      rw [List.length_append]
                      have := Hml.out
                      have : 256 * (y.cols.take k).length ≤ 256 * 255 := Nat.mul_le_mul_left _ hlj
                      omega
                    have hec : M ++ encName y.name ++ [byteOf (flagN y.uniq), byteOf y.cols.length] ++ (y.cols.take (k + 1)).flatMap encName = (M ++ encName y.name ++ [byteOf (flagN y.uniq), byteOf y.cols.length] ++ (y.cols.take k).flatMap encName) ++ encName x := by
                      rw [Hsn2.out, List.flatMap_append]
                      simp
                    generalize M ++ encName y.name ++ [byteOf (flagN y.uniq), byteOf y.cols.length] ++ (y.cols.take k).flatMap encName = Z at *
                    have hex := encName_len x hx
                    have ha3 := run_cat (P := Tryz.prog) Z (encName x) (by omega)
                    have Hec2 := Lib.hid hec
                    clear hll hlj hl3 hex hec
                    have hk0 : (0 : Int) ≤ k := by omega
                    have hk1 : (k : Int) < (y.cols.length : Int) := by omega
                    go_wp2_with fail
                    refine (rNameW_any x _ hx).mono ?_
                    rintro e w5 ⟨rfl, hb5⟩
                    go_wp2_with fail
                    go_roundw
                    case rel => exact ⟨k + 1, by omega, by go_num, by rw [Hec2.out], Lib.hid (below_next hB5.out hb5)⟩
                    case measure => simp [intOf]; omega
                  · obtain rfl : k = y.cols.length := by omega
                    rw [List.take_length, ← Hec.out]
                    go_wp2_with fail
                    go_roundw
                    case rel => exact ⟨j + 1, by omega, by go_num, rfl, Lib.hid (below_next HB.out hB5.out), Lib.hid (hX3.out.below hB5.out)⟩
                    case measure => simp [intOf]; omega
            · obtain rfl : j = s.idx.length := by omega
              rw [List.take_length, ← Hpre.out]
              go_wp2_with fail
              go_ret2
              exact ⟨by rw [Hwp.out]; rfl, hB.out⟩
end Go.Proofs.Pw
