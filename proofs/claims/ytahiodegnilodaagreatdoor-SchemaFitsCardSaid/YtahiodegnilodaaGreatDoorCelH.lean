/- A tuple's bytes: the program's tupled. -/
import Derived.Test.YtahiodegnilodaaGreatDoorCelC
import Derived.Test.YtahiodegnilodaaGreatDoorMCelG
import Derived.Test.YtahiodegnilodaaGreatDoorBldB
import Derived.OpenShut
namespace Go.Proofs.Pw
open Go.RowKit

/-- A whole number's bits, turned. -/
def turned (n : Int) (T : Nat) : Nat := (bits .xor .u64 (IntKind.u64.wrap n) T).toNat
theorem turned_eq (n : Int) (T : Nat) : bits .xor .u64 (IntKind.u64.wrap n) T = ((turned n T : Nat) : Int) ∧ turned n T < 18446744073709551616 := by
  have h := wf_bits .xor .u64 (IntKind.u64.wrap n) T
  simp only [Lit.wf, Bool.and_eq_true, decide_eq_true_eq] at h
  have h1 : (0 : Int) ≤ bits .xor .u64 (IntKind.u64.wrap n) T := h.1
  have h2 : bits .xor .u64 (IntKind.u64.wrap n) T ≤ 18446744073709551615 := h.2
  unfold turned
  generalize bits .xor .u64 (IntKind.u64.wrap n) T = z at *
  omega
def encV (k T : Nat) (t : ByteArray → List UInt8) (v : PVal) : List UInt8 :=
  byteOf (v.kind.toNat + k) :: if v.kind = 1 then bytes8 (turned v.n T) else if v.kind = 2 then [byteOf v.n.toNat] else if v.kind = 3 then t v.s else if v.kind = 4 then t v.s else []
def tupV (k T : Nat) (t : ByteArray → List UInt8) (l : List PVal) : ByteArray × Bool := if tupleF l then (BA (l.flatMap (encV k T t)), true) else (⟨#[]⟩, false)
theorem right_kind {v : PVal} (h : rightV v = true) : (v.kind = 0 ∨ v.kind = 1 ∨ v.kind = 2 ∨ v.kind = 3 ∨ v.kind = 4) ∧ v.s.size ≤ 1000 ∧ (v.kind = 2 → v.n = 0 ∨ v.n = 1) := by
  unfold rightV at h
  split at h
  · rename_i h0
    have := of_decide_eq_true h
    exact ⟨.inl h0, by omega, by omega⟩
  split at h
  · rename_i h0
    have := of_decide_eq_true h
    exact ⟨.inr (.inl h0), by omega, by omega⟩
  split at h
  · rename_i h0
    have := of_decide_eq_true h
    exact ⟨.inr (.inr (.inl h0)), by omega, fun _ => this.1⟩
  split at h
  · rename_i h0
    have := of_decide_eq_true h
    exact ⟨.inr (.inr (.inr (.inl h0))), by omega, by omega⟩
  split at h
  · rename_i h0
    have := of_decide_eq_true h
    exact ⟨.inr (.inr (.inr (.inr h0))), by omega, by omega⟩
  · cases h
theorem encV_len (k T : Nat) (t : ByteArray → List UInt8) (ht : ∀ s, (t s).length ≤ 2 * s.size + 2) {v : PVal} (h : rightV v = true) : (encV k T t v).length ≤ 2003 := by
  obtain ⟨_, h2, _⟩ := right_kind h
  have := ht v.s
  unfold encV
  rw [List.length_cons]
  split
  · rw [bytes8_len]; omega
  split
  · simp
  split
  · omega
  split
  · omega
  · simp

theorem WrB.alloc {base b : Nat} {l : List UInt8} {w : World} (h : WrB base b l w) (o : Obj) : WrB base b l (w.alloc o) := by
  obtain ⟨h1, h2, p, v, h3, h4, h5⟩ := h
  exact ⟨h1, by simp; omega, p, v, h3.alloc o, h4, row_below h5 (below_new _ _)⟩
theorem WrB.new (w : World) : WrB (w.heap.size + 1) w.heap.size [] (w.alloc (.cells #[.pointer none, .slice none 0 0] 79)) :=
  ⟨by omega, by simp, .pointer none, .slice none 0 0, Box.new w [.pointer none, .slice none 0 0] 79, .inl rfl, row_nil _ _ _ _⟩

theorem wbyteB_any (base b : Nat) (l : List UInt8) (n : Nat) (x : Int) (w : World) (h : WrB base b l w) (hl : l.length + 1 ≤ 140737488355328) (hn : n ≤ 255) (hx : x = (n : Int)) :
    Calls Tryz.prog 98 #[.pointer (some ⟨b, 0, none⟩), .int .u8 x] w (WOutB base b .nilIface (l ++ [byteOf n]) w) := by
  have hW := writeByteB_any base b l (byteOf n) w h hl
  rw [byteOf_nat hn] at hW
  rw [hx]
  exact hW
theorem wholeX_any (n : Nat) (x : Int) (w : World) (hn : n < 18446744073709551616) (hx : x = (n : Int)) : Calls Tryz.prog 129 #[.int .u64 x] w (Gives w (.string (BA (bytes8 n)))) := by
  rw [hx]; exact whole_any n w hn
theorem bcellB {n : Nat} {W w1 : World} (hb : Below n W w1) : ∀ b o, b < n → w1.cell? ⟨b, o, none⟩ = W.cell? ⟨b, o, none⟩ := fun b o h => hb.cell (p := ⟨b, o, none⟩) h

set_option maxRecDepth 100000 in
set_option maxHeartbeats 1000000 in
theorem tupled_any (k T : Nat) (F G : FuncId) (t : ByteArray → List UInt8) (A : Option Addr) (c : Nat) (xs : List PVal) (w : World) (hc : Vals w A xs) (hn : ∀ v ∈ xs, i64R v.n) (hne : xs ≠ []) (hk : k ≤ 1) (hT : T < 18446744073709551616)
    (ht : ∀ s, (t s).length ≤ 2 * s.size + 2) (hF : F = 124 ∨ F = 143) (HF : ∀ s w', s.size ≤ 65535 → Below w.heap.size w w' → Calls Tryz.prog F #[.string s] w' (Gives w' (.string (BA (t s))))) :
    Calls Tryz.prog 102 #[.agg #[.int .i64 k, .int .u64 T, .func (.func F) #[] #[], .func (.func G) #[] #[]], .slice A xs.length c] w (Gives w (.tuple #[.string (tupV k T t xs).1, .bool (tupV k T t xs).2])) := by
  have HV := Lib.hid hc
  have HN := Lib.hid hn
  have HF := Lib.hid HF
  have hm := hc.1
  have HU := Lib.hid (tuple_any A c xs (w.alloc (.cells #[.int .i64 k, .int .u64 T, .func (.func F) #[] #[], .func (.func G) #[] #[]] 133)) (hc.below (flat_stable _) (below_new _ _)) hn)
  clear hc hn
  by_cases hu : tupleF xs = true
  case neg =>
    have hu : tupleF xs = false := by simpa using hu
    have hq : Hid (tupV k T t xs = (⟨#[]⟩, false)) := by rw [tupV, hu]; rfl
    go_enter Tryz.func102, Tryz.ntmps102
    go_wp2_with fail
    refine HU.out.mono ?_
    rintro e w1 ⟨rfl, hb1⟩
    have hB := Lib.hid (below_next (below_new w _) hb1)
    go_wp2_with fail
    go_ret2
    exact ⟨by rw [hq.out]; rfl, hB.out⟩
  have hq : Hid (tupV k T t xs = (BA (xs.flatMap (encV k T t)), true)) := by rw [tupV, hu]; rfl
  have hlr : xs.length ≤ 64 ∧ allV xs = true := by
    unfold tupleF at hu
    split at hu
    · cases hu
    · exact ⟨by omega, hu⟩
  obtain ⟨hl64, hav⟩ := hlr
  have HA := Lib.hid (allV_all hav)
  clear hav
  go_enter Tryz.func102, Tryz.ntmps102
  go_wp2_with fail
  refine HU.out.mono ?_
  rintro e w1 ⟨rfl, hb1⟩
  rw [hu]
  have hX := (Box.new w [.int .i64 k, .int .u64 T, .func (.func F) #[] #[], .func (.func G) #[] #[]] 133).below hb1
  have hB := below_next (below_new w _) hb1
  have hz := hX.lt
  clear hb1 HU hu
  go_wp2_with fail
  have hW0 := WrB.new w1
  have hB1 := b_alloc (o := (.cells #[.pointer none, .slice none 0 0] 79)) hB
  have hX1 := hX.alloc (.cells #[.pointer none, .slice none 0 0] 79)
  have hzz : w1.heap.size ≤ w1.heap.size := Nat.le_refl _
  generalize w1.alloc (.cells #[.pointer none, .slice none 0 0] 79) = w2 at *
  generalize w1.heap.size = b at *
  have HB1 := Lib.hid hB1
  have HX1 := Lib.hid hX1
  clear hX1 hX hB hB1
  go_loopw [14] (fun i wr => ∃ j : Nat, j ≤ xs.length ∧ i = .int .i64 j ∧ Hid (WrB (b + 1) b ((xs.take j).flatMap (encV k T t)) wr) ∧ Hid (WStep b w2 wr)) (fun i _ => xs.length - (intOf i).toNat)
  case atStart => exact ⟨0, by omega, rfl, hW0, WStep.refl _ _⟩
  case round =>
    clear hW0
    obtain ⟨j, hj, rfl, HW, HT⟩ := hrel
    have hbz := HW.out.2.1
    by_cases hlt : j < xs.length
    · have hbb := HB1.out.trans (HT.out.1.mono (Nat.le_of_lt hz))
      obtain ⟨ab, off, rfl, hb, hbb', hs0, hs1, hs2⟩ := vals_at (HV.out.below (flat_stable _) hbb) hlt
      have hr := HA.out _ (List.getElem_mem hlt)
      have hn := HN.out _ (List.getElem_mem hlt)
      have Hsn := Lib.hid (List.take_succ_eq_append_getElem hlt)
      have hll := flat_len (encV k T t) 2003 (xs.take j) (fun x hx => encV_len k T t ht (HA.out x (List.mem_of_mem_take hx)))
      have hlj : (xs.take j).length ≤ 64 := by simp; omega
      generalize xs[j] = y at *
      have hlen : ((xs.take j).flatMap (encV k T t)).length ≤ 2003 * 64 := by
        have : 2003 * (xs.take j).length ≤ 2003 * 64 := Nat.mul_le_mul_left _ hlj
        omega
      obtain ⟨hkk, hsz, hk2⟩ := right_kind hr
      have f0 := (HT.out.1.cell (p := ⟨w.heap.size, 0, none⟩) hz).trans (HX1.out.cell 0 rfl)
      have f1 := (HT.out.1.cell (p := ⟨w.heap.size, 1, none⟩) hz).trans (HX1.out.cell 1 rfl)
      have f2 := (HT.out.1.cell (p := ⟨w.heap.size, 2, none⟩) hz).trans (HX1.out.cell 2 rfl)
      clear hll hlj hbb' 
      obtain ⟨yk, yn, ys⟩ := y
      dsimp only at *
      have hwz : w.heap.size < wr.heap.size := by omega
      have HWA := Lib.hid (HW.out.alloc (.cells #[.int .i64 yk, .int .i64 yn, .string ys] 65))
      have hXb := Box.new wr [.int .i64 yk, .int .i64 yn, .string ys] 65
      have hTA := HT.out.trans (WStep.alloc (b := b) (w := wr) (.cells #[.int .i64 yk, .int .i64 yn, .string ys] 65) (by omega))
      have HXb := Lib.hid hXb
      have HTA := Lib.hid hTA
      clear hXb hTA
      rcases hkk with rfl | rfl | rfl | rfl | rfl
      · have henc : encV k T t ⟨0, yn, ys⟩ = [byteOf (0 + k)] := by simp [encV]
        have Henc := Lib.hid henc
        clear henc
        go_wp2_with fail
        refine (wbyteB_any (b + 1) b _ (0 + k) _ _ HWA.out (by omega) (by omega) (by omega)).mono ?_
        rintro e w4 ⟨rfl, h3, h4⟩
        have hX4 := h4.2 wr.heap.size 65 _ (by decide) (by omega) HXb.out
        have k0 := hX4.cell 0 rfl
        have H4 := Lib.hid (HTA.out.trans h4)
        have h5 : WrB (b + 1) b ((xs.take (j + 1)).flatMap (encV k T t)) w4 := by
          rw [Hsn.out, List.flatMap_append]
          simpa [Henc.out] using h3
        have H5 := Lib.hid h5
        clear h3 h4 hX4 h5
        go_wp2_with fail
        go_roundw
        case rel => exact ⟨j + 1, by omega, by go_num, H5, H4⟩
        case measure => simp [intOf]; omega
      · have henc : encV k T t ⟨1, yn, ys⟩ = [byteOf (1 + k)] ++ bytes8 (turned yn T) := by simp [encV]
        have Henc := Lib.hid henc
        clear henc
        go_wp2_with fail
        refine (wbyteB_any (b + 1) b _ (1 + k) _ _ HWA.out (by omega) (by omega) (by omega)).mono ?_
        rintro e w4 ⟨rfl, h3, h4⟩
        have hX4 := h4.2 wr.heap.size 65 _ (by decide) (by omega) HXb.out
        have k0 := hX4.cell 0 rfl
        have k1 := hX4.cell 1 rfl
        have H4 := Lib.hid (HTA.out.trans h4)
        have g1 := (H4.out.1.cell (p := ⟨w.heap.size, 1, none⟩) hz).trans (HX1.out.cell 1 rfl)
        have H3 := Lib.hid h3
        clear h3 h4 hX4
        go_wp2_with fail
        refine (wholeX_any (turned yn T) _ _ (turned_eq yn T).2 (turned_eq yn T).1).mono ?_
        rintro e w5 ⟨rfl, hb5⟩
        have hbz4 := H3.out.2.1
        have H5 := Lib.hid ((⟨hb5.mono (by omega), fun k T vs _ _ hbx => hbx.below hb5⟩ : WStep b w4 w5))
        have H3' : Hid (WrB (b + 1) b ((xs.take j).flatMap (encV k T t) ++ [byteOf (1 + k)]) w5) := by
          obtain ⟨e1, e2, p, v, e3, e4, e5⟩ := H3.out
          exact ⟨e1, Nat.le_trans e2 hb5.size, p, v, e3.below hb5, e4, row_below e5 hb5⟩
        clear hb5
        go_wp2_with fail
        have hb8 := bytes8_len (turned yn T)
        refine (writeStringB_any (b + 1) b _ (BA (bytes8 (turned yn T))) _ H3'.out (by rw [BA_size, hb8]; simp only [List.length_append, List.length_cons, List.length_nil]; omega)).mono ?_
        rintro e w6 ⟨rfl, h6, h7⟩
        have H6 := Lib.hid ((H4.out.trans H5.out).trans h7)
        have h8 : WrB (b + 1) b ((xs.take (j + 1)).flatMap (encV k T t)) w6 := by
          rw [Hsn.out, List.flatMap_append]
          rw [BA_list] at h6
          simpa [Henc.out] using h6
        have H8 := Lib.hid h8
        clear h6 h7 h8
        go_wp2_with fail
        go_roundw
        case rel => exact ⟨j + 1, by omega, by go_num, H8, H6⟩
        case measure => simp [intOf]; omega
      · have henc : encV k T t ⟨2, yn, ys⟩ = [byteOf (2 + k)] ++ [byteOf yn.toNat] := by simp [encV]
        have Henc := Lib.hid henc
        have hw8 : IntKind.u8.wrap yn = yn := IntWalk.u8_in yn (by have := hk2 rfl; omega)
        have hyn : (0 : Int) ≤ yn ∧ yn ≤ 1 := by have := hk2 rfl; omega
        clear henc
        go_wp2_with fail
        refine (wbyteB_any (b + 1) b _ (2 + k) _ _ HWA.out (by omega) (by omega) (by omega)).mono ?_
        rintro e w4 ⟨rfl, h3, h4⟩
        have hX4 := h4.2 wr.heap.size 65 _ (by decide) (by omega) HXb.out
        have k0 := hX4.cell 0 rfl
        have k1 := hX4.cell 1 rfl
        have H4 := Lib.hid (HTA.out.trans h4)
        have H3 := Lib.hid h3
        clear h3 h4 hX4
        go_wp2_with fail
        refine (wbyteB_any (b + 1) b _ yn.toNat _ _ H3.out (by simp only [List.length_append, List.length_cons, List.length_nil]; omega) (by omega) (by omega)).mono ?_
        rintro e w6 ⟨rfl, h6, h7⟩
        have H6 := Lib.hid (H4.out.trans h7)
        have h8 : WrB (b + 1) b ((xs.take (j + 1)).flatMap (encV k T t)) w6 := by
          rw [Hsn.out, List.flatMap_append]
          simpa [Henc.out] using h6
        have H8 := Lib.hid h8
        clear h6 h7 h8
        go_wp2_with fail
        go_roundw
        case rel => exact ⟨j + 1, by omega, by go_num, H8, H6⟩
        case measure => simp [intOf]; omega
      · have henc : encV k T t ⟨3, yn, ys⟩ = [byteOf (3 + k)] ++ t ys := by simp [encV]
        have Henc := Lib.hid henc
        clear henc
        go_wp2_with fail
        refine (wbyteB_any (b + 1) b _ (3 + k) _ _ HWA.out (by omega) (by omega) (by omega)).mono ?_
        rintro e w4 ⟨rfl, h3, h4⟩
        have hX4 := h4.2 wr.heap.size 65 _ (by decide) (by omega) HXb.out
        have k0 := hX4.cell 0 rfl
        have k2 := hX4.cell 2 rfl
        have H4 := Lib.hid (HTA.out.trans h4)
        have g2 := (H4.out.1.cell (p := ⟨w.heap.size, 2, none⟩) hz).trans (HX1.out.cell 2 rfl)
        have H3 := Lib.hid h3
        have hbz4 := H3.out.2.1
        have HB4 := Lib.hid (HB1.out.trans (H4.out.1.mono (Nat.le_of_lt hz)))
        have hty := ht ys
        clear h3 h4 hX4
        rcases hF with rfl | rfl
        all_goals
          go_wp2_with fail
          first | go_at_call 124 | go_at_call 143
          refine (HF.out ys _ (by omega) HB4.out).mono ?_
          rintro e w5 ⟨rfl, hb5⟩
          have H5 := Lib.hid ((⟨hb5.mono (by omega), fun k T vs _ _ hbx => hbx.below hb5⟩ : WStep b w4 w5))
          have H3' : Hid (WrB (b + 1) b ((xs.take j).flatMap (encV k T t) ++ [byteOf (3 + k)]) w5) := by
            obtain ⟨e1, e2, p, v, e3, e4, e5⟩ := H3.out
            exact ⟨e1, Nat.le_trans e2 hb5.size, p, v, e3.below hb5, e4, row_below e5 hb5⟩
          clear hb5
          go_wp2_with fail
          refine (writeStringB_any (b + 1) b _ (BA (t ys)) _ H3'.out (by rw [BA_size]; simp only [List.length_append, List.length_cons, List.length_nil]; omega)).mono ?_
          rintro e w6 ⟨rfl, h6, h7⟩
          have H6 := Lib.hid ((H4.out.trans H5.out).trans h7)
          have h8 : WrB (b + 1) b ((xs.take (j + 1)).flatMap (encV k T t)) w6 := by
            rw [Hsn.out, List.flatMap_append]
            rw [BA_list] at h6
            simpa [Henc.out] using h6
          have H8 := Lib.hid h8
          clear h6 h7 h8
          go_wp2_with fail
          go_roundw
          case rel => exact ⟨j + 1, by omega, by go_num, H8, H6⟩
          case measure => simp [intOf]; omega
      · have henc : encV k T t ⟨4, yn, ys⟩ = [byteOf (4 + k)] ++ t ys := by simp [encV]
        have Henc := Lib.hid henc
        clear henc
        go_wp2_with fail
        refine (wbyteB_any (b + 1) b _ (4 + k) _ _ HWA.out (by omega) (by omega) (by omega)).mono ?_
        rintro e w4 ⟨rfl, h3, h4⟩
        have hX4 := h4.2 wr.heap.size 65 _ (by decide) (by omega) HXb.out
        have k0 := hX4.cell 0 rfl
        have k2 := hX4.cell 2 rfl
        have H4 := Lib.hid (HTA.out.trans h4)
        have g2 := (H4.out.1.cell (p := ⟨w.heap.size, 2, none⟩) hz).trans (HX1.out.cell 2 rfl)
        have H3 := Lib.hid h3
        have hbz4 := H3.out.2.1
        have HB4 := Lib.hid (HB1.out.trans (H4.out.1.mono (Nat.le_of_lt hz)))
        have hty := ht ys
        clear h3 h4 hX4
        rcases hF with rfl | rfl
        all_goals
          go_wp2_with fail
          first | go_at_call 124 | go_at_call 143
          refine (HF.out ys _ (by omega) HB4.out).mono ?_
          rintro e w5 ⟨rfl, hb5⟩
          have H5 := Lib.hid ((⟨hb5.mono (by omega), fun k T vs _ _ hbx => hbx.below hb5⟩ : WStep b w4 w5))
          have H3' : Hid (WrB (b + 1) b ((xs.take j).flatMap (encV k T t) ++ [byteOf (4 + k)]) w5) := by
            obtain ⟨e1, e2, p, v, e3, e4, e5⟩ := H3.out
            exact ⟨e1, Nat.le_trans e2 hb5.size, p, v, e3.below hb5, e4, row_below e5 hb5⟩
          clear hb5
          go_wp2_with fail
          refine (writeStringB_any (b + 1) b _ (BA (t ys)) _ H3'.out (by rw [BA_size]; simp only [List.length_append, List.length_cons, List.length_nil]; omega)).mono ?_
          rintro e w6 ⟨rfl, h6, h7⟩
          have H6 := Lib.hid ((H4.out.trans H5.out).trans h7)
          have h8 : WrB (b + 1) b ((xs.take (j + 1)).flatMap (encV k T t)) w6 := by
            rw [Hsn.out, List.flatMap_append]
            rw [BA_list] at h6
            simpa [Henc.out] using h6
          have H8 := Lib.hid h8
          clear h6 h7 h8
          go_wp2_with fail
          go_roundw
          case rel => exact ⟨j + 1, by omega, by go_num, H8, H6⟩
          case measure => simp [intOf]; omega
    · obtain rfl : j = xs.length := by omega
      rw [List.take_length] at HW
      go_wp2_with fail
      refine (bStringB_any (b + 1) b _ wr HW.out (by
        intro h0
        obtain ⟨v, vs, rfl⟩ := List.exists_cons_of_ne_nil hne
        simp [encV] at h0)).mono ?_
      rintro e w5 ⟨rfl, h5⟩
      have H5 := Lib.hid (HB1.out.trans ((HT.out.1.trans h5).mono (Nat.le_of_lt hz)))
      clear h5
      go_wp2_with fail
      go_ret2
      exact ⟨by rw [hq.out]; rfl, H5.out⟩
end Go.Proofs.Pw
