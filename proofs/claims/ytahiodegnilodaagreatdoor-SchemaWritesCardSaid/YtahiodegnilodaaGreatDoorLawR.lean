/- The law SchemaReads, walked. -/
import Derived.Test.YtahiodegnilodaaGreatDoorAwkC
import Derived.Test.YtahiodegnilodaaGreatDoorAlk
import Derived.Test.YtahiodegnilodaaGreatDoorRefE
namespace Go.Proofs.Pw
open Go.RowKit

set_option maxRecDepth 100000 in
set_option maxHeartbeats 1000000 in
theorem lawReads_any (b : ByteArray) (w : World) (hs : b.size ≤ 140737488351232) (h1 : readP b = readF b) (h2 : (readF b).2 = true → writeP (readF b).1 = (b, true)) (h3 : (readF b).2 = true → WFits (readF b).1) :
    Calls Tryz.prog 3 #[.string b] w (Gives w (.bool true)) := by
  have H1 := Lib.hid h1
  have H2 := Lib.hid h2
  have H3 := Lib.hid h3
  clear h1 h2 h3
  go_enter Tryz.func3, Tryz.ntmps3
  go_wp2_with fail
  refine (awake_any w).mono ?_
  rintro e w1 ⟨rfl, hb1⟩
  have HB1 := Lib.hid hb1
  clear hb1
  by_cases hl : 3000 < b.size
  · have hl' : (3000 : Int) < (b.size : Int) := by omega
    go_wp2_with fail
    go_ret
    exact ⟨rfl, HB1.out⟩
  have hl' : ¬ (3000 : Int) < (b.size : Int) := by omega
  have hd : decide ((3000 : Int) < (b.size : Int)) = false := by simpa using hl'
  go_wp2_with fail
  refine (PRead_any b w1 hs).mono ?_
  rw [H1.out]
  rintro e w2 ⟨A1, A2, A3, c1, c2, c3, rfl, hr2, hb2⟩
  have HB2 := Lib.hid (below_next HB1.out hb2)
  have HR2 := Lib.hid hr2
  clear hb2 hr2
  go_wp2_with fail
  refine (RRead_any b _ hs).mono ?_
  rintro e w3 ⟨B1, B2, B3, d1, d2, d3, rfl, hr3, hb3⟩
  have hbr := below_step (Below.refl w2.heap.size w2) _ hb3
  have HB3 := Lib.hid (below_next HB2.out hbr)
  have HR3 := Lib.hid hr3
  have HQ3 := Lib.hid (HR2.out.below hbr)
  have hX := (Box.new w2 [.slice A1 (readF b).1.cols.length c1, .slice A2 (readF b).1.key.length c2, .slice A3 (readF b).1.idx.length c3] 27).below hb3
  have hz := hX.lt
  have HX := Lib.hid hX
  have x0 := hX.cell 0 rfl
  have x1 := hX.cell 1 rfl
  have x2 := hX.cell 2 rfl
  clear hb3 hr3 hbr HB1 HB2 HR2 hX
  generalize readF b = R at *
  obtain ⟨s, ok⟩ := R
  dsimp only at *
  go_wp2_with fail
  refine (Alike_same A1 A2 A3 B1 B2 B3 c1 c2 c3 d1 d2 d3 s _ (HQ3.out.below (below_new _ _)) (HR3.out.below (below_new _ _))).mono ?_
  rintro e w4 ⟨rfl, hb4⟩
  have hbr := below_step (Below.refl w3.heap.size w3) _ hb4
  have HB4 := Lib.hid (below_next HB3.out hbr)
  have HQ4 := Lib.hid (HQ3.out.below hbr)
  have hX := HX.out.below hbr
  have HX4 := Lib.hid hX
  clear hb4 hbr HB3 HQ3 HR3 HX x0 x1 x2 hX
  go_wp2_with fail
  refine (PNamed_any b w4 hs).mono ?_
  rintro e w5 ⟨rfl, hb5⟩
  have HB5 := Lib.hid (below_next HB4.out hb5)
  have HQ5 := Lib.hid (HQ4.out.below hb5)
  have HX5 := Lib.hid (HX4.out.below hb5)
  clear hb5 HB4 HQ4 HX4
  go_wp2_with fail
  refine (Named_any b w5 hs).mono ?_
  rintro e w6 ⟨rfl, hb6⟩
  have HB6 := Lib.hid (below_next HB5.out hb6)
  have HQ6 := Lib.hid (HQ5.out.below hb6)
  have hX6 := HX5.out.below hb6
  have x0 := hX6.cell 0 rfl
  have x1 := hX6.cell 1 rfl
  have x2 := hX6.cell 2 rfl
  clear hb6 HB5 HQ5 HX5 hX6
  cases ok
  · go_wp2_with fail
    go_ret
    exact ⟨rfl, HB6.out⟩
  have hfit := H3.out rfl
  have hw := H2.out rfl
  clear H1 H2 H3
  go_wp2_with fail
  refine (PWrite_any A1 A2 A3 c1 c2 c3 s w6 HQ6.out (fun c hc => Nat.le_trans (hfit.cs c hc).1 (by decide)) (fun x hx => Nat.le_trans (hfit.xs x hx).1 (by decide)) (by have := hfit.nk; omega) (fun x hx => by have := (hfit.xs x hx).2.1; omega) (fun _ => hfit)).mono ?_
  rw [hw]
  rintro e w7 ⟨rfl, hb7⟩
  have HB7 := Lib.hid (below_next HB6.out hb7)
  clear hb7 HB6 HQ6
  dsimp only
  go_wp2_with fail
  go_ret
  exact ⟨rfl, HB7.out⟩
end Go.Proofs.Pw
