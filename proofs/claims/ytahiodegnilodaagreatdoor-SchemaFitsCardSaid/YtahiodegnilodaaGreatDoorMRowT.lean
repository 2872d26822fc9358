/- The row of SchemaReads. -/
import Derived.Test.YtahiodegnilodaaGreatDoorRows
import Derived.Test.YtahiodegnilodaaGreatDoorMLawT
import Derived.ChangeSame
import Derived.ChangeVars
import Derived.ChangeMaps5
import Derived.JoinedOf
import Derived.JoinedAt
import Derived.RowKit
import Derived.RowKit3
import Derived.RowKitTokens
import Derived.LaidLaws
import Derived.Lib.LaidIn
import Derived.Lib.LaidU8
import Derived.Lib.DecodeN
import Derived.Test.YtahiodegnilodaaGreatDoorMSameA
import Derived.SizedLaws
import Derived.Carry
import Derived.HandedShaped
import Derived.Shelf.Vars
namespace Go.Proofs.YtahiodegnilodaaGreatDoor
open Go.Lib
open Go.ChangeShapes Go.WideShapes Go.ChangeAt Go.RowKit
open Go.ChangeMaps (open_string shut_string)

theorem ownKnobNone : ownKnob Tryz.prog.godebug = none := by kernel_rfl
/-- The settled world; the two tables hold what their initialisers lay. -/
noncomputable def laidWorld (os : Os) : World :=
  let w0 := World.holding Tryz.prog os ⟨#[], #[], []⟩
  let put (h : Array Obj) (g : Nat) (cs : Array Value) : Array Obj := h.modify g fun
    | .cells _ t frozen => .cells cs t frozen
    | o => o
  { w0 with heap := put (put w0.heap ((Tryz.prog.globalNamed "unicode/utf8.first").getD 0) (firstTab.map fun z => Value.int .u8 z).toArray) ((Tryz.prog.globalNamed "unicode/utf8.acceptRanges").getD 0) ((List.range 16).flatMap fun i => [Value.int .u8 (accLo i), Value.int .u8 (accHi i)]).toArray }
theorem piece0 (os : Os) (args : Array Value) : LaidIn Tryz.prog ((laidWorld os).forCall (fun _ _ => 0) ⟨#[], args, []⟩).memory Rows.schemaReadsRow.laid [(Tryz.prog.globalNamed "unicode/utf8.acceptRanges").getD 0, (Tryz.prog.globalNamed "unicode/utf8.first").getD 0] :=
  LaidIn.of_run [(Tryz.prog.globalNamed "unicode/utf8.acceptRanges").getD 0, (Tryz.prog.globalNamed "unicode/utf8.first").getD 0] 8 (by kernel_rfl) (by kernel_rfl) (by kernel_rfl) (by kernel_rfl)
theorem laidWorld_met (os : Os) (args : Array Value) : laidMet Tryz.prog Rows.schemaReadsRow.laid ((laidWorld os).forCall (fun _ _ => 0) ⟨#[], args, []⟩).memory := (piece0 os args).met
end Go.Proofs.YtahiodegnilodaaGreatDoor
/- What the rows of this seat have in common: the reach, the types, the world's shape. -/
namespace Go.Proofs.YtahiodegnilodaaGreatDoor
open Go.ChangeShapes Go.WideShapes Go.ChangeAt Go.RowKit

theorem Tryz.laidOutAll : laidOutB Tryz.prog = true := by kernel_rfl
theorem Tryz.readSch : Tryz.prog.readableRec 27 = true := by kernel_rfl
theorem Tryz.rowSch : 27 < Tryz.prog.types.size := of_decide_eq_true (by kernel_rfl)
/-- An argument's weights, one by one. -/
theorem reach_each {H : Type} {ts : List TypeId} {ds : List (DataW H)} (h : (DataW.weightsEach Tryz.prog ts ds).all (fun x => decide (x ≤ reachBytes)) = true) {j : Nat} {t : TypeId} {d : DataW H} (ht : ts[j]? = some t) (hd : ds[j]? = some d) :
    ∀ m ∈ d.weights Tryz.prog t, m ≤ reachBytes := fun m hm => of_decide_eq_true (List.all_eq_true.1 h m (DataW.weights_mem_each ht hd m hm))

/-- The plain wrap with a condition more, the world's shape kept. -/
theorem returnsIn_and_shaped {H : Type} {enc : TypeId × Value → H} {a : Assume} {C : Checked} {os : Os} {f : FuncId} {fn : Func} {s : ChangeSpec} {conds : List PathCond} {apart fresh handsOn again : Bool} {X : World → Array Value → Prop}
    (hX : ∀ (w w' : World) (args : Array Value), w.heap = w'.heap → X w args → X w' args)
    (own : ownKnob C.prog.godebug = none) (started : os.Started) (noInit : C.prog.inits.idxOf? f = none) (hfn : C.prog.funcs[f]? = some fn)
    (witness : ∃ (w : World) (tape : Tape) (i : Input), w.os = os ∧ (w.forCall tape i).Shaped C.prog ∧ i.vars = [] ∧ Input.okWide C.prog (w.forCall tape i) .any w.heap.size f i ∧
      ((s.pre enc C.prog fn conds apart (w.forCall tape i).memory i.args ∧ X (w.forCall tape i).memory i.args) ∧ sizedMet enc C.prog fn (OpenSpec.ofChange s) apart (w.forCall tape i).memory i.args) ∧ a.holds C.prog (lone (Frame.enter C.prog f i.args .normal) [] (w.forCall tape i)))
    (contract : ∀ (W : World) (base : Nat) (args : Array Value) (ds gs : List (DataW H)) (before : List MemPlace),
      (∀ (j : Nat) t v, fn.params[j]? = some t → args[j]? = some v → Value.okWide C.prog W .any base t v) →
      DataW.Whole enc C.prog fn.params.toList s.vars apart W args.toList ds gs before →
      conds.all (PathCond.test C.prog ⟨fn.params.toList, ds, s.plain.varTypes C.prog, gs⟩) = true →
      (DataW.weightsEach C.prog (fn.params.toList ++ s.plain.varTypes C.prog) (ds ++ gs)).all (· ≤ reachBytes) = true → X W args → W.ShapedOpen C.prog →
      a.holds C.prog (lone (Frame.enter C.prog f args .normal) [] W) →
      Calls C.prog f args W fun e W' => ∃ v, e = .returned v ∧ s.post enc C.prog fn apart fresh handsOn again W args v W') :
    ReturnsInHanded a C os f .any (fun w args => (s.pre enc C.prog fn conds apart w args ∧ X w args) ∧ sizedMet enc C.prog fn (OpenSpec.ofChange s) apart w args) (s.post enc C.prog fn apart fresh handsOn again) := by
  refine returnsInHanded_of_calls own started noInit witness ?_
  intro w tape i _ hsh _ hok hpre hholds
  obtain ⟨_, _, _, fn', hfn', _, _, _, _, hval⟩ := hok
  have e : fn' = fn := Option.some.inj (hfn'.symm.trans hfn)
  subst e
  obtain ⟨⟨⟨ds, gs, before, hw, hc⟩, hx⟩, hz⟩ := hpre
  have hw' := DataW.Whole.of_heap (w' := w.forCall tape i) (by rfl) hw
  refine (contract (w.forCall tape i) w.heap.size i.args ds gs before hval hw' hc (hz.weights hw) (hX _ _ _ (by rfl) hx) hsh hholds).mono fun e W' ⟨v, he, hp⟩ => ?_
  subst he
  exact ChangeSpec.post_blind hp
/-- The library's variable that strings.Index reads holds some number. -/
theorem maxLen_cell {W : World} (h : W.ShapedOpen Tryz.prog) : ∃ m, W.cell? ⟨0, 0, none⟩ = some (.int .i64 m) :=
  cell_of_shapedOpen_int (P := Tryz.prog) (g := 0) (t := 3) (zero := #[.int .i64 0]) h (of_decide_eq_true (by kernel_rfl)) (by kernel_rfl) rfl (by kernel_rfl) (by kernel_rfl) Tryz.underlying3
end Go.Proofs.YtahiodegnilodaaGreatDoor
/- The row of SchemaFits holds. -/
namespace Go.Proofs.Pw
open Go.RowKit Go.Deep Go.Joins
def QVal (v : PVal) : Prop := QStr v.s ∧ i64R v.n
theorem Tryz.cellsVal : Tryz.prog.cellsOf 65 = 3 := by kernel_rfl
theorem Tryz.bytesVal : Tryz.prog.bytesOf 65 = 32 := by kernel_rfl
theorem Tryz.cellsInt64 : Tryz.prog.cellsOf 2 = 1 := by kernel_rfl
theorem opVal : Opens Tryz.prog 65 (flat encVal) QVal :=
  opens_struct3 Tryz.underlying65 (opens_int Tryz.underlying3) (opens_int Tryz.underlying2) (opens_string Tryz.underlying9) fun w a b c cs hl r0 r1 r2 _ q1 q2 => by
    rw [Tryz.cellsVal] at hl
    obtain ⟨x, y, z, rfl⟩ := three hl
    simp only [RStr, RInt, Tryz.cellsStr, Tryz.cellsInt, Tryz.cellsInt64] at r0 r1 r2
    simp at r0 r1 r2
    subst r0 r1 r2
    exact ⟨⟨a, b, c⟩, rfl, q2, wf64 q1⟩
theorem opVals : Opens Tryz.prog 34 (RSl 3 (flat encVal)) (fun l => l.length * 32 ≤ 140737488351232 ∧ ∀ x ∈ l, QVal x) := fun H enc w n cs x hx hw => by
  obtain ⟨xs, h1, h2⟩ := opens_slice Tryz.underlying34 Tryz.cellsVal (by decide) (by rw [Tryz.bytesVal]; decide) opVal H enc w n cs x hx hw
  rw [Tryz.bytesVal] at h2
  exact ⟨xs, h1, h2⟩
set_option maxRecDepth 100000 in
theorem open_vals {H : Type} {enc : TypeId × Value → H} {w : World} {v : Value} {d : DataW H} {p : List MemPlace} (hv : Value.okWide Tryz.prog w .any 0 34 v) (h : DataW.Trod enc Tryz.prog w 0 (fun _ => true) true 34 v d p)
    (hw : ∀ m ∈ d.weights Tryz.prog 34, m ≤ reachBytes) : ∃ (xs : List PVal) (A : Option Addr) (c : Nat), v = .slice A xs.length c ∧ Vals w A xs ∧ ∀ x ∈ xs, QVal x := by
  obtain ⟨a, len, cap, rfl⟩ := WideShapes.okWide_slice Tryz.underlying34 hv
  obtain ⟨n, h⟩ := h
  obtain ⟨xs, ⟨A, c, r, R⟩, q⟩ := opVals H enc w n _ (d, p) h hw
  have r' : Value.slice a len cap = .slice A xs.length c := by simpa [Value.cells] using r
  exact ⟨xs, A, c, r', R, q.2⟩
end Go.Proofs.Pw
namespace Go.Proofs.YtahiodegnilodaaGreatDoor
open Go.ChangeShapes Go.WideShapes Go.ChangeAt Go.RowKit

theorem Tryz.readVals : Tryz.prog.readableRec 34 = true := by kernel_rfl
theorem Tryz.rowVals : 34 < Tryz.prog.types.size := of_decide_eq_true (by kernel_rfl)
theorem Tryz.readInt : Tryz.prog.readableRec 3 = true := by kernel_rfl
theorem Tryz.rowInt : 3 < Tryz.prog.types.size := of_decide_eq_true (by kernel_rfl)
set_option maxRecDepth 100000 in
theorem fits_lifted (os : Os) (started : os.Started) (H : Type) (enc : TypeId × Value → H) :
    ReturnsInHanded {} Tryz.checked os 4 .any (fun w args => (Rows.schemaFitsSpec.pre enc Tryz.prog Tryz.f4 Rows.schemaFitsRow.domain false w args ∧ laidMet Tryz.prog Rows.schemaFitsRow.laid w) ∧ sizedMet enc Tryz.prog Tryz.f4 (OpenSpec.ofChange Rows.schemaFitsSpec) false w args)
      (Rows.schemaFitsSpec.post enc Tryz.prog Tryz.f4 false true false false) := by
  refine returnsIn_and_shaped (C := Tryz.checked) (X := fun w _ => laidMet Tryz.prog Rows.schemaFitsRow.laid w) (fun _ _ _ hh h => h.of_heap hh) ownKnobNone started (by kernel_rfl) Tryz.func4
    (ChangeSpec.witness_at (enc := enc) (C := Tryz.checked) (os := os) (X := fun w _ => laidMet Tryz.prog Rows.schemaFitsRow.laid w) false (laidWorld os) #[.agg #[.slice none 0 0, .slice none 0 0, .slice none 0 0], .slice none 0 0, .int .i64 0] 8 rfl (by kernel_rfl) (by kernel_rfl) (by kernel_rfl) (by kernel_rfl) (by kernel_rfl) (laidWorld_met os _)) ?_
  intro W base args ds gs before hval0 hW hcnd0 hreach hL hsh _
  have hval : ∀ (j : Nat) t v, Tryz.f4.params[j]? = some t → args[j]? = some v → Value.okWide Tryz.prog W .any base t v := hval0
  have hW' := hW
  obtain ⟨p, q, hA0, hV, rfl, _, _⟩ := hW
  have hA : DataW.TrodAll enc Tryz.prog W 0 (fun _ => true) true Tryz.f4.params.toList args.toList ds p := hA0
  rw [Tryz.params4] at hA hval
  obtain ⟨v0, v1, v2, d0, d1, d2, p0, p1, p2, hargs, rfl, rfl, h0, h1, h2⟩ := trodAll_three hA
  obtain ⟨rfl, rfl⟩ := trodVars_none hV
  subst hargs
  have hr : (DataW.weightsEach Tryz.prog [27, 34, 3] [d0, d1, d2]).all (fun x => decide (x ≤ reachBytes)) = true := hreach
  clear hA0 hval0 hreach hA
  simp only [List.append_nil] at hW'
  have hl := hW'.lt
  obtain ⟨s, A1, A2, A3, c1, c2, c3, rfl, hs, hq⟩ := Pw.open_sch (Value.okWide_any_base (hval 0 27 v0 rfl rfl)) h0 (reach_each hr (j := 0) rfl rfl)
  obtain ⟨row, A, c, rfl, hv, hq'⟩ := Pw.open_vals (Value.okWide_any_base (hval 1 34 v1 rfl rfl)) h1 (reach_each hr (j := 1) rfl rfl)
  obtain ⟨i, rfl⟩ := okWide_int Tryz.underlying3 (hval 2 3 v2 rfl rfl)
  obtain ⟨m, hm⟩ := maxLen_cell hsh
  refine (Pw.lawFits_any A1 A2 A3 A c1 c2 c3 c s row i m W hs hv hq (fun v hv => (hq' v hv).2) hm).mono fun e W' ⟨he, hnx⟩ => ?_
  subst he
  refine ⟨_, rfl, _, _, _, [], p0 ++ (p1 ++ p2), [], hW', ?_, ?_, rfl, hnx.frame _, fun h => by cases h⟩
  · exact trodAll_mk1 (shut_bool Tryz.underlying4 true)
  · exact trodAll_mk3 (Below.trod Tryz.laidOutAll Tryz.readSch Tryz.rowSch h0 hnx (fun x hx => hl x (List.mem_append_left _ (List.mem_append_left _ hx)))) (Below.trod Tryz.laidOutAll Tryz.readVals Tryz.rowVals h1 hnx (fun x hx => hl x (List.mem_append_left _ (List.mem_append_right _ hx)))) (Below.trod Tryz.laidOutAll Tryz.readInt Tryz.rowInt h2 hnx (fun x hx => hl x (List.mem_append_right _ hx)))

theorem fits_said : Rows.SchemaFitsSaid :=
  OpenClaim.holds_of_wide 4 Tryz.f4 rfl rfl rfl rfl rfl rfl rfl ⟨rfl, rfl, rfl, rfl, rfl⟩ rfl rfl rfl rfl rfl (by kernel_rfl) Tryz.func4 (by kernel_rfl)
    (of_decide_eq_true (by kernel_rfl)) (by unfold Func.isWrapper; rw [if_neg (of_decide_eq_false (by kernel_rfl))]; exact ⟨rfl, rfl⟩)
    (fun os started H enc _ => fits_lifted os started H enc)
end Go.Proofs.YtahiodegnilodaaGreatDoor
