/- The row of SchemaWrites holds. -/
import Derived.Test.YtahiodegnilodaaGreatDoorRowR
import Derived.Test.YtahiodegnilodaaGreatDoorLawW
import Derived.SizedLaws
import Derived.Carry
namespace Go.Proofs.YtahiodegnilodaaGreatDoor
open Go.ChangeShapes Go.WideShapes Go.ChangeAt Go.RowKit

theorem Tryz.laidOutAll : laidOutB Tryz.prog = true := by kernel_rfl
theorem Tryz.readSch : Tryz.prog.readableRec 27 = true := by kernel_rfl
theorem Tryz.rowSch : 27 < Tryz.prog.types.size := of_decide_eq_true (by kernel_rfl)
/-- An argument's weights, one by one. -/
theorem reach_each {H : Type} {ts : List TypeId} {ds : List (DataW H)} (h : (DataW.weightsEach Tryz.prog ts ds).all (fun x => decide (x ≤ reachBytes)) = true) {j : Nat} {t : TypeId} {d : DataW H} (ht : ts[j]? = some t) (hd : ds[j]? = some d) :
    ∀ m ∈ d.weights Tryz.prog t, m ≤ reachBytes := fun m hm => of_decide_eq_true (List.all_eq_true.1 h m (DataW.weights_mem_each ht hd m hm))

set_option maxRecDepth 100000 in
theorem writes_lifted (os : Os) (started : os.Started) (H : Type) (enc : TypeId × Value → H) :
    ReturnsInHanded {} Tryz.checked os 5 .any (fun w args => (Rows.schemaWritesSpec.pre enc Tryz.prog Tryz.f5 Rows.schemaWritesRow.domain false w args ∧ laidMet Tryz.prog Rows.schemaWritesRow.laid w) ∧ sizedMet enc Tryz.prog Tryz.f5 (OpenSpec.ofChange Rows.schemaWritesSpec) false w args)
      (Rows.schemaWritesSpec.post enc Tryz.prog Tryz.f5 false true false false) := by
  refine returnsInHanded_of_change_and (C := Tryz.checked) (X := fun w _ => laidMet Tryz.prog Rows.schemaWritesRow.laid w) (fun _ _ _ hh h => h.of_heap hh) ownKnobNone started (by kernel_rfl) Tryz.func5
    (ChangeSpec.witness_at (enc := enc) (C := Tryz.checked) (os := os) (X := fun w _ => laidMet Tryz.prog Rows.schemaWritesRow.laid w) false (laidWorld os) #[.agg #[.slice none 0 0, .slice none 0 0, .slice none 0 0], .agg #[.slice none 0 0, .slice none 0 0, .slice none 0 0]] 8 rfl (by kernel_rfl) (by kernel_rfl) (by kernel_rfl) (by kernel_rfl) (by kernel_rfl) (laidWorld_met os _)) ?_
  intro W base args ds gs before hval0 hW hcnd0 hreach hL _
  have hval : ∀ (j : Nat) t v, Tryz.f5.params[j]? = some t → args[j]? = some v → Value.okWide Tryz.prog W .any base t v := hval0
  have hW' := hW
  obtain ⟨p, q, hA0, hV, rfl, _, _⟩ := hW
  have hA : DataW.TrodAll enc Tryz.prog W 0 (fun _ => true) true Tryz.f5.params.toList args.toList ds p := hA0
  rw [Tryz.params5] at hA hval
  obtain ⟨v0, v1, d0, d1, p0, p1, hargs, rfl, rfl, h0, h1⟩ := trodAll_two hA
  obtain ⟨rfl, rfl⟩ := trodVars_none hV
  subst hargs
  have hr : (DataW.weightsEach Tryz.prog [27, 27] [d0, d1]).all (fun x => decide (x ≤ reachBytes)) = true := hreach
  clear hA0 hval0 hreach hA
  simp only [List.append_nil] at hW'
  have hl := hW'.lt
  obtain ⟨s, A1, A2, A3, c1, c2, c3, rfl, hs, hq⟩ := Pw.open_sch (Value.okWide_any_base (hval 0 27 v0 rfl rfl)) h0 (reach_each hr (j := 0) rfl rfl)
  obtain ⟨t, B1, B2, B3, e1, e2, e3, rfl, ht, hq'⟩ := Pw.open_sch (Value.okWide_any_base (hval 1 27 v1 rfl rfl)) h1 (reach_each hr (j := 1) rfl rfl)
  refine (Pw.lawWrites_any A1 A2 A3 B1 B2 B3 c1 c2 c3 e1 e2 e3 s t W hs ht hq hq').mono fun e W' ⟨he, hnx⟩ => ?_
  subst he
  refine ⟨_, rfl, _, _, _, [], p0 ++ p1, [], hW', ?_, ?_, rfl, hnx.frame _, fun h => by cases h⟩
  · exact trodAll_mk1 (shut_bool Tryz.underlying4 true)
  · exact trodAll_mk2 (Below.trod Tryz.laidOutAll Tryz.readSch Tryz.rowSch h0 hnx (fun x hx => hl x (List.mem_append_left _ hx))) (Below.trod Tryz.laidOutAll Tryz.readSch Tryz.rowSch h1 hnx (fun x hx => hl x (List.mem_append_right _ hx)))

theorem writes_said : Rows.SchemaWritesSaid :=
  OpenClaim.holds_of_wide 5 Tryz.f5 rfl rfl rfl rfl rfl rfl rfl ⟨rfl, rfl, rfl, rfl, rfl⟩ rfl rfl rfl rfl rfl (by kernel_rfl) Tryz.func5 (by kernel_rfl)
    (of_decide_eq_true (by kernel_rfl)) (by unfold Func.isWrapper; rw [if_neg (of_decide_eq_false (by kernel_rfl))]; exact ⟨rfl, rfl⟩)
    (fun os started H enc _ => writes_lifted os started H enc)
end Go.Proofs.YtahiodegnilodaaGreatDoor
