/- The row of SchemaReads holds. -/
import Derived.Test.YtahiodegnilodaaGreatDoorRowR
import Derived.SizedLaws
namespace Go.Proofs.YtahiodegnilodaaGreatDoor
open Go.ChangeShapes Go.WideShapes Go.ChangeAt Go.RowKit
open Go.ChangeMaps (open_string shut_string)

theorem reach_str {H : Type} {s : ByteArray} (hsz : (DataW.weightsEach Tryz.prog [9] [(DataW.lit (Lit.string s.data.toList) : DataW H)]).all (fun x => decide (x ≤ reachBytes)) = true) : s.size ≤ 140737488351232 := by
  have h2 : s.data.toList.length ≤ reachBytes := of_decide_eq_true (List.all_eq_true.1 hsz s.data.toList.length (by simp [DataW.weights, DataW.weightsEach]))
  have hsl : s.data.toList.length = s.size := by rw [Array.length_toList]; rfl
  rw [hsl] at h2
  simpa [reachBytes] using h2
set_option maxRecDepth 100000 in
theorem reads_lifted (os : Os) (started : os.Started) (H : Type) (enc : TypeId × Value → H) :
    ReturnsInHanded {} Tryz.checked os 3 .any (fun w args => (Rows.schemaReadsSpec.pre enc Tryz.prog Tryz.f3 Rows.schemaReadsRow.domain false w args ∧ laidMet Tryz.prog Rows.schemaReadsRow.laid w) ∧ sizedMet enc Tryz.prog Tryz.f3 (OpenSpec.ofChange Rows.schemaReadsSpec) false w args)
      (Rows.schemaReadsSpec.post enc Tryz.prog Tryz.f3 false true false false) := by
  refine returnsInHanded_of_change_and (C := Tryz.checked) (X := fun w _ => laidMet Tryz.prog Rows.schemaReadsRow.laid w) (fun _ _ _ hh h => h.of_heap hh) ownKnobNone started (by kernel_rfl) Tryz.func3
    (ChangeSpec.witness_at (enc := enc) (C := Tryz.checked) (os := os) (X := fun w _ => laidMet Tryz.prog Rows.schemaReadsRow.laid w) false (laidWorld os) #[.string ⟨#[]⟩] 8 rfl (by kernel_rfl) (by kernel_rfl) (by kernel_rfl) (by kernel_rfl) (by kernel_rfl) (laidWorld_met os _)) ?_
  intro W base args ds gs before hval0 hW hcnd0 hreach hL _
  have hval : ∀ (j : Nat) t v, Tryz.f3.params[j]? = some t → args[j]? = some v → Value.okWide Tryz.prog W .any base t v := hval0
  have hW' := hW
  obtain ⟨p, q, hA0, hV, rfl, _, _⟩ := hW
  have hA : DataW.TrodAll enc Tryz.prog W 0 (fun _ => true) true Tryz.f3.params.toList args.toList ds p := hA0
  rw [Tryz.params3] at hA hval
  obtain ⟨v0, d0, rfl, rfl, h0⟩ := trodAll_one hA
  obtain ⟨rfl, rfl⟩ := trodVars_none hV
  obtain ⟨s, rfl, rfl, rfl, hs⟩ := open_string Tryz.underlying9 (hval 0 9 v0 rfl rfl) h0
  clear hA0 hval0
  simp only [List.append_nil] at hW'
  have hsz : s.size ≤ 140737488351232 := by
    exact reach_str hreach
  refine (Pw.lawReads_true s W hsz).mono fun e W' ⟨he, hnx⟩ => ?_
  subst he
  refine ⟨_, rfl, _, _, _, [], [], [], hW', ?_, ?_, rfl, hnx.frame _, fun h => by cases h⟩
  · exact trodAll_mk1 (shut_bool Tryz.underlying4 true)
  · exact trodAll_mk1 (shut_string Tryz.underlying9 hs)

theorem reads_said : Rows.SchemaReadsSaid :=
  OpenClaim.holds_of_wide 3 Tryz.f3 rfl rfl rfl rfl rfl rfl rfl ⟨rfl, rfl, rfl, rfl, rfl⟩ rfl rfl rfl rfl rfl (by kernel_rfl) Tryz.func3 (by kernel_rfl)
    (of_decide_eq_true (by kernel_rfl)) (by unfold Func.isWrapper; rw [if_neg (of_decide_eq_false (by kernel_rfl))]; exact ⟨rfl, rfl⟩)
    (fun os started H enc _ => reads_lifted os started H enc)
end Go.Proofs.YtahiodegnilodaaGreatDoor
