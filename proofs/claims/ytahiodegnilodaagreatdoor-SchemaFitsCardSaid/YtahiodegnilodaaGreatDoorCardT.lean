/- Which row fits a schema, or why it does not, its key, and its keys in indexes are as the document says: the law SchemaFits answers true at every schema, row and number. -/
import Derived.Test.YtahiodegnilodaaGreatDoorMRowT
import Derived.Test.YtahiodegnilodaaGreatDoorTie
import Derived.Test.YtahiodegnilodaaGreatDoorCards
import Derived.SevenTiedAt
namespace Go.Proofs.YtahiodegnilodaaGreatDoor
open Go

theorem fits_card : Rows.SchemaFitsCardSaid :=
  Claim7.holds_tied_plain_at .later [] [.data, .pinned] true (true, "08def71e38faffab3c6e11fd520345b8c7030ffe5e6ebbbce5710ba68b8da0ee") false
    fits_said (fun _ h => by cases h) (by kernel_rfl) (fun _ h => by cases h) schemaFits_row_tie rfl ⟨rfl, rfl⟩ (by kernel_rfl) rfl
    (fun f fn hf hfn => by
      obtain rfl : f = 4 := Option.some.inj ((show Tryz.prog.funcNamed "pleach/pleachlaw12.SchemaFits" = some 4 by kernel_rfl).symm.trans hf) |>.symm
      obtain rfl : fn = Tryz.f4 := (Option.some.inj (Tryz.func4.symm.trans hfn)).symm
      exact ⟨by kernel_rfl, fun j t ht => by
        rw [Tryz.params4] at ht
        have h9 : t = 27 ∨ t = 34 ∨ t = 3 := by
          rcases j with _ | _ | _ | j
          · exact .inl (by simpa using ht.symm)
          · exact .inr (.inl (by simpa using ht.symm))
          · exact .inr (.inr (by simpa using ht.symm))
          · simp at ht
        rcases h9 with rfl | rfl | rfl
        · exact (show Tryz.prog.wantsStandIn 27 = false by kernel_rfl)
        · exact (show Tryz.prog.wantsStandIn 34 = false by kernel_rfl)
        · exact (show Tryz.prog.wantsStandIn 3 = false by kernel_rfl)⟩)
    (by kernel_rfl)
#print axioms fits_card
end Go.Proofs.YtahiodegnilodaaGreatDoor
