/- Which schema is right, and its bytes, are as the document says, and are read as that schema: the law SchemaWrites answers true at every two schemas. -/
import Derived.Test.YtahiodegnilodaaGreatDoorRowW
import Derived.Test.YtahiodegnilodaaGreatDoorTie
import Derived.Test.YtahiodegnilodaaGreatDoorCards
import Derived.SevenTiedAt
namespace Go.Proofs.YtahiodegnilodaaGreatDoor
open Go

theorem writes_card : Rows.SchemaWritesCardSaid :=
  Claim7.holds_tied_plain_at .later [] [.data, .pinned] true (true, "08def71e38faffab3c6e11fd520345b8c7030ffe5e6ebbbce5710ba68b8da0ee") false
    writes_said (fun _ h => by cases h) (by kernel_rfl) (fun _ h => by cases h) schemaWrites_row_tie rfl ⟨rfl, rfl⟩ (by kernel_rfl) rfl
    (fun f fn hf hfn => by
      obtain rfl : f = 5 := Option.some.inj ((show Tryz.prog.funcNamed "pleach/pleachlaw12.SchemaWrites" = some 5 by kernel_rfl).symm.trans hf) |>.symm
      obtain rfl : fn = Tryz.f5 := (Option.some.inj (Tryz.func5.symm.trans hfn)).symm
      exact ⟨by kernel_rfl, fun j t ht => by
        rw [Tryz.params5] at ht
        have h9 : t = 27 := by
          rcases j with _ | _ | j
          · simpa using ht.symm
          · simpa using ht.symm
          · simp at ht
        subst h9
        exact (show Tryz.prog.wantsStandIn 27 = false by kernel_rfl)⟩)
    (by kernel_rfl)
#print axioms writes_card
end Go.Proofs.YtahiodegnilodaaGreatDoor
