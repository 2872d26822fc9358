/- Bytes are read as a schema, or as none, as the document says, and what is read is written as just these bytes: the law SchemaReads answers true at every text. -/
import Derived.Test.YtahiodegnilodaaGreatDoorRowS
import Derived.Test.YtahiodegnilodaaGreatDoorTie
import Derived.Test.YtahiodegnilodaaGreatDoorCards
import Derived.SevenTiedAt
namespace Go.Proofs.YtahiodegnilodaaGreatDoor
open Go

theorem reads_card : Rows.SchemaReadsCardSaid :=
  Claim7.holds_tied_plain_at .later [] [.data, .pinned] true (true, "08def71e38faffab3c6e11fd520345b8c7030ffe5e6ebbbce5710ba68b8da0ee") false
    reads_said (fun _ h => by cases h) (by kernel_rfl) (fun _ h => by cases h) schemaReads_row_tie rfl ⟨rfl, rfl⟩ (by kernel_rfl) rfl
    (fun f fn hf hfn => by
      obtain rfl : f = 3 := Option.some.inj ((show Tryz.prog.funcNamed "pleach/pleachlaw12.SchemaReads" = some 3 by kernel_rfl).symm.trans hf) |>.symm
      obtain rfl : fn = Tryz.f3 := (Option.some.inj (Tryz.func3.symm.trans hfn)).symm
      exact ⟨by kernel_rfl, fun j t ht => by
        rw [Tryz.params3] at ht
        have h9 : t = 9 := by
          rcases j with _ | j
          · simpa using ht.symm
          · simp at ht
        subst h9
        exact (show Tryz.prog.wantsStandIn 9 = false by kernel_rfl)⟩)
    (by kernel_rfl)
#print axioms reads_card
end Go.Proofs.YtahiodegnilodaaGreatDoor
