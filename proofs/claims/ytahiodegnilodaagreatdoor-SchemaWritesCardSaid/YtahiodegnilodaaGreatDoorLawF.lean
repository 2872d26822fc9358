/- SchemaReads: the law answers true at every text. -/
import Derived.Test.YtahiodegnilodaaGreatDoorPureG
import Derived.Test.YtahiodegnilodaaGreatDoorLawR
namespace Go.Proofs.Pw
open Go.RowKit

theorem lawReads_true (b : ByteArray) (w : World) (hs : b.size ≤ 140737488351232) : Calls Tryz.prog 3 #[.string b] w (Gives w (.bool true)) := by
  refine lawReads_any b w hs (read_eq b) (write_back b) (fun h => ?_)
  have hr : rightF (readF b).1 = true := by
    unfold readF at h ⊢
    dsimp only at h ⊢
    split at h
    · cases h
    split at h
    · cases h
    split at h
    · rename_i h1 h2 h3
      rw [if_neg h1, if_neg h2, if_pos h3]
      exact h3
    · cases h
  rw [← right_eq] at hr
  exact fits_of hr
#print axioms lawReads_true
end Go.Proofs.Pw
