/- The row of SchemaReads. -/
import Derived.Test.YtahiodegnilodaaGreatDoorRows
import Derived.Test.YtahiodegnilodaaGreatDoorLawF
import Derived.ChangeSame
import Derived.ChangeVars
import Derived.ChangeMaps5
import Derived.JoinedOf
import Derived.JoinedAt
import Derived.RowKit
import Derived.RowKit3
import Derived.RowKitTokens
import Derived.LaidLaws
import Derived.Lib.LaidIn
import Derived.Lib.LaidU8
import Derived.Lib.DecodeN
namespace Go.Proofs.YtahiodegnilodaaGreatDoor
open Go.Lib
open Go.ChangeShapes Go.WideShapes Go.ChangeAt Go.RowKit
open Go.ChangeMaps (open_string shut_string)

theorem ownKnobNone : ownKnob Tryz.prog.godebug = none := by kernel_rfl
/-- The settled world; the two tables hold what their initialisers lay. -/
noncomputable def laidWorld (os : Os) : World :=
  let w0 := World.holding Tryz.prog os ⟨#[], #[], []⟩
  let put (h : Array Obj) (g : Nat) (cs : Array Value) : Array Obj := h.modify g fun
    | .cells _ t frozen => .cells cs t frozen
    | o => o
  { w0 with heap := put (put w0.heap ((Tryz.prog.globalNamed "unicode/utf8.first").getD 0) (firstTab.map fun z => Value.int .u8 z).toArray) ((Tryz.prog.globalNamed "unicode/utf8.acceptRanges").getD 0) ((List.range 16).flatMap fun i => [Value.int .u8 (accLo i), Value.int .u8 (accHi i)]).toArray }
theorem piece0 (os : Os) (args : Array Value) : LaidIn Tryz.prog ((laidWorld os).forCall (fun _ _ => 0) ⟨#[], args, []⟩).memory Rows.schemaReadsRow.laid [(Tryz.prog.globalNamed "unicode/utf8.acceptRanges").getD 0, (Tryz.prog.globalNamed "unicode/utf8.first").getD 0] :=
  LaidIn.of_run [(Tryz.prog.globalNamed "unicode/utf8.acceptRanges").getD 0, (Tryz.prog.globalNamed "unicode/utf8.first").getD 0] 8 (by kernel_rfl) (by kernel_rfl) (by kernel_rfl) (by kernel_rfl)
theorem laidWorld_met (os : Os) (args : Array Value) : laidMet Tryz.prog Rows.schemaReadsRow.laid ((laidWorld os).forCall (fun _ _ => 0) ⟨#[], args, []⟩).memory := (piece0 os args).met
end Go.Proofs.YtahiodegnilodaaGreatDoor
