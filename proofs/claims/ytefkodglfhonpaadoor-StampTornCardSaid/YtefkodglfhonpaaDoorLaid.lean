/- The start at which the listed package-level variables lie as they are laid: for the rows' witness. Conditions: none. -/
import Derived.Test.YtefkodglfhonpaaDoorRows
import Derived.Test.YtefkodglfhonpaaDoorKit
import Derived.ProofKit
import Derived.LaidLaws
import Derived.Lib.LaidTab
import Derived.Lib.SmallJoins
namespace Go.Proofs.YtefkodglfhonpaaDoor
open Go.ChangeShapes Go.WideShapes Go.ChangeAt Go.RowKit Go.Joins
/-- a block's cells laid anew -/
def lay (h : Array Obj) (g : Nat) (cs : Array Value) : Array Obj := h.modify g fun
      | .cells _ t frozen => .cells cs t frozen
      | o => o
def firstCells : Array Value := (Go.Pinned.utf8FirstZ.map fun n : Nat => Value.int .u8 (n : Int)).toArray
def rangeCells : Array Value := #[.int .u8 128, .int .u8 191, .int .u8 160, .int .u8 191, .int .u8 128, .int .u8 159, .int .u8 144, .int .u8 191, .int .u8 128, .int .u8 143, .int .u8 0, .int .u8 0, .int .u8 0, .int .u8 0, .int .u8 0, .int .u8 0, .int .u8 0, .int .u8 0, .int .u8 0, .int .u8 0, .int .u8 0, .int .u8 0, .int .u8 0, .int .u8 0, .int .u8 0, .int .u8 0, .int .u8 0, .int .u8 0, .int .u8 0, .int .u8 0, .int .u8 0, .int .u8 0]
noncomputable def world0 (os : Os) : World := World.holding Tryd.prog os ⟨#[], #[], []⟩
noncomputable def laidWorld2 (os : Os) : World := { world0 os with heap := lay (lay (world0 os).heap 0 firstCells) 1 rangeCells }
end Go.Proofs.YtefkodglfhonpaaDoor
