/-
  No cell of these rows narrows 'for every input' (looked for: loops, veiled, ifaces, maps, wideKeys, modest, calm, conditions, laid).
  DERIVED. THE GIVEN ROWS OF THIS SEAT. 5 by the template 'for every input the law returns true; each argument reads behind the call as it read before'; 0 by the template 'total and deterministic' (their statements: YtefkodglfhonpaaTotals.lean).
  GIVEN WITH THE SEED: the statements are not yours to turn. If you find one false, say at which input.
  Laid BY PROGRAM, IN A SANDBOX (cutbox-rows.mjs): the forced cells as the released guide's own fill.sh prints them over the translation 977ec7b582aee6f0… (all of the seat's roots in one cut). By AI agents, Wed Nov 11 2026. No macro, syntax, notation, axiom, sorry.
-/
import Derived.Test.YtefkodglfhonpaaChecked
import GoSem.Claim
import GoSem.ClaimJoined
import GoSem.ClaimMapViews
import Derived.JoinedTies
import Derived.KernelRfl
namespace Go.Proofs.Ytefkodglfhonpaa
/- THE CELL 'sum', in the pinned program and in every row, IS THE sha256 OF THE DUMP (.gsa) THAT YtefkodglfhonpaaProg.lean LOADS. Nothing in Lean hashes anything: it is a label: what it is worth is what the hold of that sum in a sandbox is worth. -/
noncomputable def Try.pinned : Pinned := { name := "ytefkodglfhonpaa", sum := "977ec7b582aee6f0d7ed996394dd07636eade7a0e07939310274daa07fd3b247", checked := Try.checked }
namespace Rows
def none {H : Type} : Left H := { results := [], args := [] }

/-- 'bondstorelaw02.CastagGoes': WHATEVER THE INPUT: true; the input reads as it did. -/
def castagGoesSpec : ChangeSpec := { name := "castagGoes", fn := fun _ => fun
  | [d1, d2] => { results := [.lit (.bool true)], args := [d1, d2] }
  | _ => none }
def castagGoesRow : OpenClaim := { program := "ytefkodglfhonpaa", sum := "977ec7b582aee6f0d7ed996394dd07636eade7a0e07939310274daa07fd3b247", func := "bondstore/bondstorelaw02.CastagGoes", spec := "castagGoes", apart := false }
def CastagGoesSaid : Prop := castagGoesRow.holds Try.pinned (OpenSpec.ofChange castagGoesSpec)

/-- ITS FALSE NEIGHBOUR: 'it returns false'. Refute it at one input. -/
def castagGoesWrong : ChangeSpec := { name := "castagGoes", fn := fun _ => fun
  | [d1, d2] => { results := [.lit (.bool false)], args := [d1, d2] }
  | _ => none }
def CastagGoesWrongFalsely : Prop := castagGoesRow.holds Try.pinned (OpenSpec.ofChange castagGoesWrong)

/-- 'bondstorelaw02.CastagApart': WHATEVER THE INPUT: true; the input reads as it did. -/
def castagApartSpec : ChangeSpec := { name := "castagApart", fn := fun _ => fun
  | [d1, d2, d3, d4, d5] => { results := [.lit (.bool true)], args := [d1, d2, d3, d4, d5] }
  | _ => none }
def castagApartRow : OpenClaim := { program := "ytefkodglfhonpaa", sum := "977ec7b582aee6f0d7ed996394dd07636eade7a0e07939310274daa07fd3b247", func := "bondstore/bondstorelaw02.CastagApart", spec := "castagApart", apart := false }
def CastagApartSaid : Prop := castagApartRow.holds Try.pinned (OpenSpec.ofChange castagApartSpec)

/-- ITS FALSE NEIGHBOUR: 'it returns false'. Refute it at one input. -/
def castagApartWrong : ChangeSpec := { name := "castagApart", fn := fun _ => fun
  | [d1, d2, d3, d4, d5] => { results := [.lit (.bool false)], args := [d1, d2, d3, d4, d5] }
  | _ => none }
def CastagApartWrongFalsely : Prop := castagApartRow.holds Try.pinned (OpenSpec.ofChange castagApartWrong)

/-- 'bondstorelaw02.CastagHolds': WHATEVER THE INPUT: true; the input reads as it did. -/
def castagHoldsSpec : ChangeSpec := { name := "castagHolds", fn := fun _ => fun
  | [d] => { results := [.lit (.bool true)], args := [d] }
  | _ => none }
def castagHoldsRow : OpenClaim := { program := "ytefkodglfhonpaa", sum := "977ec7b582aee6f0d7ed996394dd07636eade7a0e07939310274daa07fd3b247", func := "bondstore/bondstorelaw02.CastagHolds", spec := "castagHolds", apart := false }
def CastagHoldsSaid : Prop := castagHoldsRow.holds Try.pinned (OpenSpec.ofChange castagHoldsSpec)

/-- ITS FALSE NEIGHBOUR: 'it returns false'. Refute it at one input. -/
def castagHoldsWrong : ChangeSpec := { name := "castagHolds", fn := fun _ => fun
  | [d] => { results := [.lit (.bool false)], args := [d] }
  | _ => none }
def CastagHoldsWrongFalsely : Prop := castagHoldsRow.holds Try.pinned (OpenSpec.ofChange castagHoldsWrong)

/-- 'bondstorelaw02.CastagTurned': WHATEVER THE INPUT: true; the input reads as it did. -/
def castagTurnedSpec : ChangeSpec := { name := "castagTurned", fn := fun _ => fun
  | [d1, d2, d3] => { results := [.lit (.bool true)], args := [d1, d2, d3] }
  | _ => none }
def castagTurnedRow : OpenClaim := { program := "ytefkodglfhonpaa", sum := "977ec7b582aee6f0d7ed996394dd07636eade7a0e07939310274daa07fd3b247", func := "bondstore/bondstorelaw02.CastagTurned", spec := "castagTurned", apart := false }
def CastagTurnedSaid : Prop := castagTurnedRow.holds Try.pinned (OpenSpec.ofChange castagTurnedSpec)

/-- ITS FALSE NEIGHBOUR: 'it returns false'. Refute it at one input. -/
def castagTurnedWrong : ChangeSpec := { name := "castagTurned", fn := fun _ => fun
  | [d1, d2, d3] => { results := [.lit (.bool false)], args := [d1, d2, d3] }
  | _ => none }
def CastagTurnedWrongFalsely : Prop := castagTurnedRow.holds Try.pinned (OpenSpec.ofChange castagTurnedWrong)

/-- 'bondstorelaw02.CastagIs': WHATEVER THE INPUT: true; the input reads as it did. -/
def castagIsSpec : ChangeSpec := { name := "castagIs", fn := fun _ => fun
  | [d1, d2] => { results := [.lit (.bool true)], args := [d1, d2] }
  | _ => none }
def castagIsRow : OpenClaim := { program := "ytefkodglfhonpaa", sum := "977ec7b582aee6f0d7ed996394dd07636eade7a0e07939310274daa07fd3b247", func := "bondstore/bondstorelaw02.CastagIs", spec := "castagIs", apart := false }
def CastagIsSaid : Prop := castagIsRow.holds Try.pinned (OpenSpec.ofChange castagIsSpec)

/-- ITS FALSE NEIGHBOUR: 'it returns false'. Refute it at one input. -/
def castagIsWrong : ChangeSpec := { name := "castagIs", fn := fun _ => fun
  | [d1, d2] => { results := [.lit (.bool false)], args := [d1, d2] }
  | _ => none }
def CastagIsWrongFalsely : Prop := castagIsRow.holds Try.pinned (OpenSpec.ofChange castagIsWrong)

/- THE SECOND FORM. 'bulk': how many values and letters a reading holds, each counted each time it is reached (what is shared counts as often as it is met; a slice's spare places count too). A statement '..UptoSaid' is the law's where the arguments, and the package variables that the reading takes, are together of bulk at most 1048576: NARROWER than '..Said'. Prove '..Said' where nothing that the law and all that it calls make is longer than what came in: it says more and counts as full. Else prove '..UptoSaid'. A law counts once. -/
mutual
def uptoBulk {H : Type} : DataW H → Nat
  | .lit (.string bytes) => bytes.length + 1
  | .lit _ => 1
  | .nil => 1
  | .ptr d => uptoBulk d + 1
  | .slice elems spare => uptoBulkAll elems + uptoBulkAll spare + 1
  | .agg parts => uptoBulkAll parts + 1
  | .iface _ d => uptoBulk d + 1
  | .map entries => uptoBulkEntries entries + 1
  | .held _ => 1
def uptoBulkAll {H : Type} : List (DataW H) → Nat
  | [] => 0
  | d :: r => uptoBulk d + uptoBulkAll r
def uptoBulkEntries {H : Type} : List (Lit × DataW H) → Nat
  | [] => 0
  | x :: r => uptoBulkEntry x + uptoBulkEntries r
def uptoBulkEntry {H : Type} : Lit × DataW H → Nat
  | (.string bytes, d) => bytes.length + uptoBulk d + 1
  | (_, d) => uptoBulk d + 1
 end
def uptoSmall : (H : Type) → List (DataW H) → Bool := fun _ ds => decide (uptoBulkAll ds ≤ 1048576)
def OpenSpec.upto (s : _root_.Go.ChangeSpec) : _root_.Go.OpenSpec := { _root_.Go.OpenSpec.ofChange s with cond := some uptoSmall }

/-- 'bondstorelaw02.CastagGoes', WHERE WHAT IT READS IS OF BULK AT MOST 1048576: true; the input reads as it did. -/
def castagGoesUptoRow : OpenClaim := { program := "ytefkodglfhonpaa", sum := "977ec7b582aee6f0d7ed996394dd07636eade7a0e07939310274daa07fd3b247", func := "bondstore/bondstorelaw02.CastagGoes", spec := "castagGoes", apart := false, narrowed := true }
def CastagGoesUptoSaid : Prop := castagGoesUptoRow.holds Try.pinned (OpenSpec.upto castagGoesSpec)

/-- 'bondstorelaw02.CastagApart', WHERE WHAT IT READS IS OF BULK AT MOST 1048576: true; the input reads as it did. -/
def castagApartUptoRow : OpenClaim := { program := "ytefkodglfhonpaa", sum := "977ec7b582aee6f0d7ed996394dd07636eade7a0e07939310274daa07fd3b247", func := "bondstore/bondstorelaw02.CastagApart", spec := "castagApart", apart := false, narrowed := true }
def CastagApartUptoSaid : Prop := castagApartUptoRow.holds Try.pinned (OpenSpec.upto castagApartSpec)

/-- 'bondstorelaw02.CastagHolds', WHERE WHAT IT READS IS OF BULK AT MOST 1048576: true; the input reads as it did. -/
def castagHoldsUptoRow : OpenClaim := { program := "ytefkodglfhonpaa", sum := "977ec7b582aee6f0d7ed996394dd07636eade7a0e07939310274daa07fd3b247", func := "bondstore/bondstorelaw02.CastagHolds", spec := "castagHolds", apart := false, narrowed := true }
def CastagHoldsUptoSaid : Prop := castagHoldsUptoRow.holds Try.pinned (OpenSpec.upto castagHoldsSpec)

/-- 'bondstorelaw02.CastagTurned', WHERE WHAT IT READS IS OF BULK AT MOST 1048576: true; the input reads as it did. -/
def castagTurnedUptoRow : OpenClaim := { program := "ytefkodglfhonpaa", sum := "977ec7b582aee6f0d7ed996394dd07636eade7a0e07939310274daa07fd3b247", func := "bondstore/bondstorelaw02.CastagTurned", spec := "castagTurned", apart := false, narrowed := true }
def CastagTurnedUptoSaid : Prop := castagTurnedUptoRow.holds Try.pinned (OpenSpec.upto castagTurnedSpec)

/-- 'bondstorelaw02.CastagIs', WHERE WHAT IT READS IS OF BULK AT MOST 1048576: true; the input reads as it did. -/
def castagIsUptoRow : OpenClaim := { program := "ytefkodglfhonpaa", sum := "977ec7b582aee6f0d7ed996394dd07636eade7a0e07939310274daa07fd3b247", func := "bondstore/bondstorelaw02.CastagIs", spec := "castagIs", apart := false, narrowed := true }
def CastagIsUptoSaid : Prop := castagIsUptoRow.holds Try.pinned (OpenSpec.upto castagIsSpec)

end Rows
end Go.Proofs.Ytefkodglfhonpaa
