/-
  DERIVED. GIVEN WITH THE SEED: THE CARDS: each row of YtefkodglfhonpaaDoorRows.lean that lists a variable, with what it lists TIED to the program's text (the seventh form; the later family's looks); each row that meets fmt, with fmt's text TOLD by the authors' own Lean function (tested against real Go, not proved from fmt's source: count such statements apart). THE CARD IS WHAT COUNTS. Prove the row's statement (the work); the ties are given (YtefkodglfhonpaaDoorTie.lean); close each card by the builder's one call (the guide's Derived/Test/ToyasCard.lean, 'card_holds'). Laid BY PROGRAM, IN A SANDBOX (cutbox-door.mjs). By AI agents, Wed Nov 11 2026. No macro, syntax, notation, axiom, sorry.
-/
import Derived.Test.YtefkodglfhonpaaDoorRows
import GoSem.ClaimSeven
namespace Go.Proofs.YtefkodglfhonpaaDoor
namespace Rows

/-- THE TIED CARD OF 'bondstorelaw05.StampReads'. -/
def stampReadsCard : Claim7 := { stood := { row := stampReadsRow, standIns := [], harness := (true, "b71888997db1aab17c6782ba2de65638a73a0d5a971ac4495b61d09b53c04c02"), looks := false }, kinds := [], alts := [], laidByText := true, laidKinds := [.data, .pinned], laidTests := true, laidLooks := .later }
def StampReadsCardSaid : Prop := Claim7.holds Tryd.pinned (.plain (OpenSpec.ofChange stampReadsSpec)) stampReadsCard

/-- THE TIED CARD OF 'bondstorelaw05.StampTorn'. -/
def stampTornCard : Claim7 := { stood := { row := stampTornRow, standIns := [], harness := (true, "b71888997db1aab17c6782ba2de65638a73a0d5a971ac4495b61d09b53c04c02"), looks := false }, kinds := [], alts := [], laidByText := true, laidKinds := [.data, .pinned], laidTests := true, laidLooks := .later }
def StampTornCardSaid : Prop := Claim7.holds Tryd.pinned (.plain (OpenSpec.ofChange stampTornSpec)) stampTornCard

/-- THE TIED CARD OF 'bondstorelaw05.StampBytes'. -/
def stampBytesCard : Claim7 := { stood := { row := stampBytesRow, standIns := [], harness := (true, "b71888997db1aab17c6782ba2de65638a73a0d5a971ac4495b61d09b53c04c02"), looks := false }, kinds := [], alts := [], laidByText := true, laidKinds := [.data, .pinned], laidTests := true, laidLooks := .later }
def StampBytesCardSaid : Prop := Claim7.holds Tryd.pinned (.plain (OpenSpec.ofChange stampBytesSpec)) stampBytesCard

/-- THE SECOND FORM's CARD OF 'bondstorelaw05.StampReads'. -/
def stampReadsUptoCard : Claim7 := { stood := { row := stampReadsUptoRow, standIns := [], harness := (true, "b71888997db1aab17c6782ba2de65638a73a0d5a971ac4495b61d09b53c04c02"), looks := false }, kinds := [], alts := [], laidByText := true, laidKinds := [.data, .pinned], laidTests := true, laidLooks := .later }
def StampReadsUptoCardSaid : Prop := Claim7.holds Tryd.pinned (.plain (OpenSpec.upto stampReadsSpec)) stampReadsUptoCard

/-- THE SECOND FORM's CARD OF 'bondstorelaw05.StampTorn'. -/
def stampTornUptoCard : Claim7 := { stood := { row := stampTornUptoRow, standIns := [], harness := (true, "b71888997db1aab17c6782ba2de65638a73a0d5a971ac4495b61d09b53c04c02"), looks := false }, kinds := [], alts := [], laidByText := true, laidKinds := [.data, .pinned], laidTests := true, laidLooks := .later }
def StampTornUptoCardSaid : Prop := Claim7.holds Tryd.pinned (.plain (OpenSpec.upto stampTornSpec)) stampTornUptoCard

/-- THE SECOND FORM's CARD OF 'bondstorelaw05.StampBytes'. -/
def stampBytesUptoCard : Claim7 := { stood := { row := stampBytesUptoRow, standIns := [], harness := (true, "b71888997db1aab17c6782ba2de65638a73a0d5a971ac4495b61d09b53c04c02"), looks := false }, kinds := [], alts := [], laidByText := true, laidKinds := [.data, .pinned], laidTests := true, laidLooks := .later }
def StampBytesUptoCardSaid : Prop := Claim7.holds Tryd.pinned (.plain (OpenSpec.upto stampBytesSpec)) stampBytesUptoCard
end Rows
end Go.Proofs.YtefkodglfhonpaaDoor
