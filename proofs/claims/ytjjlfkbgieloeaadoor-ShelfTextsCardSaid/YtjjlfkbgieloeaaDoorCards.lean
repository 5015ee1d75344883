/-
  DERIVED. GIVEN WITH THE SEED: THE CARDS: each row of YtjjlfkbgieloeaaDoorRows.lean that lists a variable, with what it lists TIED to the program's text (the seventh form; the later family's looks); each row that meets fmt, with fmt's text TOLD by the authors' own Lean function (tested against real Go, not proved from fmt's source: count such statements apart). THE CARD IS WHAT COUNTS. Prove the row's statement (the work); the ties are given (YtjjlfkbgieloeaaDoorTie.lean); close each card by the builder's one call (the guide's Derived/Test/ToyasCard.lean, 'card_holds'). Laid BY PROGRAM, IN A SANDBOX (cutbox-door.mjs). By AI agents, Wed Nov 11 2026. No macro, syntax, notation, axiom, sorry.
-/
import Derived.Test.YtjjlfkbgieloeaaDoorRows
import GoSem.ClaimSeven
namespace Go.Proofs.YtjjlfkbgieloeaaDoor
namespace Rows

/-- THE TIED CARD OF 'bondstorelaw01.WideOrder'. -/
def wideOrderCard : Claim7 := { stood := { row := wideOrderRow, standIns := [], harness := (true, "575859ad9d4fde904dce2174ca413f5a15b0533bfe03c6fe28ef0e94dc32dd67"), looks := false }, kinds := [], alts := [], laidByText := true, laidKinds := [.data], laidTests := true, laidLooks := .later }
def WideOrderCardSaid : Prop := Claim7.holds Tryd.pinned (.plain (OpenSpec.ofChange wideOrderSpec)) wideOrderCard

/-- THE TIED CARD OF 'bondstorelaw01.WideBytes'. -/
def wideBytesCard : Claim7 := { stood := { row := wideBytesRow, standIns := [], harness := (true, "575859ad9d4fde904dce2174ca413f5a15b0533bfe03c6fe28ef0e94dc32dd67"), looks := false }, kinds := [], alts := [], laidByText := true, laidKinds := [.data], laidTests := true, laidLooks := .later }
def WideBytesCardSaid : Prop := Claim7.holds Tryd.pinned (.plain (OpenSpec.ofChange wideBytesSpec)) wideBytesCard

/-- THE TIED CARD OF 'bondstorelaw01.WideLaws'. -/
def wideLawsCard : Claim7 := { stood := { row := wideLawsRow, standIns := [], harness := (true, "575859ad9d4fde904dce2174ca413f5a15b0533bfe03c6fe28ef0e94dc32dd67"), looks := false }, kinds := [], alts := [], laidByText := true, laidKinds := [.data], laidTests := true, laidLooks := .later }
def WideLawsCardSaid : Prop := Claim7.holds Tryd.pinned (.plain (OpenSpec.ofChange wideLawsSpec)) wideLawsCard

/-- THE TIED CARD OF 'bondstorelaw01.WideSums'. -/
def wideSumsCard : Claim7 := { stood := { row := wideSumsRow, standIns := [], harness := (true, "575859ad9d4fde904dce2174ca413f5a15b0533bfe03c6fe28ef0e94dc32dd67"), looks := false }, kinds := [], alts := [], laidByText := true, laidKinds := [.data], laidTests := true, laidLooks := .later }
def WideSumsCardSaid : Prop := Claim7.holds Tryd.pinned (.plain (OpenSpec.ofChange wideSumsSpec)) wideSumsCard

/-- THE TIED CARD OF 'bondstorelaw26.ShelfUnlike'. -/
def shelfUnlikeCard : Claim7 := { stood := { row := shelfUnlikeRow, standIns := [], harness := (true, "575859ad9d4fde904dce2174ca413f5a15b0533bfe03c6fe28ef0e94dc32dd67"), looks := false }, kinds := [], alts := [], laidByText := true, laidKinds := [.data, .data, .pinned], laidTests := true, laidLooks := .later }
def ShelfUnlikeCardSaid : Prop := Claim7.holds Tryd.pinned (.plain (OpenSpec.ofChange shelfUnlikeSpec)) shelfUnlikeCard

/-- THE TIED CARD OF 'bondstorelaw26.ShelfSites'. -/
def shelfSitesCard : Claim7 := { stood := { row := shelfSitesRow, standIns := [], harness := (true, "575859ad9d4fde904dce2174ca413f5a15b0533bfe03c6fe28ef0e94dc32dd67"), looks := false }, kinds := [], alts := [], laidByText := true, laidKinds := [.data, .pinned], laidTests := true, laidLooks := .later }
def ShelfSitesCardSaid : Prop := Claim7.holds Tryd.pinned (.plain (OpenSpec.ofChange shelfSitesSpec)) shelfSitesCard

/-- THE TIED CARD OF 'bondstorelaw26.ShelfIds'. -/
def shelfIdsCard : Claim7 := { stood := { row := shelfIdsRow, standIns := [], harness := (true, "575859ad9d4fde904dce2174ca413f5a15b0533bfe03c6fe28ef0e94dc32dd67"), looks := false }, kinds := [], alts := [], laidByText := true, laidKinds := [.data, .pinned], laidTests := true, laidLooks := .later }
def ShelfIdsCardSaid : Prop := Claim7.holds Tryd.pinned (.plain (OpenSpec.ofChange shelfIdsSpec)) shelfIdsCard

/-- THE TIED CARD OF 'bondstorelaw26.ShelfOf'. -/
def shelfOfCard : Claim7 := { stood := { row := shelfOfRow, standIns := [], harness := (true, "575859ad9d4fde904dce2174ca413f5a15b0533bfe03c6fe28ef0e94dc32dd67"), looks := false }, kinds := [], alts := [], laidByText := true, laidKinds := [.data, .pinned], laidTests := true, laidLooks := .later }
def ShelfOfCardSaid : Prop := Claim7.holds Tryd.pinned (.plain (OpenSpec.ofChange shelfOfSpec)) shelfOfCard

/-- THE TIED CARD OF 'bondstorelaw01.WideShows'. -/
def wideShowsCard : Claim7 := { stood := { row := wideShowsRow, standIns := [], harness := (true, "575859ad9d4fde904dce2174ca413f5a15b0533bfe03c6fe28ef0e94dc32dd67"), looks := false }, kinds := [], alts := [], laidByText := true, laidKinds := [.data, .data, .pinned], laidTests := true, laidLooks := .later }
def WideShowsCardSaid : Prop := Claim7.holds Tryd.pinned (.plain (OpenSpec.ofChange wideShowsSpec)) wideShowsCard

/-- THE TIED CARD OF 'bondstorelaw01.WideParses'. -/
def wideParsesCard : Claim7 := { stood := { row := wideParsesRow, standIns := [], harness := (true, "575859ad9d4fde904dce2174ca413f5a15b0533bfe03c6fe28ef0e94dc32dd67"), looks := false }, kinds := [], alts := [], laidByText := true, laidKinds := [.data, .data, .pinned], laidTests := true, laidLooks := .later }
def WideParsesCardSaid : Prop := Claim7.holds Tryd.pinned (.plain (OpenSpec.ofChange wideParsesSpec)) wideParsesCard

/-- THE TIED CARD OF 'bondstorelaw26.ShelfTexts'. -/
def shelfTextsCard : Claim7 := { stood := { row := shelfTextsRow, standIns := [], harness := (true, "575859ad9d4fde904dce2174ca413f5a15b0533bfe03c6fe28ef0e94dc32dd67"), looks := false }, kinds := [], alts := [], laidByText := true, laidKinds := [.data, .pinned], laidTests := true, laidLooks := .later }
def ShelfTextsCardSaid : Prop := Claim7.holds Tryd.pinned (.plain (OpenSpec.ofChange shelfTextsSpec)) shelfTextsCard

/-- THE SECOND FORM's CARD OF 'bondstorelaw01.WideOrder'. -/
def wideOrderUptoCard : Claim7 := { stood := { row := wideOrderUptoRow, standIns := [], harness := (true, "575859ad9d4fde904dce2174ca413f5a15b0533bfe03c6fe28ef0e94dc32dd67"), looks := false }, kinds := [], alts := [], laidByText := true, laidKinds := [.data], laidTests := true, laidLooks := .later }
def WideOrderUptoCardSaid : Prop := Claim7.holds Tryd.pinned (.plain (OpenSpec.upto wideOrderSpec)) wideOrderUptoCard

/-- THE SECOND FORM's CARD OF 'bondstorelaw01.WideBytes'. -/
def wideBytesUptoCard : Claim7 := { stood := { row := wideBytesUptoRow, standIns := [], harness := (true, "575859ad9d4fde904dce2174ca413f5a15b0533bfe03c6fe28ef0e94dc32dd67"), looks := false }, kinds := [], alts := [], laidByText := true, laidKinds := [.data], laidTests := true, laidLooks := .later }
def WideBytesUptoCardSaid : Prop := Claim7.holds Tryd.pinned (.plain (OpenSpec.upto wideBytesSpec)) wideBytesUptoCard

/-- THE SECOND FORM's CARD OF 'bondstorelaw01.WideLaws'. -/
def wideLawsUptoCard : Claim7 := { stood := { row := wideLawsUptoRow, standIns := [], harness := (true, "575859ad9d4fde904dce2174ca413f5a15b0533bfe03c6fe28ef0e94dc32dd67"), looks := false }, kinds := [], alts := [], laidByText := true, laidKinds := [.data], laidTests := true, laidLooks := .later }
def WideLawsUptoCardSaid : Prop := Claim7.holds Tryd.pinned (.plain (OpenSpec.upto wideLawsSpec)) wideLawsUptoCard

/-- THE SECOND FORM's CARD OF 'bondstorelaw01.WideSums'. -/
def wideSumsUptoCard : Claim7 := { stood := { row := wideSumsUptoRow, standIns := [], harness := (true, "575859ad9d4fde904dce2174ca413f5a15b0533bfe03c6fe28ef0e94dc32dd67"), looks := false }, kinds := [], alts := [], laidByText := true, laidKinds := [.data], laidTests := true, laidLooks := .later }
def WideSumsUptoCardSaid : Prop := Claim7.holds Tryd.pinned (.plain (OpenSpec.upto wideSumsSpec)) wideSumsUptoCard

/-- THE SECOND FORM's CARD OF 'bondstorelaw26.ShelfUnlike'. -/
def shelfUnlikeUptoCard : Claim7 := { stood := { row := shelfUnlikeUptoRow, standIns := [], harness := (true, "575859ad9d4fde904dce2174ca413f5a15b0533bfe03c6fe28ef0e94dc32dd67"), looks := false }, kinds := [], alts := [], laidByText := true, laidKinds := [.data, .data, .pinned], laidTests := true, laidLooks := .later }
def ShelfUnlikeUptoCardSaid : Prop := Claim7.holds Tryd.pinned (.plain (OpenSpec.upto shelfUnlikeSpec)) shelfUnlikeUptoCard

/-- THE SECOND FORM's CARD OF 'bondstorelaw26.ShelfSites'. -/
def shelfSitesUptoCard : Claim7 := { stood := { row := shelfSitesUptoRow, standIns := [], harness := (true, "575859ad9d4fde904dce2174ca413f5a15b0533bfe03c6fe28ef0e94dc32dd67"), looks := false }, kinds := [], alts := [], laidByText := true, laidKinds := [.data, .pinned], laidTests := true, laidLooks := .later }
def ShelfSitesUptoCardSaid : Prop := Claim7.holds Tryd.pinned (.plain (OpenSpec.upto shelfSitesSpec)) shelfSitesUptoCard

/-- THE SECOND FORM's CARD OF 'bondstorelaw26.ShelfIds'. -/
def shelfIdsUptoCard : Claim7 := { stood := { row := shelfIdsUptoRow, standIns := [], harness := (true, "575859ad9d4fde904dce2174ca413f5a15b0533bfe03c6fe28ef0e94dc32dd67"), looks := false }, kinds := [], alts := [], laidByText := true, laidKinds := [.data, .pinned], laidTests := true, laidLooks := .later }
def ShelfIdsUptoCardSaid : Prop := Claim7.holds Tryd.pinned (.plain (OpenSpec.upto shelfIdsSpec)) shelfIdsUptoCard

/-- THE SECOND FORM's CARD OF 'bondstorelaw26.ShelfOf'. -/
def shelfOfUptoCard : Claim7 := { stood := { row := shelfOfUptoRow, standIns := [], harness := (true, "575859ad9d4fde904dce2174ca413f5a15b0533bfe03c6fe28ef0e94dc32dd67"), looks := false }, kinds := [], alts := [], laidByText := true, laidKinds := [.data, .pinned], laidTests := true, laidLooks := .later }
def ShelfOfUptoCardSaid : Prop := Claim7.holds Tryd.pinned (.plain (OpenSpec.upto shelfOfSpec)) shelfOfUptoCard

/-- THE SECOND FORM's CARD OF 'bondstorelaw01.WideShows'. -/
def wideShowsUptoCard : Claim7 := { stood := { row := wideShowsUptoRow, standIns := [], harness := (true, "575859ad9d4fde904dce2174ca413f5a15b0533bfe03c6fe28ef0e94dc32dd67"), looks := false }, kinds := [], alts := [], laidByText := true, laidKinds := [.data, .data, .pinned], laidTests := true, laidLooks := .later }
def WideShowsUptoCardSaid : Prop := Claim7.holds Tryd.pinned (.plain (OpenSpec.upto wideShowsSpec)) wideShowsUptoCard

/-- THE SECOND FORM's CARD OF 'bondstorelaw01.WideParses'. -/
def wideParsesUptoCard : Claim7 := { stood := { row := wideParsesUptoRow, standIns := [], harness := (true, "575859ad9d4fde904dce2174ca413f5a15b0533bfe03c6fe28ef0e94dc32dd67"), looks := false }, kinds := [], alts := [], laidByText := true, laidKinds := [.data, .data, .pinned], laidTests := true, laidLooks := .later }
def WideParsesUptoCardSaid : Prop := Claim7.holds Tryd.pinned (.plain (OpenSpec.upto wideParsesSpec)) wideParsesUptoCard

/-- THE SECOND FORM's CARD OF 'bondstorelaw26.ShelfTexts'. -/
def shelfTextsUptoCard : Claim7 := { stood := { row := shelfTextsUptoRow, standIns := [], harness := (true, "575859ad9d4fde904dce2174ca413f5a15b0533bfe03c6fe28ef0e94dc32dd67"), looks := false }, kinds := [], alts := [], laidByText := true, laidKinds := [.data, .pinned], laidTests := true, laidLooks := .later }
def ShelfTextsUptoCardSaid : Prop := Claim7.holds Tryd.pinned (.plain (OpenSpec.upto shelfTextsSpec)) shelfTextsUptoCard
end Rows
end Go.Proofs.YtjjlfkbgieloeaaDoor
