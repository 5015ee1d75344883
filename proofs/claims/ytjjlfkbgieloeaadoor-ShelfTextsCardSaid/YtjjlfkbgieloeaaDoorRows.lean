/-
  NARROWER THAN 'FOR EVERY INPUT', by the rows' own cells (each row's printed sentence says how): WideOrder: laid · WideBytes: laid · WideLaws: laid · WideSums: laid · ShelfUnlike: laid · ShelfSites: laid · ShelfIds: laid · ShelfOf: laid · WideShows: laid · WideParses: laid · ShelfTexts: laid.
  DERIVED. THE GIVEN ROWS OF THIS SEAT. 11 by the template 'for every input the law returns true; each argument reads behind the call as it read before'; 0 by the template 'total and deterministic' (their statements: YtjjlfkbgieloeaaDoorTotals.lean).
  GIVEN WITH THE SEED: the statements are not yours to turn. If you find one false, say at which input.
  Laid BY PROGRAM, IN A SANDBOX (cutbox-rows.mjs): the forced cells as the released guide's own fill.sh prints them over the translation 81df7a0f07843eb4… (all of the seat's roots in one cut). By AI agents, Wed Nov 11 2026. No macro, syntax, notation, axiom, sorry.
-/
import Derived.Test.YtjjlfkbgieloeaaDoorChecked
import GoSem.PinnedTables
import GoSem.Claim
import GoSem.ClaimJoined
import GoSem.ClaimMapViews
import Derived.JoinedTies
import Derived.KernelRfl
namespace Go.Proofs.YtjjlfkbgieloeaaDoor
/- THE CELL 'sum', in the pinned program and in every row, IS THE sha256 OF THE DUMP (.gsa) THAT YtjjlfkbgieloeaaDoorProg.lean LOADS. Nothing in Lean hashes anything: it is a label: what it is worth is what the hold of that sum in a sandbox is worth. -/
noncomputable def Tryd.pinned : Pinned := { name := "ytjjlfkbgieloeaadoor", sum := "81df7a0f07843eb40354d4b4ba3868bd4e1978ca6c6cc206e44b843cf93a8936", checked := Tryd.checked }
namespace Rows
def none {H : Type} : Left H := { results := [], args := [] }

/- WHAT THE LISTED PACKAGE-LEVEL VARIABLES READ AS WHEN THE CALL BEGINS. Each datum BY PROGRAM (the guide's laid-datum.mjs) off the statement by which the dump's own 'gosem.cut.vars' lays the variable. In a bare row this is a premise. The card (YtjjlfkbgieloeaaDoorCards.lean) ties it to the program's text. -/
def laid_bondstore_wide_Most {H : Type} : DataW H := .agg [.lit (.int .u64 18446744073709551615), .lit (.int .u64 18446744073709551615)]
def laid_unicode_utf8_acceptRanges {H : Type} : DataW H := .agg [.agg [.lit (.int .u8 128), .lit (.int .u8 191)], .agg [.lit (.int .u8 160), .lit (.int .u8 191)], .agg [.lit (.int .u8 128), .lit (.int .u8 159)], .agg [.lit (.int .u8 144), .lit (.int .u8 191)], .agg [.lit (.int .u8 128), .lit (.int .u8 143)], .agg [.lit (.int .u8 0), .lit (.int .u8 0)], .agg [.lit (.int .u8 0), .lit (.int .u8 0)], .agg [.lit (.int .u8 0), .lit (.int .u8 0)], .agg [.lit (.int .u8 0), .lit (.int .u8 0)], .agg [.lit (.int .u8 0), .lit (.int .u8 0)], .agg [.lit (.int .u8 0), .lit (.int .u8 0)], .agg [.lit (.int .u8 0), .lit (.int .u8 0)], .agg [.lit (.int .u8 0), .lit (.int .u8 0)], .agg [.lit (.int .u8 0), .lit (.int .u8 0)], .agg [.lit (.int .u8 0), .lit (.int .u8 0)], .agg [.lit (.int .u8 0), .lit (.int .u8 0)]]
/-- One of Go's own tables, pinned by name: the form's constant. -/
def laid_unicode_utf8_first : DataW Unit := Go.Pinned.utf8First

/-- 'bondstorelaw01.WideOrder': WHATEVER THE INPUT: true; the input reads as it did. -/
def wideOrderSpec : ChangeSpec := { name := "wideOrder", fn := fun _ => fun
  | [d1, d2, d3] => { results := [.lit (.bool true)], args := [d1, d2, d3] }
  | _ => none }
def wideOrderRow : OpenClaim := { program := "ytjjlfkbgieloeaadoor", sum := "81df7a0f07843eb40354d4b4ba3868bd4e1978ca6c6cc206e44b843cf93a8936", func := "bondstore/bondstorelaw01.WideOrder", spec := "wideOrder", inPlace := ["math/bits.Add64"], named := ["bondstore/wide.Most", "math/bits.divideError", "math/bits.overflowError"], apart := false, laid := [("bondstore/wide.Most", laid_bondstore_wide_Most)] }
def WideOrderSaid : Prop := wideOrderRow.holds Tryd.pinned (OpenSpec.ofChange wideOrderSpec)

/-- ITS FALSE NEIGHBOUR: 'it returns false'. Refute it at one input. -/
def wideOrderWrong : ChangeSpec := { name := "wideOrder", fn := fun _ => fun
  | [d1, d2, d3] => { results := [.lit (.bool false)], args := [d1, d2, d3] }
  | _ => none }
def WideOrderWrongFalsely : Prop := wideOrderRow.holds Tryd.pinned (OpenSpec.ofChange wideOrderWrong)

/-- 'bondstorelaw01.WideBytes': WHATEVER THE INPUT: true; the input reads as it did. -/
def wideBytesSpec : ChangeSpec := { name := "wideBytes", fn := fun _ => fun
  | [d1, d2, d3] => { results := [.lit (.bool true)], args := [d1, d2, d3] }
  | _ => none }
def wideBytesRow : OpenClaim := { program := "ytjjlfkbgieloeaadoor", sum := "81df7a0f07843eb40354d4b4ba3868bd4e1978ca6c6cc206e44b843cf93a8936", func := "bondstore/bondstorelaw01.WideBytes", spec := "wideBytes", inPlace := ["math/bits.Add64"], named := ["bondstore/wide.Most", "math/bits.divideError", "math/bits.overflowError"], apart := false, laid := [("bondstore/wide.Most", laid_bondstore_wide_Most)] }
def WideBytesSaid : Prop := wideBytesRow.holds Tryd.pinned (OpenSpec.ofChange wideBytesSpec)

/-- ITS FALSE NEIGHBOUR: 'it returns false'. Refute it at one input. -/
def wideBytesWrong : ChangeSpec := { name := "wideBytes", fn := fun _ => fun
  | [d1, d2, d3] => { results := [.lit (.bool false)], args := [d1, d2, d3] }
  | _ => none }
def WideBytesWrongFalsely : Prop := wideBytesRow.holds Tryd.pinned (OpenSpec.ofChange wideBytesWrong)

/-- 'bondstorelaw01.WideLaws': WHATEVER THE INPUT: true; the input reads as it did. -/
def wideLawsSpec : ChangeSpec := { name := "wideLaws", fn := fun _ => fun
  | [d1, d2, d3] => { results := [.lit (.bool true)], args := [d1, d2, d3] }
  | _ => none }
def wideLawsRow : OpenClaim := { program := "ytjjlfkbgieloeaadoor", sum := "81df7a0f07843eb40354d4b4ba3868bd4e1978ca6c6cc206e44b843cf93a8936", func := "bondstore/bondstorelaw01.WideLaws", spec := "wideLaws", inPlace := ["math/bits.Add64"], named := ["bondstore/wide.Most", "math/bits.divideError", "math/bits.overflowError"], apart := false, laid := [("bondstore/wide.Most", laid_bondstore_wide_Most)] }
def WideLawsSaid : Prop := wideLawsRow.holds Tryd.pinned (OpenSpec.ofChange wideLawsSpec)

/-- ITS FALSE NEIGHBOUR: 'it returns false'. Refute it at one input. -/
def wideLawsWrong : ChangeSpec := { name := "wideLaws", fn := fun _ => fun
  | [d1, d2, d3] => { results := [.lit (.bool false)], args := [d1, d2, d3] }
  | _ => none }
def WideLawsWrongFalsely : Prop := wideLawsRow.holds Tryd.pinned (OpenSpec.ofChange wideLawsWrong)

/-- 'bondstorelaw01.WideSums': WHATEVER THE INPUT: true; the input reads as it did. -/
def wideSumsSpec : ChangeSpec := { name := "wideSums", fn := fun _ => fun
  | [d1, d2, d3] => { results := [.lit (.bool true)], args := [d1, d2, d3] }
  | _ => none }
def wideSumsRow : OpenClaim := { program := "ytjjlfkbgieloeaadoor", sum := "81df7a0f07843eb40354d4b4ba3868bd4e1978ca6c6cc206e44b843cf93a8936", func := "bondstore/bondstorelaw01.WideSums", spec := "wideSums", inPlace := ["math/bits.Add64", "math/bits.Sub64"], named := ["bondstore/wide.Most", "math/bits.divideError", "math/bits.overflowError"], apart := false, laid := [("bondstore/wide.Most", laid_bondstore_wide_Most)] }
def WideSumsSaid : Prop := wideSumsRow.holds Tryd.pinned (OpenSpec.ofChange wideSumsSpec)

/-- ITS FALSE NEIGHBOUR: 'it returns false'. Refute it at one input. -/
def wideSumsWrong : ChangeSpec := { name := "wideSums", fn := fun _ => fun
  | [d1, d2, d3] => { results := [.lit (.bool false)], args := [d1, d2, d3] }
  | _ => none }
def WideSumsWrongFalsely : Prop := wideSumsRow.holds Tryd.pinned (OpenSpec.ofChange wideSumsWrong)

/-- 'bondstorelaw26.ShelfUnlike': WHATEVER THE INPUT: true; the input reads as it did. -/
def shelfUnlikeSpec : ChangeSpec := { name := "shelfUnlike", fn := fun _ => fun
  | [d1, d2] => { results := [.lit (.bool true)], args := [d1, d2] }
  | _ => none }
def shelfUnlikeRow : OpenClaim := { program := "ytjjlfkbgieloeaadoor", sum := "81df7a0f07843eb40354d4b4ba3868bd4e1978ca6c6cc206e44b843cf93a8936", func := "bondstore/bondstorelaw26.ShelfUnlike", spec := "shelfUnlike", inPlace := ["internal/bytealg.IndexByteString", "internal/bytealg.IndexString"], named := ["bondstore/wide.Most", "unicode/utf8.first", "unicode/utf8.acceptRanges", "internal/bytealg.MaxLen"], apart := false, laid := [("unicode/utf8.acceptRanges", laid_unicode_utf8_acceptRanges), ("bondstore/wide.Most", laid_bondstore_wide_Most), ("unicode/utf8.first", laid_unicode_utf8_first)] }
def ShelfUnlikeSaid : Prop := shelfUnlikeRow.holds Tryd.pinned (OpenSpec.ofChange shelfUnlikeSpec)

/-- ITS FALSE NEIGHBOUR: 'it returns false'. Refute it at one input. -/
def shelfUnlikeWrong : ChangeSpec := { name := "shelfUnlike", fn := fun _ => fun
  | [d1, d2] => { results := [.lit (.bool false)], args := [d1, d2] }
  | _ => none }
def ShelfUnlikeWrongFalsely : Prop := shelfUnlikeRow.holds Tryd.pinned (OpenSpec.ofChange shelfUnlikeWrong)

/-- 'bondstorelaw26.ShelfSites': WHATEVER THE INPUT: true; the input reads as it did. -/
def shelfSitesSpec : ChangeSpec := { name := "shelfSites", fn := fun _ => fun
  | [d1, d2, d3, d4] => { results := [.lit (.bool true)], args := [d1, d2, d3, d4] }
  | _ => none }
def shelfSitesRow : OpenClaim := { program := "ytjjlfkbgieloeaadoor", sum := "81df7a0f07843eb40354d4b4ba3868bd4e1978ca6c6cc206e44b843cf93a8936", func := "bondstore/bondstorelaw26.ShelfSites", spec := "shelfSites", inPlace := ["internal/bytealg.IndexByteString", "internal/bytealg.IndexString"], named := ["unicode/utf8.first", "unicode/utf8.acceptRanges", "internal/bytealg.MaxLen"], apart := false, laid := [("unicode/utf8.acceptRanges", laid_unicode_utf8_acceptRanges), ("unicode/utf8.first", laid_unicode_utf8_first)] }
def ShelfSitesSaid : Prop := shelfSitesRow.holds Tryd.pinned (OpenSpec.ofChange shelfSitesSpec)

/-- ITS FALSE NEIGHBOUR: 'it returns false'. Refute it at one input. -/
def shelfSitesWrong : ChangeSpec := { name := "shelfSites", fn := fun _ => fun
  | [d1, d2, d3, d4] => { results := [.lit (.bool false)], args := [d1, d2, d3, d4] }
  | _ => none }
def ShelfSitesWrongFalsely : Prop := shelfSitesRow.holds Tryd.pinned (OpenSpec.ofChange shelfSitesWrong)

/-- 'bondstorelaw26.ShelfIds': WHATEVER THE INPUT: true; the input reads as it did. -/
def shelfIdsSpec : ChangeSpec := { name := "shelfIds", fn := fun _ => fun
  | [d] => { results := [.lit (.bool true)], args := [d] }
  | _ => none }
def shelfIdsRow : OpenClaim := { program := "ytjjlfkbgieloeaadoor", sum := "81df7a0f07843eb40354d4b4ba3868bd4e1978ca6c6cc206e44b843cf93a8936", func := "bondstore/bondstorelaw26.ShelfIds", spec := "shelfIds", inPlace := ["internal/bytealg.IndexByteString", "internal/bytealg.IndexString"], named := ["unicode/utf8.first", "unicode/utf8.acceptRanges", "internal/bytealg.MaxLen"], apart := false, laid := [("unicode/utf8.acceptRanges", laid_unicode_utf8_acceptRanges), ("unicode/utf8.first", laid_unicode_utf8_first)] }
def ShelfIdsSaid : Prop := shelfIdsRow.holds Tryd.pinned (OpenSpec.ofChange shelfIdsSpec)

/-- ITS FALSE NEIGHBOUR: 'it returns false'. Refute it at one input. -/
def shelfIdsWrong : ChangeSpec := { name := "shelfIds", fn := fun _ => fun
  | [d] => { results := [.lit (.bool false)], args := [d] }
  | _ => none }
def ShelfIdsWrongFalsely : Prop := shelfIdsRow.holds Tryd.pinned (OpenSpec.ofChange shelfIdsWrong)

/-- 'bondstorelaw26.ShelfOf': WHATEVER THE INPUT: true; the input reads as it did. -/
def shelfOfSpec : ChangeSpec := { name := "shelfOf", fn := fun _ => fun
  | [d] => { results := [.lit (.bool true)], args := [d] }
  | _ => none }
def shelfOfRow : OpenClaim := { program := "ytjjlfkbgieloeaadoor", sum := "81df7a0f07843eb40354d4b4ba3868bd4e1978ca6c6cc206e44b843cf93a8936", func := "bondstore/bondstorelaw26.ShelfOf", spec := "shelfOf", inPlace := ["internal/bytealg.IndexByteString", "internal/bytealg.IndexString"], named := ["unicode/utf8.first", "unicode/utf8.acceptRanges", "internal/bytealg.MaxLen"], apart := false, laid := [("unicode/utf8.acceptRanges", laid_unicode_utf8_acceptRanges), ("unicode/utf8.first", laid_unicode_utf8_first)] }
def ShelfOfSaid : Prop := shelfOfRow.holds Tryd.pinned (OpenSpec.ofChange shelfOfSpec)

/-- ITS FALSE NEIGHBOUR: 'it returns false'. Refute it at one input. -/
def shelfOfWrong : ChangeSpec := { name := "shelfOf", fn := fun _ => fun
  | [d] => { results := [.lit (.bool false)], args := [d] }
  | _ => none }
def ShelfOfWrongFalsely : Prop := shelfOfRow.holds Tryd.pinned (OpenSpec.ofChange shelfOfWrong)

/-- 'bondstorelaw01.WideShows': WHATEVER THE INPUT: true; the input reads as it did. -/
def wideShowsSpec : ChangeSpec := { name := "wideShows", fn := fun _ => fun
  | [d] => { results := [.lit (.bool true)], args := [d] }
  | _ => none }
def wideShowsRow : OpenClaim := { program := "ytjjlfkbgieloeaadoor", sum := "81df7a0f07843eb40354d4b4ba3868bd4e1978ca6c6cc206e44b843cf93a8936", func := "bondstore/bondstorelaw01.WideShows", spec := "wideShows", inPlace := ["math/bits.Add64", "internal/bytealg.IndexByteString", "internal/bytealg.IndexString"], named := ["bondstore/wide.Most", "math/bits.divideError", "math/bits.overflowError", "unicode/utf8.first", "unicode/utf8.acceptRanges", "internal/bytealg.MaxLen"], apart := false, laid := [("unicode/utf8.acceptRanges", laid_unicode_utf8_acceptRanges), ("bondstore/wide.Most", laid_bondstore_wide_Most), ("unicode/utf8.first", laid_unicode_utf8_first)] }
def WideShowsSaid : Prop := wideShowsRow.holds Tryd.pinned (OpenSpec.ofChange wideShowsSpec)

/-- ITS FALSE NEIGHBOUR: 'it returns false'. Refute it at one input. -/
def wideShowsWrong : ChangeSpec := { name := "wideShows", fn := fun _ => fun
  | [d] => { results := [.lit (.bool false)], args := [d] }
  | _ => none }
def WideShowsWrongFalsely : Prop := wideShowsRow.holds Tryd.pinned (OpenSpec.ofChange wideShowsWrong)

/-- 'bondstorelaw01.WideParses': WHATEVER THE INPUT: true; the input reads as it did. -/
def wideParsesSpec : ChangeSpec := { name := "wideParses", fn := fun _ => fun
  | [d] => { results := [.lit (.bool true)], args := [d] }
  | _ => none }
def wideParsesRow : OpenClaim := { program := "ytjjlfkbgieloeaadoor", sum := "81df7a0f07843eb40354d4b4ba3868bd4e1978ca6c6cc206e44b843cf93a8936", func := "bondstore/bondstorelaw01.WideParses", spec := "wideParses", inPlace := ["math/bits.Add64", "internal/bytealg.IndexByteString", "internal/bytealg.IndexString"], named := ["bondstore/wide.Most", "math/bits.divideError", "math/bits.overflowError", "unicode/utf8.first", "unicode/utf8.acceptRanges", "internal/bytealg.MaxLen"], apart := false, laid := [("unicode/utf8.acceptRanges", laid_unicode_utf8_acceptRanges), ("bondstore/wide.Most", laid_bondstore_wide_Most), ("unicode/utf8.first", laid_unicode_utf8_first)] }
def WideParsesSaid : Prop := wideParsesRow.holds Tryd.pinned (OpenSpec.ofChange wideParsesSpec)

/-- ITS FALSE NEIGHBOUR: 'it returns false'. Refute it at one input. -/
def wideParsesWrong : ChangeSpec := { name := "wideParses", fn := fun _ => fun
  | [d] => { results := [.lit (.bool false)], args := [d] }
  | _ => none }
def WideParsesWrongFalsely : Prop := wideParsesRow.holds Tryd.pinned (OpenSpec.ofChange wideParsesWrong)

/-- 'bondstorelaw26.ShelfTexts': WHATEVER THE INPUT: true; the input reads as it did. -/
def shelfTextsSpec : ChangeSpec := { name := "shelfTexts", fn := fun _ => fun
  | [d1, d2] => { results := [.lit (.bool true)], args := [d1, d2] }
  | _ => none }
def shelfTextsRow : OpenClaim := { program := "ytjjlfkbgieloeaadoor", sum := "81df7a0f07843eb40354d4b4ba3868bd4e1978ca6c6cc206e44b843cf93a8936", func := "bondstore/bondstorelaw26.ShelfTexts", spec := "shelfTexts", inPlace := ["internal/bytealg.IndexByteString", "internal/bytealg.IndexString"], named := ["unicode/utf8.first", "unicode/utf8.acceptRanges", "internal/bytealg.MaxLen"], apart := false, laid := [("unicode/utf8.acceptRanges", laid_unicode_utf8_acceptRanges), ("unicode/utf8.first", laid_unicode_utf8_first)] }
def ShelfTextsSaid : Prop := shelfTextsRow.holds Tryd.pinned (OpenSpec.ofChange shelfTextsSpec)

/-- ITS FALSE NEIGHBOUR: 'it returns false'. Refute it at one input. -/
def shelfTextsWrong : ChangeSpec := { name := "shelfTexts", fn := fun _ => fun
  | [d1, d2] => { results := [.lit (.bool false)], args := [d1, d2] }
  | _ => none }
def ShelfTextsWrongFalsely : Prop := shelfTextsRow.holds Tryd.pinned (OpenSpec.ofChange shelfTextsWrong)

/- THE SECOND FORM. 'bulk': how many values and letters a reading holds, each counted each time it is reached (what is shared counts as often as it is met; a slice's spare places count too). A statement '..UptoSaid' is the law's where the arguments, and the package variables that the reading takes, are together of bulk at most 1048576: NARROWER than '..Said'. Prove '..Said' where nothing that the law and all that it calls make is longer than what came in: it says more and counts as full. Else prove '..UptoSaid'. A law counts once. -/
mutual
def uptoBulk {H : Type} : DataW H → Nat
  | .lit (.string bytes) => bytes.length + 1
  | .lit _ => 1
  | .nil => 1
  | .ptr d => uptoBulk d + 1
  | .slice elems spare => uptoBulkAll elems + uptoBulkAll spare + 1
  | .agg parts => uptoBulkAll parts + 1
  | .iface _ d => uptoBulk d + 1
  | .map entries => uptoBulkEntries entries + 1
  | .held _ => 1
def uptoBulkAll {H : Type} : List (DataW H) → Nat
  | [] => 0
  | d :: r => uptoBulk d + uptoBulkAll r
def uptoBulkEntries {H : Type} : List (Lit × DataW H) → Nat
  | [] => 0
  | x :: r => uptoBulkEntry x + uptoBulkEntries r
def uptoBulkEntry {H : Type} : Lit × DataW H → Nat
  | (.string bytes, d) => bytes.length + uptoBulk d + 1
  | (_, d) => uptoBulk d + 1
 end
def uptoSmall : (H : Type) → List (DataW H) → Bool := fun _ ds => decide (uptoBulkAll ds ≤ 1048576)
def OpenSpec.upto (s : _root_.Go.ChangeSpec) : _root_.Go.OpenSpec := { _root_.Go.OpenSpec.ofChange s with cond := some uptoSmall }

/-- 'bondstorelaw01.WideOrder', WHERE WHAT IT READS IS OF BULK AT MOST 1048576: true; the input reads as it did. -/
def wideOrderUptoRow : OpenClaim := { program := "ytjjlfkbgieloeaadoor", sum := "81df7a0f07843eb40354d4b4ba3868bd4e1978ca6c6cc206e44b843cf93a8936", func := "bondstore/bondstorelaw01.WideOrder", spec := "wideOrder", inPlace := ["math/bits.Add64"], named := ["bondstore/wide.Most", "math/bits.divideError", "math/bits.overflowError"], apart := false, laid := [("bondstore/wide.Most", laid_bondstore_wide_Most)], narrowed := true }
def WideOrderUptoSaid : Prop := wideOrderUptoRow.holds Tryd.pinned (OpenSpec.upto wideOrderSpec)

/-- 'bondstorelaw01.WideBytes', WHERE WHAT IT READS IS OF BULK AT MOST 1048576: true; the input reads as it did. -/
def wideBytesUptoRow : OpenClaim := { program := "ytjjlfkbgieloeaadoor", sum := "81df7a0f07843eb40354d4b4ba3868bd4e1978ca6c6cc206e44b843cf93a8936", func := "bondstore/bondstorelaw01.WideBytes", spec := "wideBytes", inPlace := ["math/bits.Add64"], named := ["bondstore/wide.Most", "math/bits.divideError", "math/bits.overflowError"], apart := false, laid := [("bondstore/wide.Most", laid_bondstore_wide_Most)], narrowed := true }
def WideBytesUptoSaid : Prop := wideBytesUptoRow.holds Tryd.pinned (OpenSpec.upto wideBytesSpec)

/-- 'bondstorelaw01.WideLaws', WHERE WHAT IT READS IS OF BULK AT MOST 1048576: true; the input reads as it did. -/
def wideLawsUptoRow : OpenClaim := { program := "ytjjlfkbgieloeaadoor", sum := "81df7a0f07843eb40354d4b4ba3868bd4e1978ca6c6cc206e44b843cf93a8936", func := "bondstore/bondstorelaw01.WideLaws", spec := "wideLaws", inPlace := ["math/bits.Add64"], named := ["bondstore/wide.Most", "math/bits.divideError", "math/bits.overflowError"], apart := false, laid := [("bondstore/wide.Most", laid_bondstore_wide_Most)], narrowed := true }
def WideLawsUptoSaid : Prop := wideLawsUptoRow.holds Tryd.pinned (OpenSpec.upto wideLawsSpec)

/-- 'bondstorelaw01.WideSums', WHERE WHAT IT READS IS OF BULK AT MOST 1048576: true; the input reads as it did. -/
def wideSumsUptoRow : OpenClaim := { program := "ytjjlfkbgieloeaadoor", sum := "81df7a0f07843eb40354d4b4ba3868bd4e1978ca6c6cc206e44b843cf93a8936", func := "bondstore/bondstorelaw01.WideSums", spec := "wideSums", inPlace := ["math/bits.Add64", "math/bits.Sub64"], named := ["bondstore/wide.Most", "math/bits.divideError", "math/bits.overflowError"], apart := false, laid := [("bondstore/wide.Most", laid_bondstore_wide_Most)], narrowed := true }
def WideSumsUptoSaid : Prop := wideSumsUptoRow.holds Tryd.pinned (OpenSpec.upto wideSumsSpec)

/-- 'bondstorelaw26.ShelfUnlike', WHERE WHAT IT READS IS OF BULK AT MOST 1048576: true; the input reads as it did. -/
def shelfUnlikeUptoRow : OpenClaim := { program := "ytjjlfkbgieloeaadoor", sum := "81df7a0f07843eb40354d4b4ba3868bd4e1978ca6c6cc206e44b843cf93a8936", func := "bondstore/bondstorelaw26.ShelfUnlike", spec := "shelfUnlike", inPlace := ["internal/bytealg.IndexByteString", "internal/bytealg.IndexString"], named := ["bondstore/wide.Most", "unicode/utf8.first", "unicode/utf8.acceptRanges", "internal/bytealg.MaxLen"], apart := false, laid := [("unicode/utf8.acceptRanges", laid_unicode_utf8_acceptRanges), ("bondstore/wide.Most", laid_bondstore_wide_Most), ("unicode/utf8.first", laid_unicode_utf8_first)], narrowed := true }
def ShelfUnlikeUptoSaid : Prop := shelfUnlikeUptoRow.holds Tryd.pinned (OpenSpec.upto shelfUnlikeSpec)

/-- 'bondstorelaw26.ShelfSites', WHERE WHAT IT READS IS OF BULK AT MOST 1048576: true; the input reads as it did. -/
def shelfSitesUptoRow : OpenClaim := { program := "ytjjlfkbgieloeaadoor", sum := "81df7a0f07843eb40354d4b4ba3868bd4e1978ca6c6cc206e44b843cf93a8936", func := "bondstore/bondstorelaw26.ShelfSites", spec := "shelfSites", inPlace := ["internal/bytealg.IndexByteString", "internal/bytealg.IndexString"], named := ["unicode/utf8.first", "unicode/utf8.acceptRanges", "internal/bytealg.MaxLen"], apart := false, laid := [("unicode/utf8.acceptRanges", laid_unicode_utf8_acceptRanges), ("unicode/utf8.first", laid_unicode_utf8_first)], narrowed := true }
def ShelfSitesUptoSaid : Prop := shelfSitesUptoRow.holds Tryd.pinned (OpenSpec.upto shelfSitesSpec)

/-- 'bondstorelaw26.ShelfIds', WHERE WHAT IT READS IS OF BULK AT MOST 1048576: true; the input reads as it did. -/
def shelfIdsUptoRow : OpenClaim := { program := "ytjjlfkbgieloeaadoor", sum := "81df7a0f07843eb40354d4b4ba3868bd4e1978ca6c6cc206e44b843cf93a8936", func := "bondstore/bondstorelaw26.ShelfIds", spec := "shelfIds", inPlace := ["internal/bytealg.IndexByteString", "internal/bytealg.IndexString"], named := ["unicode/utf8.first", "unicode/utf8.acceptRanges", "internal/bytealg.MaxLen"], apart := false, laid := [("unicode/utf8.acceptRanges", laid_unicode_utf8_acceptRanges), ("unicode/utf8.first", laid_unicode_utf8_first)], narrowed := true }
def ShelfIdsUptoSaid : Prop := shelfIdsUptoRow.holds Tryd.pinned (OpenSpec.upto shelfIdsSpec)

/-- 'bondstorelaw26.ShelfOf', WHERE WHAT IT READS IS OF BULK AT MOST 1048576: true; the input reads as it did. -/
def shelfOfUptoRow : OpenClaim := { program := "ytjjlfkbgieloeaadoor", sum := "81df7a0f07843eb40354d4b4ba3868bd4e1978ca6c6cc206e44b843cf93a8936", func := "bondstore/bondstorelaw26.ShelfOf", spec := "shelfOf", inPlace := ["internal/bytealg.IndexByteString", "internal/bytealg.IndexString"], named := ["unicode/utf8.first", "unicode/utf8.acceptRanges", "internal/bytealg.MaxLen"], apart := false, laid := [("unicode/utf8.acceptRanges", laid_unicode_utf8_acceptRanges), ("unicode/utf8.first", laid_unicode_utf8_first)], narrowed := true }
def ShelfOfUptoSaid : Prop := shelfOfUptoRow.holds Tryd.pinned (OpenSpec.upto shelfOfSpec)

/-- 'bondstorelaw01.WideShows', WHERE WHAT IT READS IS OF BULK AT MOST 1048576: true; the input reads as it did. -/
def wideShowsUptoRow : OpenClaim := { program := "ytjjlfkbgieloeaadoor", sum := "81df7a0f07843eb40354d4b4ba3868bd4e1978ca6c6cc206e44b843cf93a8936", func := "bondstore/bondstorelaw01.WideShows", spec := "wideShows", inPlace := ["math/bits.Add64", "internal/bytealg.IndexByteString", "internal/bytealg.IndexString"], named := ["bondstore/wide.Most", "math/bits.divideError", "math/bits.overflowError", "unicode/utf8.first", "unicode/utf8.acceptRanges", "internal/bytealg.MaxLen"], apart := false, laid := [("unicode/utf8.acceptRanges", laid_unicode_utf8_acceptRanges), ("bondstore/wide.Most", laid_bondstore_wide_Most), ("unicode/utf8.first", laid_unicode_utf8_first)], narrowed := true }
def WideShowsUptoSaid : Prop := wideShowsUptoRow.holds Tryd.pinned (OpenSpec.upto wideShowsSpec)

/-- 'bondstorelaw01.WideParses', WHERE WHAT IT READS IS OF BULK AT MOST 1048576: true; the input reads as it did. -/
def wideParsesUptoRow : OpenClaim := { program := "ytjjlfkbgieloeaadoor", sum := "81df7a0f07843eb40354d4b4ba3868bd4e1978ca6c6cc206e44b843cf93a8936", func := "bondstore/bondstorelaw01.WideParses", spec := "wideParses", inPlace := ["math/bits.Add64", "internal/bytealg.IndexByteString", "internal/bytealg.IndexString"], named := ["bondstore/wide.Most", "math/bits.divideError", "math/bits.overflowError", "unicode/utf8.first", "unicode/utf8.acceptRanges", "internal/bytealg.MaxLen"], apart := false, laid := [("unicode/utf8.acceptRanges", laid_unicode_utf8_acceptRanges), ("bondstore/wide.Most", laid_bondstore_wide_Most), ("unicode/utf8.first", laid_unicode_utf8_first)], narrowed := true }
def WideParsesUptoSaid : Prop := wideParsesUptoRow.holds Tryd.pinned (OpenSpec.upto wideParsesSpec)

/-- 'bondstorelaw26.ShelfTexts', WHERE WHAT IT READS IS OF BULK AT MOST 1048576: true; the input reads as it did. -/
def shelfTextsUptoRow : OpenClaim := { program := "ytjjlfkbgieloeaadoor", sum := "81df7a0f07843eb40354d4b4ba3868bd4e1978ca6c6cc206e44b843cf93a8936", func := "bondstore/bondstorelaw26.ShelfTexts", spec := "shelfTexts", inPlace := ["internal/bytealg.IndexByteString", "internal/bytealg.IndexString"], named := ["unicode/utf8.first", "unicode/utf8.acceptRanges", "internal/bytealg.MaxLen"], apart := false, laid := [("unicode/utf8.acceptRanges", laid_unicode_utf8_acceptRanges), ("unicode/utf8.first", laid_unicode_utf8_first)], narrowed := true }
def ShelfTextsUptoSaid : Prop := shelfTextsUptoRow.holds Tryd.pinned (OpenSpec.upto shelfTextsSpec)

end Rows
end Go.Proofs.YtjjlfkbgieloeaaDoor
