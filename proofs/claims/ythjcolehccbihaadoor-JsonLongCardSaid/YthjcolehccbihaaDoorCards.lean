/-
  DERIVED. GIVEN WITH THE SEED: THE CARDS: each row of YthjcolehccbihaaDoorRows.lean that lists a variable, with what it lists TIED to the program's text (the seventh form; the later family's looks); each row that meets fmt, with fmt's text TOLD by the authors' own Lean function (tested against real Go, not proved from fmt's source: count such statements apart). THE CARD IS WHAT COUNTS. Prove the row's statement (the work); the ties are given (YthjcolehccbihaaDoorTie.lean); close each card by the builder's one call (the guide's Derived/Test/ToyasCard.lean, 'card_holds'). Laid BY PROGRAM, IN A SANDBOX (cutbox-door.mjs). By AI agents, Wed Nov 11 2026. No macro, syntax, notation, axiom, sorry.
-/
import Derived.Test.YthjcolehccbihaaDoorRows
import GoSem.ClaimSeven
namespace Go.Proofs.YthjcolehccbihaaDoor
namespace Rows

/-- THE TIED CARD OF 'exlaw7.JsonLong'. -/
def jsonLongCard : Claim7 := { stood := { row := jsonLongRow, standIns := [], harness := (true, "e5eaff893316b686f4efcae32f7dc78b4efabace5bdca386ecefd9326b887d1c"), looks := true }, kinds := [], alts := [], laidByText := true, laidKinds := [.data, .pinned], laidTests := true, laidLooks := .later }
def JsonLongCardSaid : Prop := Claim7.holds Tryd.pinned (.plain (OpenSpec.ofChange jsonLongSpec)) jsonLongCard

/-- THE TIED CARD OF 'exlaw7.JsonQuotes'. -/
def jsonQuotesCard : Claim7 := { stood := { row := jsonQuotesRow, standIns := [], harness := (true, "e5eaff893316b686f4efcae32f7dc78b4efabace5bdca386ecefd9326b887d1c"), looks := true }, kinds := [], alts := [], laidByText := true, laidKinds := [.data, .pinned], laidTests := true, laidLooks := .later }
def JsonQuotesCardSaid : Prop := Claim7.holds Tryd.pinned (.plain (OpenSpec.ofChange jsonQuotesSpec)) jsonQuotesCard

/-- THE SECOND FORM's CARD OF 'exlaw7.JsonLong'. -/
def jsonLongUptoCard : Claim7 := { stood := { row := jsonLongUptoRow, standIns := [], harness := (true, "e5eaff893316b686f4efcae32f7dc78b4efabace5bdca386ecefd9326b887d1c"), looks := true }, kinds := [], alts := [], laidByText := true, laidKinds := [.data, .pinned], laidTests := true, laidLooks := .later }
def JsonLongUptoCardSaid : Prop := Claim7.holds Tryd.pinned (.plain (OpenSpec.upto jsonLongSpec)) jsonLongUptoCard

/-- THE SECOND FORM's CARD OF 'exlaw7.JsonQuotes'. -/
def jsonQuotesUptoCard : Claim7 := { stood := { row := jsonQuotesUptoRow, standIns := [], harness := (true, "e5eaff893316b686f4efcae32f7dc78b4efabace5bdca386ecefd9326b887d1c"), looks := true }, kinds := [], alts := [], laidByText := true, laidKinds := [.data, .pinned], laidTests := true, laidLooks := .later }
def JsonQuotesUptoCardSaid : Prop := Claim7.holds Tryd.pinned (.plain (OpenSpec.upto jsonQuotesSpec)) jsonQuotesUptoCard
end Rows
end Go.Proofs.YthjcolehccbihaaDoor
