/-
  DERIVED. GIVEN WITH THE SEED: THE CARDS: each row of YtnamnldijopkfaaDoorRows.lean that lists a variable, with what it lists TIED to the program's text (the seventh form; the later family's looks); each row that meets fmt, with fmt's text TOLD by the authors' own Lean function (tested against real Go, not proved from fmt's source: count such statements apart). THE CARD IS WHAT COUNTS. Prove the row's statement (the work); the ties are given (YtnamnldijopkfaaDoorTie.lean); close each card by the builder's one call (the guide's Derived/Test/ToyasCard.lean, 'card_holds'). Laid BY PROGRAM, IN A SANDBOX (cutbox-door.mjs). By AI agents, Wed Nov 11 2026. No macro, syntax, notation, axiom, sorry.
-/
import Derived.Test.YtnamnldijopkfaaDoorRows
import GoSem.ClaimSeven
namespace Go.Proofs.YtnamnldijopkfaaDoor
namespace Rows

/-- THE TIED CARD OF 'casuistlaw15.RunesWhole'. -/
def runesWholeCard : Claim7 := { stood := { row := runesWholeRow, standIns := [], harness := (true, "d8a0d82ffa7e1f7b5c860bc5a1938785a058bbef6e7daae7d94aa581549a8e7d"), looks := false }, kinds := [], alts := [], laidByText := true, laidKinds := [.data, .pinned], laidTests := true, laidLooks := .later }
def RunesWholeCardSaid : Prop := Claim7.holds Tryd.pinned (.plain (OpenSpec.ofChange runesWholeSpec)) runesWholeCard

/-- THE TIED CARD OF 'casuistlaw15.RunesSigns'. -/
def runesSignsCard : Claim7 := { stood := { row := runesSignsRow, standIns := [], harness := (true, "d8a0d82ffa7e1f7b5c860bc5a1938785a058bbef6e7daae7d94aa581549a8e7d"), looks := false }, kinds := [], alts := [], laidByText := true, laidKinds := [.data, .pinned], laidTests := true, laidLooks := .later }
def RunesSignsCardSaid : Prop := Claim7.holds Tryd.pinned (.plain (OpenSpec.ofChange runesSignsSpec)) runesSignsCard

/-- THE TIED CARD OF 'casuistlaw15.RunesChange'. -/
def runesChangeCard : Claim7 := { stood := { row := runesChangeRow, standIns := [], harness := (true, "d8a0d82ffa7e1f7b5c860bc5a1938785a058bbef6e7daae7d94aa581549a8e7d"), looks := false }, kinds := [], alts := [], laidByText := true, laidKinds := [.data, .pinned], laidTests := true, laidLooks := .later }
def RunesChangeCardSaid : Prop := Claim7.holds Tryd.pinned (.plain (OpenSpec.ofChange runesChangeSpec)) runesChangeCard

/-- THE TIED CARD OF 'casuistlaw15.RunesParts'. -/
def runesPartsCard : Claim7 := { stood := { row := runesPartsRow, standIns := [], harness := (true, "d8a0d82ffa7e1f7b5c860bc5a1938785a058bbef6e7daae7d94aa581549a8e7d"), looks := false }, kinds := [], alts := [], laidByText := true, laidKinds := [.data, .pinned], laidTests := true, laidLooks := .later }
def RunesPartsCardSaid : Prop := Claim7.holds Tryd.pinned (.plain (OpenSpec.ofChange runesPartsSpec)) runesPartsCard

/-- THE TIED CARD OF 'casuistlaw16.LexWhole'. -/
def lexWholeCard : Claim7 := { stood := { row := lexWholeRow, standIns := [], harness := (true, "d8a0d82ffa7e1f7b5c860bc5a1938785a058bbef6e7daae7d94aa581549a8e7d"), looks := false }, kinds := [], alts := [], laidByText := true, laidKinds := [.data, .pinned], laidTests := true, laidLooks := .later }
def LexWholeCardSaid : Prop := Claim7.holds Tryd.pinned (.plain (OpenSpec.ofChange lexWholeSpec)) lexWholeCard

/-- THE TIED CARD OF 'casuistlaw16.LexSpaces'. -/
def lexSpacesCard : Claim7 := { stood := { row := lexSpacesRow, standIns := [], harness := (true, "d8a0d82ffa7e1f7b5c860bc5a1938785a058bbef6e7daae7d94aa581549a8e7d"), looks := false }, kinds := [], alts := [], laidByText := true, laidKinds := [.data, .pinned], laidTests := true, laidLooks := .later }
def LexSpacesCardSaid : Prop := Claim7.holds Tryd.pinned (.plain (OpenSpec.ofChange lexSpacesSpec)) lexSpacesCard

/-- THE TIED CARD OF 'casuistlaw16.LexWords'. -/
def lexWordsCard : Claim7 := { stood := { row := lexWordsRow, standIns := [], harness := (true, "d8a0d82ffa7e1f7b5c860bc5a1938785a058bbef6e7daae7d94aa581549a8e7d"), looks := false }, kinds := [], alts := [], laidByText := true, laidKinds := [.data, .pinned], laidTests := true, laidLooks := .later }
def LexWordsCardSaid : Prop := Claim7.holds Tryd.pinned (.plain (OpenSpec.ofChange lexWordsSpec)) lexWordsCard

/-- THE TIED CARD OF 'casuistlaw16.LexQuotes'. -/
def lexQuotesCard : Claim7 := { stood := { row := lexQuotesRow, standIns := [], harness := (true, "d8a0d82ffa7e1f7b5c860bc5a1938785a058bbef6e7daae7d94aa581549a8e7d"), looks := false }, kinds := [], alts := [], laidByText := true, laidKinds := [.data, .pinned], laidTests := true, laidLooks := .later }
def LexQuotesCardSaid : Prop := Claim7.holds Tryd.pinned (.plain (OpenSpec.ofChange lexQuotesSpec)) lexQuotesCard

/-- THE TIED CARD OF 'casuistlaw17.NameBack'. -/
def nameBackCard : Claim7 := { stood := { row := nameBackRow, standIns := [], harness := (true, "d8a0d82ffa7e1f7b5c860bc5a1938785a058bbef6e7daae7d94aa581549a8e7d"), looks := false }, kinds := [], alts := [], laidByText := true, laidKinds := [.data, .pinned], laidTests := true, laidLooks := .later }
def NameBackCardSaid : Prop := Claim7.holds Tryd.pinned (.plain (OpenSpec.ofChange nameBackSpec)) nameBackCard

/-- THE TIED CARD OF 'casuistlaw17.NameScopes'. -/
def nameScopesCard : Claim7 := { stood := { row := nameScopesRow, standIns := [], harness := (true, "d8a0d82ffa7e1f7b5c860bc5a1938785a058bbef6e7daae7d94aa581549a8e7d"), looks := false }, kinds := [], alts := [], laidByText := true, laidKinds := [.data, .pinned], laidTests := true, laidLooks := .later }
def NameScopesCardSaid : Prop := Claim7.holds Tryd.pinned (.plain (OpenSpec.ofChange nameScopesSpec)) nameScopesCard

/-- THE TIED CARD OF 'casuistlaw17.NameMatches'. -/
def nameMatchesCard : Claim7 := { stood := { row := nameMatchesRow, standIns := [], harness := (true, "d8a0d82ffa7e1f7b5c860bc5a1938785a058bbef6e7daae7d94aa581549a8e7d"), looks := false }, kinds := [], alts := [], laidByText := true, laidKinds := [.data, .listed, .data, .pinned], laidTests := true, laidLooks := .later }
def NameMatchesCardSaid : Prop := Claim7.holds Tryd.pinned (.plain (OpenSpec.ofChange nameMatchesSpec)) nameMatchesCard

/-- THE TIED CARD OF 'casuistlaw17.NameGiven'. -/
def nameGivenCard : Claim7 := { stood := { row := nameGivenRow, standIns := [], harness := (true, "d8a0d82ffa7e1f7b5c860bc5a1938785a058bbef6e7daae7d94aa581549a8e7d"), looks := false }, kinds := [], alts := [], laidByText := true, laidKinds := [.data, .listed, .data, .pinned], laidTests := true, laidLooks := .later }
def NameGivenCardSaid : Prop := Claim7.holds Tryd.pinned (.plain (OpenSpec.ofChange nameGivenSpec)) nameGivenCard

/-- THE TIED CARD OF 'casuistlaw17.NameReads'. -/
def nameReadsCard : Claim7 := { stood := { row := nameReadsRow, standIns := [], harness := (true, "d8a0d82ffa7e1f7b5c860bc5a1938785a058bbef6e7daae7d94aa581549a8e7d"), looks := false }, kinds := [], alts := [], laidByText := true, laidKinds := [.data, .listed, .data, .pinned], laidTests := true, laidLooks := .later }
def NameReadsCardSaid : Prop := Claim7.holds Tryd.pinned (.plain (OpenSpec.ofChange nameReadsSpec)) nameReadsCard

/-- THE SECOND FORM's CARD OF 'casuistlaw15.RunesWhole'. -/
def runesWholeUptoCard : Claim7 := { stood := { row := runesWholeUptoRow, standIns := [], harness := (true, "d8a0d82ffa7e1f7b5c860bc5a1938785a058bbef6e7daae7d94aa581549a8e7d"), looks := false }, kinds := [], alts := [], laidByText := true, laidKinds := [.data, .pinned], laidTests := true, laidLooks := .later }
def RunesWholeUptoCardSaid : Prop := Claim7.holds Tryd.pinned (.plain (OpenSpec.upto runesWholeSpec)) runesWholeUptoCard

/-- THE SECOND FORM's CARD OF 'casuistlaw15.RunesSigns'. -/
def runesSignsUptoCard : Claim7 := { stood := { row := runesSignsUptoRow, standIns := [], harness := (true, "d8a0d82ffa7e1f7b5c860bc5a1938785a058bbef6e7daae7d94aa581549a8e7d"), looks := false }, kinds := [], alts := [], laidByText := true, laidKinds := [.data, .pinned], laidTests := true, laidLooks := .later }
def RunesSignsUptoCardSaid : Prop := Claim7.holds Tryd.pinned (.plain (OpenSpec.upto runesSignsSpec)) runesSignsUptoCard

/-- THE SECOND FORM's CARD OF 'casuistlaw15.RunesChange'. -/
def runesChangeUptoCard : Claim7 := { stood := { row := runesChangeUptoRow, standIns := [], harness := (true, "d8a0d82ffa7e1f7b5c860bc5a1938785a058bbef6e7daae7d94aa581549a8e7d"), looks := false }, kinds := [], alts := [], laidByText := true, laidKinds := [.data, .pinned], laidTests := true, laidLooks := .later }
def RunesChangeUptoCardSaid : Prop := Claim7.holds Tryd.pinned (.plain (OpenSpec.upto runesChangeSpec)) runesChangeUptoCard

/-- THE SECOND FORM's CARD OF 'casuistlaw15.RunesParts'. -/
def runesPartsUptoCard : Claim7 := { stood := { row := runesPartsUptoRow, standIns := [], harness := (true, "d8a0d82ffa7e1f7b5c860bc5a1938785a058bbef6e7daae7d94aa581549a8e7d"), looks := false }, kinds := [], alts := [], laidByText := true, laidKinds := [.data, .pinned], laidTests := true, laidLooks := .later }
def RunesPartsUptoCardSaid : Prop := Claim7.holds Tryd.pinned (.plain (OpenSpec.upto runesPartsSpec)) runesPartsUptoCard

/-- THE SECOND FORM's CARD OF 'casuistlaw16.LexWhole'. -/
def lexWholeUptoCard : Claim7 := { stood := { row := lexWholeUptoRow, standIns := [], harness := (true, "d8a0d82ffa7e1f7b5c860bc5a1938785a058bbef6e7daae7d94aa581549a8e7d"), looks := false }, kinds := [], alts := [], laidByText := true, laidKinds := [.data, .pinned], laidTests := true, laidLooks := .later }
def LexWholeUptoCardSaid : Prop := Claim7.holds Tryd.pinned (.plain (OpenSpec.upto lexWholeSpec)) lexWholeUptoCard

/-- THE SECOND FORM's CARD OF 'casuistlaw16.LexSpaces'. -/
def lexSpacesUptoCard : Claim7 := { stood := { row := lexSpacesUptoRow, standIns := [], harness := (true, "d8a0d82ffa7e1f7b5c860bc5a1938785a058bbef6e7daae7d94aa581549a8e7d"), looks := false }, kinds := [], alts := [], laidByText := true, laidKinds := [.data, .pinned], laidTests := true, laidLooks := .later }
def LexSpacesUptoCardSaid : Prop := Claim7.holds Tryd.pinned (.plain (OpenSpec.upto lexSpacesSpec)) lexSpacesUptoCard

/-- THE SECOND FORM's CARD OF 'casuistlaw16.LexWords'. -/
def lexWordsUptoCard : Claim7 := { stood := { row := lexWordsUptoRow, standIns := [], harness := (true, "d8a0d82ffa7e1f7b5c860bc5a1938785a058bbef6e7daae7d94aa581549a8e7d"), looks := false }, kinds := [], alts := [], laidByText := true, laidKinds := [.data, .pinned], laidTests := true, laidLooks := .later }
def LexWordsUptoCardSaid : Prop := Claim7.holds Tryd.pinned (.plain (OpenSpec.upto lexWordsSpec)) lexWordsUptoCard

/-- THE SECOND FORM's CARD OF 'casuistlaw16.LexQuotes'. -/
def lexQuotesUptoCard : Claim7 := { stood := { row := lexQuotesUptoRow, standIns := [], harness := (true, "d8a0d82ffa7e1f7b5c860bc5a1938785a058bbef6e7daae7d94aa581549a8e7d"), looks := false }, kinds := [], alts := [], laidByText := true, laidKinds := [.data, .pinned], laidTests := true, laidLooks := .later }
def LexQuotesUptoCardSaid : Prop := Claim7.holds Tryd.pinned (.plain (OpenSpec.upto lexQuotesSpec)) lexQuotesUptoCard

/-- THE SECOND FORM's CARD OF 'casuistlaw17.NameBack'. -/
def nameBackUptoCard : Claim7 := { stood := { row := nameBackUptoRow, standIns := [], harness := (true, "d8a0d82ffa7e1f7b5c860bc5a1938785a058bbef6e7daae7d94aa581549a8e7d"), looks := false }, kinds := [], alts := [], laidByText := true, laidKinds := [.data, .pinned], laidTests := true, laidLooks := .later }
def NameBackUptoCardSaid : Prop := Claim7.holds Tryd.pinned (.plain (OpenSpec.upto nameBackSpec)) nameBackUptoCard

/-- THE SECOND FORM's CARD OF 'casuistlaw17.NameScopes'. -/
def nameScopesUptoCard : Claim7 := { stood := { row := nameScopesUptoRow, standIns := [], harness := (true, "d8a0d82ffa7e1f7b5c860bc5a1938785a058bbef6e7daae7d94aa581549a8e7d"), looks := false }, kinds := [], alts := [], laidByText := true, laidKinds := [.data, .pinned], laidTests := true, laidLooks := .later }
def NameScopesUptoCardSaid : Prop := Claim7.holds Tryd.pinned (.plain (OpenSpec.upto nameScopesSpec)) nameScopesUptoCard

/-- THE SECOND FORM's CARD OF 'casuistlaw17.NameMatches'. -/
def nameMatchesUptoCard : Claim7 := { stood := { row := nameMatchesUptoRow, standIns := [], harness := (true, "d8a0d82ffa7e1f7b5c860bc5a1938785a058bbef6e7daae7d94aa581549a8e7d"), looks := false }, kinds := [], alts := [], laidByText := true, laidKinds := [.data, .listed, .data, .pinned], laidTests := true, laidLooks := .later }
def NameMatchesUptoCardSaid : Prop := Claim7.holds Tryd.pinned (.plain (OpenSpec.upto nameMatchesSpec)) nameMatchesUptoCard

/-- THE SECOND FORM's CARD OF 'casuistlaw17.NameGiven'. -/
def nameGivenUptoCard : Claim7 := { stood := { row := nameGivenUptoRow, standIns := [], harness := (true, "d8a0d82ffa7e1f7b5c860bc5a1938785a058bbef6e7daae7d94aa581549a8e7d"), looks := false }, kinds := [], alts := [], laidByText := true, laidKinds := [.data, .listed, .data, .pinned], laidTests := true, laidLooks := .later }
def NameGivenUptoCardSaid : Prop := Claim7.holds Tryd.pinned (.plain (OpenSpec.upto nameGivenSpec)) nameGivenUptoCard

/-- THE SECOND FORM's CARD OF 'casuistlaw17.NameReads'. -/
def nameReadsUptoCard : Claim7 := { stood := { row := nameReadsUptoRow, standIns := [], harness := (true, "d8a0d82ffa7e1f7b5c860bc5a1938785a058bbef6e7daae7d94aa581549a8e7d"), looks := false }, kinds := [], alts := [], laidByText := true, laidKinds := [.data, .listed, .data, .pinned], laidTests := true, laidLooks := .later }
def NameReadsUptoCardSaid : Prop := Claim7.holds Tryd.pinned (.plain (OpenSpec.upto nameReadsSpec)) nameReadsUptoCard
end Rows
end Go.Proofs.YtnamnldijopkfaaDoor
