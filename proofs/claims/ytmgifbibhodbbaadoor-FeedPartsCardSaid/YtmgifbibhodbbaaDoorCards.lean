/-
  DERIVED. GIVEN WITH THE SEED: THE CARDS: each row of YtmgifbibhodbbaaDoorRows.lean that lists a variable, with what it lists TIED to the program's text (the seventh form; the later family's looks); each row that meets fmt, with fmt's text TOLD by the authors' own Lean function (tested against real Go, not proved from fmt's source: count such statements apart). THE CARD IS WHAT COUNTS. Prove the row's statement (the work); the ties are given (YtmgifbibhodbbaaDoorTie.lean); close each card by the builder's one call (the guide's Derived/Test/ToyasCard.lean, 'card_holds'). Laid BY PROGRAM, IN A SANDBOX (cutbox-door.mjs). By AI agents, Wed Nov 11 2026. No macro, syntax, notation, axiom, sorry.
-/
import Derived.Test.YtmgifbibhodbbaaDoorRows
import GoSem.ClaimSeven
namespace Go.Proofs.YtmgifbibhodbbaaDoor
namespace Rows

/-- THE TIED CARD OF 'postchaiselaw12.TokenGivesUp'. -/
def tokenGivesUpCard : Claim7 := { stood := { row := tokenGivesUpRow, standIns := [], harness := (true, "b281be568e000af4ef3b29cf132faf8ff1fbbe1d7a9d534f32718a25d58c6af5"), looks := true }, kinds := [], alts := [], laidByText := true, laidKinds := [.data, .data, .data, .sentinel, .sentinel], laidTests := true, laidLooks := .later }
def TokenGivesUpCardSaid : Prop := Claim7.holds Tryd.pinned (.plain (OpenSpec.ofChange tokenGivesUpSpec)) tokenGivesUpCard

/-- THE TIED CARD OF 'postchaiselaw12.TokenReads'. -/
def tokenReadsCard : Claim7 := { stood := { row := tokenReadsRow, standIns := [], harness := (true, "b281be568e000af4ef3b29cf132faf8ff1fbbe1d7a9d534f32718a25d58c6af5"), looks := true }, kinds := [], alts := [], laidByText := true, laidKinds := [.data, .data, .data, .sentinel, .sentinel], laidTests := true, laidLooks := .later }
def TokenReadsCardSaid : Prop := Claim7.holds Tryd.pinned (.plain (OpenSpec.ofChange tokenReadsSpec)) tokenReadsCard

/-- THE TIED CARD OF 'postchaiselaw16.FeedParts'. -/
def feedPartsCard : Claim7 := { stood := { row := feedPartsRow, standIns := [], harness := (true, "b281be568e000af4ef3b29cf132faf8ff1fbbe1d7a9d534f32718a25d58c6af5"), looks := true }, kinds := [], alts := [], laidByText := true, laidKinds := [.data, .data, .data, .sentinel, .sentinel], laidTests := true, laidLooks := .later }
def FeedPartsCardSaid : Prop := Claim7.holds Tryd.pinned (.plain (OpenSpec.ofChange feedPartsSpec)) feedPartsCard

/-- THE TIED CARD OF 'postchaiselaw12.TokenQuotes'. -/
def tokenQuotesCard : Claim7 := { stood := { row := tokenQuotesRow, standIns := [], harness := (true, "b281be568e000af4ef3b29cf132faf8ff1fbbe1d7a9d534f32718a25d58c6af5"), looks := true }, kinds := [], alts := [], laidByText := true, laidKinds := [.data, .data, .data, .sentinel, .sentinel], laidTests := true, laidLooks := .later }
def TokenQuotesCardSaid : Prop := Claim7.holds Tryd.pinned (.plain (OpenSpec.ofChange tokenQuotesSpec)) tokenQuotesCard

/-- THE TIED CARD OF 'postchaiselaw12.TokenBack'. -/
def tokenBackCard : Claim7 := { stood := { row := tokenBackRow, standIns := [], harness := (true, "b281be568e000af4ef3b29cf132faf8ff1fbbe1d7a9d534f32718a25d58c6af5"), looks := true }, kinds := [], alts := [], laidByText := true, laidKinds := [.data, .data, .data, .sentinel, .sentinel], laidTests := true, laidLooks := .later }
def TokenBackCardSaid : Prop := Claim7.holds Tryd.pinned (.plain (OpenSpec.ofChange tokenBackSpec)) tokenBackCard

/-- THE SECOND FORM's CARD OF 'postchaiselaw12.TokenGivesUp'. -/
def tokenGivesUpUptoCard : Claim7 := { stood := { row := tokenGivesUpUptoRow, standIns := [], harness := (true, "b281be568e000af4ef3b29cf132faf8ff1fbbe1d7a9d534f32718a25d58c6af5"), looks := true }, kinds := [], alts := [], laidByText := true, laidKinds := [.data, .data, .data, .sentinel, .sentinel], laidTests := true, laidLooks := .later }
def TokenGivesUpUptoCardSaid : Prop := Claim7.holds Tryd.pinned (.plain (OpenSpec.upto tokenGivesUpSpec)) tokenGivesUpUptoCard

/-- THE SECOND FORM's CARD OF 'postchaiselaw12.TokenReads'. -/
def tokenReadsUptoCard : Claim7 := { stood := { row := tokenReadsUptoRow, standIns := [], harness := (true, "b281be568e000af4ef3b29cf132faf8ff1fbbe1d7a9d534f32718a25d58c6af5"), looks := true }, kinds := [], alts := [], laidByText := true, laidKinds := [.data, .data, .data, .sentinel, .sentinel], laidTests := true, laidLooks := .later }
def TokenReadsUptoCardSaid : Prop := Claim7.holds Tryd.pinned (.plain (OpenSpec.upto tokenReadsSpec)) tokenReadsUptoCard

/-- THE SECOND FORM's CARD OF 'postchaiselaw16.FeedParts'. -/
def feedPartsUptoCard : Claim7 := { stood := { row := feedPartsUptoRow, standIns := [], harness := (true, "b281be568e000af4ef3b29cf132faf8ff1fbbe1d7a9d534f32718a25d58c6af5"), looks := true }, kinds := [], alts := [], laidByText := true, laidKinds := [.data, .data, .data, .sentinel, .sentinel], laidTests := true, laidLooks := .later }
def FeedPartsUptoCardSaid : Prop := Claim7.holds Tryd.pinned (.plain (OpenSpec.upto feedPartsSpec)) feedPartsUptoCard

/-- THE SECOND FORM's CARD OF 'postchaiselaw12.TokenQuotes'. -/
def tokenQuotesUptoCard : Claim7 := { stood := { row := tokenQuotesUptoRow, standIns := [], harness := (true, "b281be568e000af4ef3b29cf132faf8ff1fbbe1d7a9d534f32718a25d58c6af5"), looks := true }, kinds := [], alts := [], laidByText := true, laidKinds := [.data, .data, .data, .sentinel, .sentinel], laidTests := true, laidLooks := .later }
def TokenQuotesUptoCardSaid : Prop := Claim7.holds Tryd.pinned (.plain (OpenSpec.upto tokenQuotesSpec)) tokenQuotesUptoCard

/-- THE SECOND FORM's CARD OF 'postchaiselaw12.TokenBack'. -/
def tokenBackUptoCard : Claim7 := { stood := { row := tokenBackUptoRow, standIns := [], harness := (true, "b281be568e000af4ef3b29cf132faf8ff1fbbe1d7a9d534f32718a25d58c6af5"), looks := true }, kinds := [], alts := [], laidByText := true, laidKinds := [.data, .data, .data, .sentinel, .sentinel], laidTests := true, laidLooks := .later }
def TokenBackUptoCardSaid : Prop := Claim7.holds Tryd.pinned (.plain (OpenSpec.upto tokenBackSpec)) tokenBackUptoCard
end Rows
end Go.Proofs.YtmgifbibhodbbaaDoor
