/-
  DERIVED. GIVEN WITH THE SEED: THE CARDS: each row of YtjjdefkaohbmjaaDoorRows.lean that lists a variable, with what it lists TIED to the program's text (the seventh form; the later family's looks); each row that meets fmt, with fmt's text TOLD by the authors' own Lean function (tested against real Go, not proved from fmt's source: count such statements apart). THE CARD IS WHAT COUNTS. Prove the row's statement (the work); the ties are given (YtjjdefkaohbmjaaDoorTie.lean); close each card by the builder's one call (the guide's Derived/Test/ToyasCard.lean, 'card_holds'). Laid BY PROGRAM, IN A SANDBOX (cutbox-door.mjs). By AI agents, Wed Nov 11 2026. No macro, syntax, notation, axiom, sorry.
-/
import Derived.Test.YtjjdefkaohbmjaaDoorRows
import GoSem.ClaimSeven
namespace Go.Proofs.YtjjdefkaohbmjaaDoor
namespace Rows

/-- THE TIED CARD OF 'seisinlaw03.TokenQuotes'. -/
def tokenQuotesCard : Claim7 := { stood := { row := tokenQuotesRow, standIns := [], harness := (true, "c13cc54bf5e29880b33843042215b8e7f8f0c37227c26741350c1eff68acf83b"), looks := false }, kinds := [], alts := [], laidByText := true, laidKinds := [.data, .pinned], laidTests := true, laidLooks := .later }
def TokenQuotesCardSaid : Prop := Claim7.holds Tryd.pinned (.plain (OpenSpec.ofChange tokenQuotesSpec)) tokenQuotesCard

/-- THE TIED CARD OF 'seisinlaw03.TokenMany'. -/
def tokenManyCard : Claim7 := { stood := { row := tokenManyRow, standIns := [], harness := (true, "c13cc54bf5e29880b33843042215b8e7f8f0c37227c26741350c1eff68acf83b"), looks := false }, kinds := [], alts := [], laidByText := true, laidKinds := [.data, .pinned], laidTests := true, laidLooks := .later }
def TokenManyCardSaid : Prop := Claim7.holds Tryd.pinned (.plain (OpenSpec.ofChange tokenManySpec)) tokenManyCard

/-- THE TIED CARD OF 'seisinlaw03.TokenBack'. -/
def tokenBackCard : Claim7 := { stood := { row := tokenBackRow, standIns := [], harness := (true, "c13cc54bf5e29880b33843042215b8e7f8f0c37227c26741350c1eff68acf83b"), looks := false }, kinds := [], alts := [], laidByText := true, laidKinds := [.data, .pinned], laidTests := true, laidLooks := .later }
def TokenBackCardSaid : Prop := Claim7.holds Tryd.pinned (.plain (OpenSpec.ofChange tokenBackSpec)) tokenBackCard

/-- THE TIED CARD OF 'seisinlaw03.TokenBlanks'. -/
def tokenBlanksCard : Claim7 := { stood := { row := tokenBlanksRow, standIns := [], harness := (true, "c13cc54bf5e29880b33843042215b8e7f8f0c37227c26741350c1eff68acf83b"), looks := false }, kinds := [], alts := [], laidByText := true, laidKinds := [.data, .pinned], laidTests := true, laidLooks := .later }
def TokenBlanksCardSaid : Prop := Claim7.holds Tryd.pinned (.plain (OpenSpec.ofChange tokenBlanksSpec)) tokenBlanksCard

/-- THE TIED CARD OF 'seisinlaw03.TokenPlain'. -/
def tokenPlainCard : Claim7 := { stood := { row := tokenPlainRow, standIns := [], harness := (true, "c13cc54bf5e29880b33843042215b8e7f8f0c37227c26741350c1eff68acf83b"), looks := false }, kinds := [], alts := [], laidByText := true, laidKinds := [.data, .pinned], laidTests := true, laidLooks := .later }
def TokenPlainCardSaid : Prop := Claim7.holds Tryd.pinned (.plain (OpenSpec.ofChange tokenPlainSpec)) tokenPlainCard

/-- THE TIED CARD OF 'seisinlaw03.TokenNumbers'. -/
def tokenNumbersCard : Claim7 := { stood := { row := tokenNumbersRow, standIns := [], harness := (true, "c13cc54bf5e29880b33843042215b8e7f8f0c37227c26741350c1eff68acf83b"), looks := false }, kinds := [], alts := [], laidByText := true, laidKinds := [.data, .pinned], laidTests := true, laidLooks := .later }
def TokenNumbersCardSaid : Prop := Claim7.holds Tryd.pinned (.plain (OpenSpec.ofChange tokenNumbersSpec)) tokenNumbersCard

/-- THE TIED CARD OF 'seisinlaw03.TokenJoins'. -/
def tokenJoinsCard : Claim7 := { stood := { row := tokenJoinsRow, standIns := [], harness := (true, "c13cc54bf5e29880b33843042215b8e7f8f0c37227c26741350c1eff68acf83b"), looks := false }, kinds := [], alts := [], laidByText := true, laidKinds := [.data, .pinned], laidTests := true, laidLooks := .later }
def TokenJoinsCardSaid : Prop := Claim7.holds Tryd.pinned (.plain (OpenSpec.ofChange tokenJoinsSpec)) tokenJoinsCard

/-- THE TIED CARD OF 'seisinlaw03.TokenBehind'. -/
def tokenBehindCard : Claim7 := { stood := { row := tokenBehindRow, standIns := [], harness := (true, "c13cc54bf5e29880b33843042215b8e7f8f0c37227c26741350c1eff68acf83b"), looks := false }, kinds := [], alts := [], laidByText := true, laidKinds := [.data, .pinned], laidTests := true, laidLooks := .later }
def TokenBehindCardSaid : Prop := Claim7.holds Tryd.pinned (.plain (OpenSpec.ofChange tokenBehindSpec)) tokenBehindCard

/-- THE SECOND FORM's CARD OF 'seisinlaw03.TokenQuotes'. -/
def tokenQuotesUptoCard : Claim7 := { stood := { row := tokenQuotesUptoRow, standIns := [], harness := (true, "c13cc54bf5e29880b33843042215b8e7f8f0c37227c26741350c1eff68acf83b"), looks := false }, kinds := [], alts := [], laidByText := true, laidKinds := [.data, .pinned], laidTests := true, laidLooks := .later }
def TokenQuotesUptoCardSaid : Prop := Claim7.holds Tryd.pinned (.plain (OpenSpec.upto tokenQuotesSpec)) tokenQuotesUptoCard

/-- THE SECOND FORM's CARD OF 'seisinlaw03.TokenMany'. -/
def tokenManyUptoCard : Claim7 := { stood := { row := tokenManyUptoRow, standIns := [], harness := (true, "c13cc54bf5e29880b33843042215b8e7f8f0c37227c26741350c1eff68acf83b"), looks := false }, kinds := [], alts := [], laidByText := true, laidKinds := [.data, .pinned], laidTests := true, laidLooks := .later }
def TokenManyUptoCardSaid : Prop := Claim7.holds Tryd.pinned (.plain (OpenSpec.upto tokenManySpec)) tokenManyUptoCard

/-- THE SECOND FORM's CARD OF 'seisinlaw03.TokenBack'. -/
def tokenBackUptoCard : Claim7 := { stood := { row := tokenBackUptoRow, standIns := [], harness := (true, "c13cc54bf5e29880b33843042215b8e7f8f0c37227c26741350c1eff68acf83b"), looks := false }, kinds := [], alts := [], laidByText := true, laidKinds := [.data, .pinned], laidTests := true, laidLooks := .later }
def TokenBackUptoCardSaid : Prop := Claim7.holds Tryd.pinned (.plain (OpenSpec.upto tokenBackSpec)) tokenBackUptoCard

/-- THE SECOND FORM's CARD OF 'seisinlaw03.TokenBlanks'. -/
def tokenBlanksUptoCard : Claim7 := { stood := { row := tokenBlanksUptoRow, standIns := [], harness := (true, "c13cc54bf5e29880b33843042215b8e7f8f0c37227c26741350c1eff68acf83b"), looks := false }, kinds := [], alts := [], laidByText := true, laidKinds := [.data, .pinned], laidTests := true, laidLooks := .later }
def TokenBlanksUptoCardSaid : Prop := Claim7.holds Tryd.pinned (.plain (OpenSpec.upto tokenBlanksSpec)) tokenBlanksUptoCard

/-- THE SECOND FORM's CARD OF 'seisinlaw03.TokenPlain'. -/
def tokenPlainUptoCard : Claim7 := { stood := { row := tokenPlainUptoRow, standIns := [], harness := (true, "c13cc54bf5e29880b33843042215b8e7f8f0c37227c26741350c1eff68acf83b"), looks := false }, kinds := [], alts := [], laidByText := true, laidKinds := [.data, .pinned], laidTests := true, laidLooks := .later }
def TokenPlainUptoCardSaid : Prop := Claim7.holds Tryd.pinned (.plain (OpenSpec.upto tokenPlainSpec)) tokenPlainUptoCard

/-- THE SECOND FORM's CARD OF 'seisinlaw03.TokenNumbers'. -/
def tokenNumbersUptoCard : Claim7 := { stood := { row := tokenNumbersUptoRow, standIns := [], harness := (true, "c13cc54bf5e29880b33843042215b8e7f8f0c37227c26741350c1eff68acf83b"), looks := false }, kinds := [], alts := [], laidByText := true, laidKinds := [.data, .pinned], laidTests := true, laidLooks := .later }
def TokenNumbersUptoCardSaid : Prop := Claim7.holds Tryd.pinned (.plain (OpenSpec.upto tokenNumbersSpec)) tokenNumbersUptoCard

/-- THE SECOND FORM's CARD OF 'seisinlaw03.TokenJoins'. -/
def tokenJoinsUptoCard : Claim7 := { stood := { row := tokenJoinsUptoRow, standIns := [], harness := (true, "c13cc54bf5e29880b33843042215b8e7f8f0c37227c26741350c1eff68acf83b"), looks := false }, kinds := [], alts := [], laidByText := true, laidKinds := [.data, .pinned], laidTests := true, laidLooks := .later }
def TokenJoinsUptoCardSaid : Prop := Claim7.holds Tryd.pinned (.plain (OpenSpec.upto tokenJoinsSpec)) tokenJoinsUptoCard

/-- THE SECOND FORM's CARD OF 'seisinlaw03.TokenBehind'. -/
def tokenBehindUptoCard : Claim7 := { stood := { row := tokenBehindUptoRow, standIns := [], harness := (true, "c13cc54bf5e29880b33843042215b8e7f8f0c37227c26741350c1eff68acf83b"), looks := false }, kinds := [], alts := [], laidByText := true, laidKinds := [.data, .pinned], laidTests := true, laidLooks := .later }
def TokenBehindUptoCardSaid : Prop := Claim7.holds Tryd.pinned (.plain (OpenSpec.upto tokenBehindSpec)) tokenBehindUptoCard
end Rows
end Go.Proofs.YtjjdefkaohbmjaaDoor
