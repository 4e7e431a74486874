/-
  DERIVED. GIVEN WITH THE SEED: THE CARDS: each row of YthifdcakhdckfaaDoorRows.lean that lists a variable, with what it lists TIED to the program's text (the seventh form; the later family's looks); each row that meets fmt, with fmt's text TOLD by the authors' own Lean function (tested against real Go, not proved from fmt's source: count such statements apart). THE CARD IS WHAT COUNTS. Prove the row's statement (the work); the ties are given (YthifdcakhdckfaaDoorTie.lean); close each card by the builder's one call (the guide's Derived/Test/ToyasCard.lean, 'card_holds'). Laid BY PROGRAM, IN A SANDBOX (cutbox-door.mjs). By AI agents, Wed Nov 11 2026. No macro, syntax, notation, axiom, sorry.
-/
import Derived.Test.YthifdcakhdckfaaDoorRows
import GoSem.ClaimSeven
namespace Go.Proofs.YthifdcakhdckfaaDoor
namespace Rows

/-- THE TIED CARD OF 'burintop.TopCalls'. -/
def topCallsCard : Claim7 := { stood := { row := topCallsRow, standIns := [], harness := (true, "a229862d8c47950716e15713c6441af9e795b00c511ff1ddb30d128445cc7f23"), looks := false }, kinds := [], alts := [], laidByText := true, laidKinds := [.data, .data, .data, .data], laidTests := true, laidLooks := .later }
def TopCallsCardSaid : Prop := Claim7.holds Tryd.pinned (.plain (OpenSpec.ofChange topCallsSpec)) topCallsCard

/-- THE TIED CARD OF 'burinlaw03.MacroReads'. -/
def macroReadsCard : Claim7 := { stood := { row := macroReadsRow, standIns := [], harness := (true, "a229862d8c47950716e15713c6441af9e795b00c511ff1ddb30d128445cc7f23"), looks := false }, kinds := [], alts := [], laidByText := true, laidKinds := [.data], laidTests := true, laidLooks := .later }
def MacroReadsCardSaid : Prop := Claim7.holds Tryd.pinned (.plain (OpenSpec.ofChange macroReadsSpec)) macroReadsCard

/-- THE TIED CARD OF 'burinlaw03.MacroWords'. -/
def macroWordsCard : Claim7 := { stood := { row := macroWordsRow, standIns := [], harness := (true, "a229862d8c47950716e15713c6441af9e795b00c511ff1ddb30d128445cc7f23"), looks := false }, kinds := [], alts := [], laidByText := true, laidKinds := [.data], laidTests := true, laidLooks := .later }
def MacroWordsCardSaid : Prop := Claim7.holds Tryd.pinned (.plain (OpenSpec.ofChange macroWordsSpec)) macroWordsCard

/-- THE TIED CARD OF 'burinlaw03.MacroBack'. -/
def macroBackCard : Claim7 := { stood := { row := macroBackRow, standIns := [], harness := (true, "a229862d8c47950716e15713c6441af9e795b00c511ff1ddb30d128445cc7f23"), looks := false }, kinds := [], alts := [], laidByText := true, laidKinds := [.data], laidTests := true, laidLooks := .later }
def MacroBackCardSaid : Prop := Claim7.holds Tryd.pinned (.plain (OpenSpec.ofChange macroBackSpec)) macroBackCard

/-- THE TIED CARD OF 'burinlaw03.MacroKeeps'. -/
def macroKeepsCard : Claim7 := { stood := { row := macroKeepsRow, standIns := [], harness := (true, "a229862d8c47950716e15713c6441af9e795b00c511ff1ddb30d128445cc7f23"), looks := false }, kinds := [], alts := [], laidByText := true, laidKinds := [.data], laidTests := true, laidLooks := .later }
def MacroKeepsCardSaid : Prop := Claim7.holds Tryd.pinned (.plain (OpenSpec.ofChange macroKeepsSpec)) macroKeepsCard

/-- THE TIED CARD OF 'burinlaw19.MachMore'. -/
def machMoreCard : Claim7 := { stood := { row := machMoreRow, standIns := [], harness := (true, "a229862d8c47950716e15713c6441af9e795b00c511ff1ddb30d128445cc7f23"), looks := false }, kinds := [], alts := [], laidByText := true, laidKinds := [.data, .data, .data, .data], laidTests := true, laidLooks := .later }
def MachMoreCardSaid : Prop := Claim7.holds Tryd.pinned (.plain (OpenSpec.ofChange machMoreSpec)) machMoreCard

/-- THE TIED CARD OF 'burinlaw18.AllocMeets'. -/
def allocMeetsCard : Claim7 := { stood := { row := allocMeetsRow, standIns := [], harness := (true, "a229862d8c47950716e15713c6441af9e795b00c511ff1ddb30d128445cc7f23"), looks := false }, kinds := [], alts := [], laidByText := true, laidKinds := [.data, .data], laidTests := true, laidLooks := .later }
def AllocMeetsCardSaid : Prop := Claim7.holds Tryd.pinned (.plain (OpenSpec.ofChange allocMeetsSpec)) allocMeetsCard

/-- THE TIED CARD OF 'burinlaw18.AllocApart'. -/
def allocApartCard : Claim7 := { stood := { row := allocApartRow, standIns := [], harness := (true, "a229862d8c47950716e15713c6441af9e795b00c511ff1ddb30d128445cc7f23"), looks := false }, kinds := [], alts := [], laidByText := true, laidKinds := [.data, .data], laidTests := true, laidLooks := .later }
def AllocApartCardSaid : Prop := Claim7.holds Tryd.pinned (.plain (OpenSpec.ofChange allocApartSpec)) allocApartCard

/-- THE TIED CARD OF 'burinlaw18.AllocRenames'. -/
def allocRenamesCard : Claim7 := { stood := { row := allocRenamesRow, standIns := [], harness := (true, "a229862d8c47950716e15713c6441af9e795b00c511ff1ddb30d128445cc7f23"), looks := false }, kinds := [], alts := [], laidByText := true, laidKinds := [.data, .data], laidTests := true, laidLooks := .later }
def AllocRenamesCardSaid : Prop := Claim7.holds Tryd.pinned (.plain (OpenSpec.ofChange allocRenamesSpec)) allocRenamesCard

/-- THE TIED CARD OF 'burinlaw18.AllocMeans'. -/
def allocMeansCard : Claim7 := { stood := { row := allocMeansRow, standIns := [], harness := (true, "a229862d8c47950716e15713c6441af9e795b00c511ff1ddb30d128445cc7f23"), looks := false }, kinds := [], alts := [], laidByText := true, laidKinds := [.data, .data], laidTests := true, laidLooks := .later }
def AllocMeansCardSaid : Prop := Claim7.holds Tryd.pinned (.plain (OpenSpec.ofChange allocMeansSpec)) allocMeansCard

/-- THE SECOND FORM's CARD OF 'burintop.TopCalls'. -/
def topCallsUptoCard : Claim7 := { stood := { row := topCallsUptoRow, standIns := [], harness := (true, "a229862d8c47950716e15713c6441af9e795b00c511ff1ddb30d128445cc7f23"), looks := false }, kinds := [], alts := [], laidByText := true, laidKinds := [.data, .data, .data, .data], laidTests := true, laidLooks := .later }
def TopCallsUptoCardSaid : Prop := Claim7.holds Tryd.pinned (.plain (OpenSpec.upto topCallsSpec)) topCallsUptoCard

/-- THE SECOND FORM's CARD OF 'burinlaw03.MacroReads'. -/
def macroReadsUptoCard : Claim7 := { stood := { row := macroReadsUptoRow, standIns := [], harness := (true, "a229862d8c47950716e15713c6441af9e795b00c511ff1ddb30d128445cc7f23"), looks := false }, kinds := [], alts := [], laidByText := true, laidKinds := [.data], laidTests := true, laidLooks := .later }
def MacroReadsUptoCardSaid : Prop := Claim7.holds Tryd.pinned (.plain (OpenSpec.upto macroReadsSpec)) macroReadsUptoCard

/-- THE SECOND FORM's CARD OF 'burinlaw03.MacroWords'. -/
def macroWordsUptoCard : Claim7 := { stood := { row := macroWordsUptoRow, standIns := [], harness := (true, "a229862d8c47950716e15713c6441af9e795b00c511ff1ddb30d128445cc7f23"), looks := false }, kinds := [], alts := [], laidByText := true, laidKinds := [.data], laidTests := true, laidLooks := .later }
def MacroWordsUptoCardSaid : Prop := Claim7.holds Tryd.pinned (.plain (OpenSpec.upto macroWordsSpec)) macroWordsUptoCard

/-- THE SECOND FORM's CARD OF 'burinlaw03.MacroBack'. -/
def macroBackUptoCard : Claim7 := { stood := { row := macroBackUptoRow, standIns := [], harness := (true, "a229862d8c47950716e15713c6441af9e795b00c511ff1ddb30d128445cc7f23"), looks := false }, kinds := [], alts := [], laidByText := true, laidKinds := [.data], laidTests := true, laidLooks := .later }
def MacroBackUptoCardSaid : Prop := Claim7.holds Tryd.pinned (.plain (OpenSpec.upto macroBackSpec)) macroBackUptoCard

/-- THE SECOND FORM's CARD OF 'burinlaw03.MacroKeeps'. -/
def macroKeepsUptoCard : Claim7 := { stood := { row := macroKeepsUptoRow, standIns := [], harness := (true, "a229862d8c47950716e15713c6441af9e795b00c511ff1ddb30d128445cc7f23"), looks := false }, kinds := [], alts := [], laidByText := true, laidKinds := [.data], laidTests := true, laidLooks := .later }
def MacroKeepsUptoCardSaid : Prop := Claim7.holds Tryd.pinned (.plain (OpenSpec.upto macroKeepsSpec)) macroKeepsUptoCard

/-- THE SECOND FORM's CARD OF 'burinlaw19.MachMore'. -/
def machMoreUptoCard : Claim7 := { stood := { row := machMoreUptoRow, standIns := [], harness := (true, "a229862d8c47950716e15713c6441af9e795b00c511ff1ddb30d128445cc7f23"), looks := false }, kinds := [], alts := [], laidByText := true, laidKinds := [.data, .data, .data, .data], laidTests := true, laidLooks := .later }
def MachMoreUptoCardSaid : Prop := Claim7.holds Tryd.pinned (.plain (OpenSpec.upto machMoreSpec)) machMoreUptoCard

/-- THE SECOND FORM's CARD OF 'burinlaw18.AllocMeets'. -/
def allocMeetsUptoCard : Claim7 := { stood := { row := allocMeetsUptoRow, standIns := [], harness := (true, "a229862d8c47950716e15713c6441af9e795b00c511ff1ddb30d128445cc7f23"), looks := false }, kinds := [], alts := [], laidByText := true, laidKinds := [.data, .data], laidTests := true, laidLooks := .later }
def AllocMeetsUptoCardSaid : Prop := Claim7.holds Tryd.pinned (.plain (OpenSpec.upto allocMeetsSpec)) allocMeetsUptoCard

/-- THE SECOND FORM's CARD OF 'burinlaw18.AllocApart'. -/
def allocApartUptoCard : Claim7 := { stood := { row := allocApartUptoRow, standIns := [], harness := (true, "a229862d8c47950716e15713c6441af9e795b00c511ff1ddb30d128445cc7f23"), looks := false }, kinds := [], alts := [], laidByText := true, laidKinds := [.data, .data], laidTests := true, laidLooks := .later }
def AllocApartUptoCardSaid : Prop := Claim7.holds Tryd.pinned (.plain (OpenSpec.upto allocApartSpec)) allocApartUptoCard

/-- THE SECOND FORM's CARD OF 'burinlaw18.AllocRenames'. -/
def allocRenamesUptoCard : Claim7 := { stood := { row := allocRenamesUptoRow, standIns := [], harness := (true, "a229862d8c47950716e15713c6441af9e795b00c511ff1ddb30d128445cc7f23"), looks := false }, kinds := [], alts := [], laidByText := true, laidKinds := [.data, .data], laidTests := true, laidLooks := .later }
def AllocRenamesUptoCardSaid : Prop := Claim7.holds Tryd.pinned (.plain (OpenSpec.upto allocRenamesSpec)) allocRenamesUptoCard

/-- THE SECOND FORM's CARD OF 'burinlaw18.AllocMeans'. -/
def allocMeansUptoCard : Claim7 := { stood := { row := allocMeansUptoRow, standIns := [], harness := (true, "a229862d8c47950716e15713c6441af9e795b00c511ff1ddb30d128445cc7f23"), looks := false }, kinds := [], alts := [], laidByText := true, laidKinds := [.data, .data], laidTests := true, laidLooks := .later }
def AllocMeansUptoCardSaid : Prop := Claim7.holds Tryd.pinned (.plain (OpenSpec.upto allocMeansSpec)) allocMeansUptoCard
end Rows
end Go.Proofs.YthifdcakhdckfaaDoor
