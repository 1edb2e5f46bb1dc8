/-
  DERIVED. GIVEN WITH THE SEED: THE CARDS: each row of YtgfloplakjmncaaDoorRows.lean that lists a variable, with what it lists TIED to the program's text (the seventh form; the later family's looks); each row that meets fmt, with fmt's text TOLD by the authors' own Lean function (tested against real Go, not proved from fmt's source: count such statements apart). THE CARD IS WHAT COUNTS. Prove the row's statement (the work); the ties are given (YtgfloplakjmncaaDoorTie.lean); close each card by the builder's one call (the guide's Derived/Test/ToyasCard.lean, 'card_holds'). Laid BY PROGRAM, IN A SANDBOX (cutbox-door.mjs). By AI agents, Wed Nov 11 2026. No macro, syntax, notation, axiom, sorry.
-/
import Derived.Test.YtgfloplakjmncaaDoorRows
import GoSem.ClaimSeven
namespace Go.Proofs.YtgfloplakjmncaaDoor
namespace Rows

/-- THE TIED CARD OF 'colophonlaw10.ScanAll'. -/
def scanAllCard : Claim7 := { stood := { row := scanAllRow, standIns := [], harness := (true, "da00eea7ddc640ffe7ae4aedab50abc3a246307b54be35158c7f696f0a656a55"), looks := false }, kinds := [], alts := [], laidByText := true, laidKinds := [.data, .data, .data, .pinned], laidTests := true, laidLooks := .later }
def ScanAllCardSaid : Prop := Claim7.holds Tryd.pinned (.plain (OpenSpec.ofChange scanAllSpec)) scanAllCard

/-- THE TIED CARD OF 'colophonlaw10.ScanBegins'. -/
def scanBeginsCard : Claim7 := { stood := { row := scanBeginsRow, standIns := [], harness := (true, "da00eea7ddc640ffe7ae4aedab50abc3a246307b54be35158c7f696f0a656a55"), looks := false }, kinds := [], alts := [], laidByText := true, laidKinds := [.data, .data, .data, .pinned], laidTests := true, laidLooks := .later }
def ScanBeginsCardSaid : Prop := Claim7.holds Tryd.pinned (.plain (OpenSpec.ofChange scanBeginsSpec)) scanBeginsCard

/-- THE TIED CARD OF 'colophonlaw10.ScanJoins'. -/
def scanJoinsCard : Claim7 := { stood := { row := scanJoinsRow, standIns := [], harness := (true, "da00eea7ddc640ffe7ae4aedab50abc3a246307b54be35158c7f696f0a656a55"), looks := false }, kinds := [], alts := [], laidByText := true, laidKinds := [.data, .data, .data, .pinned], laidTests := true, laidLooks := .later }
def ScanJoinsCardSaid : Prop := Claim7.holds Tryd.pinned (.plain (OpenSpec.ofChange scanJoinsSpec)) scanJoinsCard

/-- THE TIED CARD OF 'colophonlaw10.ScanCovers'. -/
def scanCoversCard : Claim7 := { stood := { row := scanCoversRow, standIns := [], harness := (true, "da00eea7ddc640ffe7ae4aedab50abc3a246307b54be35158c7f696f0a656a55"), looks := false }, kinds := [], alts := [], laidByText := true, laidKinds := [.data, .data, .data, .pinned], laidTests := true, laidLooks := .later }
def ScanCoversCardSaid : Prop := Claim7.holds Tryd.pinned (.plain (OpenSpec.ofChange scanCoversSpec)) scanCoversCard

/-- THE SECOND FORM's CARD OF 'colophonlaw10.ScanAll'. -/
def scanAllUptoCard : Claim7 := { stood := { row := scanAllUptoRow, standIns := [], harness := (true, "da00eea7ddc640ffe7ae4aedab50abc3a246307b54be35158c7f696f0a656a55"), looks := false }, kinds := [], alts := [], laidByText := true, laidKinds := [.data, .data, .data, .pinned], laidTests := true, laidLooks := .later }
def ScanAllUptoCardSaid : Prop := Claim7.holds Tryd.pinned (.plain (OpenSpec.upto scanAllSpec)) scanAllUptoCard

/-- THE SECOND FORM's CARD OF 'colophonlaw10.ScanBegins'. -/
def scanBeginsUptoCard : Claim7 := { stood := { row := scanBeginsUptoRow, standIns := [], harness := (true, "da00eea7ddc640ffe7ae4aedab50abc3a246307b54be35158c7f696f0a656a55"), looks := false }, kinds := [], alts := [], laidByText := true, laidKinds := [.data, .data, .data, .pinned], laidTests := true, laidLooks := .later }
def ScanBeginsUptoCardSaid : Prop := Claim7.holds Tryd.pinned (.plain (OpenSpec.upto scanBeginsSpec)) scanBeginsUptoCard

/-- THE SECOND FORM's CARD OF 'colophonlaw10.ScanJoins'. -/
def scanJoinsUptoCard : Claim7 := { stood := { row := scanJoinsUptoRow, standIns := [], harness := (true, "da00eea7ddc640ffe7ae4aedab50abc3a246307b54be35158c7f696f0a656a55"), looks := false }, kinds := [], alts := [], laidByText := true, laidKinds := [.data, .data, .data, .pinned], laidTests := true, laidLooks := .later }
def ScanJoinsUptoCardSaid : Prop := Claim7.holds Tryd.pinned (.plain (OpenSpec.upto scanJoinsSpec)) scanJoinsUptoCard

/-- THE SECOND FORM's CARD OF 'colophonlaw10.ScanCovers'. -/
def scanCoversUptoCard : Claim7 := { stood := { row := scanCoversUptoRow, standIns := [], harness := (true, "da00eea7ddc640ffe7ae4aedab50abc3a246307b54be35158c7f696f0a656a55"), looks := false }, kinds := [], alts := [], laidByText := true, laidKinds := [.data, .data, .data, .pinned], laidTests := true, laidLooks := .later }
def ScanCoversUptoCardSaid : Prop := Claim7.holds Tryd.pinned (.plain (OpenSpec.upto scanCoversSpec)) scanCoversUptoCard
end Rows
end Go.Proofs.YtgfloplakjmncaaDoor
