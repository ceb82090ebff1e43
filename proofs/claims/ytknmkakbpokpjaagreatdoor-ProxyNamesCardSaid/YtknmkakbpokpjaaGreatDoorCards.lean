/-
  DERIVED. GIVEN WITH THE SEED: THE CARDS: each row of YtknmkakbpokpjaaGreatDoorRows.lean that lists a variable, with what it lists TIED to the program's text (the seventh form; the later family's looks); each row that meets fmt, with fmt's text TOLD by the authors' own Lean function (tested against real Go, not proved from fmt's source: count such statements apart). THE CARD IS WHAT COUNTS. Prove the row's statement (the work); the ties are given (YtknmkakbpokpjaaGreatDoorTie.lean); close each card by the builder's one call (the guide's Derived/Test/ToyasCard.lean, 'card_holds'). Laid BY PROGRAM, IN A SANDBOX (cutbox-door.mjs). By AI agents, Wed Nov 11 2026. No macro, syntax, notation, axiom, sorry.
-/
import Derived.Test.YtknmkakbpokpjaaGreatDoorRows
import GoSem.ClaimSeven
namespace Go.Proofs.YtknmkakbpokpjaaGreatDoor
namespace Rows

/-- THE TIED CARD OF 'flotillalaw14.ProxyNames'. -/
def proxyNamesCard : Claim7 := { stood := { row := proxyNamesRow, standIns := [], harness := (true, "cae108e976738aa710330e4eb84db36de277be557b24c32035c148a50909ca5f"), looks := false }, kinds := [], alts := [], laidByText := true, laidKinds := [.data], laidTests := true, laidLooks := .later }
def ProxyNamesCardSaid : Prop := Claim7.holds Tryz.pinned (.plain (OpenSpec.ofChange proxyNamesSpec)) proxyNamesCard

/-- THE TIED CARD OF 'flotillalaw14.ProxyOnce'. -/
def proxyOnceCard : Claim7 := { stood := { row := proxyOnceRow, standIns := [], harness := (true, "cae108e976738aa710330e4eb84db36de277be557b24c32035c148a50909ca5f"), looks := false }, kinds := [], alts := [], laidByText := true, laidKinds := [.data], laidTests := true, laidLooks := .later }
def ProxyOnceCardSaid : Prop := Claim7.holds Tryz.pinned (.plain (OpenSpec.ofChange proxyOnceSpec)) proxyOnceCard

/-- THE TIED CARD OF 'flotillalaw14.ProxyAgain'. -/
def proxyAgainCard : Claim7 := { stood := { row := proxyAgainRow, standIns := [], harness := (true, "cae108e976738aa710330e4eb84db36de277be557b24c32035c148a50909ca5f"), looks := false }, kinds := [], alts := [], laidByText := true, laidKinds := [.data], laidTests := true, laidLooks := .later }
def ProxyAgainCardSaid : Prop := Claim7.holds Tryz.pinned (.plain (OpenSpec.ofChange proxyAgainSpec)) proxyAgainCard

/-- THE TIED CARD OF 'flotillalaw14.ProxyPlays'. -/
def proxyPlaysCard : Claim7 := { stood := { row := proxyPlaysRow, standIns := [], harness := (true, "cae108e976738aa710330e4eb84db36de277be557b24c32035c148a50909ca5f"), looks := false }, kinds := [], alts := [], laidByText := true, laidKinds := [.data], laidTests := true, laidLooks := .later }
def ProxyPlaysCardSaid : Prop := Claim7.holds Tryz.pinned (.plain (OpenSpec.ofChange proxyPlaysSpec)) proxyPlaysCard

/-- THE SECOND FORM's CARD OF 'flotillalaw14.ProxyNames'. -/
def proxyNamesUptoCard : Claim7 := { stood := { row := proxyNamesUptoRow, standIns := [], harness := (true, "cae108e976738aa710330e4eb84db36de277be557b24c32035c148a50909ca5f"), looks := false }, kinds := [], alts := [], laidByText := true, laidKinds := [.data], laidTests := true, laidLooks := .later }
def ProxyNamesUptoCardSaid : Prop := Claim7.holds Tryz.pinned (.plain (OpenSpec.upto proxyNamesSpec)) proxyNamesUptoCard

/-- THE SECOND FORM's CARD OF 'flotillalaw14.ProxyOnce'. -/
def proxyOnceUptoCard : Claim7 := { stood := { row := proxyOnceUptoRow, standIns := [], harness := (true, "cae108e976738aa710330e4eb84db36de277be557b24c32035c148a50909ca5f"), looks := false }, kinds := [], alts := [], laidByText := true, laidKinds := [.data], laidTests := true, laidLooks := .later }
def ProxyOnceUptoCardSaid : Prop := Claim7.holds Tryz.pinned (.plain (OpenSpec.upto proxyOnceSpec)) proxyOnceUptoCard

/-- THE SECOND FORM's CARD OF 'flotillalaw14.ProxyAgain'. -/
def proxyAgainUptoCard : Claim7 := { stood := { row := proxyAgainUptoRow, standIns := [], harness := (true, "cae108e976738aa710330e4eb84db36de277be557b24c32035c148a50909ca5f"), looks := false }, kinds := [], alts := [], laidByText := true, laidKinds := [.data], laidTests := true, laidLooks := .later }
def ProxyAgainUptoCardSaid : Prop := Claim7.holds Tryz.pinned (.plain (OpenSpec.upto proxyAgainSpec)) proxyAgainUptoCard

/-- THE SECOND FORM's CARD OF 'flotillalaw14.ProxyPlays'. -/
def proxyPlaysUptoCard : Claim7 := { stood := { row := proxyPlaysUptoRow, standIns := [], harness := (true, "cae108e976738aa710330e4eb84db36de277be557b24c32035c148a50909ca5f"), looks := false }, kinds := [], alts := [], laidByText := true, laidKinds := [.data], laidTests := true, laidLooks := .later }
def ProxyPlaysUptoCardSaid : Prop := Claim7.holds Tryz.pinned (.plain (OpenSpec.upto proxyPlaysSpec)) proxyPlaysUptoCard
end Rows
end Go.Proofs.YtknmkakbpokpjaaGreatDoor
