/-
  DERIVED. GIVEN WITH THE SEED: THE CARDS: each row of YtgoindnlaednbaaDoorRows.lean that lists a variable, with what it lists TIED to the program's text (the seventh form; the later family's looks); each row that meets fmt, with fmt's text TOLD by the authors' own Lean function (tested against real Go, not proved from fmt's source: count such statements apart). THE CARD IS WHAT COUNTS. Prove the row's statement (the work); the ties are given (YtgoindnlaednbaaDoorTie.lean); close each card by the builder's one call (the guide's Derived/Test/ToyasCard.lean, 'card_holds'). Laid BY PROGRAM, IN A SANDBOX (cutbox-door.mjs). By AI agents, Wed Nov 11 2026. No macro, syntax, notation, axiom, sorry.
-/
import Derived.Test.YtgoindnlaednbaaDoorRows
import GoSem.ClaimSeven
namespace Go.Proofs.YtgoindnlaednbaaDoor
namespace Rows

/-- THE TIED CARD OF 'flotillalaw11.MailKinds'. -/
def mailKindsCard : Claim7 := { stood := { row := mailKindsRow, standIns := [], harness := (true, "d3060fc0ae65fa8a7d2c6db1e8d06d459d340abd6e8be7cea653cb5551175de9"), looks := false }, kinds := [], alts := [], laidByText := true, laidKinds := [.data], laidTests := true, laidLooks := .later }
def MailKindsCardSaid : Prop := Claim7.holds Tryd.pinned (.plain (OpenSpec.ofChange mailKindsSpec)) mailKindsCard

/-- THE TIED CARD OF 'flotillalaw11.MailBack'. -/
def mailBackCard : Claim7 := { stood := { row := mailBackRow, standIns := [], harness := (true, "d3060fc0ae65fa8a7d2c6db1e8d06d459d340abd6e8be7cea653cb5551175de9"), looks := false }, kinds := [], alts := [], laidByText := true, laidKinds := [.data], laidTests := true, laidLooks := .later }
def MailBackCardSaid : Prop := Claim7.holds Tryd.pinned (.plain (OpenSpec.ofChange mailBackSpec)) mailBackCard

/-- THE TIED CARD OF 'flotillalaw11.MailForms'. -/
def mailFormsCard : Claim7 := { stood := { row := mailFormsRow, standIns := [], harness := (true, "d3060fc0ae65fa8a7d2c6db1e8d06d459d340abd6e8be7cea653cb5551175de9"), looks := false }, kinds := [], alts := [], laidByText := true, laidKinds := [.data], laidTests := true, laidLooks := .later }
def MailFormsCardSaid : Prop := Claim7.holds Tryd.pinned (.plain (OpenSpec.ofChange mailFormsSpec)) mailFormsCard

/-- THE SECOND FORM's CARD OF 'flotillalaw11.MailKinds'. -/
def mailKindsUptoCard : Claim7 := { stood := { row := mailKindsUptoRow, standIns := [], harness := (true, "d3060fc0ae65fa8a7d2c6db1e8d06d459d340abd6e8be7cea653cb5551175de9"), looks := false }, kinds := [], alts := [], laidByText := true, laidKinds := [.data], laidTests := true, laidLooks := .later }
def MailKindsUptoCardSaid : Prop := Claim7.holds Tryd.pinned (.plain (OpenSpec.upto mailKindsSpec)) mailKindsUptoCard

/-- THE SECOND FORM's CARD OF 'flotillalaw11.MailBack'. -/
def mailBackUptoCard : Claim7 := { stood := { row := mailBackUptoRow, standIns := [], harness := (true, "d3060fc0ae65fa8a7d2c6db1e8d06d459d340abd6e8be7cea653cb5551175de9"), looks := false }, kinds := [], alts := [], laidByText := true, laidKinds := [.data], laidTests := true, laidLooks := .later }
def MailBackUptoCardSaid : Prop := Claim7.holds Tryd.pinned (.plain (OpenSpec.upto mailBackSpec)) mailBackUptoCard

/-- THE SECOND FORM's CARD OF 'flotillalaw11.MailForms'. -/
def mailFormsUptoCard : Claim7 := { stood := { row := mailFormsUptoRow, standIns := [], harness := (true, "d3060fc0ae65fa8a7d2c6db1e8d06d459d340abd6e8be7cea653cb5551175de9"), looks := false }, kinds := [], alts := [], laidByText := true, laidKinds := [.data], laidTests := true, laidLooks := .later }
def MailFormsUptoCardSaid : Prop := Claim7.holds Tryd.pinned (.plain (OpenSpec.upto mailFormsSpec)) mailFormsUptoCard
end Rows
end Go.Proofs.YtgoindnlaednbaaDoor
