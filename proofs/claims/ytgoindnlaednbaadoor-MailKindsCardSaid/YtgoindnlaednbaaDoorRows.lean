/-
  NARROWER THAN 'FOR EVERY INPUT', by the rows' own cells (each row's printed sentence says how): MailKinds: laid · MailBack: laid · MailForms: laid.
  DERIVED. THE GIVEN ROWS OF THIS SEAT. 3 by the template 'for every input the law returns true; each argument reads behind the call as it read before'; 0 by the template 'total and deterministic' (their statements: YtgoindnlaednbaaDoorTotals.lean).
  GIVEN WITH THE SEED: the statements are not yours to turn. If you find one false, say at which input.
  Laid BY PROGRAM, IN A SANDBOX (cutbox-rows.mjs): the forced cells as the released guide's own fill.sh prints them over the translation 07b0f058ceb29c84… (all of the seat's roots in one cut). By AI agents, Wed Nov 11 2026. No macro, syntax, notation, axiom, sorry.
-/
import Derived.Test.YtgoindnlaednbaaDoorChecked
import GoSem.Claim
import GoSem.ClaimJoined
import GoSem.ClaimMapViews
import Derived.JoinedTies
import Derived.KernelRfl
namespace Go.Proofs.YtgoindnlaednbaaDoor
/- THE CELL 'sum', in the pinned program and in every row, IS THE sha256 OF THE DUMP (.gsa) THAT YtgoindnlaednbaaDoorProg.lean LOADS. Nothing in Lean hashes anything: it is a label: what it is worth is what the hold of that sum in a sandbox is worth. -/
noncomputable def Tryd.pinned : Pinned := { name := "ytgoindnlaednbaadoor", sum := "07b0f058ceb29c84b679aa5386b9db3ad306dfcd6bf36cfe32c8a73c43597812", checked := Tryd.checked }
namespace Rows
def none {H : Type} : Left H := { results := [], args := [] }

/- WHAT THE LISTED PACKAGE-LEVEL VARIABLES READ AS WHEN THE CALL BEGINS. Each datum BY PROGRAM (the guide's laid-datum.mjs) off the statement by which the dump's own 'gosem.cut.vars' lays the variable. In a bare row this is a premise. The card (YtgoindnlaednbaaDoorCards.lean) ties it to the program's text. -/
def laid_flotilla_mail_fields {H : Type} : DataW H := .agg [.lit (.string []), .lit (.string [35, 79]), .lit (.string [86, 78, 35, 88]), .lit (.string [86, 35]), .lit (.string [86, 78, 67, 69]), .lit (.string [86, 78]), .lit (.string [86, 78, 67]), .lit (.string [86]), .lit (.string [86, 67, 82, 71]), .lit (.string [86, 67, 71]), .lit (.string [86, 76]), .lit (.string [86, 67, 76, 72, 71]), .lit (.string [86, 78, 67]), .lit (.string [86, 67, 71]), .lit (.string [78, 35, 79]), .lit (.string [78, 35, 88])]

/-- 'flotillalaw11.MailKinds': WHATEVER THE INPUT: true; the input reads as it did. -/
def mailKindsSpec : ChangeSpec := { name := "mailKinds", fn := fun _ => fun
  | [d] => { results := [.lit (.bool true)], args := [d] }
  | _ => none }
def mailKindsRow : OpenClaim := { program := "ytgoindnlaednbaadoor", sum := "07b0f058ceb29c84b679aa5386b9db3ad306dfcd6bf36cfe32c8a73c43597812", func := "flotilla/flotillalaw11.MailKinds", spec := "mailKinds", unfollowed := true, recurses := true, named := ["flotilla/mail.fields"], apart := false, laid := [("flotilla/mail.fields", laid_flotilla_mail_fields)] }
def MailKindsSaid : Prop := mailKindsRow.holds Tryd.pinned (OpenSpec.ofChange mailKindsSpec)

/-- ITS FALSE NEIGHBOUR: 'it returns false'. Refute it at one input. -/
def mailKindsWrong : ChangeSpec := { name := "mailKinds", fn := fun _ => fun
  | [d] => { results := [.lit (.bool false)], args := [d] }
  | _ => none }
def MailKindsWrongFalsely : Prop := mailKindsRow.holds Tryd.pinned (OpenSpec.ofChange mailKindsWrong)

/-- 'flotillalaw11.MailBack': WHATEVER THE INPUT: true; the input reads as it did. -/
def mailBackSpec : ChangeSpec := { name := "mailBack", fn := fun _ => fun
  | [d1, d2] => { results := [.lit (.bool true)], args := [d1, d2] }
  | _ => none }
def mailBackRow : OpenClaim := { program := "ytgoindnlaednbaadoor", sum := "07b0f058ceb29c84b679aa5386b9db3ad306dfcd6bf36cfe32c8a73c43597812", func := "flotilla/flotillalaw11.MailBack", spec := "mailBack", unfollowed := true, recurses := true, named := ["flotilla/mail.fields"], apart := false, laid := [("flotilla/mail.fields", laid_flotilla_mail_fields)] }
def MailBackSaid : Prop := mailBackRow.holds Tryd.pinned (OpenSpec.ofChange mailBackSpec)

/-- ITS FALSE NEIGHBOUR: 'it returns false'. Refute it at one input. -/
def mailBackWrong : ChangeSpec := { name := "mailBack", fn := fun _ => fun
  | [d1, d2] => { results := [.lit (.bool false)], args := [d1, d2] }
  | _ => none }
def MailBackWrongFalsely : Prop := mailBackRow.holds Tryd.pinned (OpenSpec.ofChange mailBackWrong)

/-- 'flotillalaw11.MailForms': WHATEVER THE INPUT: true; the input reads as it did. -/
def mailFormsSpec : ChangeSpec := { name := "mailForms", fn := fun _ => fun
  | [d1, d2] => { results := [.lit (.bool true)], args := [d1, d2] }
  | _ => none }
def mailFormsRow : OpenClaim := { program := "ytgoindnlaednbaadoor", sum := "07b0f058ceb29c84b679aa5386b9db3ad306dfcd6bf36cfe32c8a73c43597812", func := "flotilla/flotillalaw11.MailForms", spec := "mailForms", unfollowed := true, recurses := true, named := ["flotilla/mail.fields"], apart := false, laid := [("flotilla/mail.fields", laid_flotilla_mail_fields)] }
def MailFormsSaid : Prop := mailFormsRow.holds Tryd.pinned (OpenSpec.ofChange mailFormsSpec)

/-- ITS FALSE NEIGHBOUR: 'it returns false'. Refute it at one input. -/
def mailFormsWrong : ChangeSpec := { name := "mailForms", fn := fun _ => fun
  | [d1, d2] => { results := [.lit (.bool false)], args := [d1, d2] }
  | _ => none }
def MailFormsWrongFalsely : Prop := mailFormsRow.holds Tryd.pinned (OpenSpec.ofChange mailFormsWrong)

/- THE SECOND FORM. 'bulk': how many values and letters a reading holds, each counted each time it is reached (what is shared counts as often as it is met; a slice's spare places count too). A statement '..UptoSaid' is the law's where the arguments, and the package variables that the reading takes, are together of bulk at most 1048576: NARROWER than '..Said'. Prove '..Said' where nothing that the law and all that it calls make is longer than what came in: it says more and counts as full. Else prove '..UptoSaid'. A law counts once. -/
mutual
def uptoBulk {H : Type} : DataW H → Nat
  | .lit (.string bytes) => bytes.length + 1
  | .lit _ => 1
  | .nil => 1
  | .ptr d => uptoBulk d + 1
  | .slice elems spare => uptoBulkAll elems + uptoBulkAll spare + 1
  | .agg parts => uptoBulkAll parts + 1
  | .iface _ d => uptoBulk d + 1
  | .map entries => uptoBulkEntries entries + 1
  | .held _ => 1
def uptoBulkAll {H : Type} : List (DataW H) → Nat
  | [] => 0
  | d :: r => uptoBulk d + uptoBulkAll r
def uptoBulkEntries {H : Type} : List (Lit × DataW H) → Nat
  | [] => 0
  | x :: r => uptoBulkEntry x + uptoBulkEntries r
def uptoBulkEntry {H : Type} : Lit × DataW H → Nat
  | (.string bytes, d) => bytes.length + uptoBulk d + 1
  | (_, d) => uptoBulk d + 1
 end
def uptoSmall : (H : Type) → List (DataW H) → Bool := fun _ ds => decide (uptoBulkAll ds ≤ 1048576)
def OpenSpec.upto (s : _root_.Go.ChangeSpec) : _root_.Go.OpenSpec := { _root_.Go.OpenSpec.ofChange s with cond := some uptoSmall }

/-- 'flotillalaw11.MailKinds', WHERE WHAT IT READS IS OF BULK AT MOST 1048576: true; the input reads as it did. -/
def mailKindsUptoRow : OpenClaim := { program := "ytgoindnlaednbaadoor", sum := "07b0f058ceb29c84b679aa5386b9db3ad306dfcd6bf36cfe32c8a73c43597812", func := "flotilla/flotillalaw11.MailKinds", spec := "mailKinds", unfollowed := true, recurses := true, named := ["flotilla/mail.fields"], apart := false, laid := [("flotilla/mail.fields", laid_flotilla_mail_fields)], narrowed := true }
def MailKindsUptoSaid : Prop := mailKindsUptoRow.holds Tryd.pinned (OpenSpec.upto mailKindsSpec)

/-- 'flotillalaw11.MailBack', WHERE WHAT IT READS IS OF BULK AT MOST 1048576: true; the input reads as it did. -/
def mailBackUptoRow : OpenClaim := { program := "ytgoindnlaednbaadoor", sum := "07b0f058ceb29c84b679aa5386b9db3ad306dfcd6bf36cfe32c8a73c43597812", func := "flotilla/flotillalaw11.MailBack", spec := "mailBack", unfollowed := true, recurses := true, named := ["flotilla/mail.fields"], apart := false, laid := [("flotilla/mail.fields", laid_flotilla_mail_fields)], narrowed := true }
def MailBackUptoSaid : Prop := mailBackUptoRow.holds Tryd.pinned (OpenSpec.upto mailBackSpec)

/-- 'flotillalaw11.MailForms', WHERE WHAT IT READS IS OF BULK AT MOST 1048576: true; the input reads as it did. -/
def mailFormsUptoRow : OpenClaim := { program := "ytgoindnlaednbaadoor", sum := "07b0f058ceb29c84b679aa5386b9db3ad306dfcd6bf36cfe32c8a73c43597812", func := "flotilla/flotillalaw11.MailForms", spec := "mailForms", unfollowed := true, recurses := true, named := ["flotilla/mail.fields"], apart := false, laid := [("flotilla/mail.fields", laid_flotilla_mail_fields)], narrowed := true }
def MailFormsUptoSaid : Prop := mailFormsUptoRow.holds Tryd.pinned (OpenSpec.upto mailFormsSpec)

end Rows
end Go.Proofs.YtgoindnlaednbaaDoor
