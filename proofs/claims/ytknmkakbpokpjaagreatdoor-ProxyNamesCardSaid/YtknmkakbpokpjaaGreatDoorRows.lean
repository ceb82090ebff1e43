/-
  NARROWER THAN 'FOR EVERY INPUT', by the rows' own cells (each row's printed sentence says how): ProxyNames: laid · ProxyOnce: laid · ProxyAgain: laid · ProxyPlays: laid.
  DERIVED. THE GIVEN ROWS OF THIS SEAT. 4 by the template 'for every input the law returns true; each argument reads behind the call as it read before'; 0 by the template 'total and deterministic' (their statements: YtknmkakbpokpjaaGreatDoorTotals.lean).
  GIVEN WITH THE SEED: the statements are not yours to turn. If you find one false, say at which input.
  Laid BY PROGRAM, IN A SANDBOX (cutbox-rows.mjs): the forced cells as the released guide's own fill.sh prints them over the translation 012a03102397057b… (all of the seat's roots in one cut). By AI agents, Wed Nov 11 2026. No macro, syntax, notation, axiom, sorry.
-/
import Derived.Test.YtknmkakbpokpjaaGreatDoorChecked
import GoSem.Claim
import GoSem.ClaimJoined
import GoSem.ClaimMapViews
import Derived.JoinedTies
import Derived.KernelRfl
namespace Go.Proofs.YtknmkakbpokpjaaGreatDoor
/- THE CELL 'sum', in the pinned program and in every row, IS THE sha256 OF THE DUMP (.gsa) THAT YtknmkakbpokpjaaGreatDoorProg.lean LOADS. Nothing in Lean hashes anything: it is a label: what it is worth is what the hold of that sum in a sandbox is worth. -/
noncomputable def Tryz.pinned : Pinned := { name := "ytknmkakbpokpjaagreatdoor", sum := "012a03102397057bf273eb4f632c5490f4b8ff141a1fa2e3946eec811e71b6e8", checked := Tryz.checked }
namespace Rows
def none {H : Type} : Left H := { results := [], args := [] }

/- WHAT THE LISTED PACKAGE-LEVEL VARIABLES READ AS WHEN THE CALL BEGINS. Each datum BY PROGRAM (the guide's laid-datum.mjs) off the statement by which the dump's own 'gosem.cut.vars' lays the variable. In a bare row this is a premise. The card (YtknmkakbpokpjaaGreatDoorCards.lean) ties it to the program's text. -/
def laid_flotilla_mail_fields {H : Type} : DataW H := .agg [.lit (.string []), .lit (.string [35, 79]), .lit (.string [86, 78, 35, 88]), .lit (.string [86, 35]), .lit (.string [86, 78, 67, 69]), .lit (.string [86, 78]), .lit (.string [86, 78, 67]), .lit (.string [86]), .lit (.string [86, 67, 82, 71]), .lit (.string [86, 67, 71]), .lit (.string [86, 76]), .lit (.string [86, 67, 76, 72, 71]), .lit (.string [86, 78, 67]), .lit (.string [86, 67, 71]), .lit (.string [78, 35, 79]), .lit (.string [78, 35, 88])]

/-- 'flotillalaw14.ProxyNames': WHATEVER THE INPUT: true; the input reads as it did. -/
def proxyNamesSpec : ChangeSpec := { name := "proxyNames", fn := fun _ => fun
  | [] => { results := [.lit (.bool true)], args := [] }
  | _ => none }
def proxyNamesRow : OpenClaim := { program := "ytknmkakbpokpjaagreatdoor", sum := "012a03102397057bf273eb4f632c5490f4b8ff141a1fa2e3946eec811e71b6e8", func := "flotilla/flotillalaw14.ProxyNames", spec := "proxyNames", unfollowed := true, recurses := true, named := ["flotilla/mail.fields"], apart := false, laid := [("flotilla/mail.fields", laid_flotilla_mail_fields)] }
def ProxyNamesSaid : Prop := proxyNamesRow.holds Tryz.pinned (OpenSpec.ofChange proxyNamesSpec)

/-- ITS FALSE NEIGHBOUR: 'it returns false'. Refute it at one input. -/
def proxyNamesWrong : ChangeSpec := { name := "proxyNames", fn := fun _ => fun
  | [] => { results := [.lit (.bool false)], args := [] }
  | _ => none }
def ProxyNamesWrongFalsely : Prop := proxyNamesRow.holds Tryz.pinned (OpenSpec.ofChange proxyNamesWrong)

/-- 'flotillalaw14.ProxyOnce': WHATEVER THE INPUT: true; the input reads as it did. -/
def proxyOnceSpec : ChangeSpec := { name := "proxyOnce", fn := fun _ => fun
  | [d1, d2] => { results := [.lit (.bool true)], args := [d1, d2] }
  | _ => none }
def proxyOnceRow : OpenClaim := { program := "ytknmkakbpokpjaagreatdoor", sum := "012a03102397057bf273eb4f632c5490f4b8ff141a1fa2e3946eec811e71b6e8", func := "flotilla/flotillalaw14.ProxyOnce", spec := "proxyOnce", unfollowed := true, recurses := true, named := ["flotilla/mail.fields"], apart := false, laid := [("flotilla/mail.fields", laid_flotilla_mail_fields)] }
def ProxyOnceSaid : Prop := proxyOnceRow.holds Tryz.pinned (OpenSpec.ofChange proxyOnceSpec)

/-- ITS FALSE NEIGHBOUR: 'it returns false'. Refute it at one input. -/
def proxyOnceWrong : ChangeSpec := { name := "proxyOnce", fn := fun _ => fun
  | [d1, d2] => { results := [.lit (.bool false)], args := [d1, d2] }
  | _ => none }
def ProxyOnceWrongFalsely : Prop := proxyOnceRow.holds Tryz.pinned (OpenSpec.ofChange proxyOnceWrong)

/-- 'flotillalaw14.ProxyAgain': WHATEVER THE INPUT: true; the input reads as it did. -/
def proxyAgainSpec : ChangeSpec := { name := "proxyAgain", fn := fun _ => fun
  | [d1, d2, d3, d4] => { results := [.lit (.bool true)], args := [d1, d2, d3, d4] }
  | _ => none }
def proxyAgainRow : OpenClaim := { program := "ytknmkakbpokpjaagreatdoor", sum := "012a03102397057bf273eb4f632c5490f4b8ff141a1fa2e3946eec811e71b6e8", func := "flotilla/flotillalaw14.ProxyAgain", spec := "proxyAgain", unfollowed := true, recurses := true, named := ["flotilla/mail.fields"], apart := false, laid := [("flotilla/mail.fields", laid_flotilla_mail_fields)] }
def ProxyAgainSaid : Prop := proxyAgainRow.holds Tryz.pinned (OpenSpec.ofChange proxyAgainSpec)

/-- ITS FALSE NEIGHBOUR: 'it returns false'. Refute it at one input. -/
def proxyAgainWrong : ChangeSpec := { name := "proxyAgain", fn := fun _ => fun
  | [d1, d2, d3, d4] => { results := [.lit (.bool false)], args := [d1, d2, d3, d4] }
  | _ => none }
def ProxyAgainWrongFalsely : Prop := proxyAgainRow.holds Tryz.pinned (OpenSpec.ofChange proxyAgainWrong)

/-- 'flotillalaw14.ProxyPlays': WHATEVER THE INPUT: true; the input reads as it did. -/
def proxyPlaysSpec : ChangeSpec := { name := "proxyPlays", fn := fun _ => fun
  | [d1, d2, d3, d4] => { results := [.lit (.bool true)], args := [d1, d2, d3, d4] }
  | _ => none }
def proxyPlaysRow : OpenClaim := { program := "ytknmkakbpokpjaagreatdoor", sum := "012a03102397057bf273eb4f632c5490f4b8ff141a1fa2e3946eec811e71b6e8", func := "flotilla/flotillalaw14.ProxyPlays", spec := "proxyPlays", unfollowed := true, recurses := true, named := ["flotilla/mail.fields"], apart := false, laid := [("flotilla/mail.fields", laid_flotilla_mail_fields)] }
def ProxyPlaysSaid : Prop := proxyPlaysRow.holds Tryz.pinned (OpenSpec.ofChange proxyPlaysSpec)

/-- ITS FALSE NEIGHBOUR: 'it returns false'. Refute it at one input. -/
def proxyPlaysWrong : ChangeSpec := { name := "proxyPlays", fn := fun _ => fun
  | [d1, d2, d3, d4] => { results := [.lit (.bool false)], args := [d1, d2, d3, d4] }
  | _ => none }
def ProxyPlaysWrongFalsely : Prop := proxyPlaysRow.holds Tryz.pinned (OpenSpec.ofChange proxyPlaysWrong)

/- THE SECOND FORM. 'bulk': how many values and letters a reading holds, each counted each time it is reached (what is shared counts as often as it is met; a slice's spare places count too). A statement '..UptoSaid' is the law's where the arguments, and the package variables that the reading takes, are together of bulk at most 1048576: NARROWER than '..Said'. Prove '..Said' where nothing that the law and all that it calls make is longer than what came in: it says more and counts as full. Else prove '..UptoSaid'. A law counts once. -/
mutual
def uptoBulk {H : Type} : DataW H → Nat
  | .lit (.string bytes) => bytes.length + 1
  | .lit _ => 1
  | .nil => 1
  | .ptr d => uptoBulk d + 1
  | .slice elems spare => uptoBulkAll elems + uptoBulkAll spare + 1
  | .agg parts => uptoBulkAll parts + 1
  | .iface _ d => uptoBulk d + 1
  | .map entries => uptoBulkEntries entries + 1
  | .held _ => 1
def uptoBulkAll {H : Type} : List (DataW H) → Nat
  | [] => 0
  | d :: r => uptoBulk d + uptoBulkAll r
def uptoBulkEntries {H : Type} : List (Lit × DataW H) → Nat
  | [] => 0
  | x :: r => uptoBulkEntry x + uptoBulkEntries r
def uptoBulkEntry {H : Type} : Lit × DataW H → Nat
  | (.string bytes, d) => bytes.length + uptoBulk d + 1
  | (_, d) => uptoBulk d + 1
 end
def uptoSmall : (H : Type) → List (DataW H) → Bool := fun _ ds => decide (uptoBulkAll ds ≤ 1048576)
def OpenSpec.upto (s : _root_.Go.ChangeSpec) : _root_.Go.OpenSpec := { _root_.Go.OpenSpec.ofChange s with cond := some uptoSmall }

/-- 'flotillalaw14.ProxyNames', WHERE WHAT IT READS IS OF BULK AT MOST 1048576: true; the input reads as it did. -/
def proxyNamesUptoRow : OpenClaim := { program := "ytknmkakbpokpjaagreatdoor", sum := "012a03102397057bf273eb4f632c5490f4b8ff141a1fa2e3946eec811e71b6e8", func := "flotilla/flotillalaw14.ProxyNames", spec := "proxyNames", unfollowed := true, recurses := true, named := ["flotilla/mail.fields"], apart := false, laid := [("flotilla/mail.fields", laid_flotilla_mail_fields)], narrowed := true }
def ProxyNamesUptoSaid : Prop := proxyNamesUptoRow.holds Tryz.pinned (OpenSpec.upto proxyNamesSpec)

/-- 'flotillalaw14.ProxyOnce', WHERE WHAT IT READS IS OF BULK AT MOST 1048576: true; the input reads as it did. -/
def proxyOnceUptoRow : OpenClaim := { program := "ytknmkakbpokpjaagreatdoor", sum := "012a03102397057bf273eb4f632c5490f4b8ff141a1fa2e3946eec811e71b6e8", func := "flotilla/flotillalaw14.ProxyOnce", spec := "proxyOnce", unfollowed := true, recurses := true, named := ["flotilla/mail.fields"], apart := false, laid := [("flotilla/mail.fields", laid_flotilla_mail_fields)], narrowed := true }
def ProxyOnceUptoSaid : Prop := proxyOnceUptoRow.holds Tryz.pinned (OpenSpec.upto proxyOnceSpec)

/-- 'flotillalaw14.ProxyAgain', WHERE WHAT IT READS IS OF BULK AT MOST 1048576: true; the input reads as it did. -/
def proxyAgainUptoRow : OpenClaim := { program := "ytknmkakbpokpjaagreatdoor", sum := "012a03102397057bf273eb4f632c5490f4b8ff141a1fa2e3946eec811e71b6e8", func := "flotilla/flotillalaw14.ProxyAgain", spec := "proxyAgain", unfollowed := true, recurses := true, named := ["flotilla/mail.fields"], apart := false, laid := [("flotilla/mail.fields", laid_flotilla_mail_fields)], narrowed := true }
def ProxyAgainUptoSaid : Prop := proxyAgainUptoRow.holds Tryz.pinned (OpenSpec.upto proxyAgainSpec)

/-- 'flotillalaw14.ProxyPlays', WHERE WHAT IT READS IS OF BULK AT MOST 1048576: true; the input reads as it did. -/
def proxyPlaysUptoRow : OpenClaim := { program := "ytknmkakbpokpjaagreatdoor", sum := "012a03102397057bf273eb4f632c5490f4b8ff141a1fa2e3946eec811e71b6e8", func := "flotilla/flotillalaw14.ProxyPlays", spec := "proxyPlays", unfollowed := true, recurses := true, named := ["flotilla/mail.fields"], apart := false, laid := [("flotilla/mail.fields", laid_flotilla_mail_fields)], narrowed := true }
def ProxyPlaysUptoSaid : Prop := proxyPlaysUptoRow.holds Tryz.pinned (OpenSpec.upto proxyPlaysSpec)

end Rows
end Go.Proofs.YtknmkakbpokpjaaGreatDoor
