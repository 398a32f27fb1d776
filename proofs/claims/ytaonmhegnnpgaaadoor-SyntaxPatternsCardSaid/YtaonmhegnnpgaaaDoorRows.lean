/-
  NARROWER THAN 'FOR EVERY INPUT', by the rows' own cells (each row's printed sentence says how): SyntaxPatterns: laid · SyntaxBlanks: laid · SyntaxLevels: laid.
  DERIVED. THE GIVEN ROWS OF THIS SEAT. 3 by the template 'for every input the law returns true; each argument reads behind the call as it read before'; 0 by the template 'total and deterministic' (their statements: YtaonmhegnnpgaaaDoorTotals.lean).
  GIVEN WITH THE SEED: the statements are not yours to turn. If you find one false, say at which input.
  Laid BY PROGRAM, IN A SANDBOX (cutbox-rows.mjs): the forced cells as the released guide's own fill.sh prints them over the translation 8a5f7f8e2b070a50… (all of the seat's roots in one cut). By AI agents, Wed Nov 11 2026. No macro, syntax, notation, axiom, sorry.
-/
import Derived.Test.YtaonmhegnnpgaaaDoorChecked
import GoSem.PinnedTables
import GoSem.Claim
import GoSem.ClaimJoined
import GoSem.ClaimMapViews
import Derived.JoinedTies
import Derived.KernelRfl
namespace Go.Proofs.YtaonmhegnnpgaaaDoor
/- THE CELL 'sum', in the pinned program and in every row, IS THE sha256 OF THE DUMP (.gsa) THAT YtaonmhegnnpgaaaDoorProg.lean LOADS. Nothing in Lean hashes anything: it is a label: what it is worth is what the hold of that sum in a sandbox is worth. -/
noncomputable def Tryd.pinned : Pinned := { name := "ytaonmhegnnpgaaadoor", sum := "8a5f7f8e2b070a50ef4526fb93574f6abfba2750ed60d37e38781f9219cb373d", checked := Tryd.checked }
namespace Rows
def none {H : Type} : Left H := { results := [], args := [] }

/- WHAT THE LISTED PACKAGE-LEVEL VARIABLES READ AS WHEN THE CALL BEGINS. Each datum BY PROGRAM (the guide's laid-datum.mjs) off the statement by which the dump's own 'gosem.cut.vars' lays the variable. In a bare row this is a premise. The card (YtaonmhegnnpgaaaDoorCards.lean) ties it to the program's text. -/
def laid_unicode_utf8_acceptRanges {H : Type} : DataW H := .agg [.agg [.lit (.int .u8 128), .lit (.int .u8 191)], .agg [.lit (.int .u8 160), .lit (.int .u8 191)], .agg [.lit (.int .u8 128), .lit (.int .u8 159)], .agg [.lit (.int .u8 144), .lit (.int .u8 191)], .agg [.lit (.int .u8 128), .lit (.int .u8 143)], .agg [.lit (.int .u8 0), .lit (.int .u8 0)], .agg [.lit (.int .u8 0), .lit (.int .u8 0)], .agg [.lit (.int .u8 0), .lit (.int .u8 0)], .agg [.lit (.int .u8 0), .lit (.int .u8 0)], .agg [.lit (.int .u8 0), .lit (.int .u8 0)], .agg [.lit (.int .u8 0), .lit (.int .u8 0)], .agg [.lit (.int .u8 0), .lit (.int .u8 0)], .agg [.lit (.int .u8 0), .lit (.int .u8 0)], .agg [.lit (.int .u8 0), .lit (.int .u8 0)], .agg [.lit (.int .u8 0), .lit (.int .u8 0)], .agg [.lit (.int .u8 0), .lit (.int .u8 0)]]
def laid_portolan_lex_keys {H : Type} : DataW H := .agg [.lit (.string [77, 65, 84, 67, 72]), .lit (.string [87, 72, 69, 82, 69]), .lit (.string [82, 69, 84, 85, 82, 78]), .lit (.string [68, 73, 83, 84, 73, 78, 67, 84]), .lit (.string [79, 82, 68, 69, 82]), .lit (.string [66, 89]), .lit (.string [65, 83, 67]), .lit (.string [68, 69, 83, 67]), .lit (.string [76, 73, 77, 73, 84]), .lit (.string [65, 83]), .lit (.string [65, 78, 68]), .lit (.string [79, 82]), .lit (.string [78, 79, 84]), .lit (.string [73, 83]), .lit (.string [78, 85, 76, 76]), .lit (.string [84, 82, 85, 69]), .lit (.string [70, 65, 76, 83, 69]), .lit (.string [83, 72, 79, 82, 84, 69, 83, 84]), .lit (.string [76, 69, 78, 71, 84, 72]), .lit (.string [67, 79, 85, 78, 84]), .lit (.string [83, 85, 77]), .lit (.string [77, 73, 78]), .lit (.string [77, 65, 88])]
/-- One of Go's own tables, pinned by name: the form's constant. -/
def laid_unicode_utf8_first : DataW Unit := Go.Pinned.utf8First

/-- 'portolanlaw08.SyntaxPatterns': WHATEVER THE INPUT: true; the input reads as it did. -/
def syntaxPatternsSpec : ChangeSpec := { name := "syntaxPatterns", fn := fun _ => fun
  | [d1, d2, d3, d4, d5, d6] => { results := [.lit (.bool true)], args := [d1, d2, d3, d4, d5, d6] }
  | _ => none }
def syntaxPatternsRow : OpenClaim := { program := "ytaonmhegnnpgaaadoor", sum := "8a5f7f8e2b070a50ef4526fb93574f6abfba2750ed60d37e38781f9219cb373d", func := "portolan/portolanlaw08.SyntaxPatterns", spec := "syntaxPatterns", inPlace := ["internal/abi.NoEscape", "internal/bytealg.IndexByteString"], unfollowed := true, recurses := true, named := ["unicode/utf8.first", "unicode/utf8.acceptRanges", "portolan/lex.keys"], apart := false, laid := [("unicode/utf8.acceptRanges", laid_unicode_utf8_acceptRanges), ("portolan/lex.keys", laid_portolan_lex_keys), ("unicode/utf8.first", laid_unicode_utf8_first)] }
def SyntaxPatternsSaid : Prop := syntaxPatternsRow.holds Tryd.pinned (OpenSpec.ofChange syntaxPatternsSpec)

/-- ITS FALSE NEIGHBOUR: 'it returns false'. Refute it at one input. -/
def syntaxPatternsWrong : ChangeSpec := { name := "syntaxPatterns", fn := fun _ => fun
  | [d1, d2, d3, d4, d5, d6] => { results := [.lit (.bool false)], args := [d1, d2, d3, d4, d5, d6] }
  | _ => none }
def SyntaxPatternsWrongFalsely : Prop := syntaxPatternsRow.holds Tryd.pinned (OpenSpec.ofChange syntaxPatternsWrong)

/-- 'portolanlaw08.SyntaxBlanks': WHATEVER THE INPUT: true; the input reads as it did. -/
def syntaxBlanksSpec : ChangeSpec := { name := "syntaxBlanks", fn := fun _ => fun
  | [d1, d2] => { results := [.lit (.bool true)], args := [d1, d2] }
  | _ => none }
def syntaxBlanksRow : OpenClaim := { program := "ytaonmhegnnpgaaadoor", sum := "8a5f7f8e2b070a50ef4526fb93574f6abfba2750ed60d37e38781f9219cb373d", func := "portolan/portolanlaw08.SyntaxBlanks", spec := "syntaxBlanks", inPlace := ["internal/abi.NoEscape", "internal/bytealg.IndexByteString"], unfollowed := true, recurses := true, named := ["unicode/utf8.first", "unicode/utf8.acceptRanges", "portolan/lex.keys"], apart := false, laid := [("unicode/utf8.acceptRanges", laid_unicode_utf8_acceptRanges), ("portolan/lex.keys", laid_portolan_lex_keys), ("unicode/utf8.first", laid_unicode_utf8_first)] }
def SyntaxBlanksSaid : Prop := syntaxBlanksRow.holds Tryd.pinned (OpenSpec.ofChange syntaxBlanksSpec)

/-- ITS FALSE NEIGHBOUR: 'it returns false'. Refute it at one input. -/
def syntaxBlanksWrong : ChangeSpec := { name := "syntaxBlanks", fn := fun _ => fun
  | [d1, d2] => { results := [.lit (.bool false)], args := [d1, d2] }
  | _ => none }
def SyntaxBlanksWrongFalsely : Prop := syntaxBlanksRow.holds Tryd.pinned (OpenSpec.ofChange syntaxBlanksWrong)

/-- 'portolanlaw08.SyntaxLevels': WHATEVER THE INPUT: true; the input reads as it did. -/
def syntaxLevelsSpec : ChangeSpec := { name := "syntaxLevels", fn := fun _ => fun
  | [d1, d2] => { results := [.lit (.bool true)], args := [d1, d2] }
  | _ => none }
def syntaxLevelsRow : OpenClaim := { program := "ytaonmhegnnpgaaadoor", sum := "8a5f7f8e2b070a50ef4526fb93574f6abfba2750ed60d37e38781f9219cb373d", func := "portolan/portolanlaw08.SyntaxLevels", spec := "syntaxLevels", inPlace := ["internal/abi.NoEscape", "internal/bytealg.IndexByteString"], unfollowed := true, recurses := true, named := ["unicode/utf8.first", "unicode/utf8.acceptRanges", "portolan/lex.keys"], apart := false, laid := [("unicode/utf8.acceptRanges", laid_unicode_utf8_acceptRanges), ("portolan/lex.keys", laid_portolan_lex_keys), ("unicode/utf8.first", laid_unicode_utf8_first)] }
def SyntaxLevelsSaid : Prop := syntaxLevelsRow.holds Tryd.pinned (OpenSpec.ofChange syntaxLevelsSpec)

/-- ITS FALSE NEIGHBOUR: 'it returns false'. Refute it at one input. -/
def syntaxLevelsWrong : ChangeSpec := { name := "syntaxLevels", fn := fun _ => fun
  | [d1, d2] => { results := [.lit (.bool false)], args := [d1, d2] }
  | _ => none }
def SyntaxLevelsWrongFalsely : Prop := syntaxLevelsRow.holds Tryd.pinned (OpenSpec.ofChange syntaxLevelsWrong)

/- THE SECOND FORM. 'bulk': how many values and letters a reading holds, each counted each time it is reached (what is shared counts as often as it is met; a slice's spare places count too). A statement '..UptoSaid' is the law's where the arguments, and the package variables that the reading takes, are together of bulk at most 1048576: NARROWER than '..Said'. Prove '..Said' where nothing that the law and all that it calls make is longer than what came in: it says more and counts as full. Else prove '..UptoSaid'. A law counts once. -/
mutual
def uptoBulk {H : Type} : DataW H → Nat
  | .lit (.string bytes) => bytes.length + 1
  | .lit _ => 1
  | .nil => 1
  | .ptr d => uptoBulk d + 1
  | .slice elems spare => uptoBulkAll elems + uptoBulkAll spare + 1
  | .agg parts => uptoBulkAll parts + 1
  | .iface _ d => uptoBulk d + 1
  | .map entries => uptoBulkEntries entries + 1
  | .held _ => 1
def uptoBulkAll {H : Type} : List (DataW H) → Nat
  | [] => 0
  | d :: r => uptoBulk d + uptoBulkAll r
def uptoBulkEntries {H : Type} : List (Lit × DataW H) → Nat
  | [] => 0
  | x :: r => uptoBulkEntry x + uptoBulkEntries r
def uptoBulkEntry {H : Type} : Lit × DataW H → Nat
  | (.string bytes, d) => bytes.length + uptoBulk d + 1
  | (_, d) => uptoBulk d + 1
 end
def uptoSmall : (H : Type) → List (DataW H) → Bool := fun _ ds => decide (uptoBulkAll ds ≤ 1048576)
def OpenSpec.upto (s : _root_.Go.ChangeSpec) : _root_.Go.OpenSpec := { _root_.Go.OpenSpec.ofChange s with cond := some uptoSmall }

/-- 'portolanlaw08.SyntaxPatterns', WHERE WHAT IT READS IS OF BULK AT MOST 1048576: true; the input reads as it did. -/
def syntaxPatternsUptoRow : OpenClaim := { program := "ytaonmhegnnpgaaadoor", sum := "8a5f7f8e2b070a50ef4526fb93574f6abfba2750ed60d37e38781f9219cb373d", func := "portolan/portolanlaw08.SyntaxPatterns", spec := "syntaxPatterns", inPlace := ["internal/abi.NoEscape", "internal/bytealg.IndexByteString"], unfollowed := true, recurses := true, named := ["unicode/utf8.first", "unicode/utf8.acceptRanges", "portolan/lex.keys"], apart := false, laid := [("unicode/utf8.acceptRanges", laid_unicode_utf8_acceptRanges), ("portolan/lex.keys", laid_portolan_lex_keys), ("unicode/utf8.first", laid_unicode_utf8_first)], narrowed := true }
def SyntaxPatternsUptoSaid : Prop := syntaxPatternsUptoRow.holds Tryd.pinned (OpenSpec.upto syntaxPatternsSpec)

/-- 'portolanlaw08.SyntaxBlanks', WHERE WHAT IT READS IS OF BULK AT MOST 1048576: true; the input reads as it did. -/
def syntaxBlanksUptoRow : OpenClaim := { program := "ytaonmhegnnpgaaadoor", sum := "8a5f7f8e2b070a50ef4526fb93574f6abfba2750ed60d37e38781f9219cb373d", func := "portolan/portolanlaw08.SyntaxBlanks", spec := "syntaxBlanks", inPlace := ["internal/abi.NoEscape", "internal/bytealg.IndexByteString"], unfollowed := true, recurses := true, named := ["unicode/utf8.first", "unicode/utf8.acceptRanges", "portolan/lex.keys"], apart := false, laid := [("unicode/utf8.acceptRanges", laid_unicode_utf8_acceptRanges), ("portolan/lex.keys", laid_portolan_lex_keys), ("unicode/utf8.first", laid_unicode_utf8_first)], narrowed := true }
def SyntaxBlanksUptoSaid : Prop := syntaxBlanksUptoRow.holds Tryd.pinned (OpenSpec.upto syntaxBlanksSpec)

/-- 'portolanlaw08.SyntaxLevels', WHERE WHAT IT READS IS OF BULK AT MOST 1048576: true; the input reads as it did. -/
def syntaxLevelsUptoRow : OpenClaim := { program := "ytaonmhegnnpgaaadoor", sum := "8a5f7f8e2b070a50ef4526fb93574f6abfba2750ed60d37e38781f9219cb373d", func := "portolan/portolanlaw08.SyntaxLevels", spec := "syntaxLevels", inPlace := ["internal/abi.NoEscape", "internal/bytealg.IndexByteString"], unfollowed := true, recurses := true, named := ["unicode/utf8.first", "unicode/utf8.acceptRanges", "portolan/lex.keys"], apart := false, laid := [("unicode/utf8.acceptRanges", laid_unicode_utf8_acceptRanges), ("portolan/lex.keys", laid_portolan_lex_keys), ("unicode/utf8.first", laid_unicode_utf8_first)], narrowed := true }
def SyntaxLevelsUptoSaid : Prop := syntaxLevelsUptoRow.holds Tryd.pinned (OpenSpec.upto syntaxLevelsSpec)

end Rows
end Go.Proofs.YtaonmhegnnpgaaaDoor
