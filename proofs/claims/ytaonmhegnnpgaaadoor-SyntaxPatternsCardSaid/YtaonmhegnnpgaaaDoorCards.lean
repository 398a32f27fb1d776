/-
  DERIVED. GIVEN WITH THE SEED: THE CARDS: each row of YtaonmhegnnpgaaaDoorRows.lean that lists a variable, with what it lists TIED to the program's text (the seventh form; the later family's looks); each row that meets fmt, with fmt's text TOLD by the authors' own Lean function (tested against real Go, not proved from fmt's source: count such statements apart). THE CARD IS WHAT COUNTS. Prove the row's statement (the work); the ties are given (YtaonmhegnnpgaaaDoorTie.lean); close each card by the builder's one call (the guide's Derived/Test/ToyasCard.lean, 'card_holds'). Laid BY PROGRAM, IN A SANDBOX (cutbox-door.mjs). By AI agents, Wed Nov 11 2026. No macro, syntax, notation, axiom, sorry.
-/
import Derived.Test.YtaonmhegnnpgaaaDoorRows
import GoSem.ClaimSeven
namespace Go.Proofs.YtaonmhegnnpgaaaDoor
namespace Rows

/-- THE TIED CARD OF 'portolanlaw08.SyntaxPatterns'. -/
def syntaxPatternsCard : Claim7 := { stood := { row := syntaxPatternsRow, standIns := [], harness := (true, "2b8f8600158276c2b09d704a14fac37dde3e29fab55730aae36ec6db79be273f"), looks := true }, kinds := [], alts := [], laidByText := true, laidKinds := [.data, .widerDeep, .pinned], laidTests := true, laidLooks := .later }
def SyntaxPatternsCardSaid : Prop := Claim7.holds Tryd.pinned (.plain (OpenSpec.ofChange syntaxPatternsSpec)) syntaxPatternsCard

/-- THE TIED CARD OF 'portolanlaw08.SyntaxBlanks'. -/
def syntaxBlanksCard : Claim7 := { stood := { row := syntaxBlanksRow, standIns := [], harness := (true, "2b8f8600158276c2b09d704a14fac37dde3e29fab55730aae36ec6db79be273f"), looks := true }, kinds := [], alts := [], laidByText := true, laidKinds := [.data, .widerDeep, .pinned], laidTests := true, laidLooks := .later }
def SyntaxBlanksCardSaid : Prop := Claim7.holds Tryd.pinned (.plain (OpenSpec.ofChange syntaxBlanksSpec)) syntaxBlanksCard

/-- THE TIED CARD OF 'portolanlaw08.SyntaxLevels'. -/
def syntaxLevelsCard : Claim7 := { stood := { row := syntaxLevelsRow, standIns := [], harness := (true, "2b8f8600158276c2b09d704a14fac37dde3e29fab55730aae36ec6db79be273f"), looks := true }, kinds := [], alts := [], laidByText := true, laidKinds := [.data, .widerDeep, .pinned], laidTests := true, laidLooks := .later }
def SyntaxLevelsCardSaid : Prop := Claim7.holds Tryd.pinned (.plain (OpenSpec.ofChange syntaxLevelsSpec)) syntaxLevelsCard

/-- THE SECOND FORM's CARD OF 'portolanlaw08.SyntaxPatterns'. -/
def syntaxPatternsUptoCard : Claim7 := { stood := { row := syntaxPatternsUptoRow, standIns := [], harness := (true, "2b8f8600158276c2b09d704a14fac37dde3e29fab55730aae36ec6db79be273f"), looks := true }, kinds := [], alts := [], laidByText := true, laidKinds := [.data, .widerDeep, .pinned], laidTests := true, laidLooks := .later }
def SyntaxPatternsUptoCardSaid : Prop := Claim7.holds Tryd.pinned (.plain (OpenSpec.upto syntaxPatternsSpec)) syntaxPatternsUptoCard

/-- THE SECOND FORM's CARD OF 'portolanlaw08.SyntaxBlanks'. -/
def syntaxBlanksUptoCard : Claim7 := { stood := { row := syntaxBlanksUptoRow, standIns := [], harness := (true, "2b8f8600158276c2b09d704a14fac37dde3e29fab55730aae36ec6db79be273f"), looks := true }, kinds := [], alts := [], laidByText := true, laidKinds := [.data, .widerDeep, .pinned], laidTests := true, laidLooks := .later }
def SyntaxBlanksUptoCardSaid : Prop := Claim7.holds Tryd.pinned (.plain (OpenSpec.upto syntaxBlanksSpec)) syntaxBlanksUptoCard

/-- THE SECOND FORM's CARD OF 'portolanlaw08.SyntaxLevels'. -/
def syntaxLevelsUptoCard : Claim7 := { stood := { row := syntaxLevelsUptoRow, standIns := [], harness := (true, "2b8f8600158276c2b09d704a14fac37dde3e29fab55730aae36ec6db79be273f"), looks := true }, kinds := [], alts := [], laidByText := true, laidKinds := [.data, .widerDeep, .pinned], laidTests := true, laidLooks := .later }
def SyntaxLevelsUptoCardSaid : Prop := Claim7.holds Tryd.pinned (.plain (OpenSpec.upto syntaxLevelsSpec)) syntaxLevelsUptoCard
end Rows
end Go.Proofs.YtaonmhegnnpgaaaDoor
