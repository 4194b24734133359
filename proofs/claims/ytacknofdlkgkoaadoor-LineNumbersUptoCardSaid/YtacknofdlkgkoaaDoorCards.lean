/-
  DERIVED. GIVEN WITH THE SEED: THE CARDS: each row of YtacknofdlkgkoaaDoorRows.lean that lists a variable, with what it lists TIED to the program's text (the seventh form; the later family's looks); each row that meets fmt, with fmt's text TOLD by the authors' own Lean function (tested against real Go, not proved from fmt's source: count such statements apart). THE CARD IS WHAT COUNTS. Prove the row's statement (the work); the ties are given (YtacknofdlkgkoaaDoorTie.lean); close each card by the builder's one call (the guide's Derived/Test/ToyasCard.lean, 'card_holds'). Laid BY PROGRAM, IN A SANDBOX (cutbox-door.mjs). By AI agents, Wed Nov 11 2026. No macro, syntax, notation, axiom, sorry.
-/
import Derived.Test.YtacknofdlkgkoaaDoorRows
import GoSem.ClaimSeven
namespace Go.Proofs.YtacknofdlkgkoaaDoor
namespace Rows

/-- THE TIED CARD OF 'tabardlaw24.LineParses'. -/
def lineParsesCard : Claim7 := { stood := { row := lineParsesRow, standIns := [], harness := (true, "223705eda7fac80588af3e53f7857d0c75be33e9c8fa21315f48d1e2f37bfbe0"), looks := true }, kinds := [], alts := [], laidByText := true, laidKinds := [.data, .data, .data, .data, .sentinel, .sentinel, .pinned], laidTests := true, laidLooks := .later }
def LineParsesCardSaid : Prop := Claim7.holds Tryd.pinned (.plain (OpenSpec.ofChange lineParsesSpec)) lineParsesCard

/-- THE TIED CARD OF 'tabardlaw24.LineNumbers'. -/
def lineNumbersCard : Claim7 := { stood := { row := lineNumbersRow, standIns := [], harness := (true, "223705eda7fac80588af3e53f7857d0c75be33e9c8fa21315f48d1e2f37bfbe0"), looks := true }, kinds := [], alts := [], laidByText := true, laidKinds := [.data, .data, .data, .data, .sentinel, .sentinel, .pinned], laidTests := true, laidLooks := .later }
def LineNumbersCardSaid : Prop := Claim7.holds Tryd.pinned (.plain (OpenSpec.ofChange lineNumbersSpec)) lineNumbersCard

/-- THE TIED CARD OF 'tabardlaw24.LineBlanks'. -/
def lineBlanksCard : Claim7 := { stood := { row := lineBlanksRow, standIns := [], harness := (true, "223705eda7fac80588af3e53f7857d0c75be33e9c8fa21315f48d1e2f37bfbe0"), looks := true }, kinds := [], alts := [], laidByText := true, laidKinds := [.data, .data, .data, .data, .sentinel, .sentinel, .pinned], laidTests := true, laidLooks := .later }
def LineBlanksCardSaid : Prop := Claim7.holds Tryd.pinned (.plain (OpenSpec.ofChange lineBlanksSpec)) lineBlanksCard

/-- THE SECOND FORM's CARD OF 'tabardlaw24.LineParses'. -/
def lineParsesUptoCard : Claim7 := { stood := { row := lineParsesUptoRow, standIns := [], harness := (true, "223705eda7fac80588af3e53f7857d0c75be33e9c8fa21315f48d1e2f37bfbe0"), looks := true }, kinds := [], alts := [], laidByText := true, laidKinds := [.data, .data, .data, .data, .sentinel, .sentinel, .pinned], laidTests := true, laidLooks := .later }
def LineParsesUptoCardSaid : Prop := Claim7.holds Tryd.pinned (.plain (OpenSpec.upto lineParsesSpec)) lineParsesUptoCard

/-- THE SECOND FORM's CARD OF 'tabardlaw24.LineNumbers'. -/
def lineNumbersUptoCard : Claim7 := { stood := { row := lineNumbersUptoRow, standIns := [], harness := (true, "223705eda7fac80588af3e53f7857d0c75be33e9c8fa21315f48d1e2f37bfbe0"), looks := true }, kinds := [], alts := [], laidByText := true, laidKinds := [.data, .data, .data, .data, .sentinel, .sentinel, .pinned], laidTests := true, laidLooks := .later }
def LineNumbersUptoCardSaid : Prop := Claim7.holds Tryd.pinned (.plain (OpenSpec.upto lineNumbersSpec)) lineNumbersUptoCard

/-- THE SECOND FORM's CARD OF 'tabardlaw24.LineBlanks'. -/
def lineBlanksUptoCard : Claim7 := { stood := { row := lineBlanksUptoRow, standIns := [], harness := (true, "223705eda7fac80588af3e53f7857d0c75be33e9c8fa21315f48d1e2f37bfbe0"), looks := true }, kinds := [], alts := [], laidByText := true, laidKinds := [.data, .data, .data, .data, .sentinel, .sentinel, .pinned], laidTests := true, laidLooks := .later }
def LineBlanksUptoCardSaid : Prop := Claim7.holds Tryd.pinned (.plain (OpenSpec.upto lineBlanksSpec)) lineBlanksUptoCard
end Rows
end Go.Proofs.YtacknofdlkgkoaaDoor
