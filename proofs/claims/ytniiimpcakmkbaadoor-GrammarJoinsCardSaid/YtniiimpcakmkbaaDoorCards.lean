/-
  DERIVED. GIVEN WITH THE SEED: THE CARDS: each row of YtniiimpcakmkbaaDoorRows.lean that lists a variable, with what it lists TIED to the program's text (the seventh form; the later family's looks); each row that meets fmt, with fmt's text TOLD by the authors' own Lean function (tested against real Go, not proved from fmt's source: count such statements apart). THE CARD IS WHAT COUNTS. Prove the row's statement (the work); the ties are given (YtniiimpcakmkbaaDoorTie.lean); close each card by the builder's one call (the guide's Derived/Test/ToyasCard.lean, 'card_holds'). Laid BY PROGRAM, IN A SANDBOX (cutbox-door.mjs). By AI agents, Wed Nov 11 2026. No macro, syntax, notation, axiom, sorry.
-/
import Derived.Test.YtniiimpcakmkbaaDoorRows
import GoSem.ClaimSeven
namespace Go.Proofs.YtniiimpcakmkbaaDoor
namespace Rows

/-- THE TIED CARD OF 'stilelaw06.SigilLexes'. -/
def sigilLexesCard : Claim7 := { stood := { row := sigilLexesRow, standIns := [], harness := (true, "139eced0e0e39f29d1af0bfa24cf2c9af64f90568f7d7b03cc246e705d6eec5d"), looks := true }, kinds := [], alts := [], laidByText := true, laidKinds := [.data, .pinned], laidTests := true, laidLooks := .later }
def SigilLexesCardSaid : Prop := Claim7.holds Tryd.pinned (.plain (OpenSpec.ofChange sigilLexesSpec)) sigilLexesCard

/-- THE TIED CARD OF 'stilelaw06.SigilBlanks'. -/
def sigilBlanksCard : Claim7 := { stood := { row := sigilBlanksRow, standIns := [], harness := (true, "139eced0e0e39f29d1af0bfa24cf2c9af64f90568f7d7b03cc246e705d6eec5d"), looks := true }, kinds := [], alts := [], laidByText := true, laidKinds := [.data, .pinned], laidTests := true, laidLooks := .later }
def SigilBlanksCardSaid : Prop := Claim7.holds Tryd.pinned (.plain (OpenSpec.ofChange sigilBlanksSpec)) sigilBlanksCard

/-- THE TIED CARD OF 'stilelaw06.SigilAgain'. -/
def sigilAgainCard : Claim7 := { stood := { row := sigilAgainRow, standIns := [], harness := (true, "139eced0e0e39f29d1af0bfa24cf2c9af64f90568f7d7b03cc246e705d6eec5d"), looks := true }, kinds := [], alts := [], laidByText := true, laidKinds := [.data, .pinned], laidTests := true, laidLooks := .later }
def SigilAgainCardSaid : Prop := Claim7.holds Tryd.pinned (.plain (OpenSpec.ofChange sigilAgainSpec)) sigilAgainCard

/-- THE TIED CARD OF 'stilelaw06.SigilPlaces'. -/
def sigilPlacesCard : Claim7 := { stood := { row := sigilPlacesRow, standIns := [], harness := (true, "139eced0e0e39f29d1af0bfa24cf2c9af64f90568f7d7b03cc246e705d6eec5d"), looks := true }, kinds := [], alts := [], laidByText := true, laidKinds := [.data, .pinned], laidTests := true, laidLooks := .later }
def SigilPlacesCardSaid : Prop := Claim7.holds Tryd.pinned (.plain (OpenSpec.ofChange sigilPlacesSpec)) sigilPlacesCard

/-- THE TIED CARD OF 'stilelaw06.SigilLong'. -/
def sigilLongCard : Claim7 := { stood := { row := sigilLongRow, standIns := [], harness := (true, "139eced0e0e39f29d1af0bfa24cf2c9af64f90568f7d7b03cc246e705d6eec5d"), looks := true }, kinds := [], alts := [], laidByText := true, laidKinds := [.data, .pinned], laidTests := true, laidLooks := .later }
def SigilLongCardSaid : Prop := Claim7.holds Tryd.pinned (.plain (OpenSpec.ofChange sigilLongSpec)) sigilLongCard

/-- THE TIED CARD OF 'stilelaw07.GrammarExprs'. -/
def grammarExprsCard : Claim7 := { stood := { row := grammarExprsRow, standIns := [], harness := (true, "139eced0e0e39f29d1af0bfa24cf2c9af64f90568f7d7b03cc246e705d6eec5d"), looks := true }, kinds := [], alts := [], laidByText := true, laidKinds := [.data, .sentinel, .sentinel, .pinned], laidTests := true, laidLooks := .later }
def GrammarExprsCardSaid : Prop := Claim7.holds Tryd.pinned (.plain (OpenSpec.ofChange grammarExprsSpec)) grammarExprsCard

/-- THE TIED CARD OF 'stilelaw07.GrammarJoint'. -/
def grammarJointCard : Claim7 := { stood := { row := grammarJointRow, standIns := [], harness := (true, "139eced0e0e39f29d1af0bfa24cf2c9af64f90568f7d7b03cc246e705d6eec5d"), looks := true }, kinds := [], alts := [], laidByText := true, laidKinds := [.data, .sentinel, .sentinel, .pinned], laidTests := true, laidLooks := .later }
def GrammarJointCardSaid : Prop := Claim7.holds Tryd.pinned (.plain (OpenSpec.ofChange grammarJointSpec)) grammarJointCard

/-- THE TIED CARD OF 'stilelaw07.GrammarParses'. -/
def grammarParsesCard : Claim7 := { stood := { row := grammarParsesRow, standIns := [], harness := (true, "139eced0e0e39f29d1af0bfa24cf2c9af64f90568f7d7b03cc246e705d6eec5d"), looks := true }, kinds := [], alts := [], laidByText := true, laidKinds := [.data, .sentinel, .sentinel, .pinned], laidTests := true, laidLooks := .later }
def GrammarParsesCardSaid : Prop := Claim7.holds Tryd.pinned (.plain (OpenSpec.ofChange grammarParsesSpec)) grammarParsesCard

/-- THE TIED CARD OF 'stilelaw07.GrammarJoins'. -/
def grammarJoinsCard : Claim7 := { stood := { row := grammarJoinsRow, standIns := [], harness := (true, "139eced0e0e39f29d1af0bfa24cf2c9af64f90568f7d7b03cc246e705d6eec5d"), looks := true }, kinds := [], alts := [], laidByText := true, laidKinds := [.data, .sentinel, .sentinel, .pinned], laidTests := true, laidLooks := .later }
def GrammarJoinsCardSaid : Prop := Claim7.holds Tryd.pinned (.plain (OpenSpec.ofChange grammarJoinsSpec)) grammarJoinsCard

/-- THE TIED CARD OF 'stilelaw07.GrammarNests'. -/
def grammarNestsCard : Claim7 := { stood := { row := grammarNestsRow, standIns := [], harness := (true, "139eced0e0e39f29d1af0bfa24cf2c9af64f90568f7d7b03cc246e705d6eec5d"), looks := true }, kinds := [], alts := [], laidByText := true, laidKinds := [.data, .sentinel, .sentinel, .pinned], laidTests := true, laidLooks := .later }
def GrammarNestsCardSaid : Prop := Claim7.holds Tryd.pinned (.plain (OpenSpec.ofChange grammarNestsSpec)) grammarNestsCard

/-- THE SECOND FORM's CARD OF 'stilelaw06.SigilLexes'. -/
def sigilLexesUptoCard : Claim7 := { stood := { row := sigilLexesUptoRow, standIns := [], harness := (true, "139eced0e0e39f29d1af0bfa24cf2c9af64f90568f7d7b03cc246e705d6eec5d"), looks := true }, kinds := [], alts := [], laidByText := true, laidKinds := [.data, .pinned], laidTests := true, laidLooks := .later }
def SigilLexesUptoCardSaid : Prop := Claim7.holds Tryd.pinned (.plain (OpenSpec.upto sigilLexesSpec)) sigilLexesUptoCard

/-- THE SECOND FORM's CARD OF 'stilelaw06.SigilBlanks'. -/
def sigilBlanksUptoCard : Claim7 := { stood := { row := sigilBlanksUptoRow, standIns := [], harness := (true, "139eced0e0e39f29d1af0bfa24cf2c9af64f90568f7d7b03cc246e705d6eec5d"), looks := true }, kinds := [], alts := [], laidByText := true, laidKinds := [.data, .pinned], laidTests := true, laidLooks := .later }
def SigilBlanksUptoCardSaid : Prop := Claim7.holds Tryd.pinned (.plain (OpenSpec.upto sigilBlanksSpec)) sigilBlanksUptoCard

/-- THE SECOND FORM's CARD OF 'stilelaw06.SigilAgain'. -/
def sigilAgainUptoCard : Claim7 := { stood := { row := sigilAgainUptoRow, standIns := [], harness := (true, "139eced0e0e39f29d1af0bfa24cf2c9af64f90568f7d7b03cc246e705d6eec5d"), looks := true }, kinds := [], alts := [], laidByText := true, laidKinds := [.data, .pinned], laidTests := true, laidLooks := .later }
def SigilAgainUptoCardSaid : Prop := Claim7.holds Tryd.pinned (.plain (OpenSpec.upto sigilAgainSpec)) sigilAgainUptoCard

/-- THE SECOND FORM's CARD OF 'stilelaw06.SigilPlaces'. -/
def sigilPlacesUptoCard : Claim7 := { stood := { row := sigilPlacesUptoRow, standIns := [], harness := (true, "139eced0e0e39f29d1af0bfa24cf2c9af64f90568f7d7b03cc246e705d6eec5d"), looks := true }, kinds := [], alts := [], laidByText := true, laidKinds := [.data, .pinned], laidTests := true, laidLooks := .later }
def SigilPlacesUptoCardSaid : Prop := Claim7.holds Tryd.pinned (.plain (OpenSpec.upto sigilPlacesSpec)) sigilPlacesUptoCard

/-- THE SECOND FORM's CARD OF 'stilelaw06.SigilLong'. -/
def sigilLongUptoCard : Claim7 := { stood := { row := sigilLongUptoRow, standIns := [], harness := (true, "139eced0e0e39f29d1af0bfa24cf2c9af64f90568f7d7b03cc246e705d6eec5d"), looks := true }, kinds := [], alts := [], laidByText := true, laidKinds := [.data, .pinned], laidTests := true, laidLooks := .later }
def SigilLongUptoCardSaid : Prop := Claim7.holds Tryd.pinned (.plain (OpenSpec.upto sigilLongSpec)) sigilLongUptoCard

/-- THE SECOND FORM's CARD OF 'stilelaw07.GrammarExprs'. -/
def grammarExprsUptoCard : Claim7 := { stood := { row := grammarExprsUptoRow, standIns := [], harness := (true, "139eced0e0e39f29d1af0bfa24cf2c9af64f90568f7d7b03cc246e705d6eec5d"), looks := true }, kinds := [], alts := [], laidByText := true, laidKinds := [.data, .sentinel, .sentinel, .pinned], laidTests := true, laidLooks := .later }
def GrammarExprsUptoCardSaid : Prop := Claim7.holds Tryd.pinned (.plain (OpenSpec.upto grammarExprsSpec)) grammarExprsUptoCard

/-- THE SECOND FORM's CARD OF 'stilelaw07.GrammarJoint'. -/
def grammarJointUptoCard : Claim7 := { stood := { row := grammarJointUptoRow, standIns := [], harness := (true, "139eced0e0e39f29d1af0bfa24cf2c9af64f90568f7d7b03cc246e705d6eec5d"), looks := true }, kinds := [], alts := [], laidByText := true, laidKinds := [.data, .sentinel, .sentinel, .pinned], laidTests := true, laidLooks := .later }
def GrammarJointUptoCardSaid : Prop := Claim7.holds Tryd.pinned (.plain (OpenSpec.upto grammarJointSpec)) grammarJointUptoCard

/-- THE SECOND FORM's CARD OF 'stilelaw07.GrammarParses'. -/
def grammarParsesUptoCard : Claim7 := { stood := { row := grammarParsesUptoRow, standIns := [], harness := (true, "139eced0e0e39f29d1af0bfa24cf2c9af64f90568f7d7b03cc246e705d6eec5d"), looks := true }, kinds := [], alts := [], laidByText := true, laidKinds := [.data, .sentinel, .sentinel, .pinned], laidTests := true, laidLooks := .later }
def GrammarParsesUptoCardSaid : Prop := Claim7.holds Tryd.pinned (.plain (OpenSpec.upto grammarParsesSpec)) grammarParsesUptoCard

/-- THE SECOND FORM's CARD OF 'stilelaw07.GrammarJoins'. -/
def grammarJoinsUptoCard : Claim7 := { stood := { row := grammarJoinsUptoRow, standIns := [], harness := (true, "139eced0e0e39f29d1af0bfa24cf2c9af64f90568f7d7b03cc246e705d6eec5d"), looks := true }, kinds := [], alts := [], laidByText := true, laidKinds := [.data, .sentinel, .sentinel, .pinned], laidTests := true, laidLooks := .later }
def GrammarJoinsUptoCardSaid : Prop := Claim7.holds Tryd.pinned (.plain (OpenSpec.upto grammarJoinsSpec)) grammarJoinsUptoCard

/-- THE SECOND FORM's CARD OF 'stilelaw07.GrammarNests'. -/
def grammarNestsUptoCard : Claim7 := { stood := { row := grammarNestsUptoRow, standIns := [], harness := (true, "139eced0e0e39f29d1af0bfa24cf2c9af64f90568f7d7b03cc246e705d6eec5d"), looks := true }, kinds := [], alts := [], laidByText := true, laidKinds := [.data, .sentinel, .sentinel, .pinned], laidTests := true, laidLooks := .later }
def GrammarNestsUptoCardSaid : Prop := Claim7.holds Tryd.pinned (.plain (OpenSpec.upto grammarNestsSpec)) grammarNestsUptoCard
end Rows
end Go.Proofs.YtniiimpcakmkbaaDoor
