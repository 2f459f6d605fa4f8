/-
  NARROWER THAN 'FOR EVERY INPUT', by the rows' own cells (each row's printed sentence says how): SigilLexes: laid · SigilBlanks: laid · SigilAgain: laid · SigilPlaces: laid · SigilLong: laid · GrammarExprs: laid · GrammarJoint: laid · GrammarParses: laid · GrammarJoins: laid · GrammarNests: laid.
  DERIVED. THE GIVEN ROWS OF THIS SEAT. 10 by the template 'for every input the law returns true; each argument reads behind the call as it read before'; 0 by the template 'total and deterministic' (their statements: YtniiimpcakmkbaaDoorTotals.lean).
  GIVEN WITH THE SEED: the statements are not yours to turn. If you find one false, say at which input.
  Laid BY PROGRAM, IN A SANDBOX (cutbox-rows.mjs): the forced cells as the released guide's own fill.sh prints them over the translation 27fd15106d168743… (all of the seat's roots in one cut). By AI agents, Wed Nov 11 2026. No macro, syntax, notation, axiom, sorry.
-/
import Derived.Test.YtniiimpcakmkbaaDoorChecked
import GoSem.PinnedTables
import GoSem.Claim
import GoSem.ClaimJoined
import GoSem.ClaimMapViews
import Derived.JoinedTies
import Derived.KernelRfl
namespace Go.Proofs.YtniiimpcakmkbaaDoor
/- THE CELL 'sum', in the pinned program and in every row, IS THE sha256 OF THE DUMP (.gsa) THAT YtniiimpcakmkbaaDoorProg.lean LOADS. Nothing in Lean hashes anything: it is a label: what it is worth is what the hold of that sum in a sandbox is worth. -/
noncomputable def Tryd.pinned : Pinned := { name := "ytniiimpcakmkbaadoor", sum := "27fd15106d16874318dcb10abd76f01777c19cf5f384d55f95659ee859ff137a", checked := Tryd.checked }
namespace Rows
def none {H : Type} : Left H := { results := [], args := [] }

/- WHAT THE LISTED PACKAGE-LEVEL VARIABLES READ AS WHEN THE CALL BEGINS. Each datum BY PROGRAM (the guide's laid-datum.mjs) off the statement by which the dump's own 'gosem.cut.vars' lays the variable. In a bare row this is a premise. The card (YtniiimpcakmkbaaDoorCards.lean) ties it to the program's text. -/
def laid_unicode_utf8_acceptRanges {H : Type} : DataW H := .agg [.agg [.lit (.int .u8 128), .lit (.int .u8 191)], .agg [.lit (.int .u8 160), .lit (.int .u8 191)], .agg [.lit (.int .u8 128), .lit (.int .u8 159)], .agg [.lit (.int .u8 144), .lit (.int .u8 191)], .agg [.lit (.int .u8 128), .lit (.int .u8 143)], .agg [.lit (.int .u8 0), .lit (.int .u8 0)], .agg [.lit (.int .u8 0), .lit (.int .u8 0)], .agg [.lit (.int .u8 0), .lit (.int .u8 0)], .agg [.lit (.int .u8 0), .lit (.int .u8 0)], .agg [.lit (.int .u8 0), .lit (.int .u8 0)], .agg [.lit (.int .u8 0), .lit (.int .u8 0)], .agg [.lit (.int .u8 0), .lit (.int .u8 0)], .agg [.lit (.int .u8 0), .lit (.int .u8 0)], .agg [.lit (.int .u8 0), .lit (.int .u8 0)], .agg [.lit (.int .u8 0), .lit (.int .u8 0)], .agg [.lit (.int .u8 0), .lit (.int .u8 0)]]
/-- One of Go's own tables, pinned by name: the form's constant. -/
def laid_unicode_utf8_first : DataW Unit := Go.Pinned.utf8First
def laid_stile_grammar_errSyntax {H : Type} : DataW H := .iface "*errors.errorString" (.ptr (.agg [.lit (.string [97, 110, 111, 116, 104, 101, 114, 32, 116, 111, 107, 101, 110, 32, 119, 97, 115, 32, 116, 111, 32, 115, 116, 97, 110, 100, 32, 116, 104, 101, 114, 101])]))
def laid_stile_grammar_errDeep {H : Type} : DataW H := .iface "*errors.errorString" (.ptr (.agg [.lit (.string [116, 111, 111, 32, 100, 101, 101, 112])]))

/-- 'stilelaw06.SigilLexes': WHATEVER THE INPUT: true; the input reads as it did. -/
def sigilLexesSpec : ChangeSpec := { name := "sigilLexes", fn := fun _ => fun
  | [d] => { results := [.lit (.bool true)], args := [d] }
  | _ => none }
def sigilLexesRow : OpenClaim := { program := "ytniiimpcakmkbaadoor", sum := "27fd15106d16874318dcb10abd76f01777c19cf5f384d55f95659ee859ff137a", func := "stile/stilelaw06.SigilLexes", spec := "sigilLexes", inPlace := ["internal/bytealg.IndexByteString", "internal/bytealg.IndexString"], recurses := true, named := ["unicode/utf8.first", "unicode/utf8.acceptRanges", "internal/bytealg.MaxLen"], apart := false, laid := [("unicode/utf8.acceptRanges", laid_unicode_utf8_acceptRanges), ("unicode/utf8.first", laid_unicode_utf8_first)] }
def SigilLexesSaid : Prop := sigilLexesRow.holds Tryd.pinned (OpenSpec.ofChange sigilLexesSpec)

/-- ITS FALSE NEIGHBOUR: 'it returns false'. Refute it at one input. -/
def sigilLexesWrong : ChangeSpec := { name := "sigilLexes", fn := fun _ => fun
  | [d] => { results := [.lit (.bool false)], args := [d] }
  | _ => none }
def SigilLexesWrongFalsely : Prop := sigilLexesRow.holds Tryd.pinned (OpenSpec.ofChange sigilLexesWrong)

/-- 'stilelaw06.SigilBlanks': WHATEVER THE INPUT: true; the input reads as it did. -/
def sigilBlanksSpec : ChangeSpec := { name := "sigilBlanks", fn := fun _ => fun
  | [d1, d2, d3] => { results := [.lit (.bool true)], args := [d1, d2, d3] }
  | _ => none }
def sigilBlanksRow : OpenClaim := { program := "ytniiimpcakmkbaadoor", sum := "27fd15106d16874318dcb10abd76f01777c19cf5f384d55f95659ee859ff137a", func := "stile/stilelaw06.SigilBlanks", spec := "sigilBlanks", inPlace := ["internal/bytealg.IndexByteString", "internal/bytealg.IndexString"], recurses := true, named := ["unicode/utf8.first", "unicode/utf8.acceptRanges", "internal/bytealg.MaxLen"], apart := false, laid := [("unicode/utf8.acceptRanges", laid_unicode_utf8_acceptRanges), ("unicode/utf8.first", laid_unicode_utf8_first)] }
def SigilBlanksSaid : Prop := sigilBlanksRow.holds Tryd.pinned (OpenSpec.ofChange sigilBlanksSpec)

/-- ITS FALSE NEIGHBOUR: 'it returns false'. Refute it at one input. -/
def sigilBlanksWrong : ChangeSpec := { name := "sigilBlanks", fn := fun _ => fun
  | [d1, d2, d3] => { results := [.lit (.bool false)], args := [d1, d2, d3] }
  | _ => none }
def SigilBlanksWrongFalsely : Prop := sigilBlanksRow.holds Tryd.pinned (OpenSpec.ofChange sigilBlanksWrong)

/-- 'stilelaw06.SigilAgain': WHATEVER THE INPUT: true; the input reads as it did. -/
def sigilAgainSpec : ChangeSpec := { name := "sigilAgain", fn := fun _ => fun
  | [d] => { results := [.lit (.bool true)], args := [d] }
  | _ => none }
def sigilAgainRow : OpenClaim := { program := "ytniiimpcakmkbaadoor", sum := "27fd15106d16874318dcb10abd76f01777c19cf5f384d55f95659ee859ff137a", func := "stile/stilelaw06.SigilAgain", spec := "sigilAgain", inPlace := ["internal/bytealg.IndexByteString", "internal/bytealg.IndexString"], recurses := true, named := ["unicode/utf8.first", "unicode/utf8.acceptRanges", "internal/bytealg.MaxLen"], apart := false, laid := [("unicode/utf8.acceptRanges", laid_unicode_utf8_acceptRanges), ("unicode/utf8.first", laid_unicode_utf8_first)] }
def SigilAgainSaid : Prop := sigilAgainRow.holds Tryd.pinned (OpenSpec.ofChange sigilAgainSpec)

/-- ITS FALSE NEIGHBOUR: 'it returns false'. Refute it at one input. -/
def sigilAgainWrong : ChangeSpec := { name := "sigilAgain", fn := fun _ => fun
  | [d] => { results := [.lit (.bool false)], args := [d] }
  | _ => none }
def SigilAgainWrongFalsely : Prop := sigilAgainRow.holds Tryd.pinned (OpenSpec.ofChange sigilAgainWrong)

/-- 'stilelaw06.SigilPlaces': WHATEVER THE INPUT: true; the input reads as it did. -/
def sigilPlacesSpec : ChangeSpec := { name := "sigilPlaces", fn := fun _ => fun
  | [d] => { results := [.lit (.bool true)], args := [d] }
  | _ => none }
def sigilPlacesRow : OpenClaim := { program := "ytniiimpcakmkbaadoor", sum := "27fd15106d16874318dcb10abd76f01777c19cf5f384d55f95659ee859ff137a", func := "stile/stilelaw06.SigilPlaces", spec := "sigilPlaces", inPlace := ["internal/bytealg.IndexByteString", "internal/bytealg.IndexString"], recurses := true, named := ["unicode/utf8.first", "unicode/utf8.acceptRanges", "internal/bytealg.MaxLen"], apart := false, laid := [("unicode/utf8.acceptRanges", laid_unicode_utf8_acceptRanges), ("unicode/utf8.first", laid_unicode_utf8_first)] }
def SigilPlacesSaid : Prop := sigilPlacesRow.holds Tryd.pinned (OpenSpec.ofChange sigilPlacesSpec)

/-- ITS FALSE NEIGHBOUR: 'it returns false'. Refute it at one input. -/
def sigilPlacesWrong : ChangeSpec := { name := "sigilPlaces", fn := fun _ => fun
  | [d] => { results := [.lit (.bool false)], args := [d] }
  | _ => none }
def SigilPlacesWrongFalsely : Prop := sigilPlacesRow.holds Tryd.pinned (OpenSpec.ofChange sigilPlacesWrong)

/-- 'stilelaw06.SigilLong': WHATEVER THE INPUT: true; the input reads as it did. -/
def sigilLongSpec : ChangeSpec := { name := "sigilLong", fn := fun _ => fun
  | [d1, d2] => { results := [.lit (.bool true)], args := [d1, d2] }
  | _ => none }
def sigilLongRow : OpenClaim := { program := "ytniiimpcakmkbaadoor", sum := "27fd15106d16874318dcb10abd76f01777c19cf5f384d55f95659ee859ff137a", func := "stile/stilelaw06.SigilLong", spec := "sigilLong", inPlace := ["internal/bytealg.IndexByteString", "internal/bytealg.IndexString", "internal/abi.NoEscape", "internal/bytealg.MakeNoZero"], recurses := true, named := ["unicode/utf8.first", "unicode/utf8.acceptRanges", "internal/bytealg.MaxLen"], apart := false, laid := [("unicode/utf8.acceptRanges", laid_unicode_utf8_acceptRanges), ("unicode/utf8.first", laid_unicode_utf8_first)] }
def SigilLongSaid : Prop := sigilLongRow.holds Tryd.pinned (OpenSpec.ofChange sigilLongSpec)

/-- ITS FALSE NEIGHBOUR: 'it returns false'. Refute it at one input. -/
def sigilLongWrong : ChangeSpec := { name := "sigilLong", fn := fun _ => fun
  | [d1, d2] => { results := [.lit (.bool false)], args := [d1, d2] }
  | _ => none }
def SigilLongWrongFalsely : Prop := sigilLongRow.holds Tryd.pinned (OpenSpec.ofChange sigilLongWrong)

/-- 'stilelaw07.GrammarExprs': WHATEVER THE INPUT: true; the input reads as it did. -/
def grammarExprsSpec : ChangeSpec := { name := "grammarExprs", fn := fun _ => fun
  | [d] => { results := [.lit (.bool true)], args := [d] }
  | _ => none }
def grammarExprsRow : OpenClaim := { program := "ytniiimpcakmkbaadoor", sum := "27fd15106d16874318dcb10abd76f01777c19cf5f384d55f95659ee859ff137a", func := "stile/stilelaw07.GrammarExprs", spec := "grammarExprs", inPlace := ["internal/bytealg.IndexByteString", "internal/bytealg.IndexString", "internal/reflectlite.TypeOf"], unfollowed := true, recurses := true, named := ["stile/grammar.errSyntax", "stile/grammar.errDeep", "unicode/utf8.first", "unicode/utf8.acceptRanges", "internal/bytealg.MaxLen"], apart := false, laid := [("unicode/utf8.acceptRanges", laid_unicode_utf8_acceptRanges), ("stile/grammar.errSyntax", laid_stile_grammar_errSyntax), ("stile/grammar.errDeep", laid_stile_grammar_errDeep), ("unicode/utf8.first", laid_unicode_utf8_first)] }
def GrammarExprsSaid : Prop := grammarExprsRow.holds Tryd.pinned (OpenSpec.ofChange grammarExprsSpec)

/-- ITS FALSE NEIGHBOUR: 'it returns false'. Refute it at one input. -/
def grammarExprsWrong : ChangeSpec := { name := "grammarExprs", fn := fun _ => fun
  | [d] => { results := [.lit (.bool false)], args := [d] }
  | _ => none }
def GrammarExprsWrongFalsely : Prop := grammarExprsRow.holds Tryd.pinned (OpenSpec.ofChange grammarExprsWrong)

/-- 'stilelaw07.GrammarJoint': WHATEVER THE INPUT: true; the input reads as it did. -/
def grammarJointSpec : ChangeSpec := { name := "grammarJoint", fn := fun _ => fun
  | [d1, d2, d3] => { results := [.lit (.bool true)], args := [d1, d2, d3] }
  | _ => none }
def grammarJointRow : OpenClaim := { program := "ytniiimpcakmkbaadoor", sum := "27fd15106d16874318dcb10abd76f01777c19cf5f384d55f95659ee859ff137a", func := "stile/stilelaw07.GrammarJoint", spec := "grammarJoint", inPlace := ["internal/bytealg.IndexByteString", "internal/bytealg.IndexString", "internal/reflectlite.TypeOf"], unfollowed := true, recurses := true, named := ["stile/grammar.errSyntax", "stile/grammar.errDeep", "unicode/utf8.first", "unicode/utf8.acceptRanges", "internal/bytealg.MaxLen"], apart := false, laid := [("unicode/utf8.acceptRanges", laid_unicode_utf8_acceptRanges), ("stile/grammar.errSyntax", laid_stile_grammar_errSyntax), ("stile/grammar.errDeep", laid_stile_grammar_errDeep), ("unicode/utf8.first", laid_unicode_utf8_first)] }
def GrammarJointSaid : Prop := grammarJointRow.holds Tryd.pinned (OpenSpec.ofChange grammarJointSpec)

/-- ITS FALSE NEIGHBOUR: 'it returns false'. Refute it at one input. -/
def grammarJointWrong : ChangeSpec := { name := "grammarJoint", fn := fun _ => fun
  | [d1, d2, d3] => { results := [.lit (.bool false)], args := [d1, d2, d3] }
  | _ => none }
def GrammarJointWrongFalsely : Prop := grammarJointRow.holds Tryd.pinned (OpenSpec.ofChange grammarJointWrong)

/-- 'stilelaw07.GrammarParses': WHATEVER THE INPUT: true; the input reads as it did. -/
def grammarParsesSpec : ChangeSpec := { name := "grammarParses", fn := fun _ => fun
  | [d] => { results := [.lit (.bool true)], args := [d] }
  | _ => none }
def grammarParsesRow : OpenClaim := { program := "ytniiimpcakmkbaadoor", sum := "27fd15106d16874318dcb10abd76f01777c19cf5f384d55f95659ee859ff137a", func := "stile/stilelaw07.GrammarParses", spec := "grammarParses", inPlace := ["internal/bytealg.IndexByteString", "internal/bytealg.IndexString", "internal/reflectlite.TypeOf"], unfollowed := true, recurses := true, named := ["stile/grammar.errSyntax", "stile/grammar.errDeep", "unicode/utf8.first", "unicode/utf8.acceptRanges", "internal/bytealg.MaxLen"], apart := false, laid := [("unicode/utf8.acceptRanges", laid_unicode_utf8_acceptRanges), ("stile/grammar.errSyntax", laid_stile_grammar_errSyntax), ("stile/grammar.errDeep", laid_stile_grammar_errDeep), ("unicode/utf8.first", laid_unicode_utf8_first)] }
def GrammarParsesSaid : Prop := grammarParsesRow.holds Tryd.pinned (OpenSpec.ofChange grammarParsesSpec)

/-- ITS FALSE NEIGHBOUR: 'it returns false'. Refute it at one input. -/
def grammarParsesWrong : ChangeSpec := { name := "grammarParses", fn := fun _ => fun
  | [d] => { results := [.lit (.bool false)], args := [d] }
  | _ => none }
def GrammarParsesWrongFalsely : Prop := grammarParsesRow.holds Tryd.pinned (OpenSpec.ofChange grammarParsesWrong)

/-- 'stilelaw07.GrammarJoins': WHATEVER THE INPUT: true; the input reads as it did. -/
def grammarJoinsSpec : ChangeSpec := { name := "grammarJoins", fn := fun _ => fun
  | [d1, d2] => { results := [.lit (.bool true)], args := [d1, d2] }
  | _ => none }
def grammarJoinsRow : OpenClaim := { program := "ytniiimpcakmkbaadoor", sum := "27fd15106d16874318dcb10abd76f01777c19cf5f384d55f95659ee859ff137a", func := "stile/stilelaw07.GrammarJoins", spec := "grammarJoins", inPlace := ["internal/bytealg.IndexByteString", "internal/bytealg.IndexString", "internal/reflectlite.TypeOf"], unfollowed := true, recurses := true, named := ["stile/grammar.errSyntax", "stile/grammar.errDeep", "unicode/utf8.first", "unicode/utf8.acceptRanges", "internal/bytealg.MaxLen"], apart := false, laid := [("unicode/utf8.acceptRanges", laid_unicode_utf8_acceptRanges), ("stile/grammar.errSyntax", laid_stile_grammar_errSyntax), ("stile/grammar.errDeep", laid_stile_grammar_errDeep), ("unicode/utf8.first", laid_unicode_utf8_first)] }
def GrammarJoinsSaid : Prop := grammarJoinsRow.holds Tryd.pinned (OpenSpec.ofChange grammarJoinsSpec)

/-- ITS FALSE NEIGHBOUR: 'it returns false'. Refute it at one input. -/
def grammarJoinsWrong : ChangeSpec := { name := "grammarJoins", fn := fun _ => fun
  | [d1, d2] => { results := [.lit (.bool false)], args := [d1, d2] }
  | _ => none }
def GrammarJoinsWrongFalsely : Prop := grammarJoinsRow.holds Tryd.pinned (OpenSpec.ofChange grammarJoinsWrong)

/-- 'stilelaw07.GrammarNests': WHATEVER THE INPUT: true; the input reads as it did. -/
def grammarNestsSpec : ChangeSpec := { name := "grammarNests", fn := fun _ => fun
  | [d] => { results := [.lit (.bool true)], args := [d] }
  | _ => none }
def grammarNestsRow : OpenClaim := { program := "ytniiimpcakmkbaadoor", sum := "27fd15106d16874318dcb10abd76f01777c19cf5f384d55f95659ee859ff137a", func := "stile/stilelaw07.GrammarNests", spec := "grammarNests", inPlace := ["internal/bytealg.IndexByteString", "internal/bytealg.IndexString", "internal/reflectlite.TypeOf", "internal/abi.NoEscape", "internal/bytealg.MakeNoZero"], unfollowed := true, recurses := true, named := ["stile/grammar.errSyntax", "stile/grammar.errDeep", "unicode/utf8.first", "unicode/utf8.acceptRanges", "internal/bytealg.MaxLen"], apart := false, laid := [("unicode/utf8.acceptRanges", laid_unicode_utf8_acceptRanges), ("stile/grammar.errSyntax", laid_stile_grammar_errSyntax), ("stile/grammar.errDeep", laid_stile_grammar_errDeep), ("unicode/utf8.first", laid_unicode_utf8_first)] }
def GrammarNestsSaid : Prop := grammarNestsRow.holds Tryd.pinned (OpenSpec.ofChange grammarNestsSpec)

/-- ITS FALSE NEIGHBOUR: 'it returns false'. Refute it at one input. -/
def grammarNestsWrong : ChangeSpec := { name := "grammarNests", fn := fun _ => fun
  | [d] => { results := [.lit (.bool false)], args := [d] }
  | _ => none }
def GrammarNestsWrongFalsely : Prop := grammarNestsRow.holds Tryd.pinned (OpenSpec.ofChange grammarNestsWrong)

/- THE SECOND FORM. 'bulk': how many values and letters a reading holds, each counted each time it is reached (what is shared counts as often as it is met; a slice's spare places count too). A statement '..UptoSaid' is the law's where the arguments, and the package variables that the reading takes, are together of bulk at most 1048576: NARROWER than '..Said'. Prove '..Said' where nothing that the law and all that it calls make is longer than what came in: it says more and counts as full. Else prove '..UptoSaid'. A law counts once. -/
mutual
def uptoBulk {H : Type} : DataW H → Nat
  | .lit (.string bytes) => bytes.length + 1
  | .lit _ => 1
  | .nil => 1
  | .ptr d => uptoBulk d + 1
  | .slice elems spare => uptoBulkAll elems + uptoBulkAll spare + 1
  | .agg parts => uptoBulkAll parts + 1
  | .iface _ d => uptoBulk d + 1
  | .map entries => uptoBulkEntries entries + 1
  | .held _ => 1
def uptoBulkAll {H : Type} : List (DataW H) → Nat
  | [] => 0
  | d :: r => uptoBulk d + uptoBulkAll r
def uptoBulkEntries {H : Type} : List (Lit × DataW H) → Nat
  | [] => 0
  | x :: r => uptoBulkEntry x + uptoBulkEntries r
def uptoBulkEntry {H : Type} : Lit × DataW H → Nat
  | (.string bytes, d) => bytes.length + uptoBulk d + 1
  | (_, d) => uptoBulk d + 1
 end
def uptoSmall : (H : Type) → List (DataW H) → Bool := fun _ ds => decide (uptoBulkAll ds ≤ 1048576)
def OpenSpec.upto (s : _root_.Go.ChangeSpec) : _root_.Go.OpenSpec := { _root_.Go.OpenSpec.ofChange s with cond := some uptoSmall }

/-- 'stilelaw06.SigilLexes', WHERE WHAT IT READS IS OF BULK AT MOST 1048576: true; the input reads as it did. -/
def sigilLexesUptoRow : OpenClaim := { program := "ytniiimpcakmkbaadoor", sum := "27fd15106d16874318dcb10abd76f01777c19cf5f384d55f95659ee859ff137a", func := "stile/stilelaw06.SigilLexes", spec := "sigilLexes", inPlace := ["internal/bytealg.IndexByteString", "internal/bytealg.IndexString"], recurses := true, named := ["unicode/utf8.first", "unicode/utf8.acceptRanges", "internal/bytealg.MaxLen"], apart := false, laid := [("unicode/utf8.acceptRanges", laid_unicode_utf8_acceptRanges), ("unicode/utf8.first", laid_unicode_utf8_first)], narrowed := true }
def SigilLexesUptoSaid : Prop := sigilLexesUptoRow.holds Tryd.pinned (OpenSpec.upto sigilLexesSpec)

/-- 'stilelaw06.SigilBlanks', WHERE WHAT IT READS IS OF BULK AT MOST 1048576: true; the input reads as it did. -/
def sigilBlanksUptoRow : OpenClaim := { program := "ytniiimpcakmkbaadoor", sum := "27fd15106d16874318dcb10abd76f01777c19cf5f384d55f95659ee859ff137a", func := "stile/stilelaw06.SigilBlanks", spec := "sigilBlanks", inPlace := ["internal/bytealg.IndexByteString", "internal/bytealg.IndexString"], recurses := true, named := ["unicode/utf8.first", "unicode/utf8.acceptRanges", "internal/bytealg.MaxLen"], apart := false, laid := [("unicode/utf8.acceptRanges", laid_unicode_utf8_acceptRanges), ("unicode/utf8.first", laid_unicode_utf8_first)], narrowed := true }
def SigilBlanksUptoSaid : Prop := sigilBlanksUptoRow.holds Tryd.pinned (OpenSpec.upto sigilBlanksSpec)

/-- 'stilelaw06.SigilAgain', WHERE WHAT IT READS IS OF BULK AT MOST 1048576: true; the input reads as it did. -/
def sigilAgainUptoRow : OpenClaim := { program := "ytniiimpcakmkbaadoor", sum := "27fd15106d16874318dcb10abd76f01777c19cf5f384d55f95659ee859ff137a", func := "stile/stilelaw06.SigilAgain", spec := "sigilAgain", inPlace := ["internal/bytealg.IndexByteString", "internal/bytealg.IndexString"], recurses := true, named := ["unicode/utf8.first", "unicode/utf8.acceptRanges", "internal/bytealg.MaxLen"], apart := false, laid := [("unicode/utf8.acceptRanges", laid_unicode_utf8_acceptRanges), ("unicode/utf8.first", laid_unicode_utf8_first)], narrowed := true }
def SigilAgainUptoSaid : Prop := sigilAgainUptoRow.holds Tryd.pinned (OpenSpec.upto sigilAgainSpec)

/-- 'stilelaw06.SigilPlaces', WHERE WHAT IT READS IS OF BULK AT MOST 1048576: true; the input reads as it did. -/
def sigilPlacesUptoRow : OpenClaim := { program := "ytniiimpcakmkbaadoor", sum := "27fd15106d16874318dcb10abd76f01777c19cf5f384d55f95659ee859ff137a", func := "stile/stilelaw06.SigilPlaces", spec := "sigilPlaces", inPlace := ["internal/bytealg.IndexByteString", "internal/bytealg.IndexString"], recurses := true, named := ["unicode/utf8.first", "unicode/utf8.acceptRanges", "internal/bytealg.MaxLen"], apart := false, laid := [("unicode/utf8.acceptRanges", laid_unicode_utf8_acceptRanges), ("unicode/utf8.first", laid_unicode_utf8_first)], narrowed := true }
def SigilPlacesUptoSaid : Prop := sigilPlacesUptoRow.holds Tryd.pinned (OpenSpec.upto sigilPlacesSpec)

/-- 'stilelaw06.SigilLong', WHERE WHAT IT READS IS OF BULK AT MOST 1048576: true; the input reads as it did. -/
def sigilLongUptoRow : OpenClaim := { program := "ytniiimpcakmkbaadoor", sum := "27fd15106d16874318dcb10abd76f01777c19cf5f384d55f95659ee859ff137a", func := "stile/stilelaw06.SigilLong", spec := "sigilLong", inPlace := ["internal/bytealg.IndexByteString", "internal/bytealg.IndexString", "internal/abi.NoEscape", "internal/bytealg.MakeNoZero"], recurses := true, named := ["unicode/utf8.first", "unicode/utf8.acceptRanges", "internal/bytealg.MaxLen"], apart := false, laid := [("unicode/utf8.acceptRanges", laid_unicode_utf8_acceptRanges), ("unicode/utf8.first", laid_unicode_utf8_first)], narrowed := true }
def SigilLongUptoSaid : Prop := sigilLongUptoRow.holds Tryd.pinned (OpenSpec.upto sigilLongSpec)

/-- 'stilelaw07.GrammarExprs', WHERE WHAT IT READS IS OF BULK AT MOST 1048576: true; the input reads as it did. -/
def grammarExprsUptoRow : OpenClaim := { program := "ytniiimpcakmkbaadoor", sum := "27fd15106d16874318dcb10abd76f01777c19cf5f384d55f95659ee859ff137a", func := "stile/stilelaw07.GrammarExprs", spec := "grammarExprs", inPlace := ["internal/bytealg.IndexByteString", "internal/bytealg.IndexString", "internal/reflectlite.TypeOf"], unfollowed := true, recurses := true, named := ["stile/grammar.errSyntax", "stile/grammar.errDeep", "unicode/utf8.first", "unicode/utf8.acceptRanges", "internal/bytealg.MaxLen"], apart := false, laid := [("unicode/utf8.acceptRanges", laid_unicode_utf8_acceptRanges), ("stile/grammar.errSyntax", laid_stile_grammar_errSyntax), ("stile/grammar.errDeep", laid_stile_grammar_errDeep), ("unicode/utf8.first", laid_unicode_utf8_first)], narrowed := true }
def GrammarExprsUptoSaid : Prop := grammarExprsUptoRow.holds Tryd.pinned (OpenSpec.upto grammarExprsSpec)

/-- 'stilelaw07.GrammarJoint', WHERE WHAT IT READS IS OF BULK AT MOST 1048576: true; the input reads as it did. -/
def grammarJointUptoRow : OpenClaim := { program := "ytniiimpcakmkbaadoor", sum := "27fd15106d16874318dcb10abd76f01777c19cf5f384d55f95659ee859ff137a", func := "stile/stilelaw07.GrammarJoint", spec := "grammarJoint", inPlace := ["internal/bytealg.IndexByteString", "internal/bytealg.IndexString", "internal/reflectlite.TypeOf"], unfollowed := true, recurses := true, named := ["stile/grammar.errSyntax", "stile/grammar.errDeep", "unicode/utf8.first", "unicode/utf8.acceptRanges", "internal/bytealg.MaxLen"], apart := false, laid := [("unicode/utf8.acceptRanges", laid_unicode_utf8_acceptRanges), ("stile/grammar.errSyntax", laid_stile_grammar_errSyntax), ("stile/grammar.errDeep", laid_stile_grammar_errDeep), ("unicode/utf8.first", laid_unicode_utf8_first)], narrowed := true }
def GrammarJointUptoSaid : Prop := grammarJointUptoRow.holds Tryd.pinned (OpenSpec.upto grammarJointSpec)

/-- 'stilelaw07.GrammarParses', WHERE WHAT IT READS IS OF BULK AT MOST 1048576: true; the input reads as it did. -/
def grammarParsesUptoRow : OpenClaim := { program := "ytniiimpcakmkbaadoor", sum := "27fd15106d16874318dcb10abd76f01777c19cf5f384d55f95659ee859ff137a", func := "stile/stilelaw07.GrammarParses", spec := "grammarParses", inPlace := ["internal/bytealg.IndexByteString", "internal/bytealg.IndexString", "internal/reflectlite.TypeOf"], unfollowed := true, recurses := true, named := ["stile/grammar.errSyntax", "stile/grammar.errDeep", "unicode/utf8.first", "unicode/utf8.acceptRanges", "internal/bytealg.MaxLen"], apart := false, laid := [("unicode/utf8.acceptRanges", laid_unicode_utf8_acceptRanges), ("stile/grammar.errSyntax", laid_stile_grammar_errSyntax), ("stile/grammar.errDeep", laid_stile_grammar_errDeep), ("unicode/utf8.first", laid_unicode_utf8_first)], narrowed := true }
def GrammarParsesUptoSaid : Prop := grammarParsesUptoRow.holds Tryd.pinned (OpenSpec.upto grammarParsesSpec)

/-- 'stilelaw07.GrammarJoins', WHERE WHAT IT READS IS OF BULK AT MOST 1048576: true; the input reads as it did. -/
def grammarJoinsUptoRow : OpenClaim := { program := "ytniiimpcakmkbaadoor", sum := "27fd15106d16874318dcb10abd76f01777c19cf5f384d55f95659ee859ff137a", func := "stile/stilelaw07.GrammarJoins", spec := "grammarJoins", inPlace := ["internal/bytealg.IndexByteString", "internal/bytealg.IndexString", "internal/reflectlite.TypeOf"], unfollowed := true, recurses := true, named := ["stile/grammar.errSyntax", "stile/grammar.errDeep", "unicode/utf8.first", "unicode/utf8.acceptRanges", "internal/bytealg.MaxLen"], apart := false, laid := [("unicode/utf8.acceptRanges", laid_unicode_utf8_acceptRanges), ("stile/grammar.errSyntax", laid_stile_grammar_errSyntax), ("stile/grammar.errDeep", laid_stile_grammar_errDeep), ("unicode/utf8.first", laid_unicode_utf8_first)], narrowed := true }
def GrammarJoinsUptoSaid : Prop := grammarJoinsUptoRow.holds Tryd.pinned (OpenSpec.upto grammarJoinsSpec)

/-- 'stilelaw07.GrammarNests', WHERE WHAT IT READS IS OF BULK AT MOST 1048576: true; the input reads as it did. -/
def grammarNestsUptoRow : OpenClaim := { program := "ytniiimpcakmkbaadoor", sum := "27fd15106d16874318dcb10abd76f01777c19cf5f384d55f95659ee859ff137a", func := "stile/stilelaw07.GrammarNests", spec := "grammarNests", inPlace := ["internal/bytealg.IndexByteString", "internal/bytealg.IndexString", "internal/reflectlite.TypeOf", "internal/abi.NoEscape", "internal/bytealg.MakeNoZero"], unfollowed := true, recurses := true, named := ["stile/grammar.errSyntax", "stile/grammar.errDeep", "unicode/utf8.first", "unicode/utf8.acceptRanges", "internal/bytealg.MaxLen"], apart := false, laid := [("unicode/utf8.acceptRanges", laid_unicode_utf8_acceptRanges), ("stile/grammar.errSyntax", laid_stile_grammar_errSyntax), ("stile/grammar.errDeep", laid_stile_grammar_errDeep), ("unicode/utf8.first", laid_unicode_utf8_first)], narrowed := true }
def GrammarNestsUptoSaid : Prop := grammarNestsUptoRow.holds Tryd.pinned (OpenSpec.upto grammarNestsSpec)

end Rows
end Go.Proofs.YtniiimpcakmkbaaDoor
