/-
  No cell of these rows narrows 'for every input' (looked for: loops, veiled, ifaces, maps, wideKeys, modest, calm, conditions, laid).
  DERIVED. THE GIVEN ROWS OF THIS SEAT. 4 by the template 'for every input the law returns true; each argument reads behind the call as it read before'; 0 by the template 'total and deterministic' (their statements: YtjkiipkghkpihaaTotals.lean).
  GIVEN WITH THE SEED: the statements are not yours to turn. If you find one false, say at which input.
  Laid BY PROGRAM, IN A SANDBOX (cutbox-rows.mjs): the forced cells as the released guide's own fill.sh prints them over the translation 74cba7c22e74ce83… (all of the seat's roots in one cut). By AI agents, Wed Nov 11 2026. No macro, syntax, notation, axiom, sorry.
-/
import Derived.Test.YtjkiipkghkpihaaChecked
import GoSem.Claim
import GoSem.ClaimJoined
import GoSem.ClaimMapViews
import Derived.JoinedTies
import Derived.KernelRfl
namespace Go.Proofs.Ytjkiipkghkpihaa
/- THE CELL 'sum', in the pinned program and in every row, IS THE sha256 OF THE DUMP (.gsa) THAT YtjkiipkghkpihaaProg.lean LOADS. Nothing in Lean hashes anything: it is a label: what it is worth is what the hold of that sum in a sandbox is worth. -/
noncomputable def Try.pinned : Pinned := { name := "ytjkiipkghkpihaa", sum := "74cba7c22e74ce83eb229e22902115a414d7bef57b46fc051116a8d1e0271b0a", checked := Try.checked }
namespace Rows
def none {H : Type} : Left H := { results := [], args := [] }

/-- 'stilelaw12.TrayTwice': WHATEVER THE INPUT: true; the input reads as it did. -/
def trayTwiceSpec : ChangeSpec := { name := "trayTwice", fn := fun _ => fun
  | [d1, d2, d3] => { results := [.lit (.bool true)], args := [d1, d2, d3] }
  | _ => none }
def trayTwiceRow : OpenClaim := { program := "ytjkiipkghkpihaa", sum := "74cba7c22e74ce83eb229e22902115a414d7bef57b46fc051116a8d1e0271b0a", func := "stile/stilelaw12.TrayTwice", spec := "trayTwice", apart := false }
def TrayTwiceSaid : Prop := trayTwiceRow.holds Try.pinned (OpenSpec.ofChange trayTwiceSpec)

/-- ITS FALSE NEIGHBOUR: 'it returns false'. Refute it at one input. -/
def trayTwiceWrong : ChangeSpec := { name := "trayTwice", fn := fun _ => fun
  | [d1, d2, d3] => { results := [.lit (.bool false)], args := [d1, d2, d3] }
  | _ => none }
def TrayTwiceWrongFalsely : Prop := trayTwiceRow.holds Try.pinned (OpenSpec.ofChange trayTwiceWrong)

/-- 'stilelaw12.TrayKeeps': WHATEVER THE INPUT: true; the input reads as it did. -/
def trayKeepsSpec : ChangeSpec := { name := "trayKeeps", fn := fun _ => fun
  | [d1, d2] => { results := [.lit (.bool true)], args := [d1, d2] }
  | _ => none }
def trayKeepsRow : OpenClaim := { program := "ytjkiipkghkpihaa", sum := "74cba7c22e74ce83eb229e22902115a414d7bef57b46fc051116a8d1e0271b0a", func := "stile/stilelaw12.TrayKeeps", spec := "trayKeeps", apart := false }
def TrayKeepsSaid : Prop := trayKeepsRow.holds Try.pinned (OpenSpec.ofChange trayKeepsSpec)

/-- ITS FALSE NEIGHBOUR: 'it returns false'. Refute it at one input. -/
def trayKeepsWrong : ChangeSpec := { name := "trayKeeps", fn := fun _ => fun
  | [d1, d2] => { results := [.lit (.bool false)], args := [d1, d2] }
  | _ => none }
def TrayKeepsWrongFalsely : Prop := trayKeepsRow.holds Try.pinned (OpenSpec.ofChange trayKeepsWrong)

/-- 'stilelaw12.TrayPowers': WHATEVER THE INPUT: true; the input reads as it did. -/
def trayPowersSpec : ChangeSpec := { name := "trayPowers", fn := fun _ => fun
  | [d1, d2] => { results := [.lit (.bool true)], args := [d1, d2] }
  | _ => none }
def trayPowersRow : OpenClaim := { program := "ytjkiipkghkpihaa", sum := "74cba7c22e74ce83eb229e22902115a414d7bef57b46fc051116a8d1e0271b0a", func := "stile/stilelaw12.TrayPowers", spec := "trayPowers", apart := false }
def TrayPowersSaid : Prop := trayPowersRow.holds Try.pinned (OpenSpec.ofChange trayPowersSpec)

/-- ITS FALSE NEIGHBOUR: 'it returns false'. Refute it at one input. -/
def trayPowersWrong : ChangeSpec := { name := "trayPowers", fn := fun _ => fun
  | [d1, d2] => { results := [.lit (.bool false)], args := [d1, d2] }
  | _ => none }
def TrayPowersWrongFalsely : Prop := trayPowersRow.holds Try.pinned (OpenSpec.ofChange trayPowersWrong)

/-- 'stilelaw12.TrayPlays': WHATEVER THE INPUT: true; the input reads as it did. -/
def trayPlaysSpec : ChangeSpec := { name := "trayPlays", fn := fun _ => fun
  | [d1, d2] => { results := [.lit (.bool true)], args := [d1, d2] }
  | _ => none }
def trayPlaysRow : OpenClaim := { program := "ytjkiipkghkpihaa", sum := "74cba7c22e74ce83eb229e22902115a414d7bef57b46fc051116a8d1e0271b0a", func := "stile/stilelaw12.TrayPlays", spec := "trayPlays", apart := false }
def TrayPlaysSaid : Prop := trayPlaysRow.holds Try.pinned (OpenSpec.ofChange trayPlaysSpec)

/-- ITS FALSE NEIGHBOUR: 'it returns false'. Refute it at one input. -/
def trayPlaysWrong : ChangeSpec := { name := "trayPlays", fn := fun _ => fun
  | [d1, d2] => { results := [.lit (.bool false)], args := [d1, d2] }
  | _ => none }
def TrayPlaysWrongFalsely : Prop := trayPlaysRow.holds Try.pinned (OpenSpec.ofChange trayPlaysWrong)

/- THE SECOND FORM. 'bulk': how many values and letters a reading holds, each counted each time it is reached (what is shared counts as often as it is met; a slice's spare places count too). A statement '..UptoSaid' is the law's where the arguments, and the package variables that the reading takes, are together of bulk at most 1048576: NARROWER than '..Said'. Prove '..Said' where nothing that the law and all that it calls make is longer than what came in: it says more and counts as full. Else prove '..UptoSaid'. A law counts once. -/
mutual
def uptoBulk {H : Type} : DataW H → Nat
  | .lit (.string bytes) => bytes.length + 1
  | .lit _ => 1
  | .nil => 1
  | .ptr d => uptoBulk d + 1
  | .slice elems spare => uptoBulkAll elems + uptoBulkAll spare + 1
  | .agg parts => uptoBulkAll parts + 1
  | .iface _ d => uptoBulk d + 1
  | .map entries => uptoBulkEntries entries + 1
  | .held _ => 1
def uptoBulkAll {H : Type} : List (DataW H) → Nat
  | [] => 0
  | d :: r => uptoBulk d + uptoBulkAll r
def uptoBulkEntries {H : Type} : List (Lit × DataW H) → Nat
  | [] => 0
  | x :: r => uptoBulkEntry x + uptoBulkEntries r
def uptoBulkEntry {H : Type} : Lit × DataW H → Nat
  | (.string bytes, d) => bytes.length + uptoBulk d + 1
  | (_, d) => uptoBulk d + 1
 end
def uptoSmall : (H : Type) → List (DataW H) → Bool := fun _ ds => decide (uptoBulkAll ds ≤ 1048576)
def OpenSpec.upto (s : _root_.Go.ChangeSpec) : _root_.Go.OpenSpec := { _root_.Go.OpenSpec.ofChange s with cond := some uptoSmall }

/-- 'stilelaw12.TrayTwice', WHERE WHAT IT READS IS OF BULK AT MOST 1048576: true; the input reads as it did. -/
def trayTwiceUptoRow : OpenClaim := { program := "ytjkiipkghkpihaa", sum := "74cba7c22e74ce83eb229e22902115a414d7bef57b46fc051116a8d1e0271b0a", func := "stile/stilelaw12.TrayTwice", spec := "trayTwice", apart := false, narrowed := true }
def TrayTwiceUptoSaid : Prop := trayTwiceUptoRow.holds Try.pinned (OpenSpec.upto trayTwiceSpec)

/-- 'stilelaw12.TrayKeeps', WHERE WHAT IT READS IS OF BULK AT MOST 1048576: true; the input reads as it did. -/
def trayKeepsUptoRow : OpenClaim := { program := "ytjkiipkghkpihaa", sum := "74cba7c22e74ce83eb229e22902115a414d7bef57b46fc051116a8d1e0271b0a", func := "stile/stilelaw12.TrayKeeps", spec := "trayKeeps", apart := false, narrowed := true }
def TrayKeepsUptoSaid : Prop := trayKeepsUptoRow.holds Try.pinned (OpenSpec.upto trayKeepsSpec)

/-- 'stilelaw12.TrayPowers', WHERE WHAT IT READS IS OF BULK AT MOST 1048576: true; the input reads as it did. -/
def trayPowersUptoRow : OpenClaim := { program := "ytjkiipkghkpihaa", sum := "74cba7c22e74ce83eb229e22902115a414d7bef57b46fc051116a8d1e0271b0a", func := "stile/stilelaw12.TrayPowers", spec := "trayPowers", apart := false, narrowed := true }
def TrayPowersUptoSaid : Prop := trayPowersUptoRow.holds Try.pinned (OpenSpec.upto trayPowersSpec)

/-- 'stilelaw12.TrayPlays', WHERE WHAT IT READS IS OF BULK AT MOST 1048576: true; the input reads as it did. -/
def trayPlaysUptoRow : OpenClaim := { program := "ytjkiipkghkpihaa", sum := "74cba7c22e74ce83eb229e22902115a414d7bef57b46fc051116a8d1e0271b0a", func := "stile/stilelaw12.TrayPlays", spec := "trayPlays", apart := false, narrowed := true }
def TrayPlaysUptoSaid : Prop := trayPlaysUptoRow.holds Try.pinned (OpenSpec.upto trayPlaysSpec)

end Rows
end Go.Proofs.Ytjkiipkghkpihaa
