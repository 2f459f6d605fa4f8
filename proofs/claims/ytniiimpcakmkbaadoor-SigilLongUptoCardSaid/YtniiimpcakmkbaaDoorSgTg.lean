/- YtniiimpcakmkbaaDoorSgTg -/
import Derived.Test.YtniiimpcakmkbaaDoorSgRq
set_option linter.unusedVariables false
namespace Go.Proofs.YtniiimpcakmkbaaDoor
open Go Vm
noncomputable def lLong_cf (m : Int) : Cfg := mkCfQ [25, 35] (globT m) vti orcL false [] []
theorem lLong_start {R : Type} (m : Int) (k : V → Bx → Option R) (F : Nat) (s : ByteArray) (g : Int) : runFn (lLong_cf m) F Tryd.f7 (bd Tryd.f7) [vs s, vc (C.int IntKind.u8 g)] [] k =
    (bif decide (s.size < (100000000 : Nat)) then
      (bif !(runesP s).isSome then
        k (vb true) []
      else (bif (↑((runesP s).getD []).length : Int) == (0 : Int) then
          k (vb true) []
        else (bif decide ((↑((runesP s).getD []).length : Int) > (20 : Int)) then
            k (vb true) []
          else (bif (↑((runesP s).getD []).length : Int) == (0 : Int) then
              none
            else (bif decide ((0 : Int) ≤ IntKind.i64.wrap (IntKind.i64.wrap (Int.tdiv (2997 : Int) (↑((runesP s).getD []).length : Int)) + IntKind.i64.wrap (g.tmod (7 : Int))) ∧ IntKind.i64.wrap (IntKind.i64.wrap (Int.tdiv (2997 : Int) (↑((runesP s).getD []).length : Int)) + IntKind.i64.wrap (g.tmod (7 : Int))) ≤ (1000000 : Int) ∧ s.size ≤ (1000000 : Nat)) then
                (bif decide ((repB s (IntKind.i64.wrap (IntKind.i64.wrap (Int.tdiv (2997 : Int) (↑((runesP s).getD []).length : Int)) + IntKind.i64.wrap (g.tmod (7 : Int)))).toNat).size < (1000000 : Nat)) then
                  (bif decide (IntKind.i64.wrap (IntKind.i64.wrap (IntKind.i64.wrap (Int.tdiv (2997 : Int) (↑((runesP s).getD []).length : Int)) + IntKind.i64.wrap (g.tmod (7 : Int))) * (↑((runesP s).getD []).length : Int)) > (3000 : Int)) then
                    k (vb ((lexP (repB s (IntKind.i64.wrap (IntKind.i64.wrap (Int.tdiv (2997 : Int) (↑((runesP s).getD []).length : Int)) + IntKind.i64.wrap (g.tmod (7 : Int)))).toNat)).snd.snd.snd == (3 : Int))) []
                  else (bif (lexP (repB s (IntKind.i64.wrap (IntKind.i64.wrap (Int.tdiv (2997 : Int) (↑((runesP s).getD []).length : Int)) + IntKind.i64.wrap (g.tmod (7 : Int)))).toNat)).snd.snd.snd == (0 : Int) then
                      k (vb true) []
                    else k (vb ((lexP (repB s (IntKind.i64.wrap (IntKind.i64.wrap (Int.tdiv (2997 : Int) (↑((runesP s).getD []).length : Int)) + IntKind.i64.wrap (g.tmod (7 : Int)))).toNat)).snd.snd.snd == (10 : Int))) []))
                else none)
              else none)))))
    else none) := by kernel_rfl
end Go.Proofs.YtniiimpcakmkbaaDoor
