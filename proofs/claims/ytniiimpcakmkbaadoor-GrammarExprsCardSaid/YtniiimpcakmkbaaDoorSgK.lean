/- sigil: the laws' table -/
import Derived.Test.YtniiimpcakmkbaaDoorSgJ
namespace Go.Proofs.YtniiimpcakmkbaaDoor
open Go Vm
noncomputable def tabD0 : List (FuncId × (List V → Bx → Tr)) := (14, lexS) :: tabC
noncomputable def orcD0 : FuncId → List V → Bx → Tr := orcOf tabD0
def awakeS : List V → Bx → Tr
  | [], [] => .ret (vb true) []
  | _, _ => .no
noncomputable def tabD : List (FuncId × (List V → Bx → Tr)) := (13, awakeS) :: tabD0
noncomputable def orcD : FuncId → List V → Bx → Tr := orcOf tabD
end Go.Proofs.YtniiimpcakmkbaaDoor
