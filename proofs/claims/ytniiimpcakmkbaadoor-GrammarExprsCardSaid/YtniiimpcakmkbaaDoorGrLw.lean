/- YtniiimpcakmkbaaDoorGrLw -/
import Derived.Test.YtniiimpcakmkbaaDoorGrL
set_option linter.unusedVariables false
namespace Go.Proofs.YtniiimpcakmkbaaDoor
open Go Vm
noncomputable def g_awake_cf (m : Int) : Cfg := mkCfQ [25, 35] (globG m) vti orcGAw false [] []
theorem g_awake_start {R : Type} (m : Int) (k : V → Bx → Option R) (F : Nat) : runFn (g_awake_cf m) F Tryd.f19 (bd Tryd.f19) [] [] k =
    k (vb true) [] := by kernel_rfl
noncomputable def lExprs_cf (m : Int) : Cfg := mkCfQ [25, 35] (globG m) vti orcGLw false [] []
theorem lExprs_start {R : Type} (m : Int) (k : V → Bx → Option R) (F : Nat) (s : ByteArray) : runFn (lExprs_cf m) F Tryd.f8 (bd Tryd.f8) [vs s] [] k =
    (bif decide ((↑s.size : Int) > (4000 : Int)) then
      k (vb true) []
    else (bif decide (s.size < (1000000 : Nat)) then
        (bif decide (s.size < (1000000 : Nat)) then
          (bif exprE s == exprE s then
            (bif exprL s == exprL s && (exprC s == exprC s && true) then
              (bif eqN (List.take (4 : Nat) (exprN s ++ [])) (List.take (4 : Nat) (exprN s ++ [])) && tree (30 : Nat) (List.take (4 : Nat) (exprN s ++ [])) then
                (bif exprE s != (0 : Int) then
                  k (vb true) []
                else (bif goodT (30 : Nat) (List.take (4 : Nat) (exprN s ++ [])) then
                    k (vb true) []
                  else none))
              else none)
            else k (vb false) [])
          else k (vb false) [])
        else none)
      else none)) := by kernel_rfl
end Go.Proofs.YtniiimpcakmkbaaDoor
