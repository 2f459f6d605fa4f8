/- grammar: the reference's specs -/
import Derived.Test.YtniiimpcakmkbaaDoorGrE
set_option linter.unusedVariables false
namespace Go.Proofs.YtniiimpcakmkbaaDoor
open Go Vm

def erN (c : Int) : Nat := bif c == 0 then 0 else bif c == 11 then 1 else 2
def okC (c : Int) : Bool := c == 0 || c == 11 || c == 12
abbrev sM (L : List (List C)) (s : PS) : M := ⟨[.sl 4 L, .int .i64 s.at_, .int .i64 s.op, .int .i64 (erC s.er)], [], 4⟩
abbrev rP (a o c : Int) : PS := ⟨a, o, erN c⟩
def rKindS : List V → Bx → Tr
  | [.t (.agg ⟨[.sl 4 L, .int .i64 a, .int .i64 o, .int .i64 c], [], 4⟩)], [] => .ite (stOk L (rP a o c) && okC c) (.ret (vi (kindG L (rP a o c))) []) .no
  | _, _ => .no
def rTakeS : List V → Bx → Tr
  | [.t (.agg ⟨[.sl 4 L, .int .i64 a, .int .i64 o, .int .i64 c], [], 4⟩), .t (.w (.d (.int .i64 k)))], [] =>
    .ite (stOk L (rP a o c) && okC c && decide (k ≠ 0)) (.ret (.tup [.agg (sM L (takeG L k (rP a o c)).1), .w (.d (.str (takeG L k (rP a o c)).2))]) []) .no
  | _, _ => .no
noncomputable def rRdS (f : List (List C) → PS → PS × Nde) (N : Nat) : List V → Bx → Tr
  | [.t (.agg ⟨[.sl 4 L, .int .i64 a, .int .i64 o, .int .i64 c], [], 4⟩)], [] =>
    .ite (stOk L (rP a o c) && okC c && decide (lvl (rP a o c) < N)) (.ret (.tup [.agg (sM L (f L (rP a o c)).1), .agg ⟨(f L (rP a o c)).2, [], 4⟩]) []) .no
  | _, _ => .no
def tabRA : List (FuncId × (List V → Bx → Tr)) := [(71, rKindS)]
def orcRA : FuncId → List V → Bx → Tr := orcOf tabRA
def tabRB : List (FuncId × (List V → Bx → Tr)) := [(71, rKindS), (75, rTakeS)]
noncomputable def orcR_1 (N : Nat) : FuncId → List V → Bx → Tr := orcOf ((47, rRdS unionA N) :: tabRB)
noncomputable def orcR_2 (N : Nat) : FuncId → List V → Bx → Tr := orcOf ((95, rRdS atomA N) :: tabRB)
noncomputable def orcR_3 (N : Nat) : FuncId → List V → Bx → Tr := orcOf ((85, rRdS lessA N) :: tabRB)
noncomputable def orcR_4 (N : Nat) : FuncId → List V → Bx → Tr := orcOf ((70, rRdS meetA N) :: tabRB)
end Go.Proofs.YtniiimpcakmkbaaDoor
