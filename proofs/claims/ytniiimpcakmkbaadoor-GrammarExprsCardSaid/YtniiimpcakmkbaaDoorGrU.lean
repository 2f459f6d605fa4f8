/- grammar: specs of the reference's Expr, Same, Good -/
import Derived.Test.YtniiimpcakmkbaaDoorGrF
import Derived.Test.YtniiimpcakmkbaaDoorGrR
import Derived.Test.YtniiimpcakmkbaaDoorSgRl
set_option linter.unusedVariables false
namespace Go.Proofs.YtniiimpcakmkbaaDoor
open Go Vm
def rEndS : List V → Bx → Tr
  | [.t (.agg ⟨[.sl 4 L, .int .i64 a, .int .i64 o, .int .i64 c], [], 4⟩), .t (.w (.d (.int .i64 el))), .t (.w (.d (.int .i64 ec)))], [] =>
    .ite (stOk L (rP a o c) && okC c) (.ret (.tup [
      .w (.d (.int .i64 (bif Nat.beq (endG L (rP a o c)).er 0 then 0 else plL L el (endG L (rP a o c))))),
      .w (.d (.int .i64 (bif Nat.beq (endG L (rP a o c)).er 0 then 0 else plC L ec (endG L (rP a o c))))),
      .w (.d (.int .i64 (erC (endG L (rP a o c)).er)))]) []) .no
  | _, _ => .no
noncomputable def rExprS : List V → Bx → Tr
  | [.t (.w (.d (.str s)))], [] => .ite (decide (s.size < 1000000)) (.ret (.tup [.agg ⟨exprN s, [], 4⟩, .w (.d (.int .i64 (exprL s))), .w (.d (.int .i64 (exprC s))), .w (.d (.int .i64 (exprE s)))]) []) .no
  | _, _ => .no
noncomputable def orcRE : FuncId → List V → Bx → Tr := orcOf [(15, rlexS), (47, rRdS unionA 9), (48, rEndS)]
/-! trees: as deep as that -/
def tree : Nat → Nde → Bool
  | 0, _ => false
  | n + 1, [.int .i64 _, .str _, .str _, .sl 4 l] => l.all (tree n) && decide (l.length < 2000000)
  | _, _ => false
open Classical in
/-- are they one? (where they are, Same says so) -/
noncomputable def eqN (x y : Nde) : Bool := decide (x = y)
noncomputable def sameS (N : Nat) : List V → Bx → Tr
  | [.t (.agg ⟨x, [], 4⟩), .t (.agg ⟨y, [], 4⟩)], [] => .ite (eqN x y && tree N x) (.ret (vb true) []) .no
  | _, _ => .no
noncomputable def orcSm (N : Nat) : FuncId → List V → Bx → Tr := orcOf [(22, sameS N)]
/-! good nodes -/
def lowB (c : UInt8) : Bool := decide (97 ≤ c.toNat) && decide (c.toNat ≤ 122)
def prtB (c : UInt8) : Bool := lowB c || (decide (48 ≤ c.toNat) && decide (c.toNat ≤ 57)) || decide (c.toNat = 95)
def nameB : List UInt8 → Bool
  | [] => false
  | c :: r => lowB c && r.all prtB && decide (r.length < 16)
def wordB (s : ByteArray) : Bool := nameB s.data.toList && !(s.toList == bType.toList) && !(s.toList == bRel.toList) && !(s.toList == bThis.toList)
def nameS : List V → Bx → Tr
  | [.t (.w (.d (.str s)))], [] => .ite (decide (s.size < 1000000)) (.ret (vb (nameB s.data.toList)) []) .no
  | _, _ => .no
def wordBS : List V → Bx → Tr
  | [.t (.w (.d (.str s)))], [] => .ite (decide (s.size < 1000000)) (.ret (vb (wordB s)) []) .no
  | _, _ => .no
/-- a good node, as deep as that -/
def goodT : Nat → Nde → Bool
  | 0, _ => false
  | n + 1, [.int .i64 k, .str a, .str b, .sl 4 l] => l.all (goodT n) && decide (l.length < 2000000) && decide (a.size < 1000000) && decide (b.size < 1000000) &&
      (bif k == 1 then (a.toList == bNo.toList) && (b.toList == bNo.toList) && (l.length == 0)
       else bif k == 2 then wordB a && (b.toList == bNo.toList) && (l.length == 0)
       else bif k == 3 then wordB a && wordB b && (l.length == 0)
       else bif k == 4 || k == 5 then (a.toList == bNo.toList) && (b.toList == bNo.toList) && Nat.ble 2 l.length
       else bif k == 6 then (a.toList == bNo.toList) && (b.toList == bNo.toList) && (l.length == 2)
       else false)
  | _, _ => false
def goodS (N : Nat) : List V → Bx → Tr
  | [.t (.agg ⟨x, [], 4⟩)], [] => .ite (goodT N x) (.ret (vb true) []) .no
  | _, _ => .no
noncomputable def orcGd (N : Nat) : FuncId → List V → Bx → Tr := orcOf [(23, goodS N), (28, wordBS)]
noncomputable def orcWd : FuncId → List V → Bx → Tr := orcOf [(53, nameS)]
end Go.Proofs.YtniiimpcakmkbaaDoor
