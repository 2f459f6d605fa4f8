/- the reference of sigil: specs of small functions -/
import Derived.Test.YtniiimpcakmkbaaDoorSgB
namespace Go.Proofs.YtniiimpcakmkbaaDoor
open Go Vm
def isI : List C → Bool
  | [.int .i64 _] => true
  | _ => false
def numE (e : List C) : Int := (e.getD 0 .nf).toInt
def amongP (v : Int) : List (List C) → Bool
  | [] => false
  | e :: r => numE e == v || amongP v r
def amongS : List V → Bx → Tr
  | [.t (.w (.d (.int .i64 v))), .t (.w (.d (.sl 1 l)))], [] => .ite (l.all isI && decide (l.length < 1000000)) (.ret (vb (amongP v l)) []) .no
  | _, _ => .no
def placeP : List (List C) → Int → Int → Int × Int
  | [], l, c => (l, c)
  | e :: r, l, c => placeP r (nextL l (numE e)) (nextC c (numE e))
def placeS : List V → Bx → Tr
  | [.t (.w (.d (.sl 1 l))), .t (.w (.d (.int .i64 at_)))], [] => .ite (l.all isI && decide (l.length < 1000000) && decide (0 ≤ at_) && decide (at_ ≤ l.length))
      (.ret (.tup [.w (.d (.int .i64 (placeP (l.take at_.toNat) 1 1).1)), .w (.d (.int .i64 (placeP (l.take at_.toNat) 1 1).2))]) []) .no
  | _, _ => .no
def partS : List V → Bx → Tr
  | [.t (.w (.d (.int .i64 r))), .t (.w (.d (.bool f)))], [] => .ret (vb (letterP r f)) []
  | _, _ => .no
def u8E (e : List C) : List C := [.int .u8 (IntKind.u8.wrap (numE e))]
def textS : List V → Bx → Tr
  | [.t (.w (.d (.sl 1 l)))], [] => .ite (l.all isI && decide (l.length < 1000000)) (.ret (vs (bytesOf (l.map u8E))) []) .no
  | _, _ => .no
end Go.Proofs.YtniiimpcakmkbaaDoor
