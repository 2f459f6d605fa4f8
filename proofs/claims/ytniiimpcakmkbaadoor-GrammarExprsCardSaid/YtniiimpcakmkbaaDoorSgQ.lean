/- the reference of sigil: tables -/
import Derived.Test.YtniiimpcakmkbaaDoorSgP
namespace Go.Proofs.YtniiimpcakmkbaaDoor
open Go Vm
def tabR1 : List (FuncId × (List V → Bx → Tr)) := [(38, runeS)]
def orcR1 : FuncId → List V → Bx → Tr := orcOf tabR1
/-- the runes as numbers; not all are -/
def runesAt (s : ByteArray) : Nat → Nat → List (List C) → Option (List (List C))
  | 0, _, _ => none
  | f + 1, i, out =>
    bif decide (i < s.size) then
      (bif (runeP s i).2 == 0 then none else runesAt s f (i + (runeP s i).2.toNat) (out ++ [[.int .i64 (runeP s i).1]]))
    else some out
def runesP (s : ByteArray) : Option (List (List C)) := runesAt s (s.size + 1) 0 []
def runesS : List V → Bx → Tr
  | [.t (.w (.d (.str s)))], [] => .ite (decide (s.size < 1000000))
      (.ret (.tup [.w (.d (.sl 1 ((runesP s).getD []))), .w (.d (.bool (runesP s).isSome))]) []) .no
  | _, _ => .no
def tabR : List (FuncId × (List V → Bx → Tr)) := [(17, runesS), (33, amongS), (34, placeS), (35, partS), (36, textS)]
def orcR : FuncId → List V → Bx → Tr := orcOf tabR
end Go.Proofs.YtniiimpcakmkbaaDoor
