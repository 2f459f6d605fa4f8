/- the reference of tray: specs of its functions -/
import Derived.Test.YtjkiipkghkpihaaTrC
namespace Go.Proofs.Ytjkiipkghkpihaa
open Go Vm
def rtL (sectors : Int) (kept cache : List (List C)) (left : Int) (dark : Bool) : List C := [.int .i64 sectors, .sl 129 kept, .sl 129 cache, .int .i64 left, .bool dark]
def rt (sectors : Int) (kept cache : List (List C)) (left : Int) (dark : Bool) : V := .t (.agg ⟨rtL sectors kept cache left dark, [], 5⟩)
def onR (x : V) (f : Int → List (List C) → List (List C) → Int → Bool → Tr) : Tr :=
  match x with
  | .t (.agg ⟨[.int .i64 sectors, .sl 129 kept, .sl 129 cache, .int .i64 left, .bool dark], [], 5⟩) => f sectors kept cache left dark
  | _ => .no
/-- writes that are kept, of so many sectors -/
def okR (sectors : Int) (kept cache : List (List C)) : Bool := decide (0 ≤ sectors) && decide (sectors ≤ 4096) && kept.all (cwOk sectors.toNat) && cache.all (cwOk sectors.toNat) && decide (kept.length < 1000000) && decide (cache.length < 1000000)
def stepR : List V → Bx → Tr
  | [x], [] => onR x fun sectors kept cache left dark =>
    .ite (leftOk left) (.ret (.tup [.agg ⟨rtL sectors kept cache (decL left) ((left == 0) || dark), [], 5⟩, .w (.d (.bool (!(left == 0))))]) []) .no
  | _, _ => .no
def tabR1 : List (FuncId × (List V → Bx → Tr)) := [(26, stepR)]
def orcR1 : FuncId → List V → Bx → Tr := orcOf tabR1
def newR : List V → Bx → Tr
  | [.t (.w (.d (.int .i64 n)))], [] => .ret (.tup [.agg ⟨rtL n [] [] (-1) false, [], 5⟩, .w (.d (.bool (decide (n ≥ 4) && decide (n ≤ 4096))))]) []
  | _, _ => .no
def pIn (sectors at_ : Int) (bels : List (List C)) : Bool := !(decide (at_ < 0)) && !(decide (at_ ≥ sectors)) && !(decide ((bels.length : Int) > 128))
def putR : List V → Bx → Tr
  | [x, .t (.w (.d (.int .i64 at_))), .t (.w (.d (.sl 1 bels)))], [] => onR x fun sectors kept cache left dark =>
    .ite (okR sectors kept cache && leftOk left && bels.all isBE)
      (.ret (.tup [.agg ⟨rtL sectors kept (bif pIn sectors at_ bels && !(left == 0) then cache ++ [mkW at_ bels] else cache) (bif pIn sectors at_ bels then decL left else left) ((pIn sectors at_ bels && left == 0) || dark), [], 5⟩,
        .w (.d (.int .i64 (bif pIn sectors at_ bels then (bif left == 0 then 20 else 0) else 1)))]) [])
      .no
  | _, _ => .no
def flushR : List V → Bx → Tr
  | [x], [] => onR x fun sectors kept cache left dark =>
    .ite (okR sectors kept cache && leftOk left)
      (.ret (.tup [.agg ⟨rtL sectors (bif left == 0 then kept else kept ++ cache) (bif left == 0 then cache else []) (decL left) ((left == 0) || dark), [], 5⟩, .w (.d (.int .i64 (bif left == 0 then 20 else 0)))]) [])
      .no
  | _, _ => .no
def powerIn (n : Int) : Bool := !(decide (n < 0)) && !(decide (n > 1099511627776))
def powerR : List V → Bx → Tr
  | [x, .t (.w (.d (.int .i64 n)))], [] => onR x fun sectors kept cache left dark =>
      (.ret (.tup [.agg ⟨rtL sectors kept cache (bif powerIn n then n else left) (!powerIn n && dark), [], 5⟩, .w (.d (.int .i64 (bif powerIn n then 0 else 1)))]) [])
  | _, _ => .no
def loseR : List V → Bx → Tr
  | [x, .t (.w (.d (.sl 1 ch)))], [] => onR x fun sectors kept cache _ _ =>
    .ite (okR sectors kept cache && ch.all isBoolE)
      (.ret (.t (.agg ⟨rtL sectors (kept ++ chosen cache ch) [] (-1) false, [], 5⟩)) [])
      .no
  | _, _ => .no
def readR : List V → Bx → Tr
  | [x, .t (.w (.d (.int .i64 at_)))], [] => onR x fun sectors kept cache _ _ =>
    .ite (okR sectors kept cache) (.ret (.t (.agg ⟨readW at_ (readW at_ zsec kept) cache, [], 128⟩)) []) .no
  | _, _ => .no
def tabR : List (FuncId × (List V → Bx → Tr)) := [(16, newR), (17, putR), (18, flushR), (19, powerR), (20, loseR), (22, readR)]
def tab3 : List (FuncId × (List V → Bx → Tr)) := tab2 ++ tabR
def orc3 : FuncId → List V → Bx → Tr := orcOf tab3
end Go.Proofs.Ytjkiipkghkpihaa
