/- memo: its state, specs -/
import Derived.Test.YthfjmmhigapkpaaMy
import Derived.Test.YthfjmmhigapkpaaWP
set_option linter.unusedVariables false
namespace Go.Proofs.Ythfjmmhigapkpaa
open Go Vm
abbrev p0 : V := .t (.w (.ptr 0 0))
abbrev memoC (room clock : Int) (mb ab : Nat) : Box := .cells ⟨[.int .i64 room, .int .i64 clock, .nf, .nf], [(2, .mp mb), (3, .arr ab)], 4⟩
abbrev mapB (es : List (List C × List C)) : Box := .map [.str] false true 2 es
abbrev ordB (ord : List (List C)) : Box := .arr true (some 57) 2 ord
def memoB (room clock : Int) (es : List (List C × List C)) (ord : List (List C)) : Bx := [some (memoC room clock 1 2), some (mapB es), some (ordB ord)]
/-- the verdict cell that holds the memo's pointer, the memo, its map, its row -/
def cellB (room clock : Int) (es : List (List C × List C)) (ord : List (List C)) : Bx := [some (.cells ⟨[.nf], [(0, .ptr 1 0)], 1⟩), some (memoC room clock 2 3), some (mapB es), some (ordB ord)]
/-- the same, the row ahead -/
def rowB (room clock : Int) (es : List (List C × List C)) (ord : List (List C)) : Bx := [some (ordB ord), some (.cells ⟨[.nf], [(0, .ptr 2 0)], 1⟩), some (memoC room clock 3 0), some (mapB es)]
noncomputable def orcM0 : FuncId → List V → Bx → Tr := orcOf []
def entOk : List C × List C → Bool
  | ([.str _], [.bool _, .int .i64 _]) => true
  | _ => false
def oeOk : List C → Bool
  | [.str _, .int .i64 _] => true
  | _ => false
def okM (es : List (List C × List C)) (ord : List (List C)) : Bool := es.all entOk && ord.all oeOk && decide (ord.length < 1000000) && decide (es.length < 1000000)
/-- what a key reads as: yes, when, is there one? -/
def vY (es : List (List C × List C)) (k : ByteArray) : Bool := match mapGet [.str k] es with | some v => (v.getD 0 .nf).toBool | none => false
def vW (es : List (List C × List C)) (k : ByteArray) : Int := match mapGet [.str k] es with | some v => (v.getD 1 .nf).toInt | none => 0
def vS (es : List (List C × List C)) (k : ByteArray) : Bool := (mapGet [.str k] es).isSome
def cntB (es : List (List C × List C)) (k : ByteArray) (wh : Int) : Bool := vS es k && (vW es k == wh)
def cntE (es : List (List C × List C)) (e : List C) : Bool := cntB es (e.getD 0 .nf).toStr (e.getD 1 .nf).toInt
def onM (b : Bx) (f : Int → Int → List (List C × List C) → List (List C) → Tr) : Tr :=
  match b with
  | [some (.cells ⟨[.int .i64 room, .int .i64 clock, .nf, .nf], [(2, .mp 1), (3, .arr 2)], 4⟩), some (.map [.str] false true 2 es), some (.arr true (some 57) 2 ord)] => .ite (okM es ord) (f room clock es ord) .no
  | _ => .no
def onCell (b : Bx) (f : Int → Int → List (List C × List C) → List (List C) → Tr) : Tr :=
  match b with
  | [some (.cells ⟨[.nf], [(0, .ptr 1 0)], 1⟩), some (.cells ⟨[.int .i64 room, .int .i64 clock, .nf, .nf], [(2, .mp 2), (3, .arr 3)], 4⟩), some (.map [.str] false true 2 es), some (.arr true (some 57) 2 ord)] => .ite (okM es ord) (f room clock es ord) .no
  | _ => .no
def onRow (b : Bx) (f : Int → Int → List (List C × List C) → List (List C) → Tr) : Tr :=
  match b with
  | [some (.arr true (some 57) 2 ord), some (.cells ⟨[.nf], [(0, .ptr 2 0)], 1⟩), some (.cells ⟨[.int .i64 room, .int .i64 clock, .nf, .nf], [(2, .mp 3), (3, .arr 0)], 4⟩), some (.map [.str] false true 2 es)] => .ite (okM es ord) (f room clock es ord) .no
  | _ => .no
def newS : List V → Bx → Tr
  | [.t (.w (.d (.int .i64 room)))], [] => .ite (decide (0 ≤ room ∧ room ≤ 1000)) (.ret (.tup [.w (.ptr 0 0), .w (.d (.int .i64 0))]) (memoB room 0 [] [])) (.ret (.tup [.w (.d .np), .w (.d (.int .i64 1))]) [])
  | _, _ => .no
def lenS : List V → Bx → Tr
  | [.t (.w (.ptr 0 0))], b => onM b fun room clock es ord => .ret (vi es.length) b
  | _, _ => .no
def getS : List V → Bx → Tr
  | [.t (.w (.ptr 0 0)), .t (.w (.d (.str k)))], b => onM b fun room clock es ord => .ret (.tup [.w (.d (.bool (vY es k))), .w (.d (.int .i64 (bif vS es k then 0 else 19)))]) b
  | _, _ => .no
def countsS : List V → Bx → Tr
  | [.t (.w (.ptr 0 0)), .t (.agg ⟨[.str k, .int .i64 wh], [], 2⟩)], b => onM b fun room clock es ord => .ret (vb (cntB es k wh)) b
  | _, _ => .no
def clearS : List V → Bx → Tr
  | [.t (.w (.ptr 0 0))], b => onM b fun room clock es ord => .ret (.tup []) [some (memoC room clock 1 3), some (mapB []), some (ordB ord), some (ordB [])]
  | _, _ => .no
def keysE (ord : List (List C)) : List (List C) := ord.map fun e => [.str (e.getD 0 .nf).toStr]
def keysS : List V → Bx → Tr
  | [.t (.w (.ptr 0 0))], b => onM b fun room clock es ord => .ret (.t (.w (.arr 3))) (b ++ [some (.arr true (some 9) 1 (keysE ord))])
  | _, _ => .no
/-- the closure of tidy -/
def tid1S : List V → Bx → Tr
  | [.t (.agg ⟨[.str k, .int .i64 wh], [], 2⟩), .t (.w (.ptr 0 0))], b => onCell b fun room clock es ord => .ret (vb (!cntB es k wh)) b
  | _, _ => .no
def badAt (es : List (List C × List C)) : List (List C) → Nat → Int
  | [], _ => -1
  | e :: r, i => bif cntE es e then badAt es r (i + 1) else i
def indexS : List V → Bx → Tr
  | [.t (.w (.arr 0)), .t (.w (.clo 21 [1]))], b => onRow b fun room clock es ord => .ret (vi (badAt es ord 0)) b
  | _, _ => .no
def delFS : List V → Bx → Tr
  | [.t (.w (.arr 0)), .t (.w (.clo 21 [1]))], b => onRow b fun room clock es ord =>
    .ite (ord.all (cntE es)) (.ret (.t (.w (.arr 0))) b)
      (.ret (.t (.w (.arr 4))) [none, some (.cells ⟨[.nf], [(0, .ptr 2 0)], 1⟩), some (memoC room clock 3 0), some (mapB es), some (ordB (ord.filter (cntE es)))])
  | _, _ => .no
def tidyS : List V → Bx → Tr
  | [.t (.w (.ptr 0 0))], b => onM b fun room clock es ord =>
    .ite (ord.all (cntE es)) (.ret (.tup []) b) (.ret (.tup []) [some (memoC room clock 1 3), some (mapB es), none, some (ordB (ord.filter (cntE es)))])
  | _, _ => .no
def deleteS : List V → Bx → Tr
  | [.t (.w (.arr 0)), .t (.w (.d (.int .i64 i))), .t (.w (.d (.int .i64 j)))], [some (.arr true (some 57) 2 ord)] =>
    .ite (decide (0 ≤ i ∧ j = i + 1 ∧ j ≤ ord.length) && decide (ord.length < 1000000)) (.ret (.t (.w (.arr 1))) [none, some (ordB (ord.eraseIdx i.toNat))]) .no
  | _, _ => .no
noncomputable def orcM1 : FuncId → List V → Bx → Tr := orcOf [(22, countsS)]
noncomputable def orcM2 : FuncId → List V → Bx → Tr := orcOf [(21, tid1S)]
noncomputable def orcM3 : FuncId → List V → Bx → Tr := orcOf [(21, tid1S), (23, indexS)]
noncomputable def orcM4 : FuncId → List V → Bx → Tr := orcOf [(20, delFS)]
noncomputable def orcM5 : FuncId → List V → Bx → Tr := orcOf [(18, tidyS), (19, deleteS)]
end Go.Proofs.Ythfjmmhigapkpaa
