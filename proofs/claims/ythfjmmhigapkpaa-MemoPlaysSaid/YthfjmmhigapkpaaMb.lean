/- memo: specs of Put, Drop, of the reference; the laws' tables -/
import Derived.Test.YthfjmmhigapkpaaMa
set_option linter.unusedVariables false
namespace Go.Proofs.Ythfjmmhigapkpaa
open Go Vm
abbrev Ents := List (List C × List C)
abbrev Row := List (List C)
def put1E (es : Ents) (clock : Int) (k : ByteArray) (y : Bool) : Ents := mapPut [.str k] [.bool y, .int .i64 (clock + 1)] es
def put1O (es : Ents) (ord : Row) (clock : Int) (k : ByteArray) (y : Bool) : Row := (ord ++ ([[.str k, .int .i64 (clock + 1)]] : List (List C))).filter (cntE (put1E es clock k y))
/-- those that there is no room for go -/
def evG (room : Int) : Nat → Ents → Row → Bool × Ents × Row
  | 0, es, ord => (false, es, ord)
  | n + 1, es, ord =>
    bif decide ((es.length : Int) > room) then (match ord with | [] => (false, es, ord) | e :: r => evG room n (mapDel [.str (e.getD 0 .nf).toStr] es) r) else (true, es, ord)
def putR (room clock : Int) (es : Ents) (ord : Row) (k : ByteArray) (y : Bool) : Bool × Ents × Row := evG room ((put1O es ord clock k y).length + 1) (put1E es clock k y) (put1O es ord clock k y)
def vrOk : List C → Bool
  | [.str _, .bool _] => true
  | _ => false
def okL (l : Row) : Bool := l.all vrOk && decide (l.length < 1000000)
def findL (k : ByteArray) : Row → Nat → Int
  | [], _ => -1
  | e :: r, i => bif ((e.getD 0 .nf).toStr.toList == k.toList) then i else findL k r (i + 1)
def rput1 (l : Row) (k : ByteArray) (y : Bool) : Row := (bif decide (findL k l 0 ≥ 0) then l.eraseIdx (findL k l 0).toNat else l) ++ ([[.str k, .bool y]] : List (List C))
def rputL (l : Row) (room : Int) (k : ByteArray) (y : Bool) : Row := bif decide (((rput1 l k y).length : Int) > room) then (rput1 l k y).drop 1 else rput1 l k y
/-- an act's cells: kind, place, key, verdict -/
def actOk : List C → Bool
  | [.int .i64 _, .int .i64 _, .str _, .bool _] => true
  | _ => false
def lastG (k : ByteArray) : Row → Bool × Bool → Bool × Bool
  | [], p => p
  | a :: r, p => lastG k r (bif ((a.getD 0 .nf).toInt == 1) && ((a.getD 2 .nf).toStr.toList == k.toList) then ((a.getD 3 .nf).toBool, true) else p)
/-- what functions answer, as variables -/
structure MF where
  pk : Int → Int → Ents → Row → ByteArray → Bool → Bool
  pe : Int → Int → Ents → Row → ByteArray → Bool → Ents
  po : Int → Int → Ents → Row → ByteArray → Bool → Row
  di : Int → Nat → Nat
  ge : Ents → ByteArray → Bool
  gs : Ents → ByteArray → Bool
  fi : Row → ByteArray → Int
  rp : Row → Int → ByteArray → Bool → Row
  ly : Row → ByteArray → Bool
  ls : Row → ByteArray → Bool
  ks : Row → Row
  ki : Row → Nat → ByteArray
def dropI (i : Int) (n : Nat) : Nat := ((IntKind.u64.wrap i).tmod n).toNat
def mfC : MF where
  pk := fun room clock es ord k y => (putR room clock es ord k y).1 && (decide (ord.length < 900000) && decide (es.length < 900000))
  pe := fun room clock es ord k y => (putR room clock es ord k y).2.1
  po := fun room clock es ord k y => (putR room clock es ord k y).2.2
  di := dropI
  ge := vY
  gs := vS
  fi := fun l k => findL k l 0
  rp := rputL
  ly := fun l k => (lastG k l (false, false)).1
  ls := fun l k => (lastG k l (false, false)).2
  ks := keysE
  ki := fun ord i => ((ord.getD i []).getD 0 .nf).toStr
def onMN (b : Bx) (f : Int → Int → Ents → Row → Tr) : Tr :=
  match b with
  | [some (.cells ⟨[.int .i64 room, .int .i64 clock, .nf, .nf], [(2, .mp 1), (3, .arr 2)], 4⟩), some (.map [.str] false true 2 es), some (.arr true (some 57) 2 ord)] => .ite (okM es ord) (f room clock es ord) .no
  | _ => .no
def putS (N : MF) : List V → Bx → Tr
  | [.t (.w (.ptr 0 0)), .t (.w (.d (.str k))), .t (.w (.d (.bool y)))], b => onMN b fun room clock es ord =>
    .ite (decide (0 ≤ clock ∧ clock < 1000000) && N.pk room clock es ord k y)
      (.ret (.tup []) [some (memoC room (clock + 1) 1 3), some (mapB (N.pe room clock es ord k y)), none, some (ordB (N.po room clock es ord k y))]) .no
  | _, _ => .no
def dropS (N : MF) : List V → Bx → Tr
  | [.t (.w (.ptr 0 0)), .t (.w (.d (.int .i64 i)))], b => onMN b fun room clock es ord =>
    .ite (ord.isEmpty) (.ret (vi 19) b)
      (.ret (vi 0) [some (memoC room clock 1 3), some (mapB (mapDel [.str (N.ki ord (N.di i ord.length))] es)), none, some (ordB (ord.eraseIdx (N.di i ord.length)))])
  | _, _ => .no
def getSN (N : MF) : List V → Bx → Tr
  | [.t (.w (.ptr 0 0)), .t (.w (.d (.str k)))], b => onMN b fun room clock es ord => .ret (.tup [.w (.d (.bool (N.ge es k))), .w (.d (.int .i64 (bif N.gs es k then 0 else 19)))]) b
  | _, _ => .no
def keysSN (N : MF) : List V → Bx → Tr
  | [.t (.w (.ptr 0 0))], b => onMN b fun room clock es ord => .ret (.t (.w (.arr 3))) (b ++ [some (.arr true (some 9) 1 (N.ks ord))])
  | _, _ => .no
def lastS (N : MF) : List V → Bx → Tr
  | [.t (.w (.d (.sl 4 acts))), .t (.w (.d (.str k)))], [] => .ite (acts.all actOk && decide (acts.length < 1000000)) (.ret (.tup [.w (.d (.bool (N.ly acts k))), .w (.d (.bool (N.ls acts k)))]) []) .no
  | _, _ => .no
def findS (N : MF) : List V → Bx → Tr
  | [.t (.w (.d (.sl 2 l))), .t (.w (.d (.str k)))], [] => .ite (okL l) (.ret (vi (N.fi l k)) []) .no
  | _, _ => .no
def withoutS : List V → Bx → Tr
  | [.t (.w (.d (.sl 2 l))), .t (.w (.d (.int .i64 i)))], [] => .ite (decide (0 ≤ i ∧ i < l.length) && okL l) (.ret (vc (.sl 2 (l.eraseIdx i.toNat))) []) .no
  | _, _ => .no
def rputS (N : MF) : List V → Bx → Tr
  | [.t (.w (.d (.sl 2 l))), .t (.w (.d (.int .i64 room))), .t (.w (.d (.str k))), .t (.w (.d (.bool y)))], [] => .ite (okL l) (.ret (vc (.sl 2 (N.rp l room k y))) []) .no
  | _, _ => .no
def awakeMS : List V → Bx → Tr
  | [], [] => .ret (vb true) []
  | _, _ => .no
def eqlS : List V → Bx → Tr
  | [.t (.w (.d (.sl 1 a))), .t (.w (.d (.sl 1 b)))], [] => .ite (a.all (shOk [.str]) && b.all (shOk [.str]) && decide (a.length < 1000000)) (.ret (vb (decide (a.map (fun e => (e.getD 0 .nf).toStr.toList) = b.map fun e => (e.getD 0 .nf).toStr.toList))) []) .no
  | _, _ => .no
noncomputable def orcMR (N : MF) : FuncId → List V → Bx → Tr := orcOf [(16, findS N), (14, withoutS)]
noncomputable def tabML (N : MF) : List (FuncId × (List V → Bx → Tr)) := [(5, newS), (6, awakeMS), (7, putS N), (8, dropS N), (9, lenS), (10, keysSN N), (11, getSN N), (12, lastS N)]
noncomputable def tabMP (N : MF) : List (FuncId × (List V → Bx → Tr)) := tabML N ++ [(13, rputS N), (14, withoutS), (15, clearS), (16, findS N)]
noncomputable def orcML (N : MF) : FuncId → List V → Bx → Tr := orcOf (tabML N)
noncomputable def orcMP (N : MF) : FuncId → List V → Bx → Tr := orcOf (tabMP N)
noncomputable def orcMA (N : MF) : FuncId → List V → Bx → Tr := orcOf [(5, newS), (7, putS N), (10, keysSN N), (17, eqlS)]
end Go.Proofs.Ythfjmmhigapkpaa
