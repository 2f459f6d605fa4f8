/- tray: specs of the functions, as trees of conditions -/
import Derived.Test.YtjkiipkghkpihaaTy
import Derived.Test.YtjkiipkghkpihaaWS
namespace Go.Proofs.Ytjkiipkghkpihaa
open Go Vm
def trayB (kept cache : List (List C)) (left : Int) (dark : Bool) : Bx :=
  [some (.cells ⟨[.nf, .nf, .int .i64 left, .bool dark], [(0, .arr 1), (1, .arr 2)], 4⟩), some (.arr true (some 64) 128 kept), some (.arr true (some 66) 129 cache)]
abbrev p0 : V := .t (.w (.ptr 0 0))
def onTray (b : Bx) (f : List (List C) → List (List C) → Int → Bool → Tr) : Tr :=
  match b with
  | [some (.cells ⟨[.nf, .nf, .int .i64 left, .bool dark], [(0, .arr 1), (1, .arr 2)], 4⟩), some (.arr true (some 64) 128 kept), some (.arr true (some 66) 129 cache)] => f kept cache left dark
  | _ => .no
def hasS : List V → Bx → Tr
  | [.t (.w (.ptr 0 0)), .t (.w (.d (.int .i64 at_)))], b => onTray b fun kept _ _ _ => .ite (decide (at_ ≥ 0)) (.ret (vb (decide (at_ < (kept.length : Int)))) b) (.ret (vb false) b)
  | _, _ => .no
def stepS : List V → Bx → Tr
  | [.t (.w (.ptr 0 0))], b => onTray b fun kept cache left dark =>
    .ite (left == 0) (.ret (vb false) (trayB kept cache left true))
      (.ite (decide (left > 0)) (.ret (vb true) (trayB kept cache (IntKind.i64.wrap (left - 1)) dark)) (.ret (vb true) (trayB kept cache left dark)))
  | _, _ => .no
def isB : C → Bool
  | .int .u8 n => decide (0 ≤ n ∧ n < 256)
  | _ => false
def atE (e : List C) : Int := (e.getD 0 .nf).toInt
def secOk (s : List C) : Bool := s.length == 128 && s.all isB
def cwOk (n : Nat) (e : List C) : Bool := e.length == 129 && shOk [Sh.int .i64, Sh.run 128] e && decide (0 ≤ atE e) && decide ((atE e).toNat < n) && secOk (e.drop 1)
def okT (kept cache : List (List C)) : Bool := kept.all secOk && cache.all (cwOk kept.length) && decide (kept.length ≤ 4096) && decide (cache.length < 1000000)
/-- the sectors, where writes are laid over them -/
def settleP : List (List C) → List (List C) → List (List C)
  | kept, [] => kept
  | kept, e :: r => settleP (kept.set (atE e).toNat (e.drop 1)) r
def settleS : List V → Bx → Tr
  | [.t (.w (.arr 0)), .t (.w (.arr 1))], [some (.arr true (some 64) 128 kept), some (.arr true (some 66) 129 cache)] =>
    .ite (okT kept cache) (.ret (.tup []) [some (.arr true (some 64) 128 (settleP kept cache)), some (.arr true (some 66) 129 cache)]) .no
  | [.t (.w (.arr 0)), .t (.w (.d (.sl 129 cache)))], [some (.arr true (some 64) 128 kept)] =>
    .ite (okT kept cache) (.ret (.tup []) [some (.arr true (some 64) 128 (settleP kept cache))]) .no
  | _, _ => .no
def orc0 : FuncId → List V → Bx → Tr := orcOf []
def tab1 : List (FuncId × (List V → Bx → Tr)) := [(23, hasS), (24, stepS), (25, settleS)]
def orc1 : FuncId → List V → Bx → Tr := orcOf tab1

def zsec : List C := List.replicate 128 (C.int .u8 0)
def newS : List V → Bx → Tr
  | [.t (.w (.d (.int .i64 n)))], [] =>
    .ite (decide (n < 4)) (.ret (.tup [.w (.d .np), .w (.d (.int .i64 1))]) []) (.ite (decide (n > 4096)) (.ret (.tup [.w (.d .np), .w (.d (.int .i64 1))]) [])
      (.ret (.tup [.w (.ptr 0 0), .w (.d (.int .i64 0))]) (trayB (List.replicate n.toNat zsec) [] (-1) false)))
  | _, _ => .no
def isBE : List C → Bool
  | [c] => isB c
  | _ => false
def mkW (at_ : Int) (bels : List (List C)) : List C := .int .i64 at_ :: (bels.map (fun e => e.getD 0 .nf) ++ List.replicate (128 - bels.length) (C.int .u8 0))
def decL (left : Int) : Int := bif decide (left > 0) then left - 1 else left
/-- behind a write -/
def trayW (kept cache : List (List C)) (left : Int) (dark : Bool) : Bx :=
  [some (.cells ⟨[.nf, .nf, .int .i64 left, .bool dark], [(0, .arr 1), (1, .arr 3)], 4⟩), some (.arr true (some 64) 128 kept), none, some (.arr true (some 66) 129 cache)]
def leftOk (left : Int) : Bool := decide (-1 ≤ left) && decide (left ≤ 1099511627776)
def inR (kept : List (List C)) (at_ : Int) : Bool := decide (0 ≤ at_) && decide (at_ < (kept.length : Int))
def wIn (kept : List (List C)) (at_ : Int) (bels : List (List C)) : Bool := inR kept at_ && decide (bels.length ≤ 128)
def writeS : List V → Bx → Tr
  | [.t (.w (.ptr 0 0)), .t (.w (.d (.int .i64 at_))), .t (.w (.d (.sl 1 bels)))], b => onTray b fun kept cache left dark =>
    .ite (okT kept cache && bels.all isBE && leftOk left)
      (.ite (wIn kept at_ bels && !(left == 0)) (.ret (vi 0) (trayW kept (cache ++ [mkW at_ bels]) (decL left) dark))
        (.ret (vi (bif wIn kept at_ bels then 20 else 1)) (trayB kept cache left (wIn kept at_ bels || dark))))
      .no
  | _, _ => .no
/-- behind a flush -/
def trayF (kept cache : List (List C)) (left : Int) (dark : Bool) : Bx :=
  [some (.cells ⟨[.nf, .nf, .int .i64 left, .bool dark], [(0, .arr 1), (1, .arr 3)], 4⟩), some (.arr true (some 64) 128 (settleP kept cache)), some (.arr true (some 66) 129 cache), some (.arr true (some 66) 129 [])]
def flushS : List V → Bx → Tr
  | [.t (.w (.ptr 0 0))], b => onTray b fun kept cache left dark =>
    .ite (okT kept cache && leftOk left)
      (.ite (left == 0) (.ret (vi 20) (trayB kept cache left true)) (.ret (vi 0) (trayF kept cache (decL left) dark)))
      .no
  | _, _ => .no
/-- the writes that are chosen -/
def chosen : List (List C) → List (List C) → List (List C)
  | e :: r, c :: q => bif (c.getD 0 .nf).toBool then e :: chosen r q else chosen r q
  | _, _ => []
def isBoolE : List C → Bool
  | [.bool _] => true
  | _ => false
def trayL (kept cache : List (List C)) (left : Int) (dark : Bool) (ch : List (List C)) : Bx :=
  [some (.cells ⟨[.nf, .nf, .int .i64 left, .bool dark], [(0, .arr 1), (1, .arr 2)], 4⟩), some (.arr true (some 64) 128 kept), some (.arr true (some 66) 129 cache),
   some (.cells ⟨[.nf, .nf, .int .i64 (-1), .bool false], [(0, .arr 4), (1, .arr 5)], 4⟩), some (.arr true (some 64) 128 (settleP kept (chosen cache ch))), some (.arr true (some 66) 129 [])]
def loseS : List V → Bx → Tr
  | [.t (.w (.ptr 0 0)), .t (.w (.d (.sl 1 ch)))], b => onTray b fun kept cache left dark =>
    .ite (okT kept cache && ch.all isBoolE) (.ret (.t (.w (.ptr 3 0))) (trayL kept cache left dark ch)) .no
  | _, _ => .no
def readW (at_ : Int) : List C → List (List C) → List C
  | b, [] => b
  | b, e :: r => readW at_ (bif atE e == at_ then e.drop 1 else b) r
def readP (kept cache : List (List C)) (at_ : Int) : List C := readW at_ (kept.getD at_.toNat []) cache
def readS : List V → Bx → Tr
  | [.t (.w (.ptr 0 0)), .t (.w (.d (.int .i64 at_)))], b => onTray b fun kept cache left dark =>
    .ite (okT kept cache)
      (.ret (.tup [.w (.d (.sl 1 (bif inR kept at_ then (readP kept cache at_).map (fun c => [c]) else []))), .w (.d (.int .i64 (bif inR kept at_ then 0 else 1)))]) (trayB kept cache left dark))
      .no
  | _, _ => .no
def cachedS : List V → Bx → Tr
  | [.t (.w (.ptr 0 0))], b => onTray b fun _ cache _ _ => .ret (vi cache.length) b
  | _, _ => .no
def darkS : List V → Bx → Tr
  | [.t (.w (.ptr 0 0))], b => onTray b fun _ _ _ dark => .ret (vb dark) b
  | _, _ => .no
def sectorsS : List V → Bx → Tr
  | [.t (.w (.ptr 0 0))], b => onTray b fun kept _ _ _ => .ret (vi kept.length) b
  | _, _ => .no
def powerS : List V → Bx → Tr
  | [.t (.w (.ptr 0 0)), .t (.w (.d (.int .i64 n)))], b => onTray b fun kept cache left dark =>
    .ite (decide (n < 0)) (.ret (vi 1) (trayB kept cache left dark)) (.ite (decide (n > 1099511627776)) (.ret (vi 1) (trayB kept cache left dark)) (.ret (vi 0) (trayB kept cache n false)))
  | _, _ => .no
def awakeS : List V → Bx → Tr
  | [], [] => .ret (vb true) []
  | _, _ => .no
def tab2a : List (FuncId × (List V → Bx → Tr)) := [(7, newS), (9, writeS), (10, flushS), (11, loseS), (12, readS), (13, cachedS), (14, darkS), (15, powerS), (21, sectorsS)]
def orc2a : FuncId → List V → Bx → Tr := orcOf tab2a
def tab2 : List (FuncId × (List V → Bx → Tr)) := [(7, newS), (8, awakeS), (9, writeS), (10, flushS), (11, loseS), (12, readS), (13, cachedS), (14, darkS), (15, powerS), (21, sectorsS)]
def orc2 : FuncId → List V → Bx → Tr := orcOf tab2
end Go.Proofs.Ytjkiipkghkpihaa
