/- sigil: specs of the functions with loops -/
import Derived.Test.YtniiimpcakmkbaaDoorSgA
namespace Go.Proofs.YtniiimpcakmkbaaDoor
open Go Vm
/-- where a rune is for which p holds: the text's size, if there is none -/
def firstAt (s : ByteArray) (p : Nat → Int → Bool) : Nat → Nat → Nat
  | 0, _ => s.size
  | f + 1, i => bif decide (i < s.size) then (bif p i (Utf8.decode s i).1 then i else firstAt s p f (i + (Utf8.decode s i).2)) else s.size
def first (s : ByteArray) (p : Nat → Int → Bool) : Nat := firstAt s p (s.size + 1) 0
def validP (s : ByteArray) : Bool := first s (fun i r => brokenP s i r) == s.size
def cntAt (s : ByteArray) : Nat → Nat → Int → Int
  | 0, _, c => c
  | f + 1, i, c => bif decide (i < s.size) then cntAt s f (i + (Utf8.decode s i).2) (IntKind.i64.wrap (c + 1)) else c
def countP (s : ByteArray) : Int := cntAt s (s.size + 1) 0 0
def plAt (s : ByteArray) : Nat → Nat → Int → Int → Int × Int
  | 0, _, l, c => (l, c)
  | f + 1, i, l, c => bif decide (i < s.size) then plAt s f (i + (Utf8.decode s i).2) (nextL l (Utf8.decode s i).1) (nextC c (Utf8.decode s i).1) else (l, c)
def behindP (l c : Int) (s : ByteArray) : Int × Int := plAt s (s.size + 1) 0 l c
def wordP (s : ByteArray) : ByteArray := s.extract 0 (first s fun i r => !letterP r ((i : Int) == 0))
def bSl : ByteArray := ⟨#[47, 47]⟩
def bTo : ByteArray := ⟨#[45, 62]⟩
def bNo : ByteArray := ⟨#[]⟩
def bSigns : ByteArray := ⟨#[123, 125, 91, 93, 40, 41, 61, 59, 44, 58, 35, 42, 124, 38, 45]⟩
def remarkP (s : ByteArray) : ByteArray := bif preP s bSl then s.extract 0 (first s fun _ r => r == 10) else bNo
def validS : List V → Bx → Tr
  | [.t (.w (.d (.str s)))], [] => .ret (vb (validP s)) []
  | _, _ => .no
def countS : List V → Bx → Tr
  | [.t (.w (.d (.str s)))], [] => .ret (.tup [.w (.d (.int .i64 (bif validP s then countP s else 0))), .w (.d (.int .i64 (bif validP s then 0 else 4)))]) []
  | _, _ => .no
def behindS : List V → Bx → Tr
  | [.t (.agg ⟨[.int .i64 l, .int .i64 c], [], 2⟩), .t (.w (.d (.str s)))], [] => .ret (.t (.agg (plM (behindP l c s).1 (behindP l c s).2))) []
  | _, _ => .no
def endS : List V → Bx → Tr
  | [.t (.w (.d (.str s)))], [] => .ret (.t (.agg (plM (behindP 1 1 s).1 (behindP 1 1 s).2))) []
  | _, _ => .no
def wordS : List V → Bx → Tr
  | [.t (.w (.d (.str s)))], [] => .ret (vs (wordP s)) []
  | _, _ => .no
def remarkS : List V → Bx → Tr
  | [.t (.w (.d (.str s)))], [] => .ret (vs (remarkP s)) []
  | _, _ => .no
/-- the sign that a text begins with -/
noncomputable def signP (s : ByteArray) : Bool := decide (0 < s.size) && hasSub bSigns (Utf8.encode (Utf8.decode s 0).1)
def isW (s : ByteArray) : Bool := !((wordP s).toList == bNo.toList)
noncomputable def tokK (s : ByteArray) : Int := bif isW s then kindP (wordP s) else bif preP s bTo then 5 else bif signP s then (Utf8.decode s 0).1 else 0
noncomputable def tokT (s : ByteArray) : ByteArray := bif isW s then wordP s else bif preP s bTo then bTo else bif signP s then Utf8.encode (Utf8.decode s 0).1 else bNo
noncomputable def tokO (s : ByteArray) : Bool := bif isW s then decide ((wordP s).size ≤ 16) else bif preP s bTo then true else signP s
noncomputable def tokenS : List V → Bx → Tr
  | [.t (.w (.d (.str s)))], [] => .ret (.tup [.agg ⟨[.int .i64 (tokK s), .str (tokT s), .int .i64 0, .int .i64 0], [], 4⟩, .w (.d (.bool (tokO s)))]) []
  | _, _ => .no
/-- how many bytes of blanks and remarks a text begins with -/
def skipP : Nat → ByteArray → Nat
  | 0, s => s.size
  | n + 1, s =>
    let at_ := first s fun _ r => !blankP r
    bif decide (at_ < s.size) then
      (let k := (remarkP (s.extract at_ s.size)).size
       bif k == 0 then at_ else at_ + k + skipP n (s.extract (at_ + k) s.size))
    else s.size
def skipS (n : Nat) : List V → Bx → Tr
  | [.t (.w (.d (.str s)))], [] => .ite (decide (s.size < n) && decide (s.size < 9223372036854775807)) (.ret (vi (skipP (s.size + 1) s)) []) .no
  | _, _ => .no
noncomputable def tabB0 : List (FuncId × (List V → Bx → Tr)) := [(54, validS), (31, behindS), (57, wordS), (56, remarkS)] ++ tabA
noncomputable def orcB0 : FuncId → List V → Bx → Tr := orcOf tabB0
noncomputable def tabB (n : Nat) : List (FuncId × (List V → Bx → Tr)) := (30, skipS n) :: tabB0
noncomputable def orcB (n : Nat) : FuncId → List V → Bx → Tr := orcOf (tabB n)
def skipT : List V → Bx → Tr
  | [.t (.w (.d (.str s)))], [] => .ite (decide (s.size < 9223372036854775807)) (.ret (vi (skipP (s.size + 1) s)) []) .no
  | _, _ => .no
noncomputable def tabC : List (FuncId × (List V → Bx → Tr)) := [(16, endS), (29, countS), (32, tokenS), (30, skipT)] ++ tabB0
noncomputable def orcC : FuncId → List V → Bx → Tr := orcOf tabC
end Go.Proofs.YtniiimpcakmkbaaDoor
