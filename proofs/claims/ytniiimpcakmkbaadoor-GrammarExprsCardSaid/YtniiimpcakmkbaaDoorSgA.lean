/- sigil: specs of small functions -/
import Derived.Test.YtniiimpcakmkbaaDoorSy
import Derived.Test.YtniiimpcakmkbaaDoorWP
import Derived.Test.YtniiimpcakmkbaaDoorTrydShelf
namespace Go.Proofs.YtniiimpcakmkbaaDoor
open Go Vm
def orc0 : FuncId → List V → Bx → Tr := orcOf []
/-- the package variables that are read: utf8's tables, MaxLen (whatever it holds) -/
def firstC : List C := (List.range 256).map fun i => C.int .u8 (Go.Lib.firstT i)
def accC : List C := (List.range 16).flatMap fun i => [C.int .u8 (Go.Lib.accLo i), C.int .u8 (Go.Lib.accHi i)]
def globT (m : Int) : Nat → Option (List C) := fun g => bif Nat.beq g 2 then some [.int .i64 m] else bif Nat.beq g 3 then some firstC else bif Nat.beq g 4 then some accC else none
abbrev v32 (r : Int) : V := vc (.int .i32 r)
def plM (l c : Int) : M := ⟨[.int .i64 l, .int .i64 c], [], 2⟩
def nextL (l r : Int) : Int := bif r == 10 then IntKind.i64.wrap (l + 1) else l
def nextC (c r : Int) : Int := bif r == 10 then 1 else IntKind.i64.wrap (c + 1)
def nextS : List V → Bx → Tr
  | [.t (.agg ⟨[.int .i64 l, .int .i64 c], [], 2⟩), .t (.w (.d (.int .i32 r)))], [] => .ret (.t (.agg (plM (nextL l r) (nextC c r)))) []
  | _, _ => .no
def blankP (r : Int) : Bool := r == 9 || r == 10 || r == 13 || r == 32 || r == 12288
def blankS : List V → Bx → Tr
  | [.t (.w (.d (.int .i32 r)))], [] => .ret (vb (blankP r)) []
  | _, _ => .no
def letterP (r : Int) (first : Bool) : Bool := (decide (r ≥ 97) && decide (r ≤ 122)) || (!first && ((decide (r ≥ 48) && decide (r ≤ 57)) || r == 95))
def letterS : List V → Bx → Tr
  | [.t (.w (.d (.int .i32 r))), .t (.w (.d (.bool f)))], [] => .ret (vb (letterP r f)) []
  | _, _ => .no
def bType : ByteArray := ⟨#[116, 121, 112, 101]⟩
def bRel : ByteArray := ⟨#[114, 101, 108]⟩
def bThis : ByteArray := ⟨#[116, 104, 105, 115]⟩
def kindP (s : ByteArray) : Int := bif s.toList == bType.toList then 2 else bif s.toList == bRel.toList then 3 else bif s.toList == bThis.toList then 4 else 1
def kindS : List V → Bx → Tr
  | [.t (.w (.d (.str s)))], [] => .ret (vi (kindP s)) []
  | _, _ => .no
/-- does it begin so? -/
def preP (s p : ByteArray) : Bool := decide (p.size ≤ s.size) && (s.extract 0 p.size).toList == p.toList
def preS : List V → Bx → Tr
  | [.t (.w (.d (.str s))), .t (.w (.d (.str p)))], [] => .ret (vb (preP s p)) []
  | _, _ => .no
/-- the rune at a place, as a range over a text has it, is none -/
def brokenP (s : ByteArray) (at_ r : Int) : Bool := r == 65533 && ((Go.Lib.decodeGo (s.extract at_.toNat s.size)).2 == 1)
def brokenS : List V → Bx → Tr
  | [.t (.w (.d (.str s))), .t (.w (.d (.int .i64 at_))), .t (.w (.d (.int .i32 r)))], [] => .ite (decide (0 ≤ at_) && decide (at_ ≤ s.size)) (.ret (vb (brokenP s at_ r)) []) .no
  | _, _ => .no
def decS : List V → Bx → Tr
  | [.t (.w (.d (.str s)))], [] => .ret (.tup [.w (.d (.int .i32 (Go.Lib.decodeGo s).1)), .w (.d (.int .i64 (Go.Lib.decodeGo s).2))]) []
  | _, _ => .no
def shortB : List UInt8 → Nat → Bool
  | [], _ => true
  | _ :: _, 0 => false
  | _ :: r, n + 1 => shortB r n
theorem shortB_len : ∀ (l : List UInt8) (n : Nat), shortB l n = true → l.length ≤ n
  | [], _, _ => Nat.zero_le _
  | _ :: r, n + 1, h => Nat.succ_le_succ (shortB_len r n h)
theorem hasSub_ex (s p : ByteArray) : ∃ b : Bool, b = Go.Lib.contains s.data.toList p.data.toList := ⟨_, rfl⟩
/-- does it stand within? (sealed: the kernel shall not look into it) -/
noncomputable def hasSub (s p : ByteArray) : Bool := Classical.choose (hasSub_ex s p)
theorem hasSub_eq (s p : ByteArray) : hasSub s p = Go.Lib.contains s.data.toList p.data.toList := Classical.choose_spec (hasSub_ex s p)
noncomputable def containsS : List V → Bx → Tr
  | [.t (.w (.d (.str s))), .t (.w (.d (.str p)))], [] => .ite (shortB s.data.toList 64) (.ret (vb (hasSub s p)) []) .no
  | _, _ => .no
noncomputable def tabA0 : List (FuncId × (List V → Bx → Tr)) := [(37, nextS), (55, blankS), (78, letterS), (58, kindS), (61, preS), (93, decS), (24, containsS)]
noncomputable def orcA0 : FuncId → List V → Bx → Tr := orcOf tabA0
noncomputable def tabA : List (FuncId × (List V → Bx → Tr)) := [(40, preS), (77, brokenS)] ++ tabA0
noncomputable def orcA : FuncId → List V → Bx → Tr := orcOf tabA
end Go.Proofs.YtniiimpcakmkbaaDoor
