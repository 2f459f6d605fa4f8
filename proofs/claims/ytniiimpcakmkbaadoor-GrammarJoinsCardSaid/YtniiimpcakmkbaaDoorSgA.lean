/- sigil: specs of small functions -/
import Derived.Test.YtniiimpcakmkbaaDoorSy
import Derived.Test.YtniiimpcakmkbaaDoorWP
import Derived.Test.YtniiimpcakmkbaaDoorTrydShelf
namespace Go.Proofs.YtniiimpcakmkbaaDoor
open Go Vm
def orc0 : FuncId → List V → Bx → Tr := orcOf []
/-- the package variables that are read: utf8's tables, MaxLen (whatever it holds) -/
def firstC : List C := (List.range 256).map fun i => C.int .u8 (Go.Lib.firstT i)
def accC : List C := (List.range 16).flatMap fun i => [C.int .u8 (Go.Lib.accLo i), C.int .u8 (Go.Lib.accHi i)]
def globT (m : Int) : Nat → Option (List C) := fun g => bif Nat.beq g 2 then some [.int .i64 m] else bif Nat.beq g 3 then some firstC else bif Nat.beq g 4 then some accC else none
abbrev v32 (r : Int) : V := vc (.int .i32 r)
def plM (l c : Int) : M := ⟨[.int .i64 l, .int .i64 c], [], 2⟩
def nextL (l r : Int) : Int := bif r == 10 then IntKind.i64.wrap (l + 1) else l
def nextC (c r : Int) : Int := bif r == 10 then 1 else IntKind.i64.wrap (c + 1)
def nextS : List V → Bx → Tr
  | [.t (.agg ⟨[.int .i64 l, .int .i64 c], [], 2⟩), .t (.w (.d (.int .i32 r)))], [] => .ret (.t (.agg (plM (nextL l r) (nextC c r)))) []
  | _, _ => .no
def blankP (r : Int) : Bool := r == 9 || r == 10 || r == 13 || r == 32 || r == 12288
def blankS : List V → Bx → Tr
  | [.t (.w (.d (.int .i32 r)))], [] => .ret (vb (blankP r)) []
  | _, _ => .no
def letterP (r : Int) (first : Bool) : Bool := (decide (r ≥ 97) && decide (r ≤ 122)) || (!first && ((decide (r ≥ 48) && decide (r ≤ 57)) || r == 95))
def letterS : List V → Bx → Tr
  | [.t (.w (.d (.int .i32 r))), .t (.w (.d (.bool f)))], [] => .ret (vb (letterP r f)) []
  | _, _ => .no
def bType : ByteArray := ⟨#[116, 121, 112, 101]⟩
def bRel : ByteArray := ⟨#[114, 101, 108]⟩
def bThis : ByteArray := ⟨#[116, 104, 105, 115]⟩
def kindP (s : ByteArray) : Int := bif s.toList == bType.toList then 2 else bif s.toList == bRel.toList then 3 else bif s.toList == bThis.toList then 4 else 1
def kindS : List V → Bx → Tr
  | [.t (.w (.d (.str s)))], [] => .ret (vi (kindP s)) []
  | _, _ => .no
/-- does it begin so? -/
def preP (s p : ByteArray) : Bool := decide (p.size ≤ s.size) && (s.extract 0 p.size).toList == p.toList
def preS : List V → Bx → Tr
  | [.t (.w (.d (.str s))), .t (.w (.d (.str p)))], [] => .ret (vb (preP s p)) []
  | _, _ => .no
/-- the rune at a place, as a range over a text has it, is none -/
def brokenP (s : ByteArray) (at_ r : Int) : Bool := r == 65533 && ((Go.Lib.decodeGo (s.extract at_.toNat s.size)).2 == 1)
def brokenS : List V → Bx → Tr
  | [.t (.w (.d (.str s))), .t (.w (.d (.int .i64 at_))), .t (.w (.d (.int .i32 r)))], [] => .ite (decide (0 ≤ at_) && decide (at_ ≤ s.size)) (.ret (vb (brokenP s at_ r)) []) .no
  | _, _ => .no
def decS : List V → Bx → Tr
  | [.t (.w (.d (.str s)))], [] => .ret (.tup [.w (.d (.int .i32 (Go.Lib.decodeGo s).1)), .w (.d (.int .i64 (Go.Lib.decodeGo s).2))]) []
  | _, _ => .no
def shortB : List UInt8 → Nat → Bool
  | [], _ => true
  | _ :: _, 0 => false
  | _ :: r, n + 1 => shortB r n
theorem shortB_len : ∀ (l : List UInt8) (n : Nat), shortB l n = true → l.length ≤ n
  | [], _, _ => Nat.zero_le _
  | _ :: r, n + 1, h => Nat.succ_le_succ (shortB_len r n h)
theorem hasSub_ex (s p : ByteArray) : ∃ b : Bool, b = Go.Lib.contains s.data.toList p.data.toList := ⟨_, rfl⟩
/-- does it stand within? (sealed: the kernel shall not look into it) -/
noncomputable def hasSub (s p : ByteArray) : Bool := Classical.choose (hasSub_ex s p)
theorem hasSub_eq (s p : ByteArray) : hasSub s p = Go.Lib.contains s.data.toList p.data.toList := Classical.choose_spec (hasSub_ex s p)
noncomputable def containsS : List V → Bx → Tr
  | [.t (.w (.d (.str s))), .t (.w (.d (.str p)))], [] => .ite (shortB s.data.toList 64) (.ret (vb (hasSub s p)) []) .no
  | _, _ => .no
noncomputable def tabA0 : List (FuncId × (List V → Bx → Tr)) := [(37, nextS), (55, blankS), (78, letterS), (58, kindS), (61, preS), (93, decS), (24, containsS)]
noncomputable def orcA0 : FuncId → List V → Bx → Tr := orcOf tabA0
noncomputable def tabA : List (FuncId × (List V → Bx → Tr)) := [(40, preS), (77, brokenS)] ++ tabA0
noncomputable def orcA : FuncId → List V → Bx → Tr := orcOf tabA
end Go.Proofs.YtniiimpcakmkbaaDoor

/- sigil: specs of the functions with loops -/
namespace Go.Proofs.YtniiimpcakmkbaaDoor
open Go Vm
/-- where a rune is for which p holds: the text's size, if there is none -/
def firstAt (s : ByteArray) (p : Nat → Int → Bool) : Nat → Nat → Nat
  | 0, _ => s.size
  | f + 1, i => bif decide (i < s.size) then (bif p i (Utf8.decode s i).1 then i else firstAt s p f (i + (Utf8.decode s i).2)) else s.size
def first (s : ByteArray) (p : Nat → Int → Bool) : Nat := firstAt s p (s.size + 1) 0
def validP (s : ByteArray) : Bool := first s (fun i r => brokenP s i r) == s.size
def cntAt (s : ByteArray) : Nat → Nat → Int → Int
  | 0, _, c => c
  | f + 1, i, c => bif decide (i < s.size) then cntAt s f (i + (Utf8.decode s i).2) (IntKind.i64.wrap (c + 1)) else c
def countP (s : ByteArray) : Int := cntAt s (s.size + 1) 0 0
def plAt (s : ByteArray) : Nat → Nat → Int → Int → Int × Int
  | 0, _, l, c => (l, c)
  | f + 1, i, l, c => bif decide (i < s.size) then plAt s f (i + (Utf8.decode s i).2) (nextL l (Utf8.decode s i).1) (nextC c (Utf8.decode s i).1) else (l, c)
def behindP (l c : Int) (s : ByteArray) : Int × Int := plAt s (s.size + 1) 0 l c
def wordP (s : ByteArray) : ByteArray := s.extract 0 (first s fun i r => !letterP r ((i : Int) == 0))
def bSl : ByteArray := ⟨#[47, 47]⟩
def bTo : ByteArray := ⟨#[45, 62]⟩
def bNo : ByteArray := ⟨#[]⟩
def bSigns : ByteArray := ⟨#[123, 125, 91, 93, 40, 41, 61, 59, 44, 58, 35, 42, 124, 38, 45]⟩
def remarkP (s : ByteArray) : ByteArray := bif preP s bSl then s.extract 0 (first s fun _ r => r == 10) else bNo
def validS : List V → Bx → Tr
  | [.t (.w (.d (.str s)))], [] => .ret (vb (validP s)) []
  | _, _ => .no
def countS : List V → Bx → Tr
  | [.t (.w (.d (.str s)))], [] => .ret (.tup [.w (.d (.int .i64 (bif validP s then countP s else 0))), .w (.d (.int .i64 (bif validP s then 0 else 4)))]) []
  | _, _ => .no
def behindS : List V → Bx → Tr
  | [.t (.agg ⟨[.int .i64 l, .int .i64 c], [], 2⟩), .t (.w (.d (.str s)))], [] => .ret (.t (.agg (plM (behindP l c s).1 (behindP l c s).2))) []
  | _, _ => .no
def endS : List V → Bx → Tr
  | [.t (.w (.d (.str s)))], [] => .ret (.t (.agg (plM (behindP 1 1 s).1 (behindP 1 1 s).2))) []
  | _, _ => .no
def wordS : List V → Bx → Tr
  | [.t (.w (.d (.str s)))], [] => .ret (vs (wordP s)) []
  | _, _ => .no
def remarkS : List V → Bx → Tr
  | [.t (.w (.d (.str s)))], [] => .ret (vs (remarkP s)) []
  | _, _ => .no
/-- the sign that a text begins with -/
noncomputable def signP (s : ByteArray) : Bool := decide (0 < s.size) && hasSub bSigns (Utf8.encode (Utf8.decode s 0).1)
def isW (s : ByteArray) : Bool := !((wordP s).toList == bNo.toList)
noncomputable def tokK (s : ByteArray) : Int := bif isW s then kindP (wordP s) else bif preP s bTo then 5 else bif signP s then (Utf8.decode s 0).1 else 0
noncomputable def tokT (s : ByteArray) : ByteArray := bif isW s then wordP s else bif preP s bTo then bTo else bif signP s then Utf8.encode (Utf8.decode s 0).1 else bNo
noncomputable def tokO (s : ByteArray) : Bool := bif isW s then decide ((wordP s).size ≤ 16) else bif preP s bTo then true else signP s
noncomputable def tokenS : List V → Bx → Tr
  | [.t (.w (.d (.str s)))], [] => .ret (.tup [.agg ⟨[.int .i64 (tokK s), .str (tokT s), .int .i64 0, .int .i64 0], [], 4⟩, .w (.d (.bool (tokO s)))]) []
  | _, _ => .no
/-- how many bytes of blanks and remarks a text begins with -/
def skipP : Nat → ByteArray → Nat
  | 0, s => s.size
  | n + 1, s =>
    let at_ := first s fun _ r => !blankP r
    bif decide (at_ < s.size) then
      (let k := (remarkP (s.extract at_ s.size)).size
       bif k == 0 then at_ else at_ + k + skipP n (s.extract (at_ + k) s.size))
    else s.size
def skipS (n : Nat) : List V → Bx → Tr
  | [.t (.w (.d (.str s)))], [] => .ite (decide (s.size < n) && decide (s.size < 9223372036854775807)) (.ret (vi (skipP (s.size + 1) s)) []) .no
  | _, _ => .no
noncomputable def tabB0 : List (FuncId × (List V → Bx → Tr)) := [(54, validS), (31, behindS), (57, wordS), (56, remarkS)] ++ tabA
noncomputable def orcB0 : FuncId → List V → Bx → Tr := orcOf tabB0
noncomputable def tabB (n : Nat) : List (FuncId × (List V → Bx → Tr)) := (30, skipS n) :: tabB0
noncomputable def orcB (n : Nat) : FuncId → List V → Bx → Tr := orcOf (tabB n)
def skipT : List V → Bx → Tr
  | [.t (.w (.d (.str s)))], [] => .ite (decide (s.size < 9223372036854775807)) (.ret (vi (skipP (s.size + 1) s)) []) .no
  | _, _ => .no
noncomputable def tabC : List (FuncId × (List V → Bx → Tr)) := [(16, endS), (29, countS), (32, tokenS), (30, skipT)] ++ tabB0
noncomputable def orcC : FuncId → List V → Bx → Tr := orcOf tabC
end Go.Proofs.YtniiimpcakmkbaaDoor

set_option linter.unusedVariables false
namespace Go.Proofs.YtniiimpcakmkbaaDoor
open Go Vm
noncomputable def s_next_cf (m : Int) : Cfg := mkCfG (globT m) vti orc0 false [] []
theorem s_next_start {R : Type} (m : Int) (k : V → Bx → Option R) (F : Nat) (l : Int) (c : Int) (r : Int) : runFn (s_next_cf m) F Tryd.f37 (bd Tryd.f37) [V.t (T.agg { l := [C.int IntKind.i64 l, C.int IntKind.i64 c], lk := [], n := (2 : Nat) }), vc (C.int IntKind.i32 r)] [] k =
    (bif r == (10 : Int) then
      k (.t (.agg ⟨[(.int .i64 (IntKind.i64.wrap (l + (1 : Int)))), (.int .i64 1)], [], 2⟩)) []
    else k (.t (.agg ⟨[(.int .i64 l), (.int .i64 (IntKind.i64.wrap (c + (1 : Int))))], [], 2⟩)) []) := by kernel_rfl
noncomputable def s_blank_cf (m : Int) : Cfg := mkCfG (globT m) vti orc0 false [] []
theorem s_blank_start {R : Type} (m : Int) (k : V → Bx → Option R) (F : Nat) (r : Int) : runFn (s_blank_cf m) F Tryd.f55 (bd Tryd.f55) [vc (C.int IntKind.i32 r)] [] k =
    (bif r == (9 : Int) then
      (bif r == (9 : Int) then
        k (vb true) []
      else k (vb false) [])
    else (bif r == (10 : Int) then
        (bif r == (10 : Int) then
          k (vb true) []
        else k (vb false) [])
      else (bif r == (13 : Int) then
          (bif r == (13 : Int) then
            k (vb true) []
          else k (vb false) [])
        else (bif r == (32 : Int) then
            (bif r == (32 : Int) then
              k (vb true) []
            else k (vb false) [])
          else (bif r == (12288 : Int) then
              k (vb true) []
            else k (vb false) []))))) := by kernel_rfl
noncomputable def s_letter_cf (m : Int) : Cfg := mkCfG (globT m) vti orc0 false [] []
theorem s_letter_start {R : Type} (m : Int) (k : V → Bx → Option R) (F : Nat) (r : Int) (b : Bool) : runFn (s_letter_cf m) F Tryd.f78 (bd Tryd.f78) [vc (C.int IntKind.i32 r), vb b] [] k =
    (bif decide (r ≥ (97 : Int)) then
      (bif decide (r ≤ (122 : Int)) then
        k (vb true) []
      else (bif !b then
          (bif decide (r ≥ (48 : Int)) then
            (bif decide (r ≤ (57 : Int)) then
              k (vb true) []
            else k (vb (r == (95 : Int))) [])
          else k (vb (r == (95 : Int))) [])
        else k (vb false) []))
    else (bif !b then
        (bif decide (r ≥ (48 : Int)) then
          (bif decide (r ≤ (57 : Int)) then
            k (vb true) []
          else k (vb (r == (95 : Int))) [])
        else k (vb (r == (95 : Int))) [])
      else k (vb false) [])) := by kernel_rfl
noncomputable def s_kind_cf (m : Int) : Cfg := mkCfG (globT m) vti orc0 false [] []
theorem s_kind_start {R : Type} (m : Int) (k : V → Bx → Option R) (F : Nat) (s : ByteArray) : runFn (s_kind_cf m) F Tryd.f58 (bd Tryd.f58) [vs s] [] k =
    (bif s.toList == (ByteArray.mk #[(116 : UInt8), (121 : UInt8), (112 : UInt8), (101 : UInt8)]).toList then
      k (vi 2) []
    else (bif s.toList == (ByteArray.mk #[(114 : UInt8), (101 : UInt8), (108 : UInt8)]).toList then
        k (vi 3) []
      else (bif s.toList == (ByteArray.mk #[(116 : UInt8), (104 : UInt8), (105 : UInt8), (115 : UInt8)]).toList then
          k (vi 4) []
        else k (vi 1) []))) := by kernel_rfl
noncomputable def s_pre0_cf (m : Int) : Cfg := mkCfG (globT m) vti orc0 false [] []
theorem s_pre0_start {R : Type} (m : Int) (k : V → Bx → Option R) (F : Nat) (s : ByteArray) (p : ByteArray) : runFn (s_pre0_cf m) F Tryd.f61 (bd Tryd.f61) [vs s, vs p] [] k =
    (bif decide ((↑s.size : Int) ≥ (↑p.size : Int)) then
      (bif decide ((0 : Int) ≤ (0 : Int) ∧ (0 : Int) ≤ (↑p.size : Int) ∧ (↑p.size : Int) ≤ (↑s.size : Int)) then
        k (vb ((s.extract (0 : Nat) (↑p.size : Int).toNat).toList == p.toList)) []
      else none)
    else k (vb false) []) := by kernel_rfl
noncomputable def s_pre_cf (m : Int) : Cfg := mkCfG (globT m) vti orcA0 false [] []
theorem s_pre_start {R : Type} (m : Int) (k : V → Bx → Option R) (F : Nat) (s : ByteArray) (p : ByteArray) : runFn (s_pre_cf m) F Tryd.f40 (bd Tryd.f40) [vs s, vs p] [] k =
    k (vb (preP s p)) [] := by kernel_rfl
noncomputable def s_broken_cf (m : Int) : Cfg := mkCfG (globT m) vti orcA0 false [] []
theorem s_broken_start {R : Type} (m : Int) (k : V → Bx → Option R) (F : Nat) (s : ByteArray) (at_ : Int) (r : Int) : runFn (s_broken_cf m) F Tryd.f77 (bd Tryd.f77) [vs s, vi at_, vc (C.int IntKind.i32 r)] [] k =
    (bif r != (65533 : Int) then
      k (vb false) []
    else (bif decide ((0 : Int) ≤ at_ ∧ at_ ≤ (↑s.size : Int) ∧ (↑s.size : Int) ≤ (↑s.size : Int)) then
        k (vb ((↑(Lib.decodeGo (s.extract at_.toNat (↑s.size : Int).toNat)).snd : Int) == (1 : Int))) []
      else none)) := by kernel_rfl
noncomputable def s_valid_cf (m : Int) : Cfg := mkCfG (globT m) vti orcA false [] [(2, 65), (999, 4), (1000, 0)]
def s_valid_m0 : List Bool := [true, false, false, false, false, false, true, false, false, false, false, false, false, false, false]
noncomputable def s_valid_b0 : Code := (cA (cA (cB (cA (cB (bd Tryd.f54))))))
def s_valid_S0 (s : ByteArray) (v1 : Nat) : St := { env := [(vs s), vu, vu, vu, vu, vu, (.t (.w (.ptr 0 0))), vu, vu, vu, vu, vu, vu, vu, vu], bx := [(some (.iter s v1))], np := 0 }
noncomputable def s_valid_L0 {R : Type} (m : Int) (K : X → St → Option R) (F n : Nat) (s : ByteArray) (v1 : Nat) : Option R := loopV (headM s_valid_m0) (exec (s_valid_cf m) F s_valid_b0) (exitK (s_valid_cf m) K) n (s_valid_S0 s v1)
noncomputable def s_valid_K0 {R : Type} (m : Int) (k : V → Bx → Option R) (F : Nat) : X → St → Option R := (blockK 0 (seqK (s_valid_cf m) F (cB (cB (bd Tryd.f54))) (finK (s_valid_cf m) Tryd.f54 k)))
def s_valid_E1 : St := { env := [vu, vu, (vb false), vu, vu, vu, vu, vu, vu, vu, vu, vu, vu, vu, vu], bx := [], np := 0 }
theorem s_valid_c1 {R : Type} (m : Int) (k : V → Bx → Option R) (F : Nat) : s_valid_K0 m k F .rt (s_valid_E1) =
    k (vb false) [] := by kernel_rfl
def s_valid_E2 : St := { env := [vu, vu, vu, vu, vu, vu, vu, vu, vu, vu, vu, vu, vu, vu, vu], bx := [], np := 0 }
theorem s_valid_c2 {R : Type} (m : Int) (k : V → Bx → Option R) (F : Nat) : s_valid_K0 m k F (.ex 0) (s_valid_E2) =
    k (vb true) [] := by kernel_rfl
theorem s_valid_r0 {R : Type} (m : Int) (K : X → St → Option R) (F n : Nat) (s : ByteArray) (v1 : Nat) : s_valid_L0 m K F (n + 1) s v1 =
    (bif decide (v1 < s.size) then
      (bif decide ((↑v1 : Int) ≤ (↑s.size : Int)) then
        (bif brokenP s (↑v1 : Int) (↑(Utf8.decode s v1).fst : Int) then
          K .rt (s_valid_E1)
        else s_valid_L0 m K F n s (v1 + (Utf8.decode s v1).snd))
      else none)
    else K (.ex 0) (s_valid_E2)) := by kernel_rfl
theorem s_valid_start {R : Type} (m : Int) (k : V → Bx → Option R) (F : Nat) (s : ByteArray) : runFn (s_valid_cf m) F Tryd.f54 (bd Tryd.f54) [vs s] [] k =
    s_valid_L0 m (s_valid_K0 m k F) F F s 0 := by kernel_rfl
noncomputable def s_behind_cf (m : Int) : Cfg := mkCfG (globT m) vti orcA false [] [(2, 276), (999, 16), (1000, 20)]
def s_behind_m0 : List Bool := [false, false, true, false, true, false, false, false, true, false, false, false, false, false, false, false]
noncomputable def s_behind_b0 : Code := (cA (cA (cB (cA (cB (bd Tryd.f31))))))
def s_behind_S0 (s : ByteArray) (l1 : Int) (c2 : Int) (v3 : Int) (v4 : Int) (v5 : Nat) : St := { env := [vu, vu, (.t (.w (.ptr 0 0))), vu, (.t (.w (.ptr 1 0))), vu, vu, vu, (.t (.w (.ptr 2 0))), vu, vu, vu, vu, vu, vu, vu], bx := [(some (.cells ⟨[(.int .i64 l1), (.int .i64 c2)], [], 2⟩)), (some (.cells ⟨[(.int .i64 v3), (.int .i64 v4)], [], 2⟩)), (some (.iter s v5))], np := 0 }
noncomputable def s_behind_L0 {R : Type} (m : Int) (K : X → St → Option R) (F n : Nat) (s : ByteArray) (l1 : Int) (c2 : Int) (v3 : Int) (v4 : Int) (v5 : Nat) : Option R := loopV (headM s_behind_m0) (exec (s_behind_cf m) F s_behind_b0) (exitK (s_behind_cf m) K) n (s_behind_S0 s l1 c2 v3 v4 v5)
noncomputable def s_behind_K0 {R : Type} (m : Int) (k : V → Bx → Option R) (F : Nat) : X → St → Option R := (blockK 0 (seqK (s_behind_cf m) F (cB (cB (bd Tryd.f31))) (finK (s_behind_cf m) Tryd.f31 k)))
def s_behind_E1 (l1 : Int) (c2 : Int) (v3 : Int) (v4 : Int) : St := { env := [vu, vu, (.t (.w (.ptr 0 0))), vu, (.t (.w (.ptr 1 0))), vu, vu, vu, vu, vu, vu, vu, vu, vu, vu, vu], bx := [(some (.cells ⟨[(.int .i64 l1), (.int .i64 c2)], [], 2⟩)), (some (.cells ⟨[(.int .i64 v3), (.int .i64 v4)], [], 2⟩))], np := 0 }
theorem s_behind_c1 {R : Type} (m : Int) (k : V → Bx → Option R) (F : Nat) (l1 : Int) (c2 : Int) (v3 : Int) (v4 : Int) : s_behind_K0 m k F (.ex 0) (s_behind_E1 l1 c2 v3 v4) =
    k (.t (.agg ⟨[(.int .i64 l1), (.int .i64 c2)], [], 2⟩)) [] := by kernel_rfl
theorem s_behind_r0 {R : Type} (m : Int) (K : X → St → Option R) (F n : Nat) (s : ByteArray) (l1 : Int) (c2 : Int) (v3 : Int) (v4 : Int) (v5 : Nat) : s_behind_L0 m K F (n + 1) s l1 c2 v3 v4 v5 =
    (bif decide (v5 < s.size) then
      s_behind_L0 m K F n s (nextL l1 (↑(Utf8.decode s v5).fst : Int)) (nextC c2 (↑(Utf8.decode s v5).fst : Int)) v3 v4 (v5 + (Utf8.decode s v5).snd)
    else K (.ex 0) (s_behind_E1 l1 c2 v3 v4)) := by kernel_rfl
theorem s_behind_start {R : Type} (m : Int) (k : V → Bx → Option R) (F : Nat) (l : Int) (c : Int) (s : ByteArray) : runFn (s_behind_cf m) F Tryd.f31 (bd Tryd.f31) [V.t (T.agg (plM l c)), vs s] [] k =
    s_behind_L0 m (s_behind_K0 m k F) F F s l c 0 0 0 := by kernel_rfl
noncomputable def s_word_cf (m : Int) : Cfg := mkCfG (globT m) vti orcA false [] [(2, 65), (999, 4), (1000, 1)]
def s_word_m0 : List Bool := [true, false, false, false, false, false, true, false, false, false, false, false, false, false, false, false, false, false, false, false]
noncomputable def s_word_b0 : Code := (cA (cA (cB (cA (cB (bd Tryd.f57))))))
def s_word_S0 (s : ByteArray) (v1 : Nat) : St := { env := [(vs s), vu, vu, vu, vu, vu, (.t (.w (.ptr 0 0))), vu, vu, vu, vu, vu, vu, vu, vu, vu, vu, vu, vu, vu], bx := [(some (.iter s v1))], np := 0 }
noncomputable def s_word_L0 {R : Type} (m : Int) (K : X → St → Option R) (F n : Nat) (s : ByteArray) (v1 : Nat) : Option R := loopV (headM s_word_m0) (exec (s_word_cf m) F s_word_b0) (exitK (s_word_cf m) K) n (s_word_S0 s v1)
noncomputable def s_word_K0 {R : Type} (m : Int) (k : V → Bx → Option R) (F : Nat) : X → St → Option R := (blockK 0 (seqK (s_word_cf m) F (cB (cB (bd Tryd.f57))) (finK (s_word_cf m) Tryd.f57 k)))
def s_word_E1 (s : ByteArray) (v1 : Nat) : St := { env := [vu, vu, (vs (s.extract (0 : Nat) (↑v1 : Int).toNat)), vu, vu, vu, vu, vu, vu, vu, vu, vu, vu, vu, vu, vu, vu, vu, vu, vu], bx := [], np := 0 }
theorem s_word_c1 {R : Type} (m : Int) (k : V → Bx → Option R) (F : Nat) (s : ByteArray) (v1 : Nat) : s_word_K0 m k F .rt (s_word_E1 s v1) =
    k (vs (s.extract (0 : Nat) (↑v1 : Int).toNat)) [] := by kernel_rfl
def s_word_E2 (s : ByteArray) : St := { env := [(vs s), vu, vu, vu, vu, vu, vu, vu, vu, vu, vu, vu, vu, vu, vu, vu, vu, vu, vu, vu], bx := [], np := 0 }
theorem s_word_c2 {R : Type} (m : Int) (k : V → Bx → Option R) (F : Nat) (s : ByteArray) : s_word_K0 m k F (.ex 0) (s_word_E2 s) =
    k (vs s) [] := by kernel_rfl
theorem s_word_r0 {R : Type} (m : Int) (K : X → St → Option R) (F n : Nat) (s : ByteArray) (v1 : Nat) : s_word_L0 m K F (n + 1) s v1 =
    (bif decide (v1 < s.size) then
      (bif !letterP (↑(Utf8.decode s v1).fst : Int) ((↑v1 : Int) == (0 : Int)) then
        (bif decide ((0 : Int) ≤ (0 : Int) ∧ (0 : Int) ≤ (↑v1 : Int) ∧ (↑v1 : Int) ≤ (↑s.size : Int)) then
          K .rt (s_word_E1 s v1)
        else none)
      else s_word_L0 m K F n s (v1 + (Utf8.decode s v1).snd))
    else K (.ex 0) (s_word_E2 s)) := by kernel_rfl
theorem s_word_start {R : Type} (m : Int) (k : V → Bx → Option R) (F : Nat) (s : ByteArray) : runFn (s_word_cf m) F Tryd.f57 (bd Tryd.f57) [vs s] [] k =
    s_word_L0 m (s_word_K0 m k F) F F s 0 := by kernel_rfl
noncomputable def s_remark_cf (m : Int) : Cfg := mkCfG (globT m) vti orcA false [] [(4, 513), (999, 4), (1000, 1)]
def s_remark_m0 : List Bool := [true, false, false, false, false, false, false, false, false, true, false, false, false, false, false, false, false, false, false, false]
noncomputable def s_remark_b0 : Code := (cA (cA (cB (cA (cB (cB (bd Tryd.f56)))))))
def s_remark_S0 (s : ByteArray) (v1 : Nat) : St := { env := [(vs s), vu, vu, vu, vu, vu, vu, vu, vu, (.t (.w (.ptr 0 0))), vu, vu, vu, vu, vu, vu, vu, vu, vu, vu], bx := [(some (.iter s v1))], np := 0 }
noncomputable def s_remark_L0 {R : Type} (m : Int) (K : X → St → Option R) (F n : Nat) (s : ByteArray) (v1 : Nat) : Option R := loopV (headM s_remark_m0) (exec (s_remark_cf m) F s_remark_b0) (exitK (s_remark_cf m) K) n (s_remark_S0 s v1)
noncomputable def s_remark_K0 {R : Type} (m : Int) (k : V → Bx → Option R) (F : Nat) : X → St → Option R := (blockK 0 (seqK (s_remark_cf m) F (cB (cB (cB (bd Tryd.f56)))) (finK (s_remark_cf m) Tryd.f56 k)))
def s_remark_E1 (s : ByteArray) (v1 : Nat) : St := { env := [vu, vu, (vs (s.extract (0 : Nat) (↑v1 : Int).toNat)), vu, vu, vu, vu, vu, vu, vu, vu, vu, vu, vu, vu, vu, vu, vu, vu, vu], bx := [], np := 0 }
theorem s_remark_c1 {R : Type} (m : Int) (k : V → Bx → Option R) (F : Nat) (s : ByteArray) (v1 : Nat) : s_remark_K0 m k F .rt (s_remark_E1 s v1) =
    k (vs (s.extract (0 : Nat) (↑v1 : Int).toNat)) [] := by kernel_rfl
def s_remark_E2 (s : ByteArray) : St := { env := [(vs s), vu, vu, vu, vu, vu, vu, vu, vu, vu, vu, vu, vu, vu, vu, vu, vu, vu, vu, vu], bx := [], np := 0 }
theorem s_remark_c2 {R : Type} (m : Int) (k : V → Bx → Option R) (F : Nat) (s : ByteArray) : s_remark_K0 m k F (.ex 0) (s_remark_E2 s) =
    k (vs s) [] := by kernel_rfl
theorem s_remark_r0 {R : Type} (m : Int) (K : X → St → Option R) (F n : Nat) (s : ByteArray) (v1 : Nat) : s_remark_L0 m K F (n + 1) s v1 =
    (bif decide (v1 < s.size) then
      (bif (↑(Utf8.decode s v1).fst : Int) == (10 : Int) then
        (bif decide ((0 : Int) ≤ (0 : Int) ∧ (0 : Int) ≤ (↑v1 : Int) ∧ (↑v1 : Int) ≤ (↑s.size : Int)) then
          K .rt (s_remark_E1 s v1)
        else none)
      else s_remark_L0 m K F n s (v1 + (Utf8.decode s v1).snd))
    else K (.ex 0) (s_remark_E2 s)) := by kernel_rfl
theorem s_remark_start {R : Type} (m : Int) (k : V → Bx → Option R) (F : Nat) (s : ByteArray) : runFn (s_remark_cf m) F Tryd.f56 (bd Tryd.f56) [vs s] [] k =
    (bif !preP s (ByteArray.mk #[(47 : UInt8), (47 : UInt8)]) then
      k (vs ((ByteArray.mk #[]))) []
    else s_remark_L0 m (s_remark_K0 m k F) F F s 0) := by kernel_rfl
noncomputable def s_count_cf (m : Int) : Cfg := mkCfG (globT m) vti orcB0 false [] [(5, 528), (999, 12), (1000, 16)]
def s_count_m0 : List Bool := [false, false, false, false, true, false, false, false, false, true, false, false, false, false, false]
noncomputable def s_count_b0 : Code := (cA (cA (cB (cA (cB (cB (cB (bd Tryd.f29))))))))
def s_count_S0 (s : ByteArray) (v1 : Int) (v2 : Nat) : St := { env := [vu, vu, vu, vu, (vi v1), vu, vu, vu, vu, (.t (.w (.ptr 0 0))), vu, vu, vu, vu, vu], bx := [(some (.iter s v2))], np := 0 }
noncomputable def s_count_L0 {R : Type} (m : Int) (K : X → St → Option R) (F n : Nat) (s : ByteArray) (v1 : Int) (v2 : Nat) : Option R := loopV (headM s_count_m0) (exec (s_count_cf m) F s_count_b0) (exitK (s_count_cf m) K) n (s_count_S0 s v1 v2)
noncomputable def s_count_K0 {R : Type} (m : Int) (k : V → Bx → Option R) (F : Nat) : X → St → Option R := (blockK 0 (seqK (s_count_cf m) F (cB (cB (cB (cB (bd Tryd.f29))))) (finK (s_count_cf m) Tryd.f29 k)))
def s_count_E1 (v1 : Int) : St := { env := [vu, vu, vu, vu, (vi v1), vu, vu, vu, vu, vu, vu, vu, vu, vu, vu], bx := [], np := 0 }
theorem s_count_c1 {R : Type} (m : Int) (k : V → Bx → Option R) (F : Nat) (v1 : Int) : s_count_K0 m k F (.ex 0) (s_count_E1 v1) =
    k (.tup [(.w (.d (.int .i64 v1))), (.w (.d (.int .i64 0)))]) [] := by kernel_rfl
theorem s_count_r0 {R : Type} (m : Int) (K : X → St → Option R) (F n : Nat) (s : ByteArray) (v1 : Int) (v2 : Nat) : s_count_L0 m K F (n + 1) s v1 v2 =
    (bif decide (v2 < s.size) then
      s_count_L0 m K F n s (IntKind.i64.wrap (v1 + (1 : Int))) (v2 + (Utf8.decode s v2).snd)
    else K (.ex 0) (s_count_E1 v1)) := by kernel_rfl
theorem s_count_start {R : Type} (m : Int) (k : V → Bx → Option R) (F : Nat) (s : ByteArray) : runFn (s_count_cf m) F Tryd.f29 (bd Tryd.f29) [vs s] [] k =
    (bif !validP s then
      k (.tup [(.w (.d (.int .i64 0))), (.w (.d (.int .i64 4)))]) []
    else s_count_L0 m (s_count_K0 m k F) F F s 0 0) := by kernel_rfl
noncomputable def s_end_cf (m : Int) : Cfg := mkCfG (globT m) vti orcA false [] [(3, 268), (999, 4), (1000, 12)]
def s_end_m0 : List Bool := [false, false, true, true, false, false, false, false, true, false, false, false, false, false, false, false]
noncomputable def s_end_b0 : Code := (cA (cA (cB (cA (cB (cB (bd Tryd.f16)))))))
def s_end_S0 (s : ByteArray) (v1 : Int) (v2 : Int) (v3 : Int) (v4 : Int) (v5 : Nat) : St := { env := [vu, vu, (.t (.w (.ptr 0 0))), (.t (.w (.ptr 1 0))), vu, vu, vu, vu, (.t (.w (.ptr 2 0))), vu, vu, vu, vu, vu, vu, vu], bx := [(some (.cells ⟨[(.int .i64 v1), (.int .i64 v2)], [], 2⟩)), (some (.cells ⟨[(.int .i64 v3), (.int .i64 v4)], [], 2⟩)), (some (.iter s v5))], np := 0 }
noncomputable def s_end_L0 {R : Type} (m : Int) (K : X → St → Option R) (F n : Nat) (s : ByteArray) (v1 : Int) (v2 : Int) (v3 : Int) (v4 : Int) (v5 : Nat) : Option R := loopV (headM s_end_m0) (exec (s_end_cf m) F s_end_b0) (exitK (s_end_cf m) K) n (s_end_S0 s v1 v2 v3 v4 v5)
noncomputable def s_end_K0 {R : Type} (m : Int) (k : V → Bx → Option R) (F : Nat) : X → St → Option R := (blockK 0 (seqK (s_end_cf m) F (cB (cB (cB (bd Tryd.f16)))) (finK (s_end_cf m) Tryd.f16 k)))
def s_end_E1 (v1 : Int) (v2 : Int) (v3 : Int) (v4 : Int) : St := { env := [vu, vu, (.t (.w (.ptr 0 0))), (.t (.w (.ptr 1 0))), vu, vu, vu, vu, vu, vu, vu, vu, vu, vu, vu, vu], bx := [(some (.cells ⟨[(.int .i64 v1), (.int .i64 v2)], [], 2⟩)), (some (.cells ⟨[(.int .i64 v3), (.int .i64 v4)], [], 2⟩))], np := 0 }
theorem s_end_c1 {R : Type} (m : Int) (k : V → Bx → Option R) (F : Nat) (v1 : Int) (v2 : Int) (v3 : Int) (v4 : Int) : s_end_K0 m k F (.ex 0) (s_end_E1 v1 v2 v3 v4) =
    k (.t (.agg ⟨[(.int .i64 v3), (.int .i64 v4)], [], 2⟩)) [] := by kernel_rfl
theorem s_end_r0 {R : Type} (m : Int) (K : X → St → Option R) (F n : Nat) (s : ByteArray) (v1 : Int) (v2 : Int) (v3 : Int) (v4 : Int) (v5 : Nat) : s_end_L0 m K F (n + 1) s v1 v2 v3 v4 v5 =
    (bif decide (v5 < s.size) then
      s_end_L0 m K F n s v1 v2 (nextL v3 (↑(Utf8.decode s v5).fst : Int)) (nextC v4 (↑(Utf8.decode s v5).fst : Int)) (v5 + (Utf8.decode s v5).snd)
    else K (.ex 0) (s_end_E1 v1 v2 v3 v4)) := by kernel_rfl
theorem s_end_start {R : Type} (m : Int) (k : V → Bx → Option R) (F : Nat) (s : ByteArray) : runFn (s_end_cf m) F Tryd.f16 (bd Tryd.f16) [vs s] [] k =
    s_end_L0 m (s_end_K0 m k F) F F s 0 0 1 1 0 := by kernel_rfl
noncomputable def s_token_cf (m : Int) : Cfg := mkCfG (globT m) vti orcB0 false [] [(7, 4194308), (999, 12), (1000, 4)]
def s_token_m0 : List Bool := [false, false, true, false, false, false, false, false, false, false, false, false, false, false, false, false, false, false, false, false, false, false, true, false, false, false, false, false, false, false, false, false, false, false, false]
noncomputable def s_token_b0 : Code := (cA (cA (cB (cA (cB (cB (cB (bd Tryd.f32))))))))
def s_token_S0 (s : ByteArray) (v1 : Int) (v2 : ByteArray) (v3 : Int) (v4 : Int) : St := { env := [vu, vu, (.t (.w (.ptr 0 0))), vu, vu, vu, vu, vu, vu, vu, vu, vu, vu, vu, vu, vu, vu, vu, vu, vu, vu, vu, (.t (.w (.ptr 1 0))), vu, vu, vu, vu, vu, vu, vu, vu, vu, vu, vu, vu], bx := [(some (.cells ⟨[(.int .i64 v1), (.str v2), (.int .i64 v3), (.int .i64 v4)], [], 4⟩)), (some (.iter s 0))], np := 0 }
noncomputable def s_token_L0 {R : Type} (m : Int) (K : X → St → Option R) (F n : Nat) (s : ByteArray) (v1 : Int) (v2 : ByteArray) (v3 : Int) (v4 : Int) : Option R := loopV (headM s_token_m0) (exec (s_token_cf m) F s_token_b0) (exitK (s_token_cf m) K) n (s_token_S0 s v1 v2 v3 v4)
noncomputable def s_token_K0 {R : Type} (m : Int) (k : V → Bx → Option R) (F : Nat) : X → St → Option R := (blockK 0 (seqK (s_token_cf m) F (cB (cB (cB (cB (bd Tryd.f32))))) (finK (s_token_cf m) Tryd.f32 k)))
def s_token_E1 (s : ByteArray) : St := { env := [vu, vu, (.t (.w (.ptr 0 0))), (vb true), vu, vu, vu, vu, vu, vu, vu, vu, vu, vu, vu, vu, vu, vu, vu, vu, vu, vu, vu, vu, vu, vu, vu, vu, vu, vu, vu, vu, vu, vu, vu], bx := [(some (.cells ⟨[(.int .i64 (IntKind.i64.wrap (↑(Utf8.decode s (0 : Nat)).fst : Int))), (.str (Utf8.encode (↑(Utf8.decode s (0 : Nat)).fst : Int))), (.int .i64 0), (.int .i64 0)], [], 4⟩))], np := 0 }
theorem s_token_c1 {R : Type} (m : Int) (k : V → Bx → Option R) (F : Nat) (s : ByteArray) : s_token_K0 m k F .rt (s_token_E1 s) =
    k (.tup [(.agg ⟨[(.int .i64 (IntKind.i64.wrap (↑(Utf8.decode s (0 : Nat)).fst : Int))), (.str (Utf8.encode (↑(Utf8.decode s (0 : Nat)).fst : Int))), (.int .i64 0), (.int .i64 0)], [], 4⟩), (.w (.d (.bool true)))]) [] := by kernel_rfl
def s_token_E2 (v1 : Int) (v2 : ByteArray) (v3 : Int) (v4 : Int) : St := { env := [vu, vu, (.t (.w (.ptr 0 0))), vu, vu, vu, vu, vu, vu, vu, vu, vu, vu, vu, vu, vu, vu, vu, vu, vu, vu, vu, vu, vu, vu, vu, vu, vu, vu, vu, vu, vu, vu, vu, vu], bx := [(some (.cells ⟨[(.int .i64 v1), (.str v2), (.int .i64 v3), (.int .i64 v4)], [], 4⟩))], np := 0 }
theorem s_token_c2 {R : Type} (m : Int) (k : V → Bx → Option R) (F : Nat) (v1 : Int) (v2 : ByteArray) (v3 : Int) (v4 : Int) : s_token_K0 m k F (.ex 0) (s_token_E2 v1 v2 v3 v4) =
    k (.tup [(.agg ⟨[(.int .i64 0), (.str ByteArray.empty), (.int .i64 0), (.int .i64 0)], [], 4⟩), (.w (.d (.bool false)))]) [] := by kernel_rfl
theorem s_token_r0 {R : Type} (m : Int) (K : X → St → Option R) (F n : Nat) (s : ByteArray) (v1 : Int) (v2 : ByteArray) (v3 : Int) (v4 : Int) : s_token_L0 m K F (n + 1) s v1 v2 v3 v4 =
    (bif decide ((0 : Nat) < s.size) then
      (bif hasSub (ByteArray.mk #[(123 : UInt8), (125 : UInt8), (91 : UInt8), (93 : UInt8), (40 : UInt8), (41 : UInt8), (61 : UInt8), (59 : UInt8), (44 : UInt8), (58 : UInt8), (35 : UInt8), (42 : UInt8), (124 : UInt8), (38 : UInt8), (45 : UInt8)]) (Utf8.encode (↑(Utf8.decode s (0 : Nat)).fst : Int)) then
        K .rt (s_token_E1 s)
      else K (.ex 0) (s_token_E2 v1 v2 v3 v4))
    else K (.ex 0) (s_token_E2 v1 v2 v3 v4)) := by kernel_rfl
theorem s_token_start {R : Type} (m : Int) (k : V → Bx → Option R) (F : Nat) (s : ByteArray) : runFn (s_token_cf m) F Tryd.f32 (bd Tryd.f32) [vs s] [] k =
    (bif !(wordP s).toList == (ByteArray.mk #[]).toList then
      k (.tup [(.agg ⟨[(.int .i64 (kindP (wordP s))), (.str (wordP s)), (.int .i64 0), (.int .i64 0)], [], 4⟩), (.w (.d (.bool (decide ((↑(wordP s).size : Int) ≤ (16 : Int))))))]) []
    else (bif preP s (ByteArray.mk #[(45 : UInt8), (62 : UInt8)]) then
        k (.tup [(.agg ⟨[(.int .i64 5), (.str ((ByteArray.mk #[(45 : UInt8), (62 : UInt8)]))), (.int .i64 0), (.int .i64 0)], [], 4⟩), (.w (.d (.bool true)))]) []
      else s_token_L0 m (s_token_K0 m k F) F F s 0 ByteArray.empty 0 0)) := by kernel_rfl
end Go.Proofs.YtniiimpcakmkbaaDoor

/- the reference of sigil: specs of small functions -/
namespace Go.Proofs.YtniiimpcakmkbaaDoor
open Go Vm
def isI : List C → Bool
  | [.int .i64 _] => true
  | _ => false
def numE (e : List C) : Int := (e.getD 0 .nf).toInt
def amongP (v : Int) : List (List C) → Bool
  | [] => false
  | e :: r => numE e == v || amongP v r
def amongS : List V → Bx → Tr
  | [.t (.w (.d (.int .i64 v))), .t (.w (.d (.sl 1 l)))], [] => .ite (l.all isI && decide (l.length < 1000000)) (.ret (vb (amongP v l)) []) .no
  | _, _ => .no
def placeP : List (List C) → Int → Int → Int × Int
  | [], l, c => (l, c)
  | e :: r, l, c => placeP r (nextL l (numE e)) (nextC c (numE e))
def placeS : List V → Bx → Tr
  | [.t (.w (.d (.sl 1 l))), .t (.w (.d (.int .i64 at_)))], [] => .ite (l.all isI && decide (l.length < 1000000) && decide (0 ≤ at_) && decide (at_ ≤ l.length))
      (.ret (.tup [.w (.d (.int .i64 (placeP (l.take at_.toNat) 1 1).1)), .w (.d (.int .i64 (placeP (l.take at_.toNat) 1 1).2))]) []) .no
  | _, _ => .no
def partS : List V → Bx → Tr
  | [.t (.w (.d (.int .i64 r))), .t (.w (.d (.bool f)))], [] => .ret (vb (letterP r f)) []
  | _, _ => .no
def u8E (e : List C) : List C := [.int .u8 (IntKind.u8.wrap (numE e))]
def textS : List V → Bx → Tr
  | [.t (.w (.d (.sl 1 l)))], [] => .ite (l.all isI && decide (l.length < 1000000)) (.ret (vs (bytesOf (l.map u8E))) []) .no
  | _, _ => .no
end Go.Proofs.YtniiimpcakmkbaaDoor

set_option linter.unusedVariables false
namespace Go.Proofs.YtniiimpcakmkbaaDoor
open Go Vm
noncomputable def r_rune_cf (m : Int) : Cfg := mkCfG (globT m) vti orc0 false [] [(15, 1923), (999, 48), (1001, 896)]
def r_rune_m0 : List Bool := [true, true, false, false, false, false, false, true, true, true, true, false, false, false, false, false, false, false, false, false, false, false, false, false, false, false, false, false, false, false, false, false, false, false, false, false, false, false, false, false, false, false, false, false, false, false, false, false, false, false, false, false, false, false, false, false, false, false, false, false, false, false, false, false, false, false, false, false, false, false, false, false, false, false, false, false, false, false, false, false, false, false, false, false, false, false, false, false, false, false, false, false, false]
noncomputable def r_rune_b0 : Code := (cA (cA (cB (cA (cB (cB (cB (cB (cB (bd Tryd.f38))))))))))
def r_rune_S0 (s : ByteArray) (i : Int) (v1 : Int) (v2 : Int) (v3 : Int) (v4 : Int) : St := { env := [(vs s), (vi i), vu, vu, vu, vu, vu, (vi v2), (vi v1), (vi v3), (vi v4), vu, vu, vu, vu, vu, vu, vu, vu, vu, vu, vu, vu, vu, vu, vu, vu, vu, vu, vu, vu, vu, vu, vu, vu, vu, vu, vu, vu, vu, vu, vu, vu, vu, vu, vu, vu, vu, vu, vu, vu, vu, vu, vu, vu, vu, vu, vu, vu, vu, vu, vu, vu, vu, vu, vu, vu, vu, vu, vu, vu, vu, vu, vu, vu, vu, vu, vu, vu, vu, vu, vu, vu, vu, vu, vu, vu, vu, vu, vu, vu, vu, vu], bx := [], np := 0 }
noncomputable def r_rune_L0 {R : Type} (m : Int) (K : X → St → Option R) (F n : Nat) (s : ByteArray) (i : Int) (v1 : Int) (v2 : Int) (v3 : Int) (v4 : Int) : Option R := loopV (headM r_rune_m0) (exec (r_rune_cf m) F r_rune_b0) (exitK (r_rune_cf m) K) n (r_rune_S0 s i v1 v2 v3 v4)
noncomputable def r_rune_K0 {R : Type} (m : Int) (k : V → Bx → Option R) (F : Nat) : X → St → Option R := (blockK 1 (seqK (r_rune_cf m) F (cB (cB (cB (cB (cB (cB (bd Tryd.f38))))))) (finK (r_rune_cf m) Tryd.f38 k)))
def r_rune_E1 : St := { env := [vu, vu, vu, vu, (vi 0), (vi 0), vu, vu, vu, vu, vu, vu, vu, vu, vu, vu, vu, vu, vu, vu, vu, vu, vu, vu, vu, vu, vu, vu, vu, vu, vu, vu, vu, vu, vu, vu, vu, vu, vu, vu, vu, vu, vu, vu, vu, vu, vu, vu, vu, vu, vu, vu, vu, vu, vu, vu, vu, vu, vu, vu, vu, vu, vu, vu, vu, vu, vu, vu, vu, vu, vu, vu, vu, vu, vu, vu, vu, vu, vu, vu, vu, vu, vu, vu, vu, vu, vu, vu, vu, vu, vu, vu, vu], bx := [], np := 0 }
theorem r_rune_c1 {R : Type} (m : Int) (k : V → Bx → Option R) (F : Nat) : r_rune_K0 m k F .rt (r_rune_E1) =
    k (.tup [(.w (.d (.int .i64 0))), (.w (.d (.int .i64 0)))]) [] := by kernel_rfl
def r_rune_E2 (v1 : Int) (v2 : Int) (v3 : Int) : St := { env := [vu, vu, vu, vu, vu, vu, vu, (vi v2), (vi v1), (vi v3), vu, vu, vu, vu, vu, vu, vu, vu, vu, vu, vu, vu, vu, vu, vu, vu, vu, vu, vu, vu, vu, vu, vu, vu, vu, vu, vu, vu, vu, vu, vu, vu, vu, vu, vu, vu, vu, vu, vu, vu, vu, vu, vu, vu, vu, vu, vu, vu, vu, vu, vu, vu, vu, vu, vu, vu, vu, vu, vu, vu, vu, vu, vu, vu, vu, vu, vu, vu, vu, vu, vu, vu, vu, vu, vu, vu, vu, vu, vu, vu, vu, vu, vu], bx := [], np := 0 }
theorem r_rune_c2 {R : Type} (m : Int) (k : V → Bx → Option R) (F : Nat) (v1 : Int) (v2 : Int) (v3 : Int) : r_rune_K0 m k F (.ex 1) (r_rune_E2 v1 v2 v3) =
    (bif decide (v1 < v3) then
      k (.tup [(.w (.d (.int .i64 0))), (.w (.d (.int .i64 0)))]) []
    else (bif decide (v1 > (1114111 : Int)) then
        k (.tup [(.w (.d (.int .i64 0))), (.w (.d (.int .i64 0)))]) []
      else (bif decide (v1 ≥ (55296 : Int)) then
          (bif decide (v1 ≤ (57343 : Int)) then
            k (.tup [(.w (.d (.int .i64 0))), (.w (.d (.int .i64 0)))]) []
          else k (.tup [(.w (.d (.int .i64 v1))), (.w (.d (.int .i64 v2)))]) [])
        else k (.tup [(.w (.d (.int .i64 v1))), (.w (.d (.int .i64 v2)))]) []))) := by kernel_rfl
theorem r_rune_r0 {R : Type} (m : Int) (K : X → St → Option R) (F n : Nat) (s : ByteArray) (i : Int) (v1 : Int) (v2 : Int) (v3 : Int) (v4 : Int) : r_rune_L0 m K F (n + 1) s i v1 v2 v3 v4 =
    (bif decide (v4 < v2) then
      (bif decide ((0 : Int) ≤ IntKind.i64.wrap (i + v4)) then
        (getT s.data.toList ((IntKind.i64.wrap (i + v4)).toNat) fun z2 =>
          (bif decide (IntKind.i64.wrap (↑z2.toNat : Int) < (128 : Int)) then
            K .rt (r_rune_E1)
          else (bif decide (IntKind.i64.wrap (↑z2.toNat : Int) > (191 : Int)) then
              K .rt (r_rune_E1)
            else r_rune_L0 m K F n s i (IntKind.i64.wrap (IntKind.i64.wrap (IntKind.i64.wrap (v1 * (64 : Int)) + IntKind.i64.wrap (↑z2.toNat : Int)) - (128 : Int))) v2 v3 (IntKind.i64.wrap (v4 + (1 : Int))))))
      else none)
    else K (.ex 1) (r_rune_E2 v1 v2 v3)) := by kernel_rfl
theorem r_rune_start {R : Type} (m : Int) (k : V → Bx → Option R) (F : Nat) (s : ByteArray) (i : Int) : runFn (r_rune_cf m) F Tryd.f38 (bd Tryd.f38) [vs s, vi i] [] k =
    (bif decide ((0 : Int) ≤ i) then
      (getT s.data.toList i.toNat fun z1 =>
        (bif decide (IntKind.i64.wrap (↑z1.toNat : Int) < (128 : Int)) then
          k (.tup [(.w (.d (.int .i64 (IntKind.i64.wrap (↑z1.toNat : Int))))), (.w (.d (.int .i64 1)))]) []
        else (bif decide (IntKind.i64.wrap (↑z1.toNat : Int) ≥ (192 : Int)) then
            (bif decide (IntKind.i64.wrap (↑z1.toNat : Int) < (224 : Int)) then
              (bif decide ((2 : Int) > IntKind.i64.wrap ((↑s.size : Int) - i)) then
                k (.tup [(.w (.d (.int .i64 0))), (.w (.d (.int .i64 0)))]) []
              else r_rune_L0 m (r_rune_K0 m k F) F F s i (IntKind.i64.wrap (IntKind.i64.wrap (↑z1.toNat : Int) - (192 : Int))) 2 128 1)
            else (bif decide (IntKind.i64.wrap (↑z1.toNat : Int) ≥ (224 : Int)) then
                (bif decide (IntKind.i64.wrap (↑z1.toNat : Int) < (240 : Int)) then
                  (bif decide ((3 : Int) > IntKind.i64.wrap ((↑s.size : Int) - i)) then
                    k (.tup [(.w (.d (.int .i64 0))), (.w (.d (.int .i64 0)))]) []
                  else r_rune_L0 m (r_rune_K0 m k F) F F s i (IntKind.i64.wrap (IntKind.i64.wrap (↑z1.toNat : Int) - (224 : Int))) 3 2048 1)
                else (bif decide (IntKind.i64.wrap (↑z1.toNat : Int) ≥ (240 : Int)) then
                    (bif decide (IntKind.i64.wrap (↑z1.toNat : Int) < (248 : Int)) then
                      (bif decide ((4 : Int) > IntKind.i64.wrap ((↑s.size : Int) - i)) then
                        k (.tup [(.w (.d (.int .i64 0))), (.w (.d (.int .i64 0)))]) []
                      else r_rune_L0 m (r_rune_K0 m k F) F F s i (IntKind.i64.wrap (IntKind.i64.wrap (↑z1.toNat : Int) - (240 : Int))) 4 65536 1)
                    else k (.tup [(.w (.d (.int .i64 0))), (.w (.d (.int .i64 0)))]) [])
                  else k (.tup [(.w (.d (.int .i64 0))), (.w (.d (.int .i64 0)))]) []))
              else (bif decide (IntKind.i64.wrap (↑z1.toNat : Int) ≥ (240 : Int)) then
                  (bif decide (IntKind.i64.wrap (↑z1.toNat : Int) < (248 : Int)) then
                    (bif decide ((4 : Int) > IntKind.i64.wrap ((↑s.size : Int) - i)) then
                      k (.tup [(.w (.d (.int .i64 0))), (.w (.d (.int .i64 0)))]) []
                    else r_rune_L0 m (r_rune_K0 m k F) F F s i (IntKind.i64.wrap (IntKind.i64.wrap (↑z1.toNat : Int) - (240 : Int))) 4 65536 1)
                  else k (.tup [(.w (.d (.int .i64 0))), (.w (.d (.int .i64 0)))]) [])
                else k (.tup [(.w (.d (.int .i64 0))), (.w (.d (.int .i64 0)))]) [])))
          else (bif decide (IntKind.i64.wrap (↑z1.toNat : Int) ≥ (224 : Int)) then
              (bif decide (IntKind.i64.wrap (↑z1.toNat : Int) < (240 : Int)) then
                (bif decide ((3 : Int) > IntKind.i64.wrap ((↑s.size : Int) - i)) then
                  k (.tup [(.w (.d (.int .i64 0))), (.w (.d (.int .i64 0)))]) []
                else r_rune_L0 m (r_rune_K0 m k F) F F s i (IntKind.i64.wrap (IntKind.i64.wrap (↑z1.toNat : Int) - (224 : Int))) 3 2048 1)
              else (bif decide (IntKind.i64.wrap (↑z1.toNat : Int) ≥ (240 : Int)) then
                  (bif decide (IntKind.i64.wrap (↑z1.toNat : Int) < (248 : Int)) then
                    (bif decide ((4 : Int) > IntKind.i64.wrap ((↑s.size : Int) - i)) then
                      k (.tup [(.w (.d (.int .i64 0))), (.w (.d (.int .i64 0)))]) []
                    else r_rune_L0 m (r_rune_K0 m k F) F F s i (IntKind.i64.wrap (IntKind.i64.wrap (↑z1.toNat : Int) - (240 : Int))) 4 65536 1)
                  else k (.tup [(.w (.d (.int .i64 0))), (.w (.d (.int .i64 0)))]) [])
                else k (.tup [(.w (.d (.int .i64 0))), (.w (.d (.int .i64 0)))]) []))
            else (bif decide (IntKind.i64.wrap (↑z1.toNat : Int) ≥ (240 : Int)) then
                (bif decide (IntKind.i64.wrap (↑z1.toNat : Int) < (248 : Int)) then
                  (bif decide ((4 : Int) > IntKind.i64.wrap ((↑s.size : Int) - i)) then
                    k (.tup [(.w (.d (.int .i64 0))), (.w (.d (.int .i64 0)))]) []
                  else r_rune_L0 m (r_rune_K0 m k F) F F s i (IntKind.i64.wrap (IntKind.i64.wrap (↑z1.toNat : Int) - (240 : Int))) 4 65536 1)
                else k (.tup [(.w (.d (.int .i64 0))), (.w (.d (.int .i64 0)))]) [])
              else k (.tup [(.w (.d (.int .i64 0))), (.w (.d (.int .i64 0)))]) [])))))
    else none) := by kernel_rfl
noncomputable def r_among_cf (m : Int) : Cfg := mkCfG (globT m) vti orc0 false [] [(2, 387), (999, 16), (1000, 0)]
def r_among_m0 : List Bool := [true, true, false, false, false, false, false, true, true, false, false, false, false, false, false, false, false, false]
noncomputable def r_among_b0 : Code := (cA (cA (cB (cA (cB (bd Tryd.f33))))))
def r_among_S0 (v : Int) (l : List (List C)) (v1 : Int) : St := { env := [(vi v), (vc (.sl 1 l)), vu, vu, vu, vu, vu, (vi ((↑l.length : Int))), (vi v1), vu, vu, vu, vu, vu, vu, vu, vu, vu], bx := [], np := 0 }
noncomputable def r_among_L0 {R : Type} (m : Int) (K : X → St → Option R) (F n : Nat) (v : Int) (l : List (List C)) (v1 : Int) : Option R := loopV (headM r_among_m0) (exec (r_among_cf m) F r_among_b0) (exitK (r_among_cf m) K) n (r_among_S0 v l v1)
noncomputable def r_among_K0 {R : Type} (m : Int) (k : V → Bx → Option R) (F : Nat) : X → St → Option R := (blockK 0 (seqK (r_among_cf m) F (cB (cB (bd Tryd.f33))) (finK (r_among_cf m) Tryd.f33 k)))
def r_among_E1 : St := { env := [vu, vu, vu, vu, (vb true), vu, vu, vu, vu, vu, vu, vu, vu, vu, vu, vu, vu, vu], bx := [], np := 0 }
theorem r_among_c1 {R : Type} (m : Int) (k : V → Bx → Option R) (F : Nat) : r_among_K0 m k F .rt (r_among_E1) =
    k (vb true) [] := by kernel_rfl
def r_among_E2 : St := { env := (List.replicate 18 vu), bx := [], np := 0 }
theorem r_among_c2 {R : Type} (m : Int) (k : V → Bx → Option R) (F : Nat) : r_among_K0 m k F (.ex 0) (r_among_E2) =
    k (vb false) [] := by kernel_rfl
theorem r_among_r0 {R : Type} (m : Int) (K : X → St → Option R) (F n : Nat) (v : Int) (l : List (List C)) (v1 : Int) : r_among_L0 m K F (n + 1) v l v1 =
    (bif decide (v1 < (↑l.length : Int)) then
      (bif decide ((0 : Int) ≤ v1) then
        (getT l v1.toNat fun z1 =>
          (getT z1 0 fun z2 =>
            (bif shOk [Sh.int IntKind.i64] [z2] then
              (bif ([z2].getD (0 : Nat) C.nf).toInt == v then
                K .rt (r_among_E1)
              else r_among_L0 m K F n v l (IntKind.i64.wrap (v1 + (1 : Int))))
            else none)))
      else none)
    else K (.ex 0) (r_among_E2)) := by kernel_rfl
theorem r_among_start {R : Type} (m : Int) (k : V → Bx → Option R) (F : Nat) (v : Int) (l : List (List C)) : runFn (r_among_cf m) F Tryd.f33 (bd Tryd.f33) [vi v, vc (C.sl (1 : Nat) l)] [] k =
    r_among_L0 m (r_among_K0 m k F) F F v l 0 := by kernel_rfl
noncomputable def r_place_cf (m : Int) : Cfg := mkCfG (globT m) vti orc0 false [] [(3, 451), (999, 48), (1000, 192)]
def r_place_m0 : List Bool := [true, true, false, false, false, false, true, true, true, false, false, false, false, false, false, false, false, false, false, false, false, false, false, false, false]
noncomputable def r_place_b0 : Code := (cA (cA (cB (cA (cB (cB (bd Tryd.f34)))))))
def r_place_S0 (l : List (List C)) (at_ : Int) (v1 : Int) (v2 : Int) (v3 : Int) : St := { env := [(vc (.sl 1 l)), (vi at_), vu, vu, vu, vu, (vi v1), (vi v2), (vi v3), vu, vu, vu, vu, vu, vu, vu, vu, vu, vu, vu, vu, vu, vu, vu, vu], bx := [], np := 0 }
noncomputable def r_place_L0 {R : Type} (m : Int) (K : X → St → Option R) (F n : Nat) (l : List (List C)) (at_ : Int) (v1 : Int) (v2 : Int) (v3 : Int) : Option R := loopV (headM r_place_m0) (exec (r_place_cf m) F r_place_b0) (exitK (r_place_cf m) K) n (r_place_S0 l at_ v1 v2 v3)
noncomputable def r_place_K0 {R : Type} (m : Int) (k : V → Bx → Option R) (F : Nat) : X → St → Option R := (blockK 0 (seqK (r_place_cf m) F (cB (cB (cB (bd Tryd.f34)))) (finK (r_place_cf m) Tryd.f34 k)))
def r_place_E1 (v1 : Int) (v2 : Int) : St := { env := [vu, vu, vu, vu, vu, vu, (vi v1), (vi v2), vu, vu, vu, vu, vu, vu, vu, vu, vu, vu, vu, vu, vu, vu, vu, vu, vu], bx := [], np := 0 }
theorem r_place_c1 {R : Type} (m : Int) (k : V → Bx → Option R) (F : Nat) (v1 : Int) (v2 : Int) : r_place_K0 m k F (.ex 0) (r_place_E1 v1 v2) =
    k (.tup [(.w (.d (.int .i64 v1))), (.w (.d (.int .i64 v2)))]) [] := by kernel_rfl
theorem r_place_r0 {R : Type} (m : Int) (K : X → St → Option R) (F n : Nat) (l : List (List C)) (at_ : Int) (v1 : Int) (v2 : Int) (v3 : Int) : r_place_L0 m K F (n + 1) l at_ v1 v2 v3 =
    (bif decide (v3 < at_) then
      (bif decide ((0 : Int) ≤ v3) then
        (getT l v3.toNat fun z1 =>
          (getT z1 0 fun z2 =>
            (bif shOk [Sh.int IntKind.i64] [z2] then
              (bif ([z2].getD (0 : Nat) C.nf).toInt == (10 : Int) then
                r_place_L0 m K F n l at_ (IntKind.i64.wrap (v1 + (1 : Int))) 1 (IntKind.i64.wrap (v3 + (1 : Int)))
              else r_place_L0 m K F n l at_ v1 (IntKind.i64.wrap (v2 + (1 : Int))) (IntKind.i64.wrap (v3 + (1 : Int))))
            else none)))
      else none)
    else K (.ex 0) (r_place_E1 v1 v2)) := by kernel_rfl
theorem r_place_start {R : Type} (m : Int) (k : V → Bx → Option R) (F : Nat) (l : List (List C)) (at_ : Int) : runFn (r_place_cf m) F Tryd.f34 (bd Tryd.f34) [vc (C.sl (1 : Nat) l), vi at_] [] k =
    r_place_L0 m (r_place_K0 m k F) F F l at_ 1 1 0 := by kernel_rfl
noncomputable def r_part_cf (m : Int) : Cfg := mkCfG (globT m) vti orc0 false [] []
theorem r_part_start {R : Type} (m : Int) (k : V → Bx → Option R) (F : Nat) (r : Int) (f : Bool) : runFn (r_part_cf m) F Tryd.f35 (bd Tryd.f35) [vi r, vb f] [] k =
    (bif decide (r ≥ (97 : Int)) then
      (bif decide (r ≤ (122 : Int)) then
        k (vb true) []
      else (bif !f then
          (bif decide (r ≥ (48 : Int)) then
            (bif decide (r ≤ (57 : Int)) then
              k (vb true) []
            else k (vb (r == (95 : Int))) [])
          else k (vb (r == (95 : Int))) [])
        else k (vb false) []))
    else (bif !f then
        (bif decide (r ≥ (48 : Int)) then
          (bif decide (r ≤ (57 : Int)) then
            k (vb true) []
          else k (vb (r == (95 : Int))) [])
        else k (vb (r == (95 : Int))) [])
      else k (vb false) [])) := by kernel_rfl
noncomputable def r_text_cf (m : Int) : Cfg := mkCfG (globT m) vti orc0 false [] [(3, 201), (999, 4), (1000, 8)]
def r_text_m0 : List Bool := [true, false, false, true, false, false, true, true, false, false, false, false, false, false, false, false, false, false, false, false, false]
noncomputable def r_text_b0 : Code := (cA (cA (cB (cA (cB (cB (bd Tryd.f36)))))))
def r_text_S0 (l : List (List C)) (v1 : List (List C)) (v2 : Int) : St := { env := [(vc (.sl 1 l)), vu, vu, (.t (.w (.arr 0))), vu, vu, (vi ((↑l.length : Int))), (vi v2), vu, vu, vu, vu, vu, vu, vu, vu, vu, vu, vu, vu, vu], bx := [(some (.arr true (some 5) 1 v1))], np := 0 }
noncomputable def r_text_L0 {R : Type} (m : Int) (K : X → St → Option R) (F n : Nat) (l : List (List C)) (v1 : List (List C)) (v2 : Int) : Option R := loopV (headM r_text_m0) (exec (r_text_cf m) F r_text_b0) (exitK (r_text_cf m) K) n (r_text_S0 l v1 v2)
noncomputable def r_text_K0 {R : Type} (m : Int) (k : V → Bx → Option R) (F : Nat) : X → St → Option R := (blockK 0 (seqK (r_text_cf m) F (cB (cB (cB (bd Tryd.f36)))) (finK (r_text_cf m) Tryd.f36 k)))
def r_text_E1 (v1 : List (List C)) : St := { env := [vu, vu, vu, (.t (.w (.arr 0))), vu, vu, vu, vu, vu, vu, vu, vu, vu, vu, vu, vu, vu, vu, vu, vu, vu], bx := [(some (.arr true (some 5) 1 v1))], np := 0 }
theorem r_text_c1 {R : Type} (m : Int) (k : V → Bx → Option R) (F : Nat) (v1 : List (List C)) : r_text_K0 m k F (.ex 0) (r_text_E1 v1) =
    (bif okBytes v1 then
      k (vs (bytesOf v1)) []
    else none) := by kernel_rfl
theorem r_text_r0 {R : Type} (m : Int) (K : X → St → Option R) (F n : Nat) (l : List (List C)) (v1 : List (List C)) (v2 : Int) : r_text_L0 m K F (n + 1) l v1 v2 =
    (bif decide (v2 < (↑l.length : Int)) then
      (bif decide ((0 : Int) ≤ v2) then
        (getT l v2.toNat fun z1 =>
          (getT z1 0 fun z2 =>
            (bif shOk [Sh.int IntKind.i64] [z2] then
              (bif decide ((v1.length + (1 : Nat)) * (1 : Nat) ≤ (140737488355328 : Nat) ∧ v1.length + (1 : Nat) ≤ (9223372036854775807 : Nat)) then
                r_text_L0 m K F n l (v1 ++ [[C.int IntKind.u8 (IntKind.u8.wrap ([z2].getD (0 : Nat) C.nf).toInt)]]) (IntKind.i64.wrap (v2 + (1 : Int)))
              else none)
            else none)))
      else none)
    else K (.ex 0) (r_text_E1 v1)) := by kernel_rfl
theorem r_text_start {R : Type} (m : Int) (k : V → Bx → Option R) (F : Nat) (l : List (List C)) : runFn (r_text_cf m) F Tryd.f36 (bd Tryd.f36) [vc (C.sl (1 : Nat) l)] [] k =
    r_text_L0 m (r_text_K0 m k F) F F l [] 0 := by kernel_rfl
end Go.Proofs.YtniiimpcakmkbaaDoor
