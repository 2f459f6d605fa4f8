/- grammar: specs of Parse, of the reference's Parse and of SameConfig -/
import Derived.Test.YtniiimpcakmkbaaDoorGrCr
import Derived.Test.YtniiimpcakmkbaaDoorGrU
import Derived.Test.YtniiimpcakmkbaaDoorGrLa
set_option linter.unusedVariables false
namespace Go.Proofs.YtniiimpcakmkbaaDoor
open Go Vm
noncomputable def rd0CS (w : Nat) (f : List (List C) → PS → PS × Nde) : List V → Bx → Tr
  | [.t (.w (.ptr 0 0))], [some (.cells ⟨[.sl 4 L, .int .i64 el, .int .i64 ec, .int .i64 a, .int .i64 o, .ni], [], 6⟩)] =>
    .ite (stOk L ⟨a, o, 0⟩) (.ret (.t (.agg ⟨(f L ⟨a, o, 0⟩).2, [], w⟩)) [pB L el ec (f L ⟨a, o, 0⟩).1]) .no
  | _, _ => .no
noncomputable def rdP (s : ByteArray) : PS × Nde := cfgA (lexP s).1 ⟨0, 0, 0⟩
noncomputable def endP (s : ByteArray) : PS := endG (lexP s).1 (rdP s).1
def noCfg : Nde := [.sl 2 []]
noncomputable def parN (s : ByteArray) : Nde := bif (lexP s).2.2.2 == 0 && Nat.beq (endP s).er 0 then (rdP s).2 else noCfg
noncomputable def parL (s : ByteArray) : Int := bif (lexP s).2.2.2 == 0 then (bif Nat.beq (endP s).er 0 then 0 else plL (lexP s).1 (lexP s).2.1 (endP s)) else (lexP s).2.1
noncomputable def parC (s : ByteArray) : Int := bif (lexP s).2.2.2 == 0 then (bif Nat.beq (endP s).er 0 then 0 else plC (lexP s).1 (lexP s).2.2.1 (endP s)) else (lexP s).2.2.1
noncomputable def parE (s : ByteArray) : Int := bif (lexP s).2.2.2 == 0 then erC (endP s).er else (lexP s).2.2.2
noncomputable def wholeCS : List V → Bx → Tr
  | [.t (.w (.d (.str s))), .t (.w (.d (.fn 51 [])))], [] => .ite (decide (s.size < 1000000)) (.ret (.tup [.agg ⟨parN s, [], 1⟩, .agg (plM (parL s) (parC s)), .w (.d (.int .i64 (parE s)))]) []) .no
  | _, _ => .no
/-- a configuration's cells: types, relations, permissions -/
def alOk : List C → Bool
  | [.str _, .str _, .bool _] => true
  | _ => false
def relOk : List C → Bool
  | [.str _, .sl 3 al, .int .i64 k, .str a, .str b, .sl 4 l] => al.all alOk && decide (al.length < 2000000) && tree 30 (ndC k a b l)
  | _ => false
def tyOk : List C → Bool
  | [.str _, .sl 6 rs] => rs.all relOk && decide (rs.length < 2000000)
  | _ => false
def cfgOk : Nde → Bool
  | [.sl 2 ts] => ts.all tyOk && decide (ts.length < 2000000)
  | _ => false
noncomputable def parT (s : ByteArray) : List (List C) := ((parN s).getD 0 .nf).toEls
noncomputable def parseS : List V → Bx → Tr
  | [.t (.w (.d (.str s)))], [] => .ite (decide (s.size < 1000000)) (.ret (.tup [.agg ⟨[.sl 2 (parT s)], [], 1⟩, .agg (plM (parL s) (parC s)), .w (.d (.int .i64 (parE s)))]) []) .no
  | _, _ => .no
noncomputable def rParseS : List V → Bx → Tr
  | [.t (.w (.d (.str s)))], [] => .ite (decide (s.size < 1000000)) (.ret (.tup [.agg ⟨[.sl 2 (parT s)], [], 1⟩, .w (.d (.int .i64 (parL s))), .w (.d (.int .i64 (parC s))), .w (.d (.int .i64 (parE s)))]) []) .no
  | _, _ => .no
theorem boolEx (x : Bool) : ∃ y : Bool, y = x := ⟨_, rfl⟩
/-- are they one? (where they are, SameConfig says so) -/
noncomputable def sameQ (x y : Nde) : Bool := Classical.choose (boolEx (eqN x y && cfgOk x))
theorem sameQ_eq (x y : Nde) : sameQ x y = (eqN x y && cfgOk x) := Classical.choose_spec (boolEx (eqN x y && cfgOk x))
noncomputable def sameCS : List V → Bx → Tr
  | [.t (.agg ⟨x, [], 1⟩), .t (.agg ⟨y, [], 1⟩)], [] => .ite (sameQ x y) (.ret (vb true) []) .no
  | _, _ => .no
noncomputable def orcCW : FuncId → List V → Bx → Tr := orcOf [(14, lexS), (51, rd0CS 1 cfgA), (64, gFailS), (65, gIsS), (66, gPlaceS)]
noncomputable def orcCX : FuncId → List V → Bx → Tr := orcOf [(50, wholeCS)]
noncomputable def orcCR : FuncId → List V → Bx → Tr := orcOf [(15, rlexS), (52, rRdC 1 cfgA), (48, rEndS)]
noncomputable def orcCS : FuncId → List V → Bx → Tr := orcOf [(22, sameS 30)]
noncomputable def tabCL : List (FuncId × (List V → Bx → Tr)) := [(19, awakeGS), (25, parseS), (26, rParseS), (27, sameCS), (28, wordBS), (23, goodS 30)]
noncomputable def orcCL : FuncId → List V → Bx → Tr := orcOf tabCL
noncomputable def tabCJ : List (FuncId × (List V → Bx → Tr)) := [(19, awakeGS), (25, parseS), (27, sameCS)]
noncomputable def orcCJ : FuncId → List V → Bx → Tr := orcOf tabCJ
end Go.Proofs.YtniiimpcakmkbaaDoor

set_option linter.unusedVariables false
namespace Go.Proofs.YtniiimpcakmkbaaDoor
open Go Vm
noncomputable def e_whole_cf (m : Int) : Cfg := mkCfQ [25, 35] (globG m) vti orcCW false [50, 60] []
theorem e_whole_start {R : Type} (m : Int) (k : V → Bx → Option R) (F : Nat) (s : ByteArray) : runFn (e_whole_cf m) F Tryd.f50 (bd Tryd.f50) [vs s, vc (C.fn (51 : FuncId) [])] [] k =
    (bif decide (s.size < (1000000 : Nat)) then
      (bif (lexP s).snd.snd.snd != (0 : Int) then
        dup 2 (k (.tup [(.agg ⟨[(.sl 2 [])], [], 1⟩), (.agg ⟨[(.int .i64 ((lexP s).snd.fst)), (.int .i64 ((lexP s).snd.snd.fst))], [], 2⟩), (.w (.d (.int .i64 ((lexP s).snd.snd.snd))))]) [])
      else (bif stOk (lexP s).fst { at_ := (0 : Int), op := (0 : Int), er := (0 : Nat) } then
          (bif decide ((cfgA (lexP s).fst { at_ := (0 : Int), op := (0 : Int), er := (0 : Nat) }).fst.at_ < (↑(lexP s).fst.length : Int)) then
            (bif decide ((failG (1 : Nat) { at_ := (cfgA (lexP s).fst { at_ := (0 : Int), op := (0 : Int), er := (0 : Nat) }).fst.at_, op := (cfgA (lexP s).fst { at_ := (0 : Int), op := (0 : Int), er := (0 : Nat) }).fst.op, er := (cfgA (lexP s).fst { at_ := (0 : Int), op := (0 : Int), er := (0 : Nat) }).fst.er }).er ≤ (2 : Nat)) && true then
              (bif (failG (1 : Nat) { at_ := (cfgA (lexP s).fst { at_ := (0 : Int), op := (0 : Int), er := (0 : Nat) }).fst.at_, op := (cfgA (lexP s).fst { at_ := (0 : Int), op := (0 : Int), er := (0 : Nat) }).fst.op, er := (cfgA (lexP s).fst { at_ := (0 : Int), op := (0 : Int), er := (0 : Nat) }).fst.er }).er.beq (2 : Nat) then
                dup 2 ((bif stOk (lexP s).fst { at_ := (cfgA (lexP s).fst { at_ := (0 : Int), op := (0 : Int), er := (0 : Nat) }).fst.1, op := (cfgA (lexP s).fst { at_ := (0 : Int), op := (0 : Int), er := (0 : Nat) }).fst.2, er := (failG (1 : Nat) { at_ := (cfgA (lexP s).fst { at_ := (0 : Int), op := (0 : Int), er := (0 : Nat) }).fst.at_, op := (cfgA (lexP s).fst { at_ := (0 : Int), op := (0 : Int), er := (0 : Nat) }).fst.op, er := (cfgA (lexP s).fst { at_ := (0 : Int), op := (0 : Int), er := (0 : Nat) }).fst.er }).er } && true then
                  k (.tup [(.agg ⟨[(.sl 2 [])], [], 1⟩), (.agg ⟨[(.int .i64 (plL (lexP s).fst (lexP s).snd.fst { at_ := (cfgA (lexP s).fst { at_ := (0 : Int), op := (0 : Int), er := (0 : Nat) }).fst.1, op := (cfgA (lexP s).fst { at_ := (0 : Int), op := (0 : Int), er := (0 : Nat) }).fst.2, er := (failG (1 : Nat) { at_ := (cfgA (lexP s).fst { at_ := (0 : Int), op := (0 : Int), er := (0 : Nat) }).fst.at_, op := (cfgA (lexP s).fst { at_ := (0 : Int), op := (0 : Int), er := (0 : Nat) }).fst.op, er := (cfgA (lexP s).fst { at_ := (0 : Int), op := (0 : Int), er := (0 : Nat) }).fst.er }).er })), (.int .i64 (plC (lexP s).fst (lexP s).snd.snd.fst { at_ := (cfgA (lexP s).fst { at_ := (0 : Int), op := (0 : Int), er := (0 : Nat) }).fst.1, op := (cfgA (lexP s).fst { at_ := (0 : Int), op := (0 : Int), er := (0 : Nat) }).fst.2, er := (failG (1 : Nat) { at_ := (cfgA (lexP s).fst { at_ := (0 : Int), op := (0 : Int), er := (0 : Nat) }).fst.at_, op := (cfgA (lexP s).fst { at_ := (0 : Int), op := (0 : Int), er := (0 : Nat) }).fst.op, er := (cfgA (lexP s).fst { at_ := (0 : Int), op := (0 : Int), er := (0 : Nat) }).fst.er }).er }))], [], 2⟩), (.w (.d (.int .i64 12)))]) []
                else none))
              else (bif decide ((failG (1 : Nat) { at_ := (cfgA (lexP s).fst { at_ := (0 : Int), op := (0 : Int), er := (0 : Nat) }).fst.at_, op := (cfgA (lexP s).fst { at_ := (0 : Int), op := (0 : Int), er := (0 : Nat) }).fst.op, er := (cfgA (lexP s).fst { at_ := (0 : Int), op := (0 : Int), er := (0 : Nat) }).fst.er }).er ≤ (2 : Nat)) && true then
                  (bif (failG (1 : Nat) { at_ := (cfgA (lexP s).fst { at_ := (0 : Int), op := (0 : Int), er := (0 : Nat) }).fst.at_, op := (cfgA (lexP s).fst { at_ := (0 : Int), op := (0 : Int), er := (0 : Nat) }).fst.op, er := (cfgA (lexP s).fst { at_ := (0 : Int), op := (0 : Int), er := (0 : Nat) }).fst.er }).er.beq (1 : Nat) then
                    dup 2 ((bif stOk (lexP s).fst { at_ := (cfgA (lexP s).fst { at_ := (0 : Int), op := (0 : Int), er := (0 : Nat) }).fst.1, op := (cfgA (lexP s).fst { at_ := (0 : Int), op := (0 : Int), er := (0 : Nat) }).fst.2, er := (failG (1 : Nat) { at_ := (cfgA (lexP s).fst { at_ := (0 : Int), op := (0 : Int), er := (0 : Nat) }).fst.at_, op := (cfgA (lexP s).fst { at_ := (0 : Int), op := (0 : Int), er := (0 : Nat) }).fst.op, er := (cfgA (lexP s).fst { at_ := (0 : Int), op := (0 : Int), er := (0 : Nat) }).fst.er }).er } && true then
                      k (.tup [(.agg ⟨[(.sl 2 [])], [], 1⟩), (.agg ⟨[(.int .i64 (plL (lexP s).fst (lexP s).snd.fst { at_ := (cfgA (lexP s).fst { at_ := (0 : Int), op := (0 : Int), er := (0 : Nat) }).fst.1, op := (cfgA (lexP s).fst { at_ := (0 : Int), op := (0 : Int), er := (0 : Nat) }).fst.2, er := (failG (1 : Nat) { at_ := (cfgA (lexP s).fst { at_ := (0 : Int), op := (0 : Int), er := (0 : Nat) }).fst.at_, op := (cfgA (lexP s).fst { at_ := (0 : Int), op := (0 : Int), er := (0 : Nat) }).fst.op, er := (cfgA (lexP s).fst { at_ := (0 : Int), op := (0 : Int), er := (0 : Nat) }).fst.er }).er })), (.int .i64 (plC (lexP s).fst (lexP s).snd.snd.fst { at_ := (cfgA (lexP s).fst { at_ := (0 : Int), op := (0 : Int), er := (0 : Nat) }).fst.1, op := (cfgA (lexP s).fst { at_ := (0 : Int), op := (0 : Int), er := (0 : Nat) }).fst.2, er := (failG (1 : Nat) { at_ := (cfgA (lexP s).fst { at_ := (0 : Int), op := (0 : Int), er := (0 : Nat) }).fst.at_, op := (cfgA (lexP s).fst { at_ := (0 : Int), op := (0 : Int), er := (0 : Nat) }).fst.op, er := (cfgA (lexP s).fst { at_ := (0 : Int), op := (0 : Int), er := (0 : Nat) }).fst.er }).er }))], [], 2⟩), (.w (.d (.int .i64 11)))]) []
                    else none))
                  else k (.tup [(.agg ⟨(List.take (1 : Nat) (List.take (1 : Nat) ((cfgA (lexP s).fst { at_ := (0 : Int), op := (0 : Int), er := (0 : Nat) }).snd ++ []) ++ [])), [], 1⟩), (.agg ⟨[(.int .i64 0), (.int .i64 0)], [], 2⟩), (.w (.d (.int .i64 0)))]) [])
                else none))
            else none)
          else (bif decide ((cfgA (lexP s).fst { at_ := (0 : Int), op := (0 : Int), er := (0 : Nat) }).fst.er ≤ (2 : Nat)) && true then
              (bif (cfgA (lexP s).fst { at_ := (0 : Int), op := (0 : Int), er := (0 : Nat) }).fst.er.beq (2 : Nat) then
                dup 2 ((bif stOk (lexP s).fst { at_ := (cfgA (lexP s).fst { at_ := (0 : Int), op := (0 : Int), er := (0 : Nat) }).fst.at_, op := (cfgA (lexP s).fst { at_ := (0 : Int), op := (0 : Int), er := (0 : Nat) }).fst.op, er := (cfgA (lexP s).fst { at_ := (0 : Int), op := (0 : Int), er := (0 : Nat) }).fst.er } && true then
                  k (.tup [(.agg ⟨[(.sl 2 [])], [], 1⟩), (.agg ⟨[(.int .i64 (plL (lexP s).fst (lexP s).snd.fst { at_ := (cfgA (lexP s).fst { at_ := (0 : Int), op := (0 : Int), er := (0 : Nat) }).fst.at_, op := (cfgA (lexP s).fst { at_ := (0 : Int), op := (0 : Int), er := (0 : Nat) }).fst.op, er := (cfgA (lexP s).fst { at_ := (0 : Int), op := (0 : Int), er := (0 : Nat) }).fst.er })), (.int .i64 (plC (lexP s).fst (lexP s).snd.snd.fst { at_ := (cfgA (lexP s).fst { at_ := (0 : Int), op := (0 : Int), er := (0 : Nat) }).fst.at_, op := (cfgA (lexP s).fst { at_ := (0 : Int), op := (0 : Int), er := (0 : Nat) }).fst.op, er := (cfgA (lexP s).fst { at_ := (0 : Int), op := (0 : Int), er := (0 : Nat) }).fst.er }))], [], 2⟩), (.w (.d (.int .i64 12)))]) []
                else none))
              else (bif decide ((cfgA (lexP s).fst { at_ := (0 : Int), op := (0 : Int), er := (0 : Nat) }).fst.er ≤ (2 : Nat)) && true then
                  (bif (cfgA (lexP s).fst { at_ := (0 : Int), op := (0 : Int), er := (0 : Nat) }).fst.er.beq (1 : Nat) then
                    dup 2 ((bif stOk (lexP s).fst { at_ := (cfgA (lexP s).fst { at_ := (0 : Int), op := (0 : Int), er := (0 : Nat) }).fst.at_, op := (cfgA (lexP s).fst { at_ := (0 : Int), op := (0 : Int), er := (0 : Nat) }).fst.op, er := (cfgA (lexP s).fst { at_ := (0 : Int), op := (0 : Int), er := (0 : Nat) }).fst.er } && true then
                      k (.tup [(.agg ⟨[(.sl 2 [])], [], 1⟩), (.agg ⟨[(.int .i64 (plL (lexP s).fst (lexP s).snd.fst { at_ := (cfgA (lexP s).fst { at_ := (0 : Int), op := (0 : Int), er := (0 : Nat) }).fst.at_, op := (cfgA (lexP s).fst { at_ := (0 : Int), op := (0 : Int), er := (0 : Nat) }).fst.op, er := (cfgA (lexP s).fst { at_ := (0 : Int), op := (0 : Int), er := (0 : Nat) }).fst.er })), (.int .i64 (plC (lexP s).fst (lexP s).snd.snd.fst { at_ := (cfgA (lexP s).fst { at_ := (0 : Int), op := (0 : Int), er := (0 : Nat) }).fst.at_, op := (cfgA (lexP s).fst { at_ := (0 : Int), op := (0 : Int), er := (0 : Nat) }).fst.op, er := (cfgA (lexP s).fst { at_ := (0 : Int), op := (0 : Int), er := (0 : Nat) }).fst.er }))], [], 2⟩), (.w (.d (.int .i64 11)))]) []
                    else none))
                  else k (.tup [(.agg ⟨(List.take (1 : Nat) (List.take (1 : Nat) ((cfgA (lexP s).fst { at_ := (0 : Int), op := (0 : Int), er := (0 : Nat) }).snd ++ []) ++ [])), [], 1⟩), (.agg ⟨[(.int .i64 0), (.int .i64 0)], [], 2⟩), (.w (.d (.int .i64 0)))]) [])
                else none))
            else none))
        else none))
    else none) := by kernel_rfl
noncomputable def e_parse_cf (m : Int) : Cfg := mkCfQ [25, 35] (globG m) vti orcCX false [] []
theorem e_parse_start {R : Type} (m : Int) (k : V → Bx → Option R) (F : Nat) (s : ByteArray) : runFn (e_parse_cf m) F Tryd.f25 (bd Tryd.f25) [vs s] [] k =
    (bif decide (s.size < (1000000 : Nat)) then
      k (.tup [(.agg ⟨(List.take (1 : Nat) (parN s ++ [])), [], 1⟩), (.agg ⟨[(.int .i64 (parL s)), (.int .i64 (parC s))], [], 2⟩), (.w (.d (.int .i64 (parE s))))]) []
    else none) := by kernel_rfl
noncomputable def e_rparse_cf (m : Int) : Cfg := mkCfQ [25, 35] (globG m) vti orcCR false [] []
theorem e_rparse_start {R : Type} (m : Int) (k : V → Bx → Option R) (F : Nat) (s : ByteArray) : runFn (e_rparse_cf m) F Tryd.f26 (bd Tryd.f26) [vs s] [] k =
    (bif decide (s.size < (1000000 : Nat)) then
      (bif (lexP s).snd.snd.snd != (0 : Int) then
        k (.tup [(.agg ⟨[(.sl 2 [])], [], 1⟩), (.w (.d (.int .i64 ((lexP s).snd.fst)))), (.w (.d (.int .i64 ((lexP s).snd.snd.fst)))), (.w (.d (.int .i64 ((lexP s).snd.snd.snd))))]) []
      else (bif okR (lexP s).fst { at_ := (0 : Int), op := (0 : Int), c := (0 : Int) } then
          (bif stOk (lexP s).fst (rP (readR cfgA (lexP s).fst { at_ := (0 : Int), op := (0 : Int), c := (0 : Int) }).fst.at_ (readR cfgA (lexP s).fst { at_ := (0 : Int), op := (0 : Int), c := (0 : Int) }).fst.op (readR cfgA (lexP s).fst { at_ := (0 : Int), op := (0 : Int), c := (0 : Int) }).fst.c) && okC (readR cfgA (lexP s).fst { at_ := (0 : Int), op := (0 : Int), c := (0 : Int) }).fst.c then
            (bif erC (endG (lexP s).fst (rP (readR cfgA (lexP s).fst { at_ := (0 : Int), op := (0 : Int), c := (0 : Int) }).fst.at_ (readR cfgA (lexP s).fst { at_ := (0 : Int), op := (0 : Int), c := (0 : Int) }).fst.op (readR cfgA (lexP s).fst { at_ := (0 : Int), op := (0 : Int), c := (0 : Int) }).fst.c)).er != (0 : Int) then
              k (.tup [(.agg ⟨[(.sl 2 [])], [], 1⟩), (.w (.d (.int .i64 (bif (endG (lexP s).fst (rP (readR cfgA (lexP s).fst { at_ := (0 : Int), op := (0 : Int), c := (0 : Int) }).fst.at_ (readR cfgA (lexP s).fst { at_ := (0 : Int), op := (0 : Int), c := (0 : Int) }).fst.op (readR cfgA (lexP s).fst { at_ := (0 : Int), op := (0 : Int), c := (0 : Int) }).fst.c)).er.beq (0 : Nat) then (0 : Int) else plL (lexP s).fst (lexP s).snd.fst (endG (lexP s).fst (rP (readR cfgA (lexP s).fst { at_ := (0 : Int), op := (0 : Int), c := (0 : Int) }).fst.at_ (readR cfgA (lexP s).fst { at_ := (0 : Int), op := (0 : Int), c := (0 : Int) }).fst.op (readR cfgA (lexP s).fst { at_ := (0 : Int), op := (0 : Int), c := (0 : Int) }).fst.c)))))), (.w (.d (.int .i64 (bif (endG (lexP s).fst (rP (readR cfgA (lexP s).fst { at_ := (0 : Int), op := (0 : Int), c := (0 : Int) }).fst.at_ (readR cfgA (lexP s).fst { at_ := (0 : Int), op := (0 : Int), c := (0 : Int) }).fst.op (readR cfgA (lexP s).fst { at_ := (0 : Int), op := (0 : Int), c := (0 : Int) }).fst.c)).er.beq (0 : Nat) then (0 : Int) else plC (lexP s).fst (lexP s).snd.snd.fst (endG (lexP s).fst (rP (readR cfgA (lexP s).fst { at_ := (0 : Int), op := (0 : Int), c := (0 : Int) }).fst.at_ (readR cfgA (lexP s).fst { at_ := (0 : Int), op := (0 : Int), c := (0 : Int) }).fst.op (readR cfgA (lexP s).fst { at_ := (0 : Int), op := (0 : Int), c := (0 : Int) }).fst.c)))))), (.w (.d (.int .i64 (erC (endG (lexP s).fst (rP (readR cfgA (lexP s).fst { at_ := (0 : Int), op := (0 : Int), c := (0 : Int) }).fst.at_ (readR cfgA (lexP s).fst { at_ := (0 : Int), op := (0 : Int), c := (0 : Int) }).fst.op (readR cfgA (lexP s).fst { at_ := (0 : Int), op := (0 : Int), c := (0 : Int) }).fst.c)).er))))]) []
            else k (.tup [(.agg ⟨(List.take (1 : Nat) (List.take (1 : Nat) ((readR cfgA (lexP s).fst { at_ := (0 : Int), op := (0 : Int), c := (0 : Int) }).snd ++ []) ++ [])), [], 1⟩), (.w (.d (.int .i64 0))), (.w (.d (.int .i64 0))), (.w (.d (.int .i64 0)))]) [])
          else none)
        else none))
    else none) := by kernel_rfl
noncomputable def e_same_cf (m : Int) : Cfg := mkCfQ [25, 35, 72] (globG m) vti orcCS false [] [(4, 7340040), (10, 985162425827464), (16, 29014219671736262618777224), (999, 16), (1000, 0), (1001, 7340040), (1002, 7340040), (1003, 985162425827464), (1004, 985162425827464)]
noncomputable def e_same_m0 : List Bool := [false, false, false, true, false, false, false, false, false, false, false, false, false, false, false, false, false, false, false, false, true, true, true, false, false, false, false, false, false, false, false, false, false, false, false, false, false, false, false, false, false, false, false, false, false, false, false, false, false, false, false, false, false, false, false, false, false, false, false, false, false, false, false, false, false, false, false, false, false, false, false, false, false, false, false, false, false, false, false, false, false, false, false, false, false, false, false, false, false, false, false, false, false, false, false, false, false, false, false, false, false]
noncomputable def e_same_b0 : Code := (cA (cA (cB (cA (cB (cB (bd Tryd.f27)))))))
noncomputable def e_same_S0 (x : List (List C)) (y1 : List (List C)) (v2 : Int) : St := { env := [vu, vu, vu, (.t (.w (.ptr 0 0))), vu, vu, vu, vu, vu, vu, vu, vu, vu, vu, vu, vu, vu, vu, vu, vu, (vc (.sl 2 x)), (vi ((↑x.length : Int))), (vi v2), vu, vu, vu, vu, vu, vu, vu, vu, vu, vu, vu, vu, vu, vu, vu, vu, vu, vu, vu, vu, vu, vu, vu, vu, vu, vu, vu, vu, vu, vu, vu, vu, vu, vu, vu, vu, vu, vu, vu, vu, vu, vu, vu, vu, vu, vu, vu, vu, vu, vu, vu, vu, vu, vu, vu, vu, vu, vu, vu, vu, vu, vu, vu, vu, vu, vu, vu, vu, vu, vu, vu, vu, vu, vu, vu, vu, vu, vu], bx := [(some (.cells ⟨[(.sl 2 y1)], [], 1⟩))], np := 0 }
noncomputable def e_same_L0 {R : Type} (m : Int) (K : X → St → Option R) (F n : Nat) (x : List (List C)) (y1 : List (List C)) (v2 : Int) : Option R := loopV (headM e_same_m0) (exec (e_same_cf m) F e_same_b0) (exitK (e_same_cf m) K) n (e_same_S0 x y1 v2)
noncomputable def e_same_K0 {R : Type} (m : Int) (k : V → Bx → Option R) (F : Nat) : X → St → Option R := (blockK 0 (seqK (e_same_cf m) F (cB (cB (cB (bd Tryd.f27)))) (finK (e_same_cf m) Tryd.f27 k)))
noncomputable def e_same_E1 : St := { env := [vu, vu, vu, vu, (vb false), vu, vu, vu, vu, vu, vu, vu, vu, vu, vu, vu, vu, vu, vu, vu, vu, vu, vu, vu, vu, vu, vu, vu, vu, vu, vu, vu, vu, vu, vu, vu, vu, vu, vu, vu, vu, vu, vu, vu, vu, vu, vu, vu, vu, vu, vu, vu, vu, vu, vu, vu, vu, vu, vu, vu, vu, vu, vu, vu, vu, vu, vu, vu, vu, vu, vu, vu, vu, vu, vu, vu, vu, vu, vu, vu, vu, vu, vu, vu, vu, vu, vu, vu, vu, vu, vu, vu, vu, vu, vu, vu, vu, vu, vu, vu, vu], bx := [], np := 0 }
theorem e_same_c1 {R : Type} (m : Int) (k : V → Bx → Option R) (F : Nat) : e_same_K0 m k F .rt (e_same_E1) =
    k (vb false) [] := by kernel_rfl
noncomputable def e_same_m1 : List Bool := [false, false, false, true, false, false, false, true, false, false, false, false, false, false, false, false, false, false, false, false, true, true, true, false, false, false, false, false, false, false, false, false, false, false, false, false, false, false, false, false, false, false, false, false, false, false, false, true, true, true, false, false, false, false, false, false, false, false, false, false, false, false, false, false, false, false, false, false, false, false, false, false, false, false, false, false, false, false, false, false, false, false, false, false, false, false, false, false, false, false, false, false, false, false, false, false, false, false, false, false, false]
noncomputable def e_same_b1 : Code := (cA (cA (cB (cB (cB (cB (cA (cA (cB (cB (cA (cA (cB (cA (cB (cB (bd Tryd.f27)))))))))))))))))
noncomputable def e_same_S1 (x : List (List C)) (v2 : Int) (v3 : List (List C)) (v4 : Int) (v5 : ByteArray) (v6 : List (List C)) (y7 : List (List C)) (v8 : Int) : St := { env := [vu, vu, vu, (.t (.w (.ptr 0 0))), vu, vu, vu, (.t (.w (.ptr 1 0))), vu, vu, vu, vu, vu, vu, vu, vu, vu, vu, vu, vu, (vc (.sl 2 x)), (vi ((↑x.length : Int))), (vi v2), vu, vu, vu, vu, vu, vu, vu, vu, vu, vu, vu, vu, vu, vu, vu, vu, vu, vu, vu, vu, vu, vu, vu, vu, (vc (.sl 6 v3)), (vi v4), (vi v8), vu, vu, vu, vu, vu, vu, vu, vu, vu, vu, vu, vu, vu, vu, vu, vu, vu, vu, vu, vu, vu, vu, vu, vu, vu, vu, vu, vu, vu, vu, vu, vu, vu, vu, vu, vu, vu, vu, vu, vu, vu, vu, vu, vu, vu, vu, vu, vu, vu, vu, vu], bx := [(some (.cells ⟨[(.sl 2 y7)], [], 1⟩)), (some (.cells ⟨[(.str v5), (.sl 6 v6)], [], 2⟩))], np := 0 }
noncomputable def e_same_L1 {R : Type} (m : Int) (K : X → St → Option R) (F n : Nat) (x : List (List C)) (v2 : Int) (v3 : List (List C)) (v4 : Int) (v5 : ByteArray) (v6 : List (List C)) (y7 : List (List C)) (v8 : Int) : Option R := loopV (headM e_same_m1) (exec (e_same_cf m) F e_same_b1) (exitK (e_same_cf m) K) n (e_same_S1 x v2 v3 v4 v5 v6 y7 v8)
noncomputable def e_same_K1 {R : Type} (m : Int) (K : X → St → Option R) (F n : Nat) : X → St → Option R := (blockK 2 (blockK 1 (seqK (e_same_cf m) F (cB (cB (cB (cA (cA (cB (cA (cB (cB (bd Tryd.f27)))))))))) (loopK (headM e_same_m0) (exec (e_same_cf m) F e_same_b0) (exitK (e_same_cf m) K) n))))
noncomputable def e_same_E2 : St := { env := [vu, vu, vu, vu, (vb false), vu, vu, vu, vu, vu, vu, vu, vu, vu, vu, vu, vu, vu, vu, vu, vu, vu, vu, vu, vu, vu, vu, vu, vu, vu, vu, vu, vu, vu, vu, vu, vu, vu, vu, vu, vu, vu, vu, vu, vu, vu, vu, vu, vu, vu, vu, vu, vu, vu, vu, vu, vu, vu, vu, vu, vu, vu, vu, vu, vu, vu, vu, vu, vu, vu, vu, vu, vu, vu, vu, vu, vu, vu, vu, vu, vu, vu, vu, vu, vu, vu, vu, vu, vu, vu, vu, vu, vu, vu, vu, vu, vu, vu, vu, vu, vu], bx := [], np := 0 }
theorem e_same_c2 {R : Type} (m : Int) (K : X → St → Option R) (F n : Nat) : e_same_K1 m K F n .rt (e_same_E2) =
    K .rt (e_same_E1) := by kernel_rfl
noncomputable def e_same_m2 : List Bool := [false, false, false, true, false, false, false, true, false, true, true, false, false, false, false, false, false, false, false, false, true, true, true, false, false, false, false, false, false, false, false, false, false, false, false, false, false, false, false, false, false, false, false, false, false, false, false, true, true, true, false, false, false, false, false, false, false, false, false, false, false, false, false, false, false, false, false, false, false, false, false, false, false, false, false, false, false, false, false, false, false, false, false, true, true, false, false, false, false, false, false, false, false, false, false, false, false, false, false, false, false]
noncomputable def e_same_b2 : Code := (cA (cA (cB (cB (cB (cB (cA (cA (cB (cB (cA (cA (cB (cB (cB (cB (cA (cA (cB (cB (cA (cA (cB (cA (cB (cB (bd Tryd.f27)))))))))))))))))))))))))))
noncomputable def e_same_S2 (x : List (List C)) (v2 : Int) (v3 : List (List C)) (v4 : Int) (v8 : Int) (v9 : Int) (v10 : ByteArray) (v11 : List (List C)) (v12 : Int) (v13 : ByteArray) (v14 : ByteArray) (v15 : List (List C)) (v16 : ByteArray) (v17 : List (List C)) (v18 : Int) (v19 : ByteArray) (v20 : ByteArray) (v21 : List (List C)) (y22 : List (List C)) (v23 : ByteArray) (v24 : List (List C)) (v25 : Int) : St := { env := [vu, vu, vu, (.t (.w (.ptr 0 0))), vu, vu, vu, (.t (.w (.ptr 1 0))), vu, (.t (.w (.ptr 2 0))), (.t (.w (.ptr 3 0))), vu, vu, vu, vu, vu, vu, vu, vu, vu, (vc (.sl 2 x)), (vi ((↑x.length : Int))), (vi v2), vu, vu, vu, vu, vu, vu, vu, vu, vu, vu, vu, vu, vu, vu, vu, vu, vu, vu, vu, vu, vu, vu, vu, vu, (vc (.sl 6 v3)), (vi v4), (vi v8), vu, vu, vu, vu, vu, vu, vu, vu, vu, vu, vu, vu, vu, vu, vu, vu, vu, vu, vu, vu, vu, vu, vu, vu, vu, vu, vu, vu, vu, vu, vu, vu, vu, (vi v9), (vi v25), vu, vu, vu, vu, vu, vu, vu, vu, vu, vu, vu, vu, vu, vu, vu, vu], bx := [(some (.cells ⟨[(.sl 2 y22)], [], 1⟩)), (some (.cells ⟨[(.str v23), (.sl 6 v24)], [], 2⟩)), (some (.cells ⟨[(.str v10), (.sl 3 v11), (.int .i64 v12), (.str v13), (.str v14), (.sl 4 v15)], [], 6⟩)), (some (.cells ⟨[(.str v16), (.sl 3 v17), (.int .i64 v18), (.str v19), (.str v20), (.sl 4 v21)], [], 6⟩))], np := 0 }
noncomputable def e_same_L2 {R : Type} (m : Int) (K : X → St → Option R) (F n : Nat) (x : List (List C)) (v2 : Int) (v3 : List (List C)) (v4 : Int) (v8 : Int) (v9 : Int) (v10 : ByteArray) (v11 : List (List C)) (v12 : Int) (v13 : ByteArray) (v14 : ByteArray) (v15 : List (List C)) (v16 : ByteArray) (v17 : List (List C)) (v18 : Int) (v19 : ByteArray) (v20 : ByteArray) (v21 : List (List C)) (y22 : List (List C)) (v23 : ByteArray) (v24 : List (List C)) (v25 : Int) : Option R := loopV (headM e_same_m2) (exec (e_same_cf m) F e_same_b2) (exitK (e_same_cf m) K) n (e_same_S2 x v2 v3 v4 v8 v9 v10 v11 v12 v13 v14 v15 v16 v17 v18 v19 v20 v21 y22 v23 v24 v25)
noncomputable def e_same_K2 {R : Type} (m : Int) (K : X → St → Option R) (F n : Nat) : X → St → Option R := (blockK 4 (blockK 3 (seqK (e_same_cf m) F (cB (cB (cB (cA (cA (cB (cB (cB (cB (cA (cA (cB (cB (cA (cA (cB (cA (cB (cB (bd Tryd.f27)))))))))))))))))))) (loopK (headM e_same_m1) (exec (e_same_cf m) F e_same_b1) (exitK (e_same_cf m) K) n))))
noncomputable def e_same_E3 : St := { env := [vu, vu, vu, vu, (vb false), vu, vu, vu, vu, vu, vu, vu, vu, vu, vu, vu, vu, vu, vu, vu, vu, vu, vu, vu, vu, vu, vu, vu, vu, vu, vu, vu, vu, vu, vu, vu, vu, vu, vu, vu, vu, vu, vu, vu, vu, vu, vu, vu, vu, vu, vu, vu, vu, vu, vu, vu, vu, vu, vu, vu, vu, vu, vu, vu, vu, vu, vu, vu, vu, vu, vu, vu, vu, vu, vu, vu, vu, vu, vu, vu, vu, vu, vu, vu, vu, vu, vu, vu, vu, vu, vu, vu, vu, vu, vu, vu, vu, vu, vu, vu, vu], bx := [], np := 0 }
theorem e_same_c3 {R : Type} (m : Int) (K : X → St → Option R) (F n : Nat) : e_same_K2 m K F n .rt (e_same_E3) =
    K .rt (e_same_E2) := by kernel_rfl
noncomputable def e_same_E4 (x : List (List C)) (v2 : Int) (v3 : List (List C)) (v4 : Int) (v8 : Int) (y22 : List (List C)) (v23 : ByteArray) (v24 : List (List C)) : St := { env := [vu, vu, vu, (.t (.w (.ptr 0 0))), vu, vu, vu, (.t (.w (.ptr 1 0))), vu, vu, vu, vu, vu, vu, vu, vu, vu, vu, vu, vu, (vc (.sl 2 x)), (vi ((↑x.length : Int))), (vi v2), vu, vu, vu, vu, vu, vu, vu, vu, vu, vu, vu, vu, vu, vu, vu, vu, vu, vu, vu, vu, vu, vu, vu, vu, (vc (.sl 6 v3)), (vi v4), (vi v8), vu, vu, vu, vu, vu, vu, vu, vu, vu, vu, vu, vu, vu, vu, vu, vu, vu, vu, vu, vu, vu, vu, vu, vu, vu, vu, vu, vu, vu, vu, vu, vu, vu, vu, vu, vu, vu, vu, vu, vu, vu, vu, vu, vu, vu, vu, vu, vu, vu, vu, vu], bx := [(some (.cells ⟨[(.sl 2 y22)], [], 1⟩)), (some (.cells ⟨[(.str v23), (.sl 6 v24)], [], 2⟩))], np := 0 }
theorem e_same_c4 {R : Type} (m : Int) (K : X → St → Option R) (F n : Nat) (x : List (List C)) (v2 : Int) (v3 : List (List C)) (v4 : Int) (v8 : Int) (y22 : List (List C)) (v23 : ByteArray) (v24 : List (List C)) : e_same_K2 m K F n (.ex 4) (e_same_E4 x v2 v3 v4 v8 y22 v23 v24) =
    e_same_L1 m K F n x v2 v3 v4 v23 v24 y22 (IntKind.i64.wrap (v8 + (1 : Int))) := by kernel_rfl
theorem e_same_r2 {R : Type} (m : Int) (K : X → St → Option R) (F n : Nat) (x : List (List C)) (v2 : Int) (v3 : List (List C)) (v4 : Int) (v8 : Int) (v9 : Int) (v10 : ByteArray) (v11 : List (List C)) (v12 : Int) (v13 : ByteArray) (v14 : ByteArray) (v15 : List (List C)) (v16 : ByteArray) (v17 : List (List C)) (v18 : Int) (v19 : ByteArray) (v20 : ByteArray) (v21 : List (List C)) (y22 : List (List C)) (v23 : ByteArray) (v24 : List (List C)) (v25 : Int) : e_same_L2 m K F (n + 1) x v2 v3 v4 v8 v9 v10 v11 v12 v13 v14 v15 v16 v17 v18 v19 v20 v21 y22 v23 v24 v25 =
    (bif decide (v25 < v9) then
      (bif decide ((0 : Int) ≤ v25) then
        (getT v11 v25.toNat fun z5 =>
          (bif (List.take (3 : Nat) z5).length == (3 : Nat) then
            (bif shOk [Sh.str, Sh.str, Sh.bool] (List.take (3 : Nat) z5) then
              (bif decide ((0 : Int) ≤ v25) then
                (getT v17 v25.toNat fun z6 =>
                  (bif (List.take (3 : Nat) z6).length == (3 : Nat) then
                    (bif shOk [Sh.str, Sh.str, Sh.bool] (List.take (3 : Nat) z6) then
                      (bif !(((List.take (3 : Nat) z5).getD (0 : Nat) C.nf).toStr.toList == ((List.take (3 : Nat) z6).getD (0 : Nat) C.nf).toStr.toList && (((List.take (3 : Nat) z5).getD (1 : Nat) C.nf).toStr.toList == ((List.take (3 : Nat) z6).getD (1 : Nat) C.nf).toStr.toList && (((List.take (3 : Nat) z5).getD (2 : Nat) C.nf).toBool == ((List.take (3 : Nat) z6).getD (2 : Nat) C.nf).toBool && true))) then
                        K .rt (e_same_E3)
                      else e_same_L2 m K F n x v2 v3 v4 v8 v9 v10 v11 v12 v13 v14 v15 v16 v17 v18 v19 v20 v21 y22 v23 v24 (IntKind.i64.wrap (v25 + (1 : Int))))
                    else none)
                  else none))
              else none)
            else none)
          else none))
      else none)
    else K (.ex 4) (e_same_E4 x v2 v3 v4 v8 y22 v23 v24)) := by kernel_rfl
noncomputable def e_same_E5 (x : List (List C)) (v2 : Int) (y7 : List (List C)) : St := { env := [vu, vu, vu, (.t (.w (.ptr 0 0))), vu, vu, vu, vu, vu, vu, vu, vu, vu, vu, vu, vu, vu, vu, vu, vu, (vc (.sl 2 x)), (vi ((↑x.length : Int))), (vi v2), vu, vu, vu, vu, vu, vu, vu, vu, vu, vu, vu, vu, vu, vu, vu, vu, vu, vu, vu, vu, vu, vu, vu, vu, vu, vu, vu, vu, vu, vu, vu, vu, vu, vu, vu, vu, vu, vu, vu, vu, vu, vu, vu, vu, vu, vu, vu, vu, vu, vu, vu, vu, vu, vu, vu, vu, vu, vu, vu, vu, vu, vu, vu, vu, vu, vu, vu, vu, vu, vu, vu, vu, vu, vu, vu, vu, vu, vu], bx := [(some (.cells ⟨[(.sl 2 y7)], [], 1⟩))], np := 0 }
theorem e_same_c5 {R : Type} (m : Int) (K : X → St → Option R) (F n : Nat) (x : List (List C)) (v2 : Int) (y7 : List (List C)) : e_same_K1 m K F n (.ex 2) (e_same_E5 x v2 y7) =
    e_same_L0 m K F n x y7 (IntKind.i64.wrap (v2 + (1 : Int))) := by kernel_rfl
theorem e_same_r1 {R : Type} (m : Int) (K : X → St → Option R) (F n : Nat) (x : List (List C)) (v2 : Int) (v3 : List (List C)) (v4 : Int) (v5 : ByteArray) (v6 : List (List C)) (y7 : List (List C)) (v8 : Int) : e_same_L1 m K F (n + 1) x v2 v3 v4 v5 v6 y7 v8 =
    (bif decide (v8 < v4) then
      (bif decide ((0 : Int) ≤ v8) then
        (getT v3 v8.toNat fun z3 =>
          (bif (List.take (6 : Nat) z3).length == (6 : Nat) then
            (bif shOk [Sh.str, Sh.sl (3 : Nat), Sh.int IntKind.i64, Sh.str, Sh.str, Sh.sl (4 : Nat)] (List.take (6 : Nat) z3) then
              (bif decide ((0 : Int) ≤ v8) then
                (getT v6 v8.toNat fun z4 =>
                  (bif (List.take (6 : Nat) z4).length == (6 : Nat) then
                    (bif shOk [Sh.str, Sh.sl (3 : Nat), Sh.int IntKind.i64, Sh.str, Sh.str, Sh.sl (4 : Nat)] (List.take (6 : Nat) z4) then
                      (bif !((List.take (6 : Nat) z3).getD (0 : Nat) C.nf).toStr.toList == ((List.take (6 : Nat) z4).getD (0 : Nat) C.nf).toStr.toList then
                        K .rt (e_same_E2)
                      else (bif (↑((List.take (6 : Nat) z3).getD (1 : Nat) C.nf).toEls.length : Int) != (↑((List.take (6 : Nat) z4).getD (1 : Nat) C.nf).toEls.length : Int) then
                          K .rt (e_same_E2)
                        else (bif eqN [C.int IntKind.i64 ((List.take (6 : Nat) z3).getD (2 : Nat) C.nf).toInt, C.str ((List.take (6 : Nat) z3).getD (3 : Nat) C.nf).toStr, C.str ((List.take (6 : Nat) z3).getD (4 : Nat) C.nf).toStr, C.sl (4 : Nat) ((List.take (6 : Nat) z3).getD (5 : Nat) C.nf).toEls] [C.int IntKind.i64 ((List.take (6 : Nat) z4).getD (2 : Nat) C.nf).toInt, C.str ((List.take (6 : Nat) z4).getD (3 : Nat) C.nf).toStr, C.str ((List.take (6 : Nat) z4).getD (4 : Nat) C.nf).toStr, C.sl (4 : Nat) ((List.take (6 : Nat) z4).getD (5 : Nat) C.nf).toEls] && tree (30 : Nat) [C.int IntKind.i64 ((List.take (6 : Nat) z3).getD (2 : Nat) C.nf).toInt, C.str ((List.take (6 : Nat) z3).getD (3 : Nat) C.nf).toStr, C.str ((List.take (6 : Nat) z3).getD (4 : Nat) C.nf).toStr, C.sl (4 : Nat) ((List.take (6 : Nat) z3).getD (5 : Nat) C.nf).toEls] then
                            e_same_L2 m (e_same_K2 m K F n) F F x v2 v3 v4 v8 ((↑((List.take (6 : Nat) z3).getD (1 : Nat) C.nf).toEls.length : Int)) (((List.take (6 : Nat) z3).getD (0 : Nat) C.nf).toStr) (((List.take (6 : Nat) z3).getD (1 : Nat) C.nf).toEls) (((List.take (6 : Nat) z3).getD (2 : Nat) C.nf).toInt) (((List.take (6 : Nat) z3).getD (3 : Nat) C.nf).toStr) (((List.take (6 : Nat) z3).getD (4 : Nat) C.nf).toStr) (((List.take (6 : Nat) z3).getD (5 : Nat) C.nf).toEls) (((List.take (6 : Nat) z4).getD (0 : Nat) C.nf).toStr) (((List.take (6 : Nat) z4).getD (1 : Nat) C.nf).toEls) (((List.take (6 : Nat) z4).getD (2 : Nat) C.nf).toInt) (((List.take (6 : Nat) z4).getD (3 : Nat) C.nf).toStr) (((List.take (6 : Nat) z4).getD (4 : Nat) C.nf).toStr) (((List.take (6 : Nat) z4).getD (5 : Nat) C.nf).toEls) y7 v5 v6 0
                          else none)))
                    else none)
                  else none))
              else none)
            else none)
          else none))
      else none)
    else K (.ex 2) (e_same_E5 x v2 y7)) := by kernel_rfl
noncomputable def e_same_E6 : St := { env := (List.replicate 101 vu), bx := [], np := 0 }
theorem e_same_c6 {R : Type} (m : Int) (k : V → Bx → Option R) (F : Nat) : e_same_K0 m k F (.ex 0) (e_same_E6) =
    k (vb true) [] := by kernel_rfl
theorem e_same_r0 {R : Type} (m : Int) (K : X → St → Option R) (F n : Nat) (x : List (List C)) (y1 : List (List C)) (v2 : Int) : e_same_L0 m K F (n + 1) x y1 v2 =
    (bif decide (v2 < (↑x.length : Int)) then
      (bif decide ((0 : Int) ≤ v2) then
        (getT x v2.toNat fun z1 =>
          (bif (List.take (2 : Nat) z1).length == (2 : Nat) then
            (bif shOk [Sh.str, Sh.sl (6 : Nat)] (List.take (2 : Nat) z1) then
              (bif decide ((0 : Int) ≤ v2) then
                (getT y1 v2.toNat fun z2 =>
                  (bif (List.take (2 : Nat) z2).length == (2 : Nat) then
                    (bif shOk [Sh.str, Sh.sl (6 : Nat)] (List.take (2 : Nat) z2) then
                      (bif !((List.take (2 : Nat) z1).getD (0 : Nat) C.nf).toStr.toList == ((List.take (2 : Nat) z2).getD (0 : Nat) C.nf).toStr.toList then
                        K .rt (e_same_E1)
                      else (bif (↑((List.take (2 : Nat) z1).getD (1 : Nat) C.nf).toEls.length : Int) != (↑((List.take (2 : Nat) z2).getD (1 : Nat) C.nf).toEls.length : Int) then
                          K .rt (e_same_E1)
                        else e_same_L1 m (e_same_K1 m K F n) F F x v2 (((List.take (2 : Nat) z1).getD (1 : Nat) C.nf).toEls) ((↑((List.take (2 : Nat) z1).getD (1 : Nat) C.nf).toEls.length : Int)) (((List.take (2 : Nat) z2).getD (0 : Nat) C.nf).toStr) (((List.take (2 : Nat) z2).getD (1 : Nat) C.nf).toEls) y1 0))
                    else none)
                  else none))
              else none)
            else none)
          else none))
      else none)
    else K (.ex 0) (e_same_E6)) := by kernel_rfl
theorem e_same_start {R : Type} (m : Int) (k : V → Bx → Option R) (F : Nat) (x : List (List C)) (y : List (List C)) : runFn (e_same_cf m) F Tryd.f27 (bd Tryd.f27) [V.t (T.agg { l := [C.sl (2 : Nat) x], lk := [], n := (1 : Nat) }), V.t (T.agg { l := [C.sl (2 : Nat) y], lk := [], n := (1 : Nat) })] [] k =
    (bif (↑x.length : Int) != (↑y.length : Int) then
      k (vb false) []
    else e_same_L0 m (e_same_K0 m k F) F F x y 0) := by kernel_rfl
noncomputable def lParses_cf (m : Int) : Cfg := mkCfQ [25, 35] (globG m) vti orcCL false [] [(8, 126100789566373888), (13, 258380517821500096512), (18, 33850181329727438391869440), (999, 4), (1000, 0), (1001, 126100789566373888), (1002, 126100789566373888), (1003, 258380517821500096512), (1004, 258380517821500096512)]
noncomputable def lParses_m0 : List Bool := [false, false, false, false, false, false, false, false, false, false, false, false, false, false, false, false, false, false, false, false, false, false, false, false, false, false, false, false, false, false, false, false, false, false, false, false, false, false, false, false, false, false, false, false, false, false, false, false, false, false, false, false, false, false, true, true, true, false, false, false, false, false, false, false, false, false, false, false, false, false, false, false, false, false, false, false, false, false, false, false, false, false, false, false, false, false, false, false, false, false, false, false, false, false, false, false, false, false, false, false, false, false, false, false, false, false, false, false, false, false]
noncomputable def lParses_b0 : Code := (cA (cA (cB (cA (cB (cB (cB (cB (cB (bd Tryd.f10))))))))))
noncomputable def lParses_S0 (s : ByteArray) (v1 : Int) : St := { env := [vu, vu, vu, vu, vu, vu, vu, vu, vu, vu, vu, vu, vu, vu, vu, vu, vu, vu, vu, vu, vu, vu, vu, vu, vu, vu, vu, vu, vu, vu, vu, vu, vu, vu, vu, vu, vu, vu, vu, vu, vu, vu, vu, vu, vu, vu, vu, vu, vu, vu, vu, vu, vu, vu, (vc (.sl 2 (parT s))), (vi ((↑(parT s).length : Int))), (vi v1), vu, vu, vu, vu, vu, vu, vu, vu, vu, vu, vu, vu, vu, vu, vu, vu, vu, vu, vu, vu, vu, vu, vu, vu, vu, vu, vu, vu, vu, vu, vu, vu, vu, vu, vu, vu, vu, vu, vu, vu, vu, vu, vu, vu, vu, vu, vu, vu, vu, vu, vu, vu, vu], bx := [], np := 0 }
noncomputable def lParses_L0 {R : Type} (m : Int) (K : X → St → Option R) (F n : Nat) (s : ByteArray) (v1 : Int) : Option R := loopV (headM lParses_m0) (exec (lParses_cf m) F lParses_b0) (exitK (lParses_cf m) K) n (lParses_S0 s v1)
noncomputable def lParses_K0 {R : Type} (m : Int) (k : V → Bx → Option R) (F : Nat) : X → St → Option R := (blockK 0 (seqK (lParses_cf m) F (cB (cB (cB (cB (cB (cB (bd Tryd.f10))))))) (finK (lParses_cf m) Tryd.f10 k)))
noncomputable def lParses_E1 : St := { env := [vu, vu, (vb false), vu, vu, vu, vu, vu, vu, vu, vu, vu, vu, vu, vu, vu, vu, vu, vu, vu, vu, vu, vu, vu, vu, vu, vu, vu, vu, vu, vu, vu, vu, vu, vu, vu, vu, vu, vu, vu, vu, vu, vu, vu, vu, vu, vu, vu, vu, vu, vu, vu, vu, vu, vu, vu, vu, vu, vu, vu, vu, vu, vu, vu, vu, vu, vu, vu, vu, vu, vu, vu, vu, vu, vu, vu, vu, vu, vu, vu, vu, vu, vu, vu, vu, vu, vu, vu, vu, vu, vu, vu, vu, vu, vu, vu, vu, vu, vu, vu, vu, vu, vu, vu, vu, vu, vu, vu, vu, vu], bx := [], np := 0 }
theorem lParses_c1 {R : Type} (m : Int) (k : V → Bx → Option R) (F : Nat) : lParses_K0 m k F .rt (lParses_E1) =
    k (vb false) [] := by kernel_rfl
noncomputable def lParses_m1 : List Bool := [false, false, false, false, false, false, false, false, false, false, false, false, false, false, false, false, false, false, false, false, false, false, false, false, false, false, false, false, false, false, false, false, false, false, false, false, false, false, false, false, false, false, false, false, false, false, false, false, false, false, false, false, false, false, true, true, true, false, false, false, false, false, false, false, false, true, true, true, false, false, false, false, false, false, false, false, false, false, false, false, false, false, false, false, false, false, false, false, false, false, false, false, false, false, false, false, false, false, false, false, false, false, false, false, false, false, false, false, false, false]
noncomputable def lParses_b1 : Code := (cA (cA (cB (cB (cB (cA (cA (cB (cB (cA (cA (cB (cA (cB (cB (cB (cB (cB (bd Tryd.f10)))))))))))))))))))
noncomputable def lParses_S1 (s : ByteArray) (v1 : Int) (v2 : List (List C)) (v3 : Int) (v4 : Int) : St := { env := [vu, vu, vu, vu, vu, vu, vu, vu, vu, vu, vu, vu, vu, vu, vu, vu, vu, vu, vu, vu, vu, vu, vu, vu, vu, vu, vu, vu, vu, vu, vu, vu, vu, vu, vu, vu, vu, vu, vu, vu, vu, vu, vu, vu, vu, vu, vu, vu, vu, vu, vu, vu, vu, vu, (vc (.sl 2 (parT s))), (vi ((↑(parT s).length : Int))), (vi v1), vu, vu, vu, vu, vu, vu, vu, vu, (vc (.sl 6 v2)), (vi v3), (vi v4), vu, vu, vu, vu, vu, vu, vu, vu, vu, vu, vu, vu, vu, vu, vu, vu, vu, vu, vu, vu, vu, vu, vu, vu, vu, vu, vu, vu, vu, vu, vu, vu, vu, vu, vu, vu, vu, vu, vu, vu, vu, vu], bx := [], np := 0 }
noncomputable def lParses_L1 {R : Type} (m : Int) (K : X → St → Option R) (F n : Nat) (s : ByteArray) (v1 : Int) (v2 : List (List C)) (v3 : Int) (v4 : Int) : Option R := loopV (headM lParses_m1) (exec (lParses_cf m) F lParses_b1) (exitK (lParses_cf m) K) n (lParses_S1 s v1 v2 v3 v4)
noncomputable def lParses_K1 {R : Type} (m : Int) (K : X → St → Option R) (F n : Nat) : X → St → Option R := (blockK 2 (blockK 1 (seqK (lParses_cf m) F (cB (cB (cB (cA (cA (cB (cA (cB (cB (cB (cB (cB (bd Tryd.f10))))))))))))) (loopK (headM lParses_m0) (exec (lParses_cf m) F lParses_b0) (exitK (lParses_cf m) K) n))))
noncomputable def lParses_E2 : St := { env := [vu, vu, (vb false), vu, vu, vu, vu, vu, vu, vu, vu, vu, vu, vu, vu, vu, vu, vu, vu, vu, vu, vu, vu, vu, vu, vu, vu, vu, vu, vu, vu, vu, vu, vu, vu, vu, vu, vu, vu, vu, vu, vu, vu, vu, vu, vu, vu, vu, vu, vu, vu, vu, vu, vu, vu, vu, vu, vu, vu, vu, vu, vu, vu, vu, vu, vu, vu, vu, vu, vu, vu, vu, vu, vu, vu, vu, vu, vu, vu, vu, vu, vu, vu, vu, vu, vu, vu, vu, vu, vu, vu, vu, vu, vu, vu, vu, vu, vu, vu, vu, vu, vu, vu, vu, vu, vu, vu, vu, vu, vu], bx := [], np := 0 }
theorem lParses_c2 {R : Type} (m : Int) (K : X → St → Option R) (F n : Nat) : lParses_K1 m K F n .rt (lParses_E2) =
    K .rt (lParses_E1) := by kernel_rfl
noncomputable def lParses_m2 : List Bool := [false, false, false, false, false, false, false, false, false, false, false, false, false, false, false, false, false, false, false, false, false, false, false, false, false, false, false, false, false, false, false, false, false, false, false, false, false, false, false, false, false, false, false, false, false, false, false, false, false, false, false, false, false, false, true, true, true, false, false, false, false, false, false, false, false, true, true, true, false, false, false, false, false, false, false, false, false, false, false, false, false, false, true, true, true, false, false, false, false, false, false, false, false, false, false, false, false, false, false, false, false, false, false, false, false, false, false, false, false, false]
noncomputable def lParses_b2 : Code := (cA (cA (cB (cB (cB (cA (cA (cB (cB (cA (cA (cB (cB (cB (cA (cA (cB (cB (cA (cA (cB (cA (cB (cB (cB (cB (cB (bd Tryd.f10))))))))))))))))))))))))))))
noncomputable def lParses_S2 (s : ByteArray) (v1 : Int) (v2 : List (List C)) (v3 : Int) (v4 : Int) (v5 : List (List C)) (v6 : Int) (v7 : Int) : St := { env := [vu, vu, vu, vu, vu, vu, vu, vu, vu, vu, vu, vu, vu, vu, vu, vu, vu, vu, vu, vu, vu, vu, vu, vu, vu, vu, vu, vu, vu, vu, vu, vu, vu, vu, vu, vu, vu, vu, vu, vu, vu, vu, vu, vu, vu, vu, vu, vu, vu, vu, vu, vu, vu, vu, (vc (.sl 2 (parT s))), (vi ((↑(parT s).length : Int))), (vi v1), vu, vu, vu, vu, vu, vu, vu, vu, (vc (.sl 6 v2)), (vi v3), (vi v4), vu, vu, vu, vu, vu, vu, vu, vu, vu, vu, vu, vu, vu, vu, (vc (.sl 3 v5)), (vi v6), (vi v7), vu, vu, vu, vu, vu, vu, vu, vu, vu, vu, vu, vu, vu, vu, vu, vu, vu, vu, vu, vu, vu, vu, vu, vu, vu], bx := [], np := 0 }
noncomputable def lParses_L2 {R : Type} (m : Int) (K : X → St → Option R) (F n : Nat) (s : ByteArray) (v1 : Int) (v2 : List (List C)) (v3 : Int) (v4 : Int) (v5 : List (List C)) (v6 : Int) (v7 : Int) : Option R := loopV (headM lParses_m2) (exec (lParses_cf m) F lParses_b2) (exitK (lParses_cf m) K) n (lParses_S2 s v1 v2 v3 v4 v5 v6 v7)
noncomputable def lParses_K2 {R : Type} (m : Int) (K : X → St → Option R) (F n : Nat) : X → St → Option R := (blockK 4 (blockK 3 (seqK (lParses_cf m) F (cB (cB (cB (cA (cA (cB (cB (cB (cA (cA (cB (cB (cA (cA (cB (cA (cB (cB (cB (cB (cB (bd Tryd.f10)))))))))))))))))))))) (loopK (headM lParses_m1) (exec (lParses_cf m) F lParses_b1) (exitK (lParses_cf m) K) n))))
noncomputable def lParses_E3 : St := { env := [vu, vu, (vb false), vu, vu, vu, vu, vu, vu, vu, vu, vu, vu, vu, vu, vu, vu, vu, vu, vu, vu, vu, vu, vu, vu, vu, vu, vu, vu, vu, vu, vu, vu, vu, vu, vu, vu, vu, vu, vu, vu, vu, vu, vu, vu, vu, vu, vu, vu, vu, vu, vu, vu, vu, vu, vu, vu, vu, vu, vu, vu, vu, vu, vu, vu, vu, vu, vu, vu, vu, vu, vu, vu, vu, vu, vu, vu, vu, vu, vu, vu, vu, vu, vu, vu, vu, vu, vu, vu, vu, vu, vu, vu, vu, vu, vu, vu, vu, vu, vu, vu, vu, vu, vu, vu, vu, vu, vu, vu, vu], bx := [], np := 0 }
theorem lParses_c3 {R : Type} (m : Int) (K : X → St → Option R) (F n : Nat) : lParses_K2 m K F n .rt (lParses_E3) =
    K .rt (lParses_E2) := by kernel_rfl
noncomputable def lParses_E4 (s : ByteArray) (v1 : Int) (v2 : List (List C)) (v3 : Int) (v4 : Int) : St := { env := [vu, vu, vu, vu, vu, vu, vu, vu, vu, vu, vu, vu, vu, vu, vu, vu, vu, vu, vu, vu, vu, vu, vu, vu, vu, vu, vu, vu, vu, vu, vu, vu, vu, vu, vu, vu, vu, vu, vu, vu, vu, vu, vu, vu, vu, vu, vu, vu, vu, vu, vu, vu, vu, vu, (vc (.sl 2 (parT s))), (vi ((↑(parT s).length : Int))), (vi v1), vu, vu, vu, vu, vu, vu, vu, vu, (vc (.sl 6 v2)), (vi v3), (vi v4), vu, vu, vu, vu, vu, vu, vu, vu, vu, vu, vu, vu, vu, vu, vu, vu, vu, vu, vu, vu, vu, vu, vu, vu, vu, vu, vu, vu, vu, vu, vu, vu, vu, vu, vu, vu, vu, vu, vu, vu, vu, vu], bx := [], np := 0 }
theorem lParses_c4 {R : Type} (m : Int) (K : X → St → Option R) (F n : Nat) (s : ByteArray) (v1 : Int) (v2 : List (List C)) (v3 : Int) (v4 : Int) : lParses_K2 m K F n (.ex 4) (lParses_E4 s v1 v2 v3 v4) =
    lParses_L1 m K F n s v1 v2 v3 (IntKind.i64.wrap (v4 + (1 : Int))) := by kernel_rfl
theorem lParses_r2 {R : Type} (m : Int) (K : X → St → Option R) (F n : Nat) (s : ByteArray) (v1 : Int) (v2 : List (List C)) (v3 : Int) (v4 : Int) (v5 : List (List C)) (v6 : Int) (v7 : Int) : lParses_L2 m K F (n + 1) s v1 v2 v3 v4 v5 v6 v7 =
    (bif decide (v7 < v6) then
      (bif decide ((0 : Int) ≤ v7) then
        (getT v5 v7.toNat fun z3 =>
          (bif (List.take (3 : Nat) z3).length == (3 : Nat) then
            (bif shOk [Sh.str, Sh.str, Sh.bool] (List.take (3 : Nat) z3) then
              (bif decide (((List.take (3 : Nat) z3).getD (0 : Nat) C.nf).toStr.size < (1000000 : Nat)) then
                (bif !wordB ((List.take (3 : Nat) z3).getD (0 : Nat) C.nf).toStr then
                  K .rt (lParses_E3)
                else (bif !((List.take (3 : Nat) z3).getD (1 : Nat) C.nf).toStr.toList == (ByteArray.mk #[]).toList then
                    (bif ((List.take (3 : Nat) z3).getD (2 : Nat) C.nf).toBool then
                      K .rt (lParses_E3)
                    else (bif decide (((List.take (3 : Nat) z3).getD (1 : Nat) C.nf).toStr.size < (1000000 : Nat)) then
                        (bif !wordB ((List.take (3 : Nat) z3).getD (1 : Nat) C.nf).toStr then
                          K .rt (lParses_E3)
                        else lParses_L2 m K F n s v1 v2 v3 v4 v5 v6 (IntKind.i64.wrap (v7 + (1 : Int))))
                      else none))
                  else lParses_L2 m K F n s v1 v2 v3 v4 v5 v6 (IntKind.i64.wrap (v7 + (1 : Int)))))
              else none)
            else none)
          else none))
      else none)
    else K (.ex 4) (lParses_E4 s v1 v2 v3 v4)) := by kernel_rfl
noncomputable def lParses_E5 (s : ByteArray) (v1 : Int) : St := { env := [vu, vu, vu, vu, vu, vu, vu, vu, vu, vu, vu, vu, vu, vu, vu, vu, vu, vu, vu, vu, vu, vu, vu, vu, vu, vu, vu, vu, vu, vu, vu, vu, vu, vu, vu, vu, vu, vu, vu, vu, vu, vu, vu, vu, vu, vu, vu, vu, vu, vu, vu, vu, vu, vu, (vc (.sl 2 (parT s))), (vi ((↑(parT s).length : Int))), (vi v1), vu, vu, vu, vu, vu, vu, vu, vu, vu, vu, vu, vu, vu, vu, vu, vu, vu, vu, vu, vu, vu, vu, vu, vu, vu, vu, vu, vu, vu, vu, vu, vu, vu, vu, vu, vu, vu, vu, vu, vu, vu, vu, vu, vu, vu, vu, vu, vu, vu, vu, vu, vu, vu], bx := [], np := 0 }
theorem lParses_c5 {R : Type} (m : Int) (K : X → St → Option R) (F n : Nat) (s : ByteArray) (v1 : Int) : lParses_K1 m K F n (.ex 2) (lParses_E5 s v1) =
    lParses_L0 m K F n s (IntKind.i64.wrap (v1 + (1 : Int))) := by kernel_rfl
theorem lParses_r1 {R : Type} (m : Int) (K : X → St → Option R) (F n : Nat) (s : ByteArray) (v1 : Int) (v2 : List (List C)) (v3 : Int) (v4 : Int) : lParses_L1 m K F (n + 1) s v1 v2 v3 v4 =
    (bif decide (v4 < v3) then
      (bif decide ((0 : Int) ≤ v4) then
        (getT v2 v4.toNat fun z2 =>
          (bif (List.take (6 : Nat) z2).length == (6 : Nat) then
            (bif shOk [Sh.str, Sh.sl (3 : Nat), Sh.int IntKind.i64, Sh.str, Sh.str, Sh.sl (4 : Nat)] (List.take (6 : Nat) z2) then
              (bif decide (((List.take (6 : Nat) z2).getD (0 : Nat) C.nf).toStr.size < (1000000 : Nat)) then
                (bif !wordB ((List.take (6 : Nat) z2).getD (0 : Nat) C.nf).toStr then
                  K .rt (lParses_E2)
                else (bif goodT (30 : Nat) [C.int IntKind.i64 ((List.take (6 : Nat) z2).getD (2 : Nat) C.nf).toInt, C.str ((List.take (6 : Nat) z2).getD (3 : Nat) C.nf).toStr, C.str ((List.take (6 : Nat) z2).getD (4 : Nat) C.nf).toStr, C.sl (4 : Nat) ((List.take (6 : Nat) z2).getD (5 : Nat) C.nf).toEls] then
                    lParses_L2 m (lParses_K2 m K F n) F F s v1 v2 v3 v4 (((List.take (6 : Nat) z2).getD (1 : Nat) C.nf).toEls) ((↑((List.take (6 : Nat) z2).getD (1 : Nat) C.nf).toEls.length : Int)) 0
                  else none))
              else none)
            else none)
          else none))
      else none)
    else K (.ex 2) (lParses_E5 s v1)) := by kernel_rfl
noncomputable def lParses_E6 : St := { env := (List.replicate 110 vu), bx := [], np := 0 }
theorem lParses_c6 {R : Type} (m : Int) (k : V → Bx → Option R) (F : Nat) : lParses_K0 m k F (.ex 0) (lParses_E6) =
    k (vb true) [] := by kernel_rfl
theorem lParses_r0 {R : Type} (m : Int) (K : X → St → Option R) (F n : Nat) (s : ByteArray) (v1 : Int) : lParses_L0 m K F (n + 1) s v1 =
    (bif decide (v1 < (↑(parT s).length : Int)) then
      (bif decide ((0 : Int) ≤ v1) then
        (getT (parT s) v1.toNat fun z1 =>
          (bif (List.take (2 : Nat) z1).length == (2 : Nat) then
            (bif shOk [Sh.str, Sh.sl (6 : Nat)] (List.take (2 : Nat) z1) then
              (bif decide (((List.take (2 : Nat) z1).getD (0 : Nat) C.nf).toStr.size < (1000000 : Nat)) then
                (bif !wordB ((List.take (2 : Nat) z1).getD (0 : Nat) C.nf).toStr then
                  K .rt (lParses_E1)
                else lParses_L1 m (lParses_K1 m K F n) F F s v1 (((List.take (2 : Nat) z1).getD (1 : Nat) C.nf).toEls) ((↑((List.take (2 : Nat) z1).getD (1 : Nat) C.nf).toEls.length : Int)) 0)
              else none)
            else none)
          else none))
      else none)
    else K (.ex 0) (lParses_E6)) := by kernel_rfl
theorem lParses_start {R : Type} (m : Int) (k : V → Bx → Option R) (F : Nat) (s : ByteArray) : runFn (lParses_cf m) F Tryd.f10 (bd Tryd.f10) [vs s] [] k =
    (bif decide ((↑s.size : Int) > (4000 : Int)) then
      k (vb true) []
    else (bif decide (s.size < (1000000 : Nat)) then
        (bif decide (s.size < (1000000 : Nat)) then
          (bif parE s != parE s then
            k (vb false) []
          else (bif !(parL s == parL s && (parC s == parC s && true)) then
              k (vb false) []
            else (bif sameQ [C.sl (2 : Nat) (parT s)] [C.sl (2 : Nat) (parT s)] then
                lParses_L0 m (lParses_K0 m k F) F F s 0
              else none)))
        else none)
      else none)) := by kernel_rfl
end Go.Proofs.YtniiimpcakmkbaaDoor

/- grammar: Parse and the reference's Parse -/
set_option linter.unusedVariables false
namespace Go.Proofs.YtniiimpcakmkbaaDoor
open Go Vm Go.RowKit
theorem rd0C_ok {m : Int} {fn : FuncId} {w : Nat} {f : List (List C) → PS → PS × Nde} (h : SpecOk Tryd.prog (globG m) fn (rdC w f)) : SpecOk Tryd.prog (globG m) fn (rd0CS w f) := by
  intro a b v b' hr
  unfold rd0CS at hr
  split at hr
  · rename_i L el ec a o
    rcases run_ite hr with ⟨hl, hx⟩ | ⟨_, hx⟩
    · obtain ⟨rfl, rfl⟩ := run_ret hx
      refine FnRes.weakArg (n := 0) (m := ⟨[.sl 4 L, .int .i64 el, .int .i64 ec, .int .i64 a, .int .i64 o, .ni], [], 6⟩) (m' := ⟨[.sl 4 L, .int .i64 el, .int .i64 ec, .int .i64 a, .int .i64 o, .er 0 172 [0, 1]], [], 6⟩) rfl (fun g cs h => relMx_ni (j := 5) rfl h) (h _ _ _ _ ?_)
      show (rdC w f [pp] [pB L el ec ⟨a, o, 0⟩]).run fin2 = _
      unfold rdC
      simp only [Tr.run]
      rw [hl]; rfl
    · exact (run_no hx).elim
  · cases hr
theorem tabCW_ok (m : Int) : TabS Tryd.prog (globG m) [(14, lexS), (51, rd0CS 1 cfgA), (64, gFailS), (65, gIsS), (66, gPlaceS)] :=
  .cons ((lex_ok m).mono globG_T) (.cons (rd0C_ok (cconfig_ok m)) (.cons (gfailS_ok m) (.cons (gIs_ok m) (.cons (gplace_ok m) .nil))))
theorem rdP_good {s : ByteArray} (hz : s.size < 1000000) : St8 (lexP s).1 (rdP s).1 ∧ ∃ ts, (rdP s).2 = [.sl 2 ts] := by
  obtain ⟨h1, h2⟩ := lexP_toks s hz
  refine ⟨(cfg_good (st0 h1 h2)).1, ?_⟩
  unfold rdP; rw [cfgA_eq]; exact ⟨_, rfl⟩
theorem take1 {x : Nde} (h : ∃ ts, x = [.sl 2 ts]) : List.take 1 (x ++ []) = x := by obtain ⟨ts, rfl⟩ := h; rfl
theorem wholeC_run (m : Int) (s : ByteArray) (hz : s.size < 1000000) : runFn (e_whole_cf m) 0 Tryd.f50 (bd Tryd.f50) [vs s, vc (C.fn (51 : FuncId) [])] [] fin2 = some (.tup [.agg ⟨parN s, [], 1⟩, .agg (plM (parL s) (parC s)), .w (.d (.int .i64 (parE s)))], []) := by
  obtain ⟨h1, h2⟩ := lexP_toks s hz
  obtain ⟨g1, g2⟩ := rdP_good hz
  have g3 := end_good g1
  rw [e_whole_start]
  simp only [dup2, Bool.and_true]
  rw [decide_eq_true hz, cond_true]
  unfold parN parL parC parE
  cases he : (lexP s).2.2.2 == 0 with
  | false =>
    have : ((lexP s).2.2.2 != 0) = true := by unfold bne; rw [he]; rfl
    rw [this, cond_true]; rfl
  | true =>
    have : ((lexP s).2.2.2 != 0) = false := by unfold bne; rw [he]; rfl
    rw [this, cond_false, st_t (st0 h1 h2), cond_true]
    have e0 : cfgA (lexP s).1 ⟨0, 0, 0⟩ = rdP s := rfl
    simp only [e0, Bool.true_and, cond_true]
    have key : ∀ t : PS, St8 (lexP s).1 t → (bif decide (t.er ≤ 2) then
        (bif Nat.beq t.er 2 then (bif stOk (lexP s).1 t then fin2 (.tup [.agg ⟨noCfg, [], 1⟩, .agg (plM (plL (lexP s).1 (lexP s).2.1 t) (plC (lexP s).1 (lexP s).2.2.1 t)), .w (.d (.int .i64 12))]) [] else none)
         else bif decide (t.er ≤ 2) then
          (bif Nat.beq t.er 1 then (bif stOk (lexP s).1 t then fin2 (.tup [.agg ⟨noCfg, [], 1⟩, .agg (plM (plL (lexP s).1 (lexP s).2.1 t) (plC (lexP s).1 (lexP s).2.2.1 t)), .w (.d (.int .i64 11))]) [] else none)
           else fin2 (.tup [.agg ⟨List.take 1 (List.take 1 ((rdP s).2 ++ []) ++ []), [], 1⟩, .agg (plM 0 0), .w (.d (.int .i64 0))]) []) else none) else none) =
        some (.tup [.agg ⟨bif Nat.beq t.er 0 then (rdP s).2 else noCfg, [], 1⟩, .agg (plM (bif Nat.beq t.er 0 then 0 else plL (lexP s).1 (lexP s).2.1 t) (bif Nat.beq t.er 0 then 0 else plC (lexP s).1 (lexP s).2.2.1 t)), .w (.d (.int .i64 (erC t.er)))], []) := by
      intro t ht
      rw [decide_eq_true ht.e2, st_t ht, take1 (x := List.take 1 ((rdP s).2 ++ [])) (by rw [take1 g2]; exact g2), take1 g2]
      rcases er3 ht.e2 with h | h | h <;> rw [h] <;> rfl
    unfold endP endG
    by_cases hlt : (rdP s).1.at_ < ((lexP s).1.length : Int)
    · rw [decide_eq_true hlt, cond_true, cond_true]
      exact key (failG 1 (rdP s).1) (gfail_ok g1 (by omega)).1
    · rw [decide_eq_false hlt, cond_false, cond_false]
      exact key (rdP s).1 g1
theorem wholeC_ok (m : Int) : SpecOk Tryd.prog (globG m) 50 wholeCS := by
  intro a b v b' h
  unfold wholeCS at h
  split at h
  · rename_i s
    rcases run_ite h with ⟨hl, hx⟩ | ⟨_, hx⟩ <;> clear h <;> have h := hx <;> clear hx
    · rw [decide_eq_true_eq] at hl
      obtain ⟨rfl, rfl⟩ := run_ret h
      exact specAtQ eqs_ok mix vti_ok Tryd.func50 rfl (by kernel_rfl) (tabCW_ok m) 0 (wholeC_run m s hl)
    · exact (run_no h).elim
  · cases h
theorem parN_sl {s : ByteArray} (hz : s.size < 1000000) : parN s = [.sl 2 (parT s)] := by
  obtain ⟨_, ts, h⟩ := rdP_good hz
  unfold parT parN
  cases ((lexP s).2.2.2 == 0 && Nat.beq (endP s).er 0) with
  | true => rw [cond_true, h]; rfl
  | false => rfl
theorem parse_ok (m : Int) : SpecOk Tryd.prog (globG m) 25 parseS := by
  intro a b v b' h
  unfold parseS at h
  split at h
  · rename_i s
    rcases run_ite h with ⟨hl, hx⟩ | ⟨_, hx⟩ <;> clear h <;> have h := hx <;> clear hx
    · rw [decide_eq_true_eq] at hl
      obtain ⟨rfl, rfl⟩ := run_ret h
      refine specAtQ eqs_ok mix vti_ok Tryd.func25 rfl (by kernel_rfl) (.cons (wholeC_ok m) .nil) 0 (Eq.trans (e_parse_start m fin2 0 s) ?_)
      rw [decide_eq_true hl, cond_true, parN_sl hl]; rfl
    · exact (run_no h).elim
  · cases h
end Go.Proofs.YtniiimpcakmkbaaDoor

/- grammar: the reference's Parse; SameConfig -/
set_option linter.unusedVariables false
namespace Go.Proofs.YtniiimpcakmkbaaDoor
open Go Vm Go.RowKit
theorem rparse_run (m : Int) (s : ByteArray) (hz : s.size < 1000000) : runFn (e_rparse_cf m) 0 Tryd.f26 (bd Tryd.f26) [vs s] [] fin2 = some (.tup [.agg ⟨parN s, [], 1⟩, .w (.d (.int .i64 (parL s))), .w (.d (.int .i64 (parC s))), .w (.d (.int .i64 (parE s)))], []) := by
  obtain ⟨h1, h2⟩ := lexP_toks s hz
  obtain ⟨g1, g2⟩ := rdP_good hz
  have g3 := end_good g1
  rw [e_rparse_start, decide_eq_true hz, cond_true]
  unfold parN parL parC parE
  cases he : (lexP s).2.2.2 == 0 with
  | false =>
    have : ((lexP s).2.2.2 != 0) = true := by unfold bne; rw [he]; rfl
    rw [this, cond_true]; rfl
  | true =>
    have : ((lexP s).2.2.2 != 0) = false := by unfold bne; rw [he]; rfl
    have hs0 := st0 h1 h2
    have hr : (⟨0, 0, 0⟩ : RPS) = ofP ⟨0, 0, 0⟩ := rfl
    have e0 : cfgA (lexP s).1 ⟨0, 0, 0⟩ = rdP s := rfl
    rw [this, cond_false, hr, okR_s hs0, cond_true, readR_s cfgA hs0]
    simp only [e0, Bool.true_and, cond_true]
    have e1 : rP (ofP (rdP s).1).at_ (ofP (rdP s).1).op (ofP (rdP s).1).c = (rdP s).1 := rP_s g1.e2
    have e2 : okC (ofP (rdP s).1).c = true := okC_er _
    rw [e1, e2, st_t g1, Bool.and_self, cond_true]
    have ew : endG (lexP s).1 (rdP s).1 = endP s := rfl
    rw [ew]
    have e3 : (endP s).er ≤ 2 := g3.e2
    rw [take1 (x := List.take 1 ((rdP s).2 ++ [])) (by rw [take1 g2]; exact g2), take1 g2]
    rcases er3 e3 with h | h | h <;> rw [h] <;> rfl
theorem rparse_ok (m : Int) : SpecOk Tryd.prog (globG m) 26 rParseS := by
  intro a b v b' h
  unfold rParseS at h
  split at h
  · rename_i s
    rcases run_ite h with ⟨hl, hx⟩ | ⟨_, hx⟩ <;> clear h <;> have h := hx <;> clear hx
    · rw [decide_eq_true_eq] at hl
      obtain ⟨rfl, rfl⟩ := run_ret h
      rw [← parN_sl hl]
      exact specAtQ eqs_ok mix vti_ok Tryd.func26 rfl (by kernel_rfl) (.cons ((rlex_ok m).mono globG_T) (.cons (dcfg_ok m) (.cons (rend_ok m) .nil))) 0 (rparse_run m s hl)
    · exact (run_no h).elim
  · cases h
end Go.Proofs.YtniiimpcakmkbaaDoor

/- grammar: SameConfig says so where the two are one -/
set_option linter.unusedVariables false
namespace Go.Proofs.YtniiimpcakmkbaaDoor
open Go Vm Go.RowKit
theorem alOk_parts {x : Nde} (h : alOk x = true) : ∃ (a b : ByteArray) (w : Bool), x = [.str a, .str b, .bool w] := by
  unfold alOk at h
  split at h
  · exact ⟨_, _, _, rfl⟩
  · cases h
theorem relOk_parts {x : Nde} (h : relOk x = true) : ∃ (nm : ByteArray) (al : List (List C)) (k : Int) (a b : ByteArray) (l : List (List C)), x = [.str nm, .sl 3 al, .int .i64 k, .str a, .str b, .sl 4 l] ∧ al.all alOk = true ∧ al.length < 2000000 ∧ tree 30 (ndC k a b l) = true := by
  unfold relOk at h
  split at h
  · rename_i nm al k a b l
    rw [Bool.and_eq_true, Bool.and_eq_true, decide_eq_true_eq] at h
    exact ⟨_, _, _, _, _, _, rfl, h.1.1, h.1.2, h.2⟩
  · cases h
theorem tyOk_parts {x : Nde} (h : tyOk x = true) : ∃ (nm : ByteArray) (rs : List (List C)), x = [.str nm, .sl 6 rs] ∧ rs.all relOk = true ∧ rs.length < 2000000 := by
  unfold tyOk at h
  split at h
  · rename_i nm rs
    rw [Bool.and_eq_true, decide_eq_true_eq] at h
    exact ⟨_, _, rfl, h.1, h.2⟩
  · cases h
theorem sc_al {R : Type} (m : Int) (K : X → St → Option R) (F : Nat) (x : List (List C)) (v2 : Int) (v3 : List (List C)) (v4 v8 : Int) (al : List (List C)) (h : al.all alOk = true) (hl : al.length < 2000000) (v10 : ByteArray) (v12 : Int) (v13 v14 : ByteArray) (v15 : List (List C)) (v16 : ByteArray) (v18 : Int) (v19 v20 : ByteArray) (v21 y22 : List (List C)) (v23 : ByteArray) (v24 : List (List C)) : ∀ (n i : Nat), i ≤ al.length → al.length - i < n →
    e_same_L2 m K F n x v2 v3 v4 v8 (al.length : Int) v10 al v12 v13 v14 v15 v16 al v18 v19 v20 v21 y22 v23 v24 (i : Int) = K (.ex 4) (e_same_E4 x v2 v3 v4 v8 y22 v23 v24) := by
  intro n
  induction n with
  | zero => intro i h1 h2; omega
  | succ n ih =>
    intro i h1 h2
    rw [e_same_r2]
    by_cases hi : i < al.length
    · obtain ⟨a, b, w, he⟩ := alOk_parts (List.all_eq_true.1 h al[i] (List.getElem_mem hi))
      have hg : al[i]? = some [.str a, .str b, .bool w] := by rw [List.getElem?_eq_getElem hi, he]
      rw [decide_eq_true (by omega), cond_true, decide_eq_true (by omega), cond_true, getT_at rfl hg]
      have e1 : List.take 3 ([.str a, .str b, .bool w] : List C) = [.str a, .str b, .bool w] := rfl
      have e3 : (([.str a, .str b, .bool w] : List C).length == 3) = true := rfl
      have e4 : shOk [Sh.str, Sh.str, Sh.bool] ([.str a, .str b, .bool w] : List C) = true := rfl
      rw [e1, e3, cond_true, e4, cond_true, cond_true, getT_at rfl hg, e1, e3, cond_true, e4, cond_true]
      rw [beq_self_eq_true, beq_self_eq_true, beq_self_eq_true, w64 _ (by omega) (by omega)]
      exact ih (i + 1) (by omega) (by omega)
    · have : i = al.length := by omega
      subst this
      rw [decide_eq_false (by omega), cond_false]
theorem sc_rel {R : Type} (m : Int) (K : X → St → Option R) (F : Nat) (hF : 2000000 ≤ F) (x : List (List C)) (v2 : Int) (rs : List (List C)) (h : rs.all relOk = true) (hl : rs.length < 2000000) (v5 : ByteArray) (y7 : List (List C)) : ∀ (n i : Nat), i ≤ rs.length → rs.length - i < n →
    e_same_L1 m K F n x v2 rs (rs.length : Int) v5 rs y7 (i : Int) = K (.ex 2) (e_same_E5 x v2 y7) := by
  intro n
  induction n with
  | zero => intro i h1 h2; omega
  | succ n ih =>
    intro i h1 h2
    rw [e_same_r1]
    by_cases hi : i < rs.length
    · obtain ⟨nm, al, k, a, b, l, he, ha, hal, ht⟩ := relOk_parts (List.all_eq_true.1 h rs[i] (List.getElem_mem hi))
      have hg : rs[i]? = some [.str nm, .sl 3 al, .int .i64 k, .str a, .str b, .sl 4 l] := by rw [List.getElem?_eq_getElem hi, he]
      rw [decide_eq_true (by omega), cond_true, decide_eq_true (by omega), cond_true, getT_at rfl hg]
      have e1 : List.take 6 ([.str nm, .sl 3 al, .int .i64 k, .str a, .str b, .sl 4 l] : List C) = [.str nm, .sl 3 al, .int .i64 k, .str a, .str b, .sl 4 l] := rfl
      have e3 : (([.str nm, .sl 3 al, .int .i64 k, .str a, .str b, .sl 4 l] : List C).length == 6) = true := rfl
      have e4 : shOk [Sh.str, Sh.sl (3 : Nat), Sh.int IntKind.i64, Sh.str, Sh.str, Sh.sl (4 : Nat)] ([.str nm, .sl 3 al, .int .i64 k, .str a, .str b, .sl 4 l] : List C) = true := rfl
      rw [e1, e3, cond_true, e4, cond_true, cond_true, getT_at rfl hg, e1, e3, cond_true, e4, cond_true]
      have e5 : (eqN (ndC k a b l) (ndC k a b l) && tree 30 (ndC k a b l)) = true := by rw [eqN_refl, ht]; rfl
      rw [beq_self_eq_true, bne_self_eq_false]
      refine Eq.trans (congrArg (fun c => bif !true then _ else bif false then _ else bif c then _ else none) e5) ?_
      refine Eq.trans (sc_al m (e_same_K2 m K F n) F x v2 rs (rs.length : Int) (i : Int) al ha hal nm k a b l nm k a b l y7 v5 rs F 0 (by omega) (by omega)) ?_
      rw [e_same_c4, w64 _ (by omega) (by omega)]
      exact ih (i + 1) (by omega) (by omega)
    · have : i = rs.length := by omega
      subst this
      rw [decide_eq_false (by omega), cond_false]
end Go.Proofs.YtniiimpcakmkbaaDoor

/- grammar: SameConfig, the law's table -/
set_option linter.unusedVariables false
namespace Go.Proofs.YtniiimpcakmkbaaDoor
open Go Vm Go.RowKit
theorem eq72 : Tryd.prog.stoodInHeld 72 = false ∧ Tryd.prog.eqGuardType Tryd.prog.depth 72 = false := ⟨by kernel_rfl, by kernel_rfl⟩
theorem eqs3_ok : EqsOk Tryd.prog [25, 35, 72] := by
  intro t ht
  simp only [List.mem_cons, List.mem_nil_iff, or_false] at ht
  rcases ht with rfl | rfl | rfl
  · exact eq25
  · exact eq35
  · exact eq72
theorem sc_ty {R : Type} (m : Int) (k : V → Bx → Option R) (F : Nat) (hF : 2000000 ≤ F) (ts : List (List C)) (h : ts.all tyOk = true) (hl : ts.length < 2000000) : ∀ (n i : Nat), i ≤ ts.length → ts.length - i < n →
    e_same_L0 m (e_same_K0 m k F) F n ts ts (i : Int) = k (vb true) [] := by
  intro n
  induction n with
  | zero => intro i h1 h2; omega
  | succ n ih =>
    intro i h1 h2
    rw [e_same_r0]
    by_cases hi : i < ts.length
    · obtain ⟨nm, rs, he, ha, hal⟩ := tyOk_parts (List.all_eq_true.1 h ts[i] (List.getElem_mem hi))
      have hg : ts[i]? = some [.str nm, .sl 6 rs] := by rw [List.getElem?_eq_getElem hi, he]
      rw [decide_eq_true (by omega), cond_true, decide_eq_true (by omega), cond_true, getT_at rfl hg]
      have e1 : List.take 2 ([.str nm, .sl 6 rs] : List C) = [.str nm, .sl 6 rs] := rfl
      have e3 : (([.str nm, .sl 6 rs] : List C).length == 2) = true := rfl
      have e4 : shOk [Sh.str, Sh.sl (6 : Nat)] ([.str nm, .sl 6 rs] : List C) = true := rfl
      rw [e1, e3, cond_true, e4, cond_true, cond_true, getT_at rfl hg, e1, e3, cond_true, e4, cond_true]
      rw [beq_self_eq_true, bne_self_eq_false]
      refine Eq.trans (sc_rel m (e_same_K1 m (e_same_K0 m k F) F n) F hF ts (i : Int) rs ha hal nm ts F 0 (by omega) (by omega)) ?_
      rw [e_same_c5, w64 _ (by omega) (by omega)]
      exact ih (i + 1) (by omega) (by omega)
    · have : i = ts.length := by omega
      subst this
      rw [decide_eq_false (by omega), cond_false, e_same_c6]
theorem cfgOk_parts {x : Nde} (h : cfgOk x = true) : ∃ (ts : List (List C)), x = [.sl 2 ts] ∧ ts.all tyOk = true ∧ ts.length < 2000000 := by
  unfold cfgOk at h
  split at h
  · rename_i ts
    rw [Bool.and_eq_true, decide_eq_true_eq] at h
    exact ⟨_, rfl, h.1, h.2⟩
  · cases h
theorem sameC_run (m : Int) (ts : List (List C)) (h : ts.all tyOk = true) (hl : ts.length < 2000000) (F : Nat) (hF : 2000000 ≤ F) :
    runFn (e_same_cf m) F Tryd.f27 (bd Tryd.f27) [V.t (T.agg { l := [C.sl (2 : Nat) ts], lk := [], n := (1 : Nat) }), V.t (T.agg { l := [C.sl (2 : Nat) ts], lk := [], n := (1 : Nat) })] [] fin2 = some (vb true, []) := by
  rw [e_same_start, bne_self_eq_false, cond_false]
  exact sc_ty m fin2 F hF ts h hl F 0 (by omega) (by omega)
theorem sameC_ok (m : Int) : SpecOk Tryd.prog (globG m) 27 sameCS := by
  intro a b v b' h
  unfold sameCS at h
  split at h
  · rename_i x y
    rcases run_ite h with ⟨hl, hx⟩ | ⟨_, hx⟩ <;> clear h <;> have h := hx <;> clear hx
    · obtain ⟨rfl, rfl⟩ := run_ret h
      rw [sameQ_eq, Bool.and_eq_true] at hl
      obtain ⟨he, hc⟩ := hl
      have hxy : x = y := by unfold eqN at he; simpa using he
      subst hxy
      obtain ⟨ts, rfl, h1, h2⟩ := cfgOk_parts hc
      exact specAtQ eqs3_ok mix vti_ok Tryd.func27 rfl (by kernel_rfl) (.cons (same_ok m 30) .nil) 2000000 (sameC_run m ts h1 h2 2000000 (Nat.le_refl _))
    · exact (run_no h).elim
  · cases h
theorem tabCL_ok (m : Int) : TabS Tryd.prog (globG m) tabCL := .cons (gawake_ok m) (.cons (parse_ok m) (.cons (rparse_ok m) (.cons (sameC_ok m) (.cons (word_okB m) (.cons (good_ok m 30) .nil)))))
end Go.Proofs.YtniiimpcakmkbaaDoor
