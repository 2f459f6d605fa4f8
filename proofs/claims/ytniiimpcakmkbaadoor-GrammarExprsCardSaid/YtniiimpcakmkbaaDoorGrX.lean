/- YtniiimpcakmkbaaDoorGrX -/
import Derived.Test.YtniiimpcakmkbaaDoorGrE
set_option linter.unusedVariables false
namespace Go.Proofs.YtniiimpcakmkbaaDoor
open Go Vm
noncomputable def g_place_cf (m : Int) : Cfg := mkCfQ [25, 35] (globG m) vti orc0 false [] []
theorem g_place_start {R : Type} (m : Int) (k : V → Bx → Option R) (F : Nat) (L : List (List C)) (el : Int) (ec : Int) (a : Int) (o : Int) (e : Nat) : runFn (g_place_cf m) F Tryd.f66 (bd Tryd.f66) [pp] [pB L el ec { at_ := a, op := o, er := e }] k =
    (bif decide (a < (↑L.length : Int)) then
      (bif decide ((0 : Int) ≤ a) then
        (getT L a.toNat fun z1 =>
          (bif (List.take (2 : Nat) (List.drop (2 : Nat) z1)).length == (2 : Nat) then
            (bif shOk [Sh.int IntKind.i64, Sh.int IntKind.i64] (List.take (2 : Nat) (List.drop (2 : Nat) z1)) then
              k (.t (.agg ⟨[(.int .i64 (((List.take (2 : Nat) (List.drop (2 : Nat) z1)).getD (0 : Nat) C.nf).toInt)), (.int .i64 (((List.take (2 : Nat) (List.drop (2 : Nat) z1)).getD (1 : Nat) C.nf).toInt))], [], 2⟩)) [(some (.cells ⟨[(.sl 4 L), (.int .i64 el), (.int .i64 ec), (.int .i64 a), (.int .i64 o), (.er e 172 [0, 1])], [], 6⟩))]
            else none)
          else none))
      else none)
    else k (.t (.agg ⟨[(.int .i64 el), (.int .i64 ec)], [], 2⟩)) [(some (.cells ⟨[(.sl 4 L), (.int .i64 el), (.int .i64 ec), (.int .i64 a), (.int .i64 o), (.er e 172 [0, 1])], [], 6⟩))]) := by kernel_rfl
noncomputable def g_whole_cf (m : Int) : Cfg := mkCfQ [25, 35] (globG m) vti orcGW false [50, 60] []
theorem g_whole_start {R : Type} (m : Int) (k : V → Bx → Option R) (F : Nat) (s : ByteArray) : runFn (g_whole_cf m) F Tryd.f45 (bd Tryd.f45) [vs s, vc (C.fn (46 : FuncId) [])] [] k =
    (bif decide (s.size < (1000000 : Nat)) then
      (bif (lexP s).snd.snd.snd != (0 : Int) then
        dup 2 (k (.tup [(.agg ⟨[(.int .i64 0), (.str ByteArray.empty), (.str ByteArray.empty), (.sl 4 [])], [], 4⟩), (.agg ⟨[(.int .i64 ((lexP s).snd.fst)), (.int .i64 ((lexP s).snd.snd.fst))], [], 2⟩), (.w (.d (.int .i64 ((lexP s).snd.snd.snd))))]) [])
      else (bif stOk (lexP s).fst { at_ := (0 : Int), op := (0 : Int), er := (0 : Nat) } then
          (bif decide ((unionA (lexP s).fst { at_ := (0 : Int), op := (0 : Int), er := (0 : Nat) }).fst.at_ < (↑(lexP s).fst.length : Int)) then
            (bif decide ((failG (1 : Nat) { at_ := (unionA (lexP s).fst { at_ := (0 : Int), op := (0 : Int), er := (0 : Nat) }).fst.at_, op := (unionA (lexP s).fst { at_ := (0 : Int), op := (0 : Int), er := (0 : Nat) }).fst.op, er := (unionA (lexP s).fst { at_ := (0 : Int), op := (0 : Int), er := (0 : Nat) }).fst.er }).er ≤ (2 : Nat)) && true then
              (bif (failG (1 : Nat) { at_ := (unionA (lexP s).fst { at_ := (0 : Int), op := (0 : Int), er := (0 : Nat) }).fst.at_, op := (unionA (lexP s).fst { at_ := (0 : Int), op := (0 : Int), er := (0 : Nat) }).fst.op, er := (unionA (lexP s).fst { at_ := (0 : Int), op := (0 : Int), er := (0 : Nat) }).fst.er }).er.beq (2 : Nat) then
                dup 2 ((bif stOk (lexP s).fst { at_ := (unionA (lexP s).fst { at_ := (0 : Int), op := (0 : Int), er := (0 : Nat) }).fst.1, op := (unionA (lexP s).fst { at_ := (0 : Int), op := (0 : Int), er := (0 : Nat) }).fst.2, er := (failG (1 : Nat) { at_ := (unionA (lexP s).fst { at_ := (0 : Int), op := (0 : Int), er := (0 : Nat) }).fst.at_, op := (unionA (lexP s).fst { at_ := (0 : Int), op := (0 : Int), er := (0 : Nat) }).fst.op, er := (unionA (lexP s).fst { at_ := (0 : Int), op := (0 : Int), er := (0 : Nat) }).fst.er }).er } && true then
                  k (.tup [(.agg ⟨[(.int .i64 0), (.str ByteArray.empty), (.str ByteArray.empty), (.sl 4 [])], [], 4⟩), (.agg ⟨[(.int .i64 (plL (lexP s).fst (lexP s).snd.fst { at_ := (unionA (lexP s).fst { at_ := (0 : Int), op := (0 : Int), er := (0 : Nat) }).fst.1, op := (unionA (lexP s).fst { at_ := (0 : Int), op := (0 : Int), er := (0 : Nat) }).fst.2, er := (failG (1 : Nat) { at_ := (unionA (lexP s).fst { at_ := (0 : Int), op := (0 : Int), er := (0 : Nat) }).fst.at_, op := (unionA (lexP s).fst { at_ := (0 : Int), op := (0 : Int), er := (0 : Nat) }).fst.op, er := (unionA (lexP s).fst { at_ := (0 : Int), op := (0 : Int), er := (0 : Nat) }).fst.er }).er })), (.int .i64 (plC (lexP s).fst (lexP s).snd.snd.fst { at_ := (unionA (lexP s).fst { at_ := (0 : Int), op := (0 : Int), er := (0 : Nat) }).fst.1, op := (unionA (lexP s).fst { at_ := (0 : Int), op := (0 : Int), er := (0 : Nat) }).fst.2, er := (failG (1 : Nat) { at_ := (unionA (lexP s).fst { at_ := (0 : Int), op := (0 : Int), er := (0 : Nat) }).fst.at_, op := (unionA (lexP s).fst { at_ := (0 : Int), op := (0 : Int), er := (0 : Nat) }).fst.op, er := (unionA (lexP s).fst { at_ := (0 : Int), op := (0 : Int), er := (0 : Nat) }).fst.er }).er }))], [], 2⟩), (.w (.d (.int .i64 12)))]) []
                else none))
              else (bif decide ((failG (1 : Nat) { at_ := (unionA (lexP s).fst { at_ := (0 : Int), op := (0 : Int), er := (0 : Nat) }).fst.at_, op := (unionA (lexP s).fst { at_ := (0 : Int), op := (0 : Int), er := (0 : Nat) }).fst.op, er := (unionA (lexP s).fst { at_ := (0 : Int), op := (0 : Int), er := (0 : Nat) }).fst.er }).er ≤ (2 : Nat)) && true then
                  (bif (failG (1 : Nat) { at_ := (unionA (lexP s).fst { at_ := (0 : Int), op := (0 : Int), er := (0 : Nat) }).fst.at_, op := (unionA (lexP s).fst { at_ := (0 : Int), op := (0 : Int), er := (0 : Nat) }).fst.op, er := (unionA (lexP s).fst { at_ := (0 : Int), op := (0 : Int), er := (0 : Nat) }).fst.er }).er.beq (1 : Nat) then
                    dup 2 ((bif stOk (lexP s).fst { at_ := (unionA (lexP s).fst { at_ := (0 : Int), op := (0 : Int), er := (0 : Nat) }).fst.1, op := (unionA (lexP s).fst { at_ := (0 : Int), op := (0 : Int), er := (0 : Nat) }).fst.2, er := (failG (1 : Nat) { at_ := (unionA (lexP s).fst { at_ := (0 : Int), op := (0 : Int), er := (0 : Nat) }).fst.at_, op := (unionA (lexP s).fst { at_ := (0 : Int), op := (0 : Int), er := (0 : Nat) }).fst.op, er := (unionA (lexP s).fst { at_ := (0 : Int), op := (0 : Int), er := (0 : Nat) }).fst.er }).er } && true then
                      k (.tup [(.agg ⟨[(.int .i64 0), (.str ByteArray.empty), (.str ByteArray.empty), (.sl 4 [])], [], 4⟩), (.agg ⟨[(.int .i64 (plL (lexP s).fst (lexP s).snd.fst { at_ := (unionA (lexP s).fst { at_ := (0 : Int), op := (0 : Int), er := (0 : Nat) }).fst.1, op := (unionA (lexP s).fst { at_ := (0 : Int), op := (0 : Int), er := (0 : Nat) }).fst.2, er := (failG (1 : Nat) { at_ := (unionA (lexP s).fst { at_ := (0 : Int), op := (0 : Int), er := (0 : Nat) }).fst.at_, op := (unionA (lexP s).fst { at_ := (0 : Int), op := (0 : Int), er := (0 : Nat) }).fst.op, er := (unionA (lexP s).fst { at_ := (0 : Int), op := (0 : Int), er := (0 : Nat) }).fst.er }).er })), (.int .i64 (plC (lexP s).fst (lexP s).snd.snd.fst { at_ := (unionA (lexP s).fst { at_ := (0 : Int), op := (0 : Int), er := (0 : Nat) }).fst.1, op := (unionA (lexP s).fst { at_ := (0 : Int), op := (0 : Int), er := (0 : Nat) }).fst.2, er := (failG (1 : Nat) { at_ := (unionA (lexP s).fst { at_ := (0 : Int), op := (0 : Int), er := (0 : Nat) }).fst.at_, op := (unionA (lexP s).fst { at_ := (0 : Int), op := (0 : Int), er := (0 : Nat) }).fst.op, er := (unionA (lexP s).fst { at_ := (0 : Int), op := (0 : Int), er := (0 : Nat) }).fst.er }).er }))], [], 2⟩), (.w (.d (.int .i64 11)))]) []
                    else none))
                  else k (.tup [(.agg ⟨(List.take (4 : Nat) (List.take (4 : Nat) ((unionA (lexP s).fst { at_ := (0 : Int), op := (0 : Int), er := (0 : Nat) }).snd ++ []) ++ [])), [], 4⟩), (.agg ⟨[(.int .i64 0), (.int .i64 0)], [], 2⟩), (.w (.d (.int .i64 0)))]) [])
                else none))
            else none)
          else (bif decide ((unionA (lexP s).fst { at_ := (0 : Int), op := (0 : Int), er := (0 : Nat) }).fst.er ≤ (2 : Nat)) && true then
              (bif (unionA (lexP s).fst { at_ := (0 : Int), op := (0 : Int), er := (0 : Nat) }).fst.er.beq (2 : Nat) then
                dup 2 ((bif stOk (lexP s).fst { at_ := (unionA (lexP s).fst { at_ := (0 : Int), op := (0 : Int), er := (0 : Nat) }).fst.at_, op := (unionA (lexP s).fst { at_ := (0 : Int), op := (0 : Int), er := (0 : Nat) }).fst.op, er := (unionA (lexP s).fst { at_ := (0 : Int), op := (0 : Int), er := (0 : Nat) }).fst.er } && true then
                  k (.tup [(.agg ⟨[(.int .i64 0), (.str ByteArray.empty), (.str ByteArray.empty), (.sl 4 [])], [], 4⟩), (.agg ⟨[(.int .i64 (plL (lexP s).fst (lexP s).snd.fst { at_ := (unionA (lexP s).fst { at_ := (0 : Int), op := (0 : Int), er := (0 : Nat) }).fst.at_, op := (unionA (lexP s).fst { at_ := (0 : Int), op := (0 : Int), er := (0 : Nat) }).fst.op, er := (unionA (lexP s).fst { at_ := (0 : Int), op := (0 : Int), er := (0 : Nat) }).fst.er })), (.int .i64 (plC (lexP s).fst (lexP s).snd.snd.fst { at_ := (unionA (lexP s).fst { at_ := (0 : Int), op := (0 : Int), er := (0 : Nat) }).fst.at_, op := (unionA (lexP s).fst { at_ := (0 : Int), op := (0 : Int), er := (0 : Nat) }).fst.op, er := (unionA (lexP s).fst { at_ := (0 : Int), op := (0 : Int), er := (0 : Nat) }).fst.er }))], [], 2⟩), (.w (.d (.int .i64 12)))]) []
                else none))
              else (bif decide ((unionA (lexP s).fst { at_ := (0 : Int), op := (0 : Int), er := (0 : Nat) }).fst.er ≤ (2 : Nat)) && true then
                  (bif (unionA (lexP s).fst { at_ := (0 : Int), op := (0 : Int), er := (0 : Nat) }).fst.er.beq (1 : Nat) then
                    dup 2 ((bif stOk (lexP s).fst { at_ := (unionA (lexP s).fst { at_ := (0 : Int), op := (0 : Int), er := (0 : Nat) }).fst.at_, op := (unionA (lexP s).fst { at_ := (0 : Int), op := (0 : Int), er := (0 : Nat) }).fst.op, er := (unionA (lexP s).fst { at_ := (0 : Int), op := (0 : Int), er := (0 : Nat) }).fst.er } && true then
                      k (.tup [(.agg ⟨[(.int .i64 0), (.str ByteArray.empty), (.str ByteArray.empty), (.sl 4 [])], [], 4⟩), (.agg ⟨[(.int .i64 (plL (lexP s).fst (lexP s).snd.fst { at_ := (unionA (lexP s).fst { at_ := (0 : Int), op := (0 : Int), er := (0 : Nat) }).fst.at_, op := (unionA (lexP s).fst { at_ := (0 : Int), op := (0 : Int), er := (0 : Nat) }).fst.op, er := (unionA (lexP s).fst { at_ := (0 : Int), op := (0 : Int), er := (0 : Nat) }).fst.er })), (.int .i64 (plC (lexP s).fst (lexP s).snd.snd.fst { at_ := (unionA (lexP s).fst { at_ := (0 : Int), op := (0 : Int), er := (0 : Nat) }).fst.at_, op := (unionA (lexP s).fst { at_ := (0 : Int), op := (0 : Int), er := (0 : Nat) }).fst.op, er := (unionA (lexP s).fst { at_ := (0 : Int), op := (0 : Int), er := (0 : Nat) }).fst.er }))], [], 2⟩), (.w (.d (.int .i64 11)))]) []
                    else none))
                  else k (.tup [(.agg ⟨(List.take (4 : Nat) (List.take (4 : Nat) ((unionA (lexP s).fst { at_ := (0 : Int), op := (0 : Int), er := (0 : Nat) }).snd ++ []) ++ [])), [], 4⟩), (.agg ⟨[(.int .i64 0), (.int .i64 0)], [], 2⟩), (.w (.d (.int .i64 0)))]) [])
                else none))
            else none))
        else none))
    else none) := by kernel_rfl
noncomputable def g_expr_cf (m : Int) : Cfg := mkCfQ [25, 35] (globG m) vti orcGX false [] []
theorem g_expr_start {R : Type} (m : Int) (k : V → Bx → Option R) (F : Nat) (s : ByteArray) : runFn (g_expr_cf m) F Tryd.f20 (bd Tryd.f20) [vs s] [] k =
    (bif decide (s.size < (1000000 : Nat)) then
      k (.tup [(.agg ⟨(List.take (4 : Nat) (exprN s ++ [])), [], 4⟩), (.agg ⟨[(.int .i64 (exprL s)), (.int .i64 (exprC s))], [], 2⟩), (.w (.d (.int .i64 (exprE s))))]) []
    else none) := by kernel_rfl
end Go.Proofs.YtniiimpcakmkbaaDoor
