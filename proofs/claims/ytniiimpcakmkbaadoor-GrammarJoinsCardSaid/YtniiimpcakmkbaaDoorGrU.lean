/- grammar: specs of the reference's Expr, Same, Good -/
import Derived.Test.YtniiimpcakmkbaaDoorGrE
import Derived.Test.YtniiimpcakmkbaaDoorSgR
set_option linter.unusedVariables false
namespace Go.Proofs.YtniiimpcakmkbaaDoor
open Go Vm
def rEndS : List V → Bx → Tr
  | [.t (.agg ⟨[.sl 4 L, .int .i64 a, .int .i64 o, .int .i64 c], [], 4⟩), .t (.w (.d (.int .i64 el))), .t (.w (.d (.int .i64 ec)))], [] =>
    .ite (stOk L (rP a o c) && okC c) (.ret (.tup [
      .w (.d (.int .i64 (bif Nat.beq (endG L (rP a o c)).er 0 then 0 else plL L el (endG L (rP a o c))))),
      .w (.d (.int .i64 (bif Nat.beq (endG L (rP a o c)).er 0 then 0 else plC L ec (endG L (rP a o c))))),
      .w (.d (.int .i64 (erC (endG L (rP a o c)).er)))]) []) .no
  | _, _ => .no
noncomputable def rExprS : List V → Bx → Tr
  | [.t (.w (.d (.str s)))], [] => .ite (decide (s.size < 1000000)) (.ret (.tup [.agg ⟨exprN s, [], 4⟩, .w (.d (.int .i64 (exprL s))), .w (.d (.int .i64 (exprC s))), .w (.d (.int .i64 (exprE s)))]) []) .no
  | _, _ => .no
noncomputable def orcRE : FuncId → List V → Bx → Tr := orcOf [(15, rlexS), (47, rRdS unionA 9), (48, rEndS)]
/-! trees: as deep as that -/
def tree : Nat → Nde → Bool
  | 0, _ => false
  | n + 1, [.int .i64 _, .str _, .str _, .sl 4 l] => l.all (tree n) && decide (l.length < 2000000)
  | _, _ => false
open Classical in
/-- are they one? (where they are, Same says so) -/
noncomputable def eqN (x y : Nde) : Bool := decide (x = y)
noncomputable def sameS (N : Nat) : List V → Bx → Tr
  | [.t (.agg ⟨x, [], 4⟩), .t (.agg ⟨y, [], 4⟩)], [] => .ite (eqN x y && tree N x) (.ret (vb true) []) .no
  | _, _ => .no
noncomputable def orcSm (N : Nat) : FuncId → List V → Bx → Tr := orcOf [(22, sameS N)]
/-! good nodes -/
def lowB (c : UInt8) : Bool := decide (97 ≤ c.toNat) && decide (c.toNat ≤ 122)
def prtB (c : UInt8) : Bool := lowB c || (decide (48 ≤ c.toNat) && decide (c.toNat ≤ 57)) || decide (c.toNat = 95)
def nameB : List UInt8 → Bool
  | [] => false
  | c :: r => lowB c && r.all prtB && decide (r.length < 16)
def wordB (s : ByteArray) : Bool := nameB s.data.toList && !(s.toList == bType.toList) && !(s.toList == bRel.toList) && !(s.toList == bThis.toList)
def nameS : List V → Bx → Tr
  | [.t (.w (.d (.str s)))], [] => .ite (decide (s.size < 1000000)) (.ret (vb (nameB s.data.toList)) []) .no
  | _, _ => .no
def wordBS : List V → Bx → Tr
  | [.t (.w (.d (.str s)))], [] => .ite (decide (s.size < 1000000)) (.ret (vb (wordB s)) []) .no
  | _, _ => .no
/-- a good node, as deep as that -/
def goodT : Nat → Nde → Bool
  | 0, _ => false
  | n + 1, [.int .i64 k, .str a, .str b, .sl 4 l] => l.all (goodT n) && decide (l.length < 2000000) && decide (a.size < 1000000) && decide (b.size < 1000000) &&
      (bif k == 1 then (a.toList == bNo.toList) && (b.toList == bNo.toList) && (l.length == 0)
       else bif k == 2 then wordB a && (b.toList == bNo.toList) && (l.length == 0)
       else bif k == 3 then wordB a && wordB b && (l.length == 0)
       else bif k == 4 || k == 5 then (a.toList == bNo.toList) && (b.toList == bNo.toList) && Nat.ble 2 l.length
       else bif k == 6 then (a.toList == bNo.toList) && (b.toList == bNo.toList) && (l.length == 2)
       else false)
  | _, _ => false
def goodS (N : Nat) : List V → Bx → Tr
  | [.t (.agg ⟨x, [], 4⟩)], [] => .ite (goodT N x) (.ret (vb true) []) .no
  | _, _ => .no
noncomputable def orcGd (N : Nat) : FuncId → List V → Bx → Tr := orcOf [(23, goodS N), (28, wordBS)]
noncomputable def orcWd : FuncId → List V → Bx → Tr := orcOf [(53, nameS)]
end Go.Proofs.YtniiimpcakmkbaaDoor

set_option linter.unusedVariables false
namespace Go.Proofs.YtniiimpcakmkbaaDoor
open Go Vm
noncomputable def h_end_cf (m : Int) : Cfg := mkCfQ [25, 35] (globG m) vti orc0 false [] []
theorem h_end_start {R : Type} (m : Int) (k : V → Bx → Option R) (F : Nat) (L : List (List C)) (a : Int) (o : Int) (c : Int) (el : Int) (ec : Int) : runFn (h_end_cf m) F Tryd.f48 (bd Tryd.f48) [V.t (T.agg { l := [C.sl (4 : Nat) L, C.int IntKind.i64 a, C.int IntKind.i64 o, C.int IntKind.i64 c], lk := [], n := (4 : Nat) }), vi el, vi ec] [] k =
    (bif c == (0 : Int) then
      (bif decide (a < (↑L.length : Int)) then
        (bif decide (a < (↑L.length : Int)) then
          (bif decide ((0 : Int) ≤ a) then
            (getT L a.toNat fun z1 =>
              (getT (List.drop (2 : Nat) z1) 0 fun z2 =>
                (bif shOk [Sh.int IntKind.i64] [z2] then
                  (bif decide ((0 : Int) ≤ a) then
                    (getT L a.toNat fun z3 =>
                      (getT (List.drop (3 : Nat) z3) 0 fun z4 =>
                        (bif shOk [Sh.int IntKind.i64] [z4] then
                          k (.tup [(.w (.d (.int .i64 (([z2].getD (0 : Nat) C.nf).toInt)))), (.w (.d (.int .i64 (([z4].getD (0 : Nat) C.nf).toInt)))), (.w (.d (.int .i64 11)))]) []
                        else none)))
                  else none)
                else none)))
          else none)
        else k (.tup [(.w (.d (.int .i64 el))), (.w (.d (.int .i64 ec))), (.w (.d (.int .i64 11)))]) [])
      else (bif c == (0 : Int) then
          k (.tup [(.w (.d (.int .i64 0))), (.w (.d (.int .i64 0))), (.w (.d (.int .i64 0)))]) []
        else (bif decide (a < (↑L.length : Int)) then
            (bif decide ((0 : Int) ≤ a) then
              (getT L a.toNat fun z5 =>
                (getT (List.drop (2 : Nat) z5) 0 fun z6 =>
                  (bif shOk [Sh.int IntKind.i64] [z6] then
                    (bif decide ((0 : Int) ≤ a) then
                      (getT L a.toNat fun z7 =>
                        (getT (List.drop (3 : Nat) z7) 0 fun z8 =>
                          (bif shOk [Sh.int IntKind.i64] [z8] then
                            k (.tup [(.w (.d (.int .i64 (([z6].getD (0 : Nat) C.nf).toInt)))), (.w (.d (.int .i64 (([z8].getD (0 : Nat) C.nf).toInt)))), (.w (.d (.int .i64 c)))]) []
                          else none)))
                    else none)
                  else none)))
            else none)
          else k (.tup [(.w (.d (.int .i64 el))), (.w (.d (.int .i64 ec))), (.w (.d (.int .i64 c)))]) [])))
    else (bif c == (0 : Int) then
        k (.tup [(.w (.d (.int .i64 0))), (.w (.d (.int .i64 0))), (.w (.d (.int .i64 0)))]) []
      else (bif decide (a < (↑L.length : Int)) then
          (bif decide ((0 : Int) ≤ a) then
            (getT L a.toNat fun z9 =>
              (getT (List.drop (2 : Nat) z9) 0 fun z10 =>
                (bif shOk [Sh.int IntKind.i64] [z10] then
                  (bif decide ((0 : Int) ≤ a) then
                    (getT L a.toNat fun z11 =>
                      (getT (List.drop (3 : Nat) z11) 0 fun z12 =>
                        (bif shOk [Sh.int IntKind.i64] [z12] then
                          k (.tup [(.w (.d (.int .i64 (([z10].getD (0 : Nat) C.nf).toInt)))), (.w (.d (.int .i64 (([z12].getD (0 : Nat) C.nf).toInt)))), (.w (.d (.int .i64 c)))]) []
                        else none)))
                  else none)
                else none)))
          else none)
        else k (.tup [(.w (.d (.int .i64 el))), (.w (.d (.int .i64 ec))), (.w (.d (.int .i64 c)))]) []))) := by kernel_rfl
noncomputable def h_expr_cf (m : Int) : Cfg := mkCfQ [25, 35] (globG m) vti orcRE false [] []
theorem h_expr_start {R : Type} (m : Int) (k : V → Bx → Option R) (F : Nat) (s : ByteArray) : runFn (h_expr_cf m) F Tryd.f21 (bd Tryd.f21) [vs s] [] k =
    (bif decide (s.size < (1000000 : Nat)) then
      (bif (lexP s).snd.snd.snd != (0 : Int) then
        k (.tup [(.agg ⟨[(.int .i64 0), (.str ByteArray.empty), (.str ByteArray.empty), (.sl 4 [])], [], 4⟩), (.w (.d (.int .i64 ((lexP s).snd.fst)))), (.w (.d (.int .i64 ((lexP s).snd.snd.fst)))), (.w (.d (.int .i64 ((lexP s).snd.snd.snd))))]) []
      else (bif stOk (lexP s).fst (rP (0 : Int) (0 : Int) (0 : Int)) && true && true then
          (bif stOk (lexP s).fst (rP (unionA (lexP s).fst (rP (0 : Int) (0 : Int) (0 : Int))).fst.at_ (unionA (lexP s).fst (rP (0 : Int) (0 : Int) (0 : Int))).fst.op (erC (unionA (lexP s).fst (rP (0 : Int) (0 : Int) (0 : Int))).fst.er)) && okC (erC (unionA (lexP s).fst (rP (0 : Int) (0 : Int) (0 : Int))).fst.er) then
            (bif erC (endG (lexP s).fst (rP (unionA (lexP s).fst (rP (0 : Int) (0 : Int) (0 : Int))).fst.at_ (unionA (lexP s).fst (rP (0 : Int) (0 : Int) (0 : Int))).fst.op (erC (unionA (lexP s).fst (rP (0 : Int) (0 : Int) (0 : Int))).fst.er))).er != (0 : Int) then
              k (.tup [(.agg ⟨[(.int .i64 0), (.str ByteArray.empty), (.str ByteArray.empty), (.sl 4 [])], [], 4⟩), (.w (.d (.int .i64 (bif (endG (lexP s).fst (rP (unionA (lexP s).fst (rP (0 : Int) (0 : Int) (0 : Int))).fst.at_ (unionA (lexP s).fst (rP (0 : Int) (0 : Int) (0 : Int))).fst.op (erC (unionA (lexP s).fst (rP (0 : Int) (0 : Int) (0 : Int))).fst.er))).er.beq (0 : Nat) then (0 : Int) else plL (lexP s).fst (lexP s).snd.fst (endG (lexP s).fst (rP (unionA (lexP s).fst (rP (0 : Int) (0 : Int) (0 : Int))).fst.at_ (unionA (lexP s).fst (rP (0 : Int) (0 : Int) (0 : Int))).fst.op (erC (unionA (lexP s).fst (rP (0 : Int) (0 : Int) (0 : Int))).fst.er))))))), (.w (.d (.int .i64 (bif (endG (lexP s).fst (rP (unionA (lexP s).fst (rP (0 : Int) (0 : Int) (0 : Int))).fst.at_ (unionA (lexP s).fst (rP (0 : Int) (0 : Int) (0 : Int))).fst.op (erC (unionA (lexP s).fst (rP (0 : Int) (0 : Int) (0 : Int))).fst.er))).er.beq (0 : Nat) then (0 : Int) else plC (lexP s).fst (lexP s).snd.snd.fst (endG (lexP s).fst (rP (unionA (lexP s).fst (rP (0 : Int) (0 : Int) (0 : Int))).fst.at_ (unionA (lexP s).fst (rP (0 : Int) (0 : Int) (0 : Int))).fst.op (erC (unionA (lexP s).fst (rP (0 : Int) (0 : Int) (0 : Int))).fst.er))))))), (.w (.d (.int .i64 (erC (endG (lexP s).fst (rP (unionA (lexP s).fst (rP (0 : Int) (0 : Int) (0 : Int))).fst.at_ (unionA (lexP s).fst (rP (0 : Int) (0 : Int) (0 : Int))).fst.op (erC (unionA (lexP s).fst (rP (0 : Int) (0 : Int) (0 : Int))).fst.er))).er))))]) []
            else k (.tup [(.agg ⟨(List.take (4 : Nat) (List.take (4 : Nat) ((unionA (lexP s).fst (rP (0 : Int) (0 : Int) (0 : Int))).snd ++ []) ++ [])), [], 4⟩), (.w (.d (.int .i64 0))), (.w (.d (.int .i64 0))), (.w (.d (.int .i64 0)))]) [])
          else none)
        else none))
    else none) := by kernel_rfl
noncomputable def h_name_cf (m : Int) : Cfg := mkCfQ [25, 35] (globG m) vti orc0 false [] [(2, 9), (999, 4), (1000, 1)]
noncomputable def h_name_m0 : List Bool := [true, false, false, true, false, false, false, false, false, false, false, false, false, false, false, false, false, false, false, false, false, false, false, false, false, false, false, false, false, false, false, false, false, false, false, false, false, false, false, false, false, false, false, false]
noncomputable def h_name_b0 : Code := (cA (cA (cB (cA (cB (bd Tryd.f53))))))
noncomputable def h_name_S0 (s : ByteArray) (v1 : Int) : St := { env := [(vs s), vu, vu, (vi v1), vu, vu, vu, vu, vu, vu, vu, vu, vu, vu, vu, vu, vu, vu, vu, vu, vu, vu, vu, vu, vu, vu, vu, vu, vu, vu, vu, vu, vu, vu, vu, vu, vu, vu, vu, vu, vu, vu, vu, vu], bx := [], np := 0 }
noncomputable def h_name_L0 {R : Type} (m : Int) (K : X → St → Option R) (F n : Nat) (s : ByteArray) (v1 : Int) : Option R := loopV (headM h_name_m0) (exec (h_name_cf m) F h_name_b0) (exitK (h_name_cf m) K) n (h_name_S0 s v1)
noncomputable def h_name_K0 {R : Type} (m : Int) (k : V → Bx → Option R) (F : Nat) : X → St → Option R := (blockK 0 (seqK (h_name_cf m) F (cB (cB (bd Tryd.f53))) (finK (h_name_cf m) Tryd.f53 k)))
noncomputable def h_name_E1 : St := { env := [vu, vu, (vb false), vu, vu, vu, vu, vu, vu, vu, vu, vu, vu, vu, vu, vu, vu, vu, vu, vu, vu, vu, vu, vu, vu, vu, vu, vu, vu, vu, vu, vu, vu, vu, vu, vu, vu, vu, vu, vu, vu, vu, vu, vu], bx := [], np := 0 }
theorem h_name_c1 {R : Type} (m : Int) (k : V → Bx → Option R) (F : Nat) : h_name_K0 m k F .rt (h_name_E1) =
    k (vb false) [] := by kernel_rfl
noncomputable def h_name_E2 (s : ByteArray) : St := { env := [(vs s), vu, vu, vu, vu, vu, vu, vu, vu, vu, vu, vu, vu, vu, vu, vu, vu, vu, vu, vu, vu, vu, vu, vu, vu, vu, vu, vu, vu, vu, vu, vu, vu, vu, vu, vu, vu, vu, vu, vu, vu, vu, vu, vu], bx := [], np := 0 }
theorem h_name_c2 {R : Type} (m : Int) (k : V → Bx → Option R) (F : Nat) (s : ByteArray) : h_name_K0 m k F (.ex 0) (h_name_E2 s) =
    (bif decide ((↑s.size : Int) ≥ (1 : Int)) then
      k (vb (decide ((↑s.size : Int) ≤ (16 : Int)))) []
    else k (vb false) []) := by kernel_rfl
theorem h_name_r0 {R : Type} (m : Int) (K : X → St → Option R) (F n : Nat) (s : ByteArray) (v1 : Int) : h_name_L0 m K F (n + 1) s v1 =
    (bif decide (v1 < (↑s.size : Int)) then
      (bif decide ((0 : Int) ≤ v1) then
        (getT s.data.toList v1.toNat fun z1 =>
          (bif decide ((↑z1.toNat : Int) < (97 : Int)) then
            (bif v1 == (0 : Int) then
              K .rt (h_name_E1)
            else (bif decide ((↑z1.toNat : Int) < (48 : Int)) then
                (bif (↑z1.toNat : Int) != (95 : Int) then
                  K .rt (h_name_E1)
                else h_name_L0 m K F n s (IntKind.i64.wrap (v1 + (1 : Int))))
              else (bif decide ((↑z1.toNat : Int) > (57 : Int)) then
                  (bif (↑z1.toNat : Int) != (95 : Int) then
                    K .rt (h_name_E1)
                  else h_name_L0 m K F n s (IntKind.i64.wrap (v1 + (1 : Int))))
                else h_name_L0 m K F n s (IntKind.i64.wrap (v1 + (1 : Int))))))
          else (bif decide ((↑z1.toNat : Int) > (122 : Int)) then
              (bif v1 == (0 : Int) then
                K .rt (h_name_E1)
              else (bif decide ((↑z1.toNat : Int) < (48 : Int)) then
                  (bif (↑z1.toNat : Int) != (95 : Int) then
                    K .rt (h_name_E1)
                  else h_name_L0 m K F n s (IntKind.i64.wrap (v1 + (1 : Int))))
                else (bif decide ((↑z1.toNat : Int) > (57 : Int)) then
                    (bif (↑z1.toNat : Int) != (95 : Int) then
                      K .rt (h_name_E1)
                    else h_name_L0 m K F n s (IntKind.i64.wrap (v1 + (1 : Int))))
                  else h_name_L0 m K F n s (IntKind.i64.wrap (v1 + (1 : Int))))))
            else h_name_L0 m K F n s (IntKind.i64.wrap (v1 + (1 : Int))))))
      else none)
    else K (.ex 0) (h_name_E2 s)) := by kernel_rfl
theorem h_name_start {R : Type} (m : Int) (k : V → Bx → Option R) (F : Nat) (s : ByteArray) : runFn (h_name_cf m) F Tryd.f53 (bd Tryd.f53) [vs s] [] k =
    h_name_L0 m (h_name_K0 m k F) F F s 0 := by kernel_rfl
noncomputable def h_word_cf (m : Int) : Cfg := mkCfQ [25, 35] (globG m) vti orcWd false [] []
theorem h_word_start {R : Type} (m : Int) (k : V → Bx → Option R) (F : Nat) (s : ByteArray) : runFn (h_word_cf m) F Tryd.f28 (bd Tryd.f28) [vs s] [] k =
    (bif decide (s.size < (1000000 : Nat)) then
      (bif nameB s.data.toList then
        (bif !s.toList == (ByteArray.mk #[(116 : UInt8), (121 : UInt8), (112 : UInt8), (101 : UInt8)]).toList then
          (bif !s.toList == (ByteArray.mk #[(114 : UInt8), (101 : UInt8), (108 : UInt8)]).toList then
            k (vb (!s.toList == (ByteArray.mk #[(116 : UInt8), (104 : UInt8), (105 : UInt8), (115 : UInt8)]).toList)) []
          else k (vb false) [])
        else k (vb false) [])
      else k (vb false) [])
    else none) := by kernel_rfl
noncomputable def h_same_cf (m : Int) (N : Nat) : Cfg := mkCfQ [25, 35] (globG m) vti (orcSm N) false [] [(4, 206158430220), (999, 16), (1000, 0)]
noncomputable def h_same_m0 : List Bool := [false, false, true, true, false, false, false, false, false, false, false, false, false, false, false, false, false, false, false, false, false, false, false, false, false, false, false, false, false, false, false, false, false, false, false, false, true, true, false, false, false, false, false, false, false, false, false, false, false, false, false, false, false]
noncomputable def h_same_b0 : Code := (cA (cA (cB (cA (cB (cB (bd Tryd.f22)))))))
noncomputable def h_same_S0 (l : List (List C)) (ka1 : Int) (a2 : ByteArray) (b3 : ByteArray) (l4 : List (List C)) (kb5 : Int) (a6 : ByteArray) (b7 : ByteArray) (l8 : List (List C)) (v9 : Int) : St := { env := [vu, vu, (.t (.w (.ptr 0 0))), (.t (.w (.ptr 1 0))), vu, vu, vu, vu, vu, vu, vu, vu, vu, vu, vu, vu, vu, vu, vu, vu, vu, vu, vu, vu, vu, vu, vu, vu, vu, vu, vu, vu, vu, vu, vu, vu, (vi ((↑l.length : Int))), (vi v9), vu, vu, vu, vu, vu, vu, vu, vu, vu, vu, vu, vu, vu, vu, vu], bx := [(some (.cells ⟨[(.int .i64 ka1), (.str a2), (.str b3), (.sl 4 l4)], [], 4⟩)), (some (.cells ⟨[(.int .i64 kb5), (.str a6), (.str b7), (.sl 4 l8)], [], 4⟩))], np := 0 }
noncomputable def h_same_L0 {R : Type} (m : Int) (N : Nat) (K : X → St → Option R) (F n : Nat) (l : List (List C)) (ka1 : Int) (a2 : ByteArray) (b3 : ByteArray) (l4 : List (List C)) (kb5 : Int) (a6 : ByteArray) (b7 : ByteArray) (l8 : List (List C)) (v9 : Int) : Option R := loopV (headM h_same_m0) (exec (h_same_cf m N) F h_same_b0) (exitK (h_same_cf m N) K) n (h_same_S0 l ka1 a2 b3 l4 kb5 a6 b7 l8 v9)
noncomputable def h_same_K0 {R : Type} (m : Int) (N : Nat) (k : V → Bx → Option R) (F : Nat) : X → St → Option R := (blockK 0 (seqK (h_same_cf m N) F (cB (cB (cB (bd Tryd.f22)))) (finK (h_same_cf m N) Tryd.f22 k)))
noncomputable def h_same_E1 : St := { env := (List.replicate 53 vu), bx := [], np := 0 }
theorem h_same_c1 {R : Type} (m : Int) (N : Nat) (k : V → Bx → Option R) (F : Nat) : h_same_K0 m N k F (.ex 0) (h_same_E1) =
    k (vb true) [] := by kernel_rfl
theorem h_same_r0 {R : Type} (m : Int) (N : Nat) (K : X → St → Option R) (F n : Nat) (l : List (List C)) (ka1 : Int) (a2 : ByteArray) (b3 : ByteArray) (l4 : List (List C)) (kb5 : Int) (a6 : ByteArray) (b7 : ByteArray) (l8 : List (List C)) (v9 : Int) : h_same_L0 m N K F (n + 1) l ka1 a2 b3 l4 kb5 a6 b7 l8 v9 =
    (bif decide (v9 < (↑l.length : Int)) then
      (bif decide ((0 : Int) ≤ v9) then
        (getT l4 v9.toNat fun z1 =>
          (bif (List.take (4 : Nat) z1).length == (4 : Nat) then
            (bif shOk [Sh.int IntKind.i64, Sh.str, Sh.str, Sh.sl (4 : Nat)] (List.take (4 : Nat) z1) then
              (bif decide ((0 : Int) ≤ v9) then
                (getT l8 v9.toNat fun z2 =>
                  (bif (List.take (4 : Nat) z2).length == (4 : Nat) then
                    (bif shOk [Sh.int IntKind.i64, Sh.str, Sh.str, Sh.sl (4 : Nat)] (List.take (4 : Nat) z2) then
                      (bif eqN [C.int IntKind.i64 ((List.take (4 : Nat) z1).getD (0 : Nat) C.nf).toInt, C.str ((List.take (4 : Nat) z1).getD (1 : Nat) C.nf).toStr, C.str ((List.take (4 : Nat) z1).getD (2 : Nat) C.nf).toStr, C.sl (4 : Nat) ((List.take (4 : Nat) z1).getD (3 : Nat) C.nf).toEls] [C.int IntKind.i64 ((List.take (4 : Nat) z2).getD (0 : Nat) C.nf).toInt, C.str ((List.take (4 : Nat) z2).getD (1 : Nat) C.nf).toStr, C.str ((List.take (4 : Nat) z2).getD (2 : Nat) C.nf).toStr, C.sl (4 : Nat) ((List.take (4 : Nat) z2).getD (3 : Nat) C.nf).toEls] && tree N [C.int IntKind.i64 ((List.take (4 : Nat) z1).getD (0 : Nat) C.nf).toInt, C.str ((List.take (4 : Nat) z1).getD (1 : Nat) C.nf).toStr, C.str ((List.take (4 : Nat) z1).getD (2 : Nat) C.nf).toStr, C.sl (4 : Nat) ((List.take (4 : Nat) z1).getD (3 : Nat) C.nf).toEls] then
                        h_same_L0 m N K F n l ka1 a2 b3 l4 kb5 a6 b7 l8 (IntKind.i64.wrap (v9 + (1 : Int)))
                      else none)
                    else none)
                  else none))
              else none)
            else none)
          else none))
      else none)
    else K (.ex 0) (h_same_E1)) := by kernel_rfl
theorem h_same_start {R : Type} (m : Int) (N : Nat) (k : V → Bx → Option R) (F : Nat) (ka : Int) (kb : Int) (a : ByteArray) (b : ByteArray) (a' : ByteArray) (b' : ByteArray) (l : List (List C)) (l' : List (List C)) : runFn (h_same_cf m N) F Tryd.f22 (bd Tryd.f22) [ndV (ndC ka a b l), ndV (ndC kb a' b' l')] [] k =
    (bif ka != kb then
      k (vb false) []
    else (bif !a.toList == a'.toList then
        k (vb false) []
      else (bif !b.toList == b'.toList then
          k (vb false) []
        else (bif (↑l.length : Int) != (↑l'.length : Int) then
            k (vb false) []
          else h_same_L0 m N (h_same_K0 m N k F) F F l ka a b l kb a' b' l' 0)))) := by kernel_rfl
noncomputable def h_good_cf (m : Int) (N : Nat) : Cfg := mkCfQ [25, 35] (globG m) vti (orcGd N) false [] [(2, 194), (999, 4), (1000, 2)]
noncomputable def h_good_m0 : List Bool := [false, true, false, false, false, false, true, true, false, false, false, false, false, false, false, false, false, false, false, false, false, false, false, false, false, false, false, false, false, false, false, false, false, false, false, false, false, false, false, false, false, false, false, false, false, false, false, false, false, false, false, false, false, false, false, false, false, false, false, false, false, false, false, false, false, false, false, false, false, false, false, false, false, false, false, false, false, false, false, false, false, false, false, false, false, false, false, false, false, false, false, false, false, false, false, false, false, false, false, false, false]
noncomputable def h_good_b0 : Code := (cA (cA (cB (cA (cB (bd Tryd.f23))))))
noncomputable def h_good_S0 (l : List (List C)) (ka1 : Int) (a2 : ByteArray) (b3 : ByteArray) (l4 : List (List C)) (v5 : Int) : St := { env := [vu, (.t (.w (.ptr 0 0))), vu, vu, vu, vu, (vi ((↑l.length : Int))), (vi v5), vu, vu, vu, vu, vu, vu, vu, vu, vu, vu, vu, vu, vu, vu, vu, vu, vu, vu, vu, vu, vu, vu, vu, vu, vu, vu, vu, vu, vu, vu, vu, vu, vu, vu, vu, vu, vu, vu, vu, vu, vu, vu, vu, vu, vu, vu, vu, vu, vu, vu, vu, vu, vu, vu, vu, vu, vu, vu, vu, vu, vu, vu, vu, vu, vu, vu, vu, vu, vu, vu, vu, vu, vu, vu, vu, vu, vu, vu, vu, vu, vu, vu, vu, vu, vu, vu, vu, vu, vu, vu, vu, vu, vu], bx := [(some (.cells ⟨[(.int .i64 ka1), (.str a2), (.str b3), (.sl 4 l4)], [], 4⟩))], np := 0 }
noncomputable def h_good_L0 {R : Type} (m : Int) (N : Nat) (K : X → St → Option R) (F n : Nat) (l : List (List C)) (ka1 : Int) (a2 : ByteArray) (b3 : ByteArray) (l4 : List (List C)) (v5 : Int) : Option R := loopV (headM h_good_m0) (exec (h_good_cf m N) F h_good_b0) (exitK (h_good_cf m N) K) n (h_good_S0 l ka1 a2 b3 l4 v5)
noncomputable def h_good_K0 {R : Type} (m : Int) (N : Nat) (k : V → Bx → Option R) (F : Nat) : X → St → Option R := (blockK 0 (seqK (h_good_cf m N) F (cB (cB (bd Tryd.f23))) (finK (h_good_cf m N) Tryd.f23 k)))
noncomputable def h_good_E1 (ka1 : Int) (a2 : ByteArray) (b3 : ByteArray) (l4 : List (List C)) : St := { env := [vu, (.t (.w (.ptr 0 0))), vu, vu, vu, vu, vu, vu, vu, vu, vu, vu, vu, vu, vu, vu, vu, vu, vu, vu, vu, vu, vu, vu, vu, vu, vu, vu, vu, vu, vu, vu, vu, vu, vu, vu, vu, vu, vu, vu, vu, vu, vu, vu, vu, vu, vu, vu, vu, vu, vu, vu, vu, vu, vu, vu, vu, vu, vu, vu, vu, vu, vu, vu, vu, vu, vu, vu, vu, vu, vu, vu, vu, vu, vu, vu, vu, vu, vu, vu, vu, vu, vu, vu, vu, vu, vu, vu, vu, vu, vu, vu, vu, vu, vu, vu, vu, vu, vu, vu, vu], bx := [(some (.cells ⟨[(.int .i64 ka1), (.str a2), (.str b3), (.sl 4 l4)], [], 4⟩))], np := 0 }
theorem h_good_c1 {R : Type} (m : Int) (N : Nat) (k : V → Bx → Option R) (F : Nat) (ka1 : Int) (a2 : ByteArray) (b3 : ByteArray) (l4 : List (List C)) : h_good_K0 m N k F (.ex 0) (h_good_E1 ka1 a2 b3 l4) =
    (bif ka1 == (1 : Int) then
      (bif a2.toList == (ByteArray.mk #[]).toList then
        (bif b3.toList == (ByteArray.mk #[]).toList then
          k (vb ((↑l4.length : Int) == (0 : Int))) []
        else k (vb false) [])
      else k (vb false) [])
    else (bif ka1 == (2 : Int) then
        (bif decide (a2.size < (1000000 : Nat)) then
          (bif wordB a2 then
            (bif b3.toList == (ByteArray.mk #[]).toList then
              k (vb ((↑l4.length : Int) == (0 : Int))) []
            else k (vb false) [])
          else k (vb false) [])
        else none)
      else (bif ka1 == (3 : Int) then
          (bif decide (a2.size < (1000000 : Nat)) then
            (bif wordB a2 then
              (bif decide (b3.size < (1000000 : Nat)) then
                (bif wordB b3 then
                  k (vb ((↑l4.length : Int) == (0 : Int))) []
                else k (vb false) [])
              else none)
            else k (vb false) [])
          else none)
        else (bif ka1 == (4 : Int) then
            (bif ka1 == (4 : Int) then
              (bif a2.toList == (ByteArray.mk #[]).toList then
                (bif b3.toList == (ByteArray.mk #[]).toList then
                  k (vb (decide ((↑l4.length : Int) ≥ (2 : Int)))) []
                else k (vb false) [])
              else k (vb false) [])
            else (bif ka1 == (6 : Int) then
                (bif a2.toList == (ByteArray.mk #[]).toList then
                  (bif b3.toList == (ByteArray.mk #[]).toList then
                    k (vb ((↑l4.length : Int) == (2 : Int))) []
                  else k (vb false) [])
                else k (vb false) [])
              else k (vb false) []))
          else (bif ka1 == (5 : Int) then
              (bif a2.toList == (ByteArray.mk #[]).toList then
                (bif b3.toList == (ByteArray.mk #[]).toList then
                  k (vb (decide ((↑l4.length : Int) ≥ (2 : Int)))) []
                else k (vb false) [])
              else k (vb false) [])
            else (bif ka1 == (6 : Int) then
                (bif a2.toList == (ByteArray.mk #[]).toList then
                  (bif b3.toList == (ByteArray.mk #[]).toList then
                    k (vb ((↑l4.length : Int) == (2 : Int))) []
                  else k (vb false) [])
                else k (vb false) [])
              else k (vb false) [])))))) := by kernel_rfl
theorem h_good_r0 {R : Type} (m : Int) (N : Nat) (K : X → St → Option R) (F n : Nat) (l : List (List C)) (ka1 : Int) (a2 : ByteArray) (b3 : ByteArray) (l4 : List (List C)) (v5 : Int) : h_good_L0 m N K F (n + 1) l ka1 a2 b3 l4 v5 =
    (bif decide (v5 < (↑l.length : Int)) then
      (bif decide ((0 : Int) ≤ v5) then
        (getT l4 v5.toNat fun z1 =>
          (bif (List.take (4 : Nat) z1).length == (4 : Nat) then
            (bif shOk [Sh.int IntKind.i64, Sh.str, Sh.str, Sh.sl (4 : Nat)] (List.take (4 : Nat) z1) then
              (bif goodT N [C.int IntKind.i64 ((List.take (4 : Nat) z1).getD (0 : Nat) C.nf).toInt, C.str ((List.take (4 : Nat) z1).getD (1 : Nat) C.nf).toStr, C.str ((List.take (4 : Nat) z1).getD (2 : Nat) C.nf).toStr, C.sl (4 : Nat) ((List.take (4 : Nat) z1).getD (3 : Nat) C.nf).toEls] then
                h_good_L0 m N K F n l ka1 a2 b3 l4 (IntKind.i64.wrap (v5 + (1 : Int)))
              else none)
            else none)
          else none))
      else none)
    else K (.ex 0) (h_good_E1 ka1 a2 b3 l4)) := by kernel_rfl
theorem h_good_start {R : Type} (m : Int) (N : Nat) (k : V → Bx → Option R) (F : Nat) (ka : Int) (a : ByteArray) (b : ByteArray) (l : List (List C)) : runFn (h_good_cf m N) F Tryd.f23 (bd Tryd.f23) [ndV (ndC ka a b l)] [] k =
    h_good_L0 m N (h_good_K0 m N k F) F F l ka a b l 0 := by kernel_rfl
end Go.Proofs.YtniiimpcakmkbaaDoor

/- grammar: the reference's Expr, Same and Good answer by their trees -/
set_option linter.unusedVariables false
namespace Go.Proofs.YtniiimpcakmkbaaDoor
open Go Vm Go.RowKit
theorem rend_ok (m : Int) : SpecOk Tryd.prog (globG m) 48 rEndS := by
  intro a b v b' h
  unfold rEndS at h
  split at h
  · rename_i L a o c el ec
    rcases run_ite h with ⟨hl, hx⟩ | ⟨_, hx⟩ <;> clear h <;> have h := hx <;> clear hx
    · rw [Bool.and_eq_true, stOk_iff] at hl
      obtain ⟨hs, hg⟩ := hl
      obtain ⟨e1, e2⟩ := erC_N hg
      refine specAtQ eqs_ok mix vti_ok Tryd.func48 rfl (by kernel_rfl) .nil 0 (Eq.trans (h_end_start m fin2 0 L a o c el ec) ?_)
      have h0 := hs.a0
      simp only at h0
      obtain ⟨i, rfl⟩ : ∃ i : Nat, a = i := ⟨a.toNat, by omega⟩
      unfold endG at h
      simp only at h
      by_cases hlt : (i : Int) < (L.length : Int)
      · obtain ⟨k, t, l, cc, hL, h1, h2⟩ := tok_pl hs.tk (i := i) (by omega)
        have hp1 : ∀ s : PS, s.at_ = (i : Int) → plL L el s = l := fun s hs => by unfold plL; rw [hs, decide_eq_true hlt, cond_true, h1]
        have hp2 : ∀ s : PS, s.at_ = (i : Int) → plC L ec s = cc := fun s hs => by unfold plC; rw [hs, decide_eq_true hlt, cond_true, h2]
        rw [decide_eq_true hlt, cond_true] at h
        rw [hp1 (failG 1 (rP i o c)) rfl, hp2 (failG 1 (rP i o c)) rfl] at h
        rw [decide_eq_true hlt, decide_eq_true (show (0 : Int) ≤ (i : Int) by omega)]
        simp only [getT_at (i := (i : Int)) (n := i) rfl hL, getT_some (xs := List.drop 2 [C.int .i64 k, C.str t, C.int .i64 l, C.int .i64 cc]) (i := 0) (x := C.int .i64 l) rfl, getT_some (xs := List.drop 3 [C.int .i64 k, C.str t, C.int .i64 l, C.int .i64 cc]) (i := 0) (x := C.int .i64 cc) rfl]
        rcases er3 e2 with h3 | h3 | h3
        · have hc : c = 0 := by rw [← e1, h3]; rfl
          subst hc
          have : (failG 1 (rP i o 0)).er = 1 := rfl
          rw [this] at h
          exact h
        · have hc : c = 11 := by rw [← e1, h3]; rfl
          subst hc
          have : (failG 1 (rP i o 11)).er = 1 := rfl
          rw [this] at h
          exact h
        · have hc : c = 12 := by rw [← e1, h3]; rfl
          subst hc
          have : (failG 1 (rP i o 12)).er = 2 := rfl
          rw [this] at h
          exact h
      · have hp1 : ∀ s : PS, s.at_ = (i : Int) → plL L el s = el := fun s hs => by unfold plL; rw [hs, decide_eq_false hlt, cond_false]
        have hp2 : ∀ s : PS, s.at_ = (i : Int) → plC L ec s = ec := fun s hs => by unfold plC; rw [hs, decide_eq_false hlt, cond_false]
        rw [decide_eq_false hlt, cond_false] at h
        rw [hp1 (rP i o c) rfl, hp2 (rP i o c) rfl] at h
        rw [decide_eq_false hlt]
        rcases er3 e2 with h3 | h3 | h3
        · have hc : c = 0 := by rw [← e1, h3]; rfl
          subst hc; exact h
        · have hc : c = 11 := by rw [← e1, h3]; rfl
          subst hc; exact h
        · have hc : c = 12 := by rw [← e1, h3]; rfl
          subst hc; exact h
    · exact (run_no h).elim
  · cases h
theorem rexpr_run (m : Int) (s : ByteArray) (hz : s.size < 1000000) : runFn (h_expr_cf m) 0 Tryd.f21 (bd Tryd.f21) [vs s] [] fin2 = some (.tup [.agg ⟨exprN s, [], 4⟩, .w (.d (.int .i64 (exprL s))), .w (.d (.int .i64 (exprC s))), .w (.d (.int .i64 (exprE s)))], []) := by
  obtain ⟨h1, h2⟩ := lexP_toks s hz
  obtain ⟨g1, g2⟩ := rd0_good hz
  have g3 := end_good g1
  rw [h_expr_start, decide_eq_true hz, cond_true]
  unfold exprN exprL exprC exprE
  cases he : (lexP s).2.2.2 == 0 with
  | false =>
    have : ((lexP s).2.2.2 != 0) = true := by unfold bne; rw [he]; rfl
    rw [this, cond_true]; rfl
  | true =>
    have : ((lexP s).2.2.2 != 0) = false := by unfold bne; rw [he]; rfl
    have hr : rP 0 0 0 = (⟨0, 0, 0⟩ : PS) := rfl
    have e0 : unionA (lexP s).1 ⟨0, 0, 0⟩ = rd0 s := rfl
    rw [this, cond_false, hr, st_t (st0 h1 h2)]
    simp only [e0, Bool.true_and, cond_true]
    rw [rP_s g1.e2, st_t g1, okC_er, Bool.and_self, cond_true]
    have ew : endG (lexP s).1 (rd0 s).1 = endW s := rfl
    rw [ew]
    have e3 : (endW s).er ≤ 2 := g3.e2
    rw [take4 (x := List.take 4 ((rd0 s).2 ++ [])) (by rw [take4 g2]; exact g2), take4 g2]
    rcases er3 e3 with h | h | h <;> rw [h] <;> rfl
theorem rexpr_ok (m : Int) : SpecOk Tryd.prog (globG m) 21 rExprS := by
  intro a b v b' h
  unfold rExprS at h
  split at h
  · rename_i s
    rcases run_ite h with ⟨hl, hx⟩ | ⟨_, hx⟩ <;> clear h <;> have h := hx <;> clear hx
    · rw [decide_eq_true_eq] at hl
      obtain ⟨rfl, rfl⟩ := run_ret h
      exact specAtQ eqs_ok mix vti_ok Tryd.func21 rfl (by kernel_rfl) (.cons ((rlex_ok m).mono globG_T) (.cons (runion_all m 9) (.cons (rend_ok m) .nil))) 0 (rexpr_run m s hl)
    · exact (run_no h).elim
  · cases h
/-! Same -/
theorem tree_parts {n : Nat} {x : Nde} (h : tree n x = true) : ∃ (n' : Nat) (k : Int) (a b : ByteArray) (l : List (List C)), n = n' + 1 ∧ x = ndC k a b l ∧ l.all (tree n') = true ∧ l.length < 2000000 := by
  unfold tree at h
  split at h
  · cases h
  · rename_i n' k a b l
    rw [Bool.and_eq_true, decide_eq_true_eq] at h
    exact ⟨n', k, a, b, l, rfl, rfl, h.1, h.2⟩
  · cases h
theorem eqN_refl (x : Nde) : eqN x x = true := by unfold eqN; simp
theorem same_loop {R : Type} (m : Int) (N : Nat) (k : V → Bx → Option R) (F : Nat) (ka : Int) (a b : ByteArray) (l : List (List C)) (hl : l.all (tree N) = true) (hlen : l.length < 2000000) : ∀ (n i : Nat), i ≤ l.length → l.length - i < n →
    h_same_L0 m N (h_same_K0 m N k F) F n l ka a b l ka a b l (i : Int) = k (vb true) [] := by
  intro n
  induction n with
  | zero => intro i h h1; omega
  | succ n ih =>
    intro i h h1
    rw [h_same_r0]
    by_cases hi : i < l.length
    · have hx := List.all_eq_true.1 hl l[i] (List.getElem_mem hi)
      have hg : l[i]? = some l[i] := List.getElem?_eq_getElem hi
      obtain ⟨n', k', a', b', l', hN, he, _⟩ := tree_parts hx
      rw [he] at hg hx
      rw [decide_eq_true (by omega), cond_true, decide_eq_true (by omega), cond_true, getT_at rfl hg]
      have e1 : List.take 4 (ndC k' a' b' l') = ndC k' a' b' l' := rfl
      have e3 : ((ndC k' a' b' l').length == 4) = true := rfl
      have e4 : shOk [Sh.int IntKind.i64, Sh.str, Sh.str, Sh.sl 4] (ndC k' a' b' l') = true := rfl
      rw [e1, e3, cond_true, e4, cond_true, cond_true, getT_at rfl hg, e1, e3, cond_true, e4, cond_true]
      have e5 : (eqN (ndC k' a' b' l') (ndC k' a' b' l') && tree N (ndC k' a' b' l')) = true := by rw [eqN_refl, hx]; rfl
      refine Eq.trans (congrArg (fun c => bif c then _ else _) e5) ?_
      rw [cond_true, w64 _ (by omega) (by omega)]
      exact ih (i + 1) (by omega) (by omega)
    · have : i = l.length := by omega
      subst this
      rw [decide_eq_false (by omega), cond_false, h_same_c1]
theorem same_ok (m : Int) : ∀ N, SpecOk Tryd.prog (globG m) 22 (sameS N) := by
  intro N
  induction N with
  | zero =>
    intro a b v b' h
    unfold sameS at h
    split at h
    · rename_i x y
      rcases run_ite h with ⟨hl, hx⟩ | ⟨_, hx⟩
      · rw [Bool.and_eq_true] at hl
        obtain ⟨n', _, _, _, _, hn, _⟩ := tree_parts hl.2
        omega
      · exact (run_no hx).elim
    · cases h
  | succ N ih =>
    intro a b v b' h
    unfold sameS at h
    split at h
    · rename_i x y
      rcases run_ite h with ⟨hl, hx⟩ | ⟨_, hx⟩ <;> clear h <;> have h := hx <;> clear hx
      · rw [Bool.and_eq_true] at hl
        obtain ⟨he, ht⟩ := hl
        have he : x = y := by unfold eqN at he; simpa using he
        subst he
        obtain ⟨n', k, a, b, l, hn, rfl, h1, h2⟩ := tree_parts ht
        obtain rfl : n' = N := by omega
        obtain ⟨rfl, rfl⟩ := run_ret h
        refine specAtQ eqs_ok mix vti_ok Tryd.func22 rfl (by kernel_rfl) (.cons ih .nil) (l.length + 1) (Eq.trans (h_same_start m n' fin2 _ k k a b a b l l) ?_)
        have b1 : (k != k) = false := by simp
        have b2 : (a.toList == a.toList) = true := by simp
        have b3 : (b.toList == b.toList) = true := by simp
        have b4 : ((l.length : Int) != (l.length : Int)) = false := by simp
        rw [b1, cond_false, b2, b3, Bool.not_true, cond_false, cond_false, b4, cond_false]
        exact same_loop m n' fin2 _ k a b l h1 h2 (l.length + 1) 0 (by omega) (by omega)
      · exact (run_no h).elim
    · cases h
/-! names -/
theorem name_loop {R : Type} (m : Int) (k : V → Bx → Option R) (F : Nat) (s : ByteArray) (hz : s.size < 1000000) : ∀ (n i : Nat), 1 ≤ i → i ≤ s.size → s.size - i < n →
    h_name_L0 m (h_name_K0 m k F) F n s (i : Int) = k (vb ((s.data.toList.drop i).all prtB && decide (s.size ≤ 16))) [] := by
  intro n
  induction n with
  | zero => intro i h0 h h1; omega
  | succ n ih =>
    intro i h0 h h1
    rw [h_name_r0]
    have hsz : s.data.toList.length = s.size := rfl
    by_cases hi : i < s.size
    · have hi' : i < s.data.toList.length := by omega
      have hg : s.data.toList[i]? = some s.data.toList[i] := List.getElem?_eq_getElem hi'
      have hd : s.data.toList.drop i = s.data.toList[i] :: s.data.toList.drop (i + 1) := List.drop_eq_getElem_cons hi'
      generalize s.data.toList[i] = c at hg hd
      have hrec := ih (i + 1) (by omega) (by omega) (by omega)
      have hw : IntKind.i64.wrap ((i : Int) + 1) = ((i + 1 : Nat) : Int) := by rw [w64 _ (by omega) (by omega)]; push_cast; rfl
      have hi0 : ((i : Int) == 0) = false := by rw [beq_eq_false_iff_ne]; omega
      rw [decide_eq_true (by omega), cond_true, decide_eq_true (by omega), cond_true, getT_at rfl hg, hi0, hw, hrec, h_name_c1, hd, List.all_cons]
      simp only [cond_false]
      unfold prtB lowB
      by_cases c1 : c.toNat < 97
      · rw [decide_eq_true (show ((c.toNat : Int) < 97) by omega), cond_true, decide_eq_false (show ¬ 97 ≤ c.toNat by omega)]
        by_cases c2 : c.toNat < 48
        · rw [decide_eq_true (show ((c.toNat : Int) < 48) by omega), cond_true, decide_eq_false (show ¬ 48 ≤ c.toNat by omega)]
          by_cases c3 : c.toNat = 95
          · omega
          · have : ((c.toNat : Int) != 95) = true := by simp only [bne_iff_ne, ne_eq]; omega
            rw [this, cond_true, decide_eq_false c3]; rfl
        · rw [decide_eq_false (show ¬ ((c.toNat : Int) < 48) by omega), cond_false, decide_eq_true (show 48 ≤ c.toNat by omega)]
          by_cases c4 : c.toNat > 57
          · rw [decide_eq_true (show ((c.toNat : Int) > 57) by omega), cond_true, decide_eq_false (show ¬ c.toNat ≤ 57 by omega)]
            by_cases c3 : c.toNat = 95
            · have : ((c.toNat : Int) != 95) = false := by simp only [bne_eq_false_iff_eq]; omega
              rw [this, cond_false, decide_eq_true c3]; rfl
            · have : ((c.toNat : Int) != 95) = true := by simp only [bne_iff_ne, ne_eq]; omega
              rw [this, cond_true, decide_eq_false c3]; rfl
          · rw [decide_eq_false (show ¬ ((c.toNat : Int) > 57) by omega), cond_false, decide_eq_true (show c.toNat ≤ 57 by omega)]; rfl
      · rw [decide_eq_false (show ¬ ((c.toNat : Int) < 97) by omega), cond_false, decide_eq_true (show 97 ≤ c.toNat by omega)]
        by_cases c5 : c.toNat > 122
        · rw [decide_eq_true (show ((c.toNat : Int) > 122) by omega), cond_true, decide_eq_false (show ¬ ((c.toNat : Int) < 48) by omega), cond_false, decide_eq_true (show ((c.toNat : Int) > 57) by omega), cond_true, decide_eq_false (show ¬ c.toNat ≤ 122 by omega), decide_eq_false (show ¬ c.toNat ≤ 57 by omega)]
          have : ((c.toNat : Int) != 95) = true := by simp only [bne_iff_ne, ne_eq]; omega
          rw [this, cond_true, decide_eq_false (show ¬ c.toNat = 95 by omega), Bool.and_false, Bool.and_false]; rfl
        · rw [decide_eq_false (show ¬ ((c.toNat : Int) > 122) by omega), cond_false, decide_eq_true (show c.toNat ≤ 122 by omega)]; rfl
    · have : i = s.size := by omega
      subst this
      rw [decide_eq_false (by omega), cond_false, h_name_c2, decide_eq_true (by omega), cond_true, List.drop_of_length_le (by omega)]
      have : decide ((s.size : Int) ≤ 16) = decide (s.size ≤ 16) := by
        by_cases h16 : s.size ≤ 16
        · rw [decide_eq_true h16, decide_eq_true (by omega)]
        · rw [decide_eq_false h16, decide_eq_false (by omega)]
      rw [this]; rfl
theorem name_ok (m : Int) : SpecOk Tryd.prog (globG m) 53 nameS := by
  intro a b v b' h
  unfold nameS at h
  split at h
  · rename_i s
    rcases run_ite h with ⟨hl, hx⟩ | ⟨_, hx⟩ <;> clear h <;> have h := hx <;> clear hx
    · rw [decide_eq_true_eq] at hl
      obtain ⟨rfl, rfl⟩ := run_ret h
      refine specAtQ eqs_ok mix vti_ok Tryd.func53 rfl (by kernel_rfl) .nil (s.size + 1) (Eq.trans (h_name_start m fin2 _ s) ?_)
      rw [h_name_r0]
      have hsz : s.data.toList.length = s.size := rfl
      cases hs : s.data.toList with
      | nil =>
        rw [hs] at hsz
        have h0 : s.size = 0 := hsz.symm
        rw [decide_eq_false (by omega), cond_false, h_name_c2, decide_eq_false (by omega)]; rfl
      | cons c r =>
        rw [hs] at hsz
        simp only [List.length_cons] at hsz
        have hg : s.data.toList[0]? = some c := by rw [hs]; rfl
        try rw [← hs]
        have hw : IntKind.i64.wrap ((0 : Int) + 1) = ((1 : Nat) : Int) := rfl
        have hrec := name_loop m fin2 (s.size + 1) s hl (s.size) 1 (by omega) (by omega) (by omega)
        rw [decide_eq_true (by omega), cond_true, decide_eq_true (by omega), cond_true, show Int.toNat 0 = 0 from rfl, getT_some hg, h_name_c1, hw, hrec, hs]
        have b0 : ((0 : Int) == 0) = true := rfl
        have hr16 : decide (r.length < 16) = decide (s.size ≤ 16) := by
          by_cases h16 : s.size ≤ 16
          · rw [decide_eq_true h16, decide_eq_true (by omega)]
          · rw [decide_eq_false h16, decide_eq_false (by omega)]
        rw [b0]
        simp only [cond_true]
        show _ = fin2 (vb (lowB c && r.all prtB && decide (r.length < 16))) []
        rw [hr16]
        unfold lowB
        by_cases c1 : c.toNat < 97
        · rw [decide_eq_true (show ((c.toNat : Int) < 97) by omega), cond_true, decide_eq_false (show ¬ 97 ≤ c.toNat by omega)]; rfl
        · rw [decide_eq_false (show ¬ ((c.toNat : Int) < 97) by omega), cond_false, decide_eq_true (show 97 ≤ c.toNat by omega)]
          by_cases c5 : c.toNat > 122
          · rw [decide_eq_true (show ((c.toNat : Int) > 122) by omega), cond_true, decide_eq_false (show ¬ c.toNat ≤ 122 by omega)]; rfl
          · rw [decide_eq_false (show ¬ ((c.toNat : Int) > 122) by omega), cond_false, decide_eq_true (show c.toNat ≤ 122 by omega)]; rfl
    · exact (run_no h).elim
  · cases h
theorem word_okB (m : Int) : SpecOk Tryd.prog (globG m) 28 wordBS := by
  intro a b v b' h
  unfold wordBS at h
  split at h
  · rename_i s
    rcases run_ite h with ⟨hl, hx⟩ | ⟨_, hx⟩ <;> clear h <;> have h := hx <;> clear hx
    · refine specAtQ eqs_ok mix vti_ok Tryd.func28 rfl (by kernel_rfl) (.cons (name_ok m) .nil) 0 (Eq.trans (h_word_start m fin2 _ s) ?_)
      rw [hl, cond_true]
      unfold wordB bType bRel bThis at h
      cases h1 : nameB s.data.toList <;> cases h2 : (s.toList == (ByteArray.mk #[116, 121, 112, 101]).toList) <;> cases h3 : (s.toList == (ByteArray.mk #[114, 101, 108]).toList) <;> rw [h1, h2, h3] at h <;> exact h
    · exact (run_no h).elim
  · cases h
/-! Good -/
theorem goodT_parts {n : Nat} {x : Nde} (h : goodT n x = true) : ∃ (n' : Nat) (k : Int) (a b : ByteArray) (l : List (List C)), n = n' + 1 ∧ x = ndC k a b l ∧ l.all (goodT n') = true ∧ l.length < 2000000 ∧ a.size < 1000000 ∧ b.size < 1000000 ∧
      (bif k == 1 then (a.toList == bNo.toList) && (b.toList == bNo.toList) && (l.length == 0)
       else bif k == 2 then wordB a && (b.toList == bNo.toList) && (l.length == 0)
       else bif k == 3 then wordB a && wordB b && (l.length == 0)
       else bif k == 4 || k == 5 then (a.toList == bNo.toList) && (b.toList == bNo.toList) && Nat.ble 2 l.length
       else bif k == 6 then (a.toList == bNo.toList) && (b.toList == bNo.toList) && (l.length == 2)
       else false) = true := by
  unfold goodT at h
  split at h
  · cases h
  · rename_i n' k a b l
    rw [Bool.and_eq_true, Bool.and_eq_true, Bool.and_eq_true, Bool.and_eq_true, decide_eq_true_eq, decide_eq_true_eq, decide_eq_true_eq] at h
    exact ⟨n', k, a, b, l, rfl, rfl, h.1.1.1.1, h.1.1.1.2, h.1.1.2, h.1.2, h.2⟩
  · cases h
theorem good_end {R : Type} (m : Int) (N : Nat) (k : V → Bx → Option R) (F : Nat) (ka : Int) (a b : ByteArray) (l : List (List C)) (ha : a.size < 1000000) (hb : b.size < 1000000)
    (h : (bif ka == 1 then (a.toList == bNo.toList) && (b.toList == bNo.toList) && (l.length == 0)
       else bif ka == 2 then wordB a && (b.toList == bNo.toList) && (l.length == 0)
       else bif ka == 3 then wordB a && wordB b && (l.length == 0)
       else bif ka == 4 || ka == 5 then (a.toList == bNo.toList) && (b.toList == bNo.toList) && Nat.ble 2 l.length
       else bif ka == 6 then (a.toList == bNo.toList) && (b.toList == bNo.toList) && (l.length == 2)
       else false) = true) : h_good_K0 m N k F (.ex 0) (h_good_E1 ka a b l) = k (vb true) [] := by
  have en : (ByteArray.mk #[]).toList = bNo.toList := rfl
  rw [h_good_c1, en, decide_eq_true ha, decide_eq_true hb]
  simp only [cond_true]
  cases k1 : ka == 1 with
  | true =>
    rw [k1, cond_true, Bool.and_eq_true, Bool.and_eq_true] at h
    have : ((l.length : Int) == 0) = true := by have := h.2; rw [beq_iff_eq] at this ⊢; omega
    rw [cond_true, h.1.1, cond_true, h.1.2, cond_true, this]
  | false =>
  rw [k1, cond_false] at h
  rw [cond_false]
  cases k2 : ka == 2 with
  | true =>
    rw [k2, cond_true, Bool.and_eq_true, Bool.and_eq_true] at h
    have : ((l.length : Int) == 0) = true := by have := h.2; rw [beq_iff_eq] at this ⊢; omega
    rw [cond_true, h.1.1, cond_true, h.1.2, cond_true, this]
  | false =>
  rw [k2, cond_false] at h
  rw [cond_false]
  cases k3 : ka == 3 with
  | true =>
    rw [k3, cond_true, Bool.and_eq_true, Bool.and_eq_true] at h
    have : ((l.length : Int) == 0) = true := by have := h.2; rw [beq_iff_eq] at this ⊢; omega
    rw [cond_true, h.1.1, cond_true, h.1.2, cond_true, this]
  | false =>
  rw [k3, cond_false] at h
  rw [cond_false]
  cases k4 : ka == 4 with
  | true =>
    rw [k4, Bool.true_or, cond_true, Bool.and_eq_true, Bool.and_eq_true] at h
    have : decide ((l.length : Int) ≥ 2) = true := by have := h.2; rw [Nat.ble_eq] at this; simp only [decide_eq_true_eq]; omega
    rw [cond_true, cond_true, h.1.1, cond_true, h.1.2, cond_true, this]
  | false =>
  rw [cond_false]
  cases k5 : ka == 5 with
  | true =>
    rw [k4, k5, Bool.or_true, cond_true, Bool.and_eq_true, Bool.and_eq_true] at h
    have : decide ((l.length : Int) ≥ 2) = true := by have := h.2; rw [Nat.ble_eq] at this; simp only [decide_eq_true_eq]; omega
    rw [cond_true, h.1.1, cond_true, h.1.2, cond_true, this]
  | false =>
  rw [k4, k5, Bool.or_self, cond_false] at h
  rw [cond_false]
  cases k6 : ka == 6 with
  | true =>
    rw [k6, cond_true, Bool.and_eq_true, Bool.and_eq_true] at h
    have : ((l.length : Int) == 2) = true := by have := h.2; rw [beq_iff_eq] at this ⊢; omega
    rw [cond_true, h.1.1, cond_true, h.1.2, cond_true, this]
  | false => rw [k6] at h; cases h
theorem good_loop {R : Type} (m : Int) (N : Nat) (k : V → Bx → Option R) (F : Nat) (ka : Int) (a b : ByteArray) (l : List (List C)) (hl : l.all (goodT N) = true) (hlen : l.length < 2000000) : ∀ (n i : Nat), i ≤ l.length → l.length - i < n →
    h_good_L0 m N (h_good_K0 m N k F) F n l ka a b l (i : Int) = h_good_K0 m N k F (.ex 0) (h_good_E1 ka a b l) := by
  intro n
  induction n with
  | zero => intro i h h1; omega
  | succ n ih =>
    intro i h h1
    rw [h_good_r0]
    by_cases hi : i < l.length
    · have hx := List.all_eq_true.1 hl l[i] (List.getElem_mem hi)
      have hg : l[i]? = some l[i] := List.getElem?_eq_getElem hi
      obtain ⟨n', k', a', b', l', hN, he, _⟩ := goodT_parts hx
      rw [he] at hg hx
      rw [decide_eq_true (by omega), cond_true, decide_eq_true (by omega), cond_true, getT_at rfl hg]
      have e1 : List.take 4 (ndC k' a' b' l') = ndC k' a' b' l' := rfl
      have e3 : ((ndC k' a' b' l').length == 4) = true := rfl
      have e4 : shOk [Sh.int IntKind.i64, Sh.str, Sh.str, Sh.sl 4] (ndC k' a' b' l') = true := rfl
      rw [e1, e3, cond_true, e4, cond_true]
      refine Eq.trans (congrArg (fun c => bif c then _ else _) hx) ?_
      rw [cond_true, w64 _ (by omega) (by omega)]
      exact ih (i + 1) (by omega) (by omega)
    · have : i = l.length := by omega
      subst this
      rw [decide_eq_false (by omega), cond_false]
theorem good_ok (m : Int) : ∀ N, SpecOk Tryd.prog (globG m) 23 (goodS N) := by
  intro N
  induction N with
  | zero =>
    intro a b v b' h
    unfold goodS at h
    split at h
    · rename_i x
      rcases run_ite h with ⟨hl, hx⟩ | ⟨_, hx⟩
      · obtain ⟨n', _, _, _, _, hn, _⟩ := goodT_parts hl
        omega
      · exact (run_no hx).elim
    · cases h
  | succ N ih =>
    intro a b v b' h
    unfold goodS at h
    split at h
    · rename_i x
      rcases run_ite h with ⟨hl, hx⟩ | ⟨_, hx⟩ <;> clear h <;> have h := hx <;> clear hx
      · obtain ⟨n', k, a, b, l, hn, rfl, h1, h2, h3, h4, h5⟩ := goodT_parts hl
        obtain rfl : n' = N := by omega
        obtain ⟨rfl, rfl⟩ := run_ret h
        refine specAtQ eqs_ok mix vti_ok Tryd.func23 rfl (by kernel_rfl) (.cons ih (.cons (word_okB m) .nil)) (l.length + 1) (Eq.trans (h_good_start m n' fin2 _ k a b l) ?_)
        rw [show (0 : Int) = ((0 : Nat) : Int) from rfl, good_loop m n' fin2 _ k a b l h1 h2 (l.length + 1) 0 (by omega) (by omega), good_end m n' fin2 _ k a b l h3 h4 h5]
      · exact (run_no h).elim
    · cases h
end Go.Proofs.YtniiimpcakmkbaaDoor

/- grammar: what is read without an error is a good node (plain) -/
set_option linter.unusedVariables false
namespace Go.Proofs.YtniiimpcakmkbaaDoor
open Go Vm
/-! ### trees -/
theorem tree_ndC (n : Nat) (k : Int) (a b : ByteArray) (l : List Nde) : tree (n + 1) (ndC k a b l) = (l.all (tree n) && decide (l.length < 2000000)) := rfl
theorem goodT_ndC (n : Nat) (k : Int) (a b : ByteArray) (l : List Nde) : goodT (n + 1) (ndC k a b l) = (l.all (goodT n) && decide (l.length < 2000000) && decide (a.size < 1000000) && decide (b.size < 1000000) &&
      (bif k == 1 then (a.toList == bNo.toList) && (b.toList == bNo.toList) && (l.length == 0)
       else bif k == 2 then wordB a && (b.toList == bNo.toList) && (l.length == 0)
       else bif k == 3 then wordB a && wordB b && (l.length == 0)
       else bif k == 4 || k == 5 then (a.toList == bNo.toList) && (b.toList == bNo.toList) && Nat.ble 2 l.length
       else bif k == 6 then (a.toList == bNo.toList) && (b.toList == bNo.toList) && (l.length == 2)
       else false)) := rfl
theorem bE_toList : bE.toList = [] := by rw [Go.Lib.toList_data]; rfl
theorem bNo_toList : bNo.toList = [] := by rw [Go.Lib.toList_data]; rfl
theorem tree_up : ∀ (n : Nat) (x : Nde), tree n x = true → tree (n + 1) x = true := by
  intro n
  induction n with
  | zero => intro x h; unfold tree at h; cases h
  | succ n ih =>
    intro x h
    obtain ⟨n', k, a, b, l, hn, rfl, h1, h2⟩ := tree_parts h
    obtain rfl : n' = n := by omega
    rw [tree_ndC, Bool.and_eq_true, decide_eq_true_eq]
    exact ⟨List.all_eq_true.2 fun x hx => ih x (List.all_eq_true.1 h1 x hx), h2⟩
theorem tree_le {n n' : Nat} (hn : n ≤ n') {x : Nde} (h : tree n x = true) : tree n' x = true := by
  induction hn with
  | refl => exact h
  | step _ ih => exact tree_up _ _ ih
theorem tree_mk {n : Nat} {k : Int} {a b : ByteArray} {l : List Nde} (h : l.all (tree n) = true) (hl : l.length < 2000000) : tree (n + 1) (ndC k a b l) = true := by
  rw [tree_ndC, h, decide_eq_true hl]; rfl
theorem tree_of {n : Nat} {k : Int} {l : List Nde} (h : l.all (tree n) = true) (hl : l.length < 2000000) : tree (n + 1) (ofG k l) = true := by
  unfold ofG
  cases h1 : l.length == 1 with
  | true =>
    match l, h1 with
    | [x], _ => exact tree_up _ _ (by simpa using h)
  | false => exact tree_mk h hl
def TreeR (L : List (List C)) (f : Rd) (d N : Nat) : Prop := ∀ s, St8 L s → lvl s = d → tree N (f s).2 = true
theorem atom_tree {L : List (List C)} {un : Rd} {d N : Nat} (hN : 1 ≤ N) (hu : ∀ d', d = d' + 1 → TreeR L un d' N) : TreeR L (atomG L un) d N := by
  intro s h hd
  have z : ∀ k a b, tree N (ndC k a b []) = true := fun k a b => tree_le hN (by unfold tree; rfl)
  unfold atomG
  cases h40 : kindG L s == 40 with
  | true =>
    rw [cond_true]
    by_cases h8 : s.op ≥ 8
    · rw [decide_eq_true h8, cond_true]; exact z _ _ _
    · rw [decide_eq_false h8, cond_false]
      have ho := h.o0
      have h1 : St8 L ⟨s.at_, s.op + 1, s.er⟩ := ⟨h.tk, h.len, h.a0, h.a1, by simp only; omega, by simp only; omega, h.e2⟩
      obtain ⟨h2, f2⟩ := gtake_ok h1 (k := 40) (by decide)
      refine hu (7 - s.op).toNat ?_ _ h2 ?_
      · rw [← hd]; unfold lvl; omega
      · rw [lvl_fol f2]; unfold lvl; simp only; omega
  | false =>
    rw [cond_false]
    cases h4 : kindG L s == 4 with
    | true => exact z _ _ _
    | false =>
      rw [cond_false]
      cases h5 : kindG L (takeG L 1 s).1 == 5 with
      | true => exact z _ _ _
      | false => exact z _ _ _
theorem less_tree {L : List (List C)} {un : Rd} {d N : Nat} (hg : ∀ d', d = d' + 1 → Good L un d') (hN : 1 ≤ N) (hu : ∀ d', d = d' + 1 → TreeR L un d' N) : TreeR L (lessG L un) d (N + 1) := by
  intro s h hd
  unfold lessG
  obtain ⟨h1, f1, n1⟩ := atom_good hg s h hd
  have t1 := atom_tree hN hu s h hd
  cases hk : kindG L (atomG L un s).1 == 45 with
  | true =>
    obtain ⟨h2, f2⟩ := gnext_ok h1 (kind_some (by decide) hk).2.1
    have t2 := atom_tree hN hu _ h2 ((lvl_fol (f1.trans f2)).trans hd)
    exact tree_mk (by simp [t1, t2]) (by simp)
  | false => exact tree_up _ _ t1
theorem more_tree {L : List (List C)} {one : Rd} {d N : Nat} (ho : Good L one d) (ht : TreeR L one d N) {sg : Int} (hsg : sg ≠ 0) : ∀ (n : Nat) (s : PS) (out : List Nde), St8 L s → lvl s = d → out.all (tree N) = true → (moreG L one sg n s out).2.all (tree N) = true := by
  intro n
  induction n with
  | zero => intro s out _ _ h; exact h
  | succ n ih =>
    intro s out h hd hall
    unfold moreG
    cases hk : kindG L s == sg with
    | true =>
      obtain ⟨_, hlt, _⟩ := kind_some hsg hk
      obtain ⟨h2, f2⟩ := gnext_ok h hlt
      have hd2 := (lvl_fol f2).trans hd
      obtain ⟨h3, f3, n3⟩ := ho _ h2 hd2
      rw [cond_true]
      exact ih _ _ h3 ((lvl_fol f3).trans hd2) (by rw [List.all_append, hall]; simp [ht _ h2 hd2])
    | false => exact hall
theorem list_tree {L : List (List C)} {one : Rd} {d N : Nat} (ho : Good L one d) (ht : TreeR L one d N) {sg : Int} (hsg : sg ≠ 0) {s : PS} (h : St8 L s) (hd : lvl s = d) : (listG L one sg s).2.all (tree N) = true := by
  obtain ⟨h1, f1, n1⟩ := ho s h hd
  exact more_tree ho ht hsg _ _ _ h1 ((lvl_fol f1).trans hd) (by simp [ht s h hd])
theorem meet_tree {L : List (List C)} {un : Rd} {d N : Nat} (hg : ∀ d', d = d' + 1 → Good L un d') (hN : 1 ≤ N) (hu : ∀ d', d = d' + 1 → TreeR L un d' N) : TreeR L (meetG L un) d (N + 2) := by
  intro s h hd
  have := (list_good (less_good hg) (sg := 38) (by decide) h hd).2.2.2
  exact tree_of (list_tree (less_good hg) (less_tree hg hN hu) (by decide) h hd) (by omega)
theorem union_tree {L : List (List C)} {un : Rd} {d N : Nat} (hg : ∀ d', d = d' + 1 → Good L un d') (hN : 1 ≤ N) (hu : ∀ d', d = d' + 1 → TreeR L un d' N) : TreeR L (unionL L un) d (N + 3) := by
  intro s h hd
  have := (list_good (meet_good hg) (sg := 124) (by decide) h hd).2.2.2
  exact tree_of (list_tree (meet_good hg) (meet_tree hg hN hu) (by decide) h hd) (by omega)
theorem unionN_tree (L : List (List C)) : ∀ d, TreeR L (unionN L d) d (3 * d + 4) := by
  intro d
  induction d with
  | zero => exact union_tree (N := 1) (fun d' h => by omega) (by omega) (fun d' h => by omega)
  | succ d ih =>
    have := union_tree (L := L) (un := unionN L d) (d := d + 1) (N := 3 * d + 4) (fun d' h => (show d = d' by omega) ▸ unionN_good L d) (by omega) (fun d' h => (show d = d' by omega) ▸ ih)
    rw [show 3 * (d + 1) + 4 = 3 * d + 4 + 3 by omega]; exact this
theorem unionA_tree {L : List (List C)} {s : PS} (h : St8 L s) : tree 30 (unionA L s).2 = true := by
  have ho := h.o0
  rw [unionA_eq, ← unionN_eq]
  exact tree_le (by unfold lvl; omega) (unionN_tree L (lvl s) s h rfl)
theorem exprN_tree {s : ByteArray} (hz : s.size < 1000000) : tree 30 (exprN s) = true := by
  obtain ⟨h1, h2⟩ := lexP_toks s hz
  unfold exprN
  cases ((lexP s).2.2.2 == 0 && Nat.beq (endW s).er 0) with
  | true => exact unionA_tree (st0 h1 h2)
  | false => exact tree_le (n := 1) (by omega) rfl
/-! ### good nodes -/
theorem goodT_up : ∀ (n : Nat) (x : Nde), goodT n x = true → goodT (n + 1) x = true := by
  intro n
  induction n with
  | zero => intro x h; unfold goodT at h; cases h
  | succ n ih =>
    intro x h
    obtain ⟨n', k, a, b, l, hn, rfl, h1, h2, h3, h4, h5⟩ := goodT_parts h
    obtain rfl : n' = n := by omega
    rw [goodT_ndC]
    rw [h5, decide_eq_true h2, decide_eq_true h3, decide_eq_true h4, List.all_eq_true.2 fun x hx => ih x (List.all_eq_true.1 h1 x hx)]; rfl
theorem goodT_le {n n' : Nat} (hn : n ≤ n') {x : Nde} (h : goodT n x = true) : goodT n' x = true := by
  induction hn with
  | refl => exact h
  | step _ ih => exact goodT_up _ _ ih
theorem goodT_mk {n : Nat} {k : Int} {l : List Nde} (h : l.all (goodT n) = true) (hl : l.length < 2000000) (hk : ((k = 4 ∨ k = 5) ∧ 2 ≤ l.length) ∨ (k = 6 ∧ l.length = 2)) : goodT (n + 1) (ndC k bE bE l) = true := by
  have e1 : (bE.toList == bNo.toList) = true := by rw [bE_toList, bNo_toList]; rfl
  have e2 : decide (bE.size < 1000000) = true := rfl
  rw [goodT_ndC, h, decide_eq_true hl, e1, e2]
  rcases hk with ⟨rfl | rfl, h2⟩ | ⟨rfl, h2⟩
  · have : Nat.ble 2 l.length = true := by rw [Nat.ble_eq]; exact h2
    rw [this]; rfl
  · have : Nat.ble 2 l.length = true := by rw [Nat.ble_eq]; exact h2
    rw [this]; rfl
  · have : (l.length == 2) = true := by simpa using h2
    rw [this]; rfl
theorem goodT_of {n : Nat} {k : Int} {l : List Nde} (h : l.all (goodT n) = true) (hl : l.length < 2000000) (h0 : 0 < l.length) (hk : k = 4 ∨ k = 5) : goodT (n + 1) (ofG k l) = true := by
  unfold ofG
  cases h1 : l.length == 1 with
  | true =>
    match l, h1 with
    | [x], _ => exact goodT_up _ _ (by simpa using h)
  | false => exact goodT_mk h hl (.inl ⟨hk, by rw [beq_eq_false_iff_ne] at h1; omega⟩)
/-- words are the texts of the tokens of that kind -/
def TokW (L : List (List C)) : Prop := ∀ i : Int, 0 ≤ i → i < L.length → tkK L i = 1 → wordB (tkT L i) = true ∧ (tkT L i).size < 1000000
theorem fail_er {n : Nat} (hn : n ≠ 0) {s : PS} (h : (failG n s).er = 0) : False := by
  unfold failG at h
  simp only at h
  rw [beq0] at h
  by_cases h0 : s.er = 0
  · rw [decide_eq_true h0] at h; exact hn h
  · rw [decide_eq_false h0] at h; exact h0 h
theorem take_er {L : List (List C)} {s : PS} {k : Int} (hk : k ≠ 0) (h : (takeG L k s).1.er = 0) : s.er = 0 ∧ (kindG L s == k) = true ∧ (takeG L k s).2 = tkT L s.at_ ∧ s.at_ < L.length ∧ tkK L s.at_ = k := by
  unfold takeG at h ⊢
  cases hc : kindG L s == k with
  | true =>
    rw [hc] at h
    obtain ⟨h1, h2, h3⟩ := kind_some hk hc
    exact ⟨h1, rfl, rfl, h2, h3⟩
  | false => rw [hc] at h; exact (fail_er (by decide) h).elim
def GoodR (L : List (List C)) (f : Rd) (d N : Nat) : Prop := ∀ s, St8 L s → lvl s = d → (f s).1.er = 0 → s.er = 0 ∧ goodT N (f s).2 = true
theorem atom_goodR {L : List (List C)} (hw : TokW L) {un : Rd} {d N : Nat} (hg : ∀ d', d = d' + 1 → Good L un d') (hN : 1 ≤ N) (hu : ∀ d', d = d' + 1 → GoodR L un d' N) : GoodR L (atomG L un) d N := by
  intro s h hd
  unfold atomG
  cases h40 : kindG L s == 40 with
  | true =>
    rw [cond_true]
    by_cases h8 : s.op ≥ 8
    · rw [decide_eq_true h8, cond_true]; intro he; exact (fail_er (by decide) he).elim
    · rw [decide_eq_false h8, cond_false]
      have ho := h.o0
      have h1 : St8 L ⟨s.at_, s.op + 1, s.er⟩ := ⟨h.tk, h.len, h.a0, h.a1, by simp only; omega, by simp only; omega, h.e2⟩
      obtain ⟨h2, f2⟩ := gtake_ok h1 (k := 40) (by decide)
      intro he
      have hl2 : lvl (takeG L 40 ⟨s.at_, s.op + 1, s.er⟩).1 = (7 - s.op).toNat := by rw [lvl_fol f2]; unfold lvl; simp only; omega
      have hdd : d = (7 - s.op).toNat + 1 := by rw [← hd]; unfold lvl; omega
      obtain ⟨h3, f3, _⟩ := hg _ hdd _ h2 hl2
      have h41 := (take_er (L := L) (k := 41) (by decide) he).1
      obtain ⟨hu1, hu2⟩ := hu _ hdd _ h2 hl2 h41
      exact ⟨(take_er (L := L) (k := 40) (by decide) hu1).1, hu2⟩
  | false =>
    rw [cond_false]
    cases h4 : kindG L s == 4 with
    | true =>
      rw [cond_true]; intro he; exact ⟨he, goodT_le hN (by rw [goodT_ndC, bE_toList, bNo_toList]; rfl)⟩
    | false =>
      rw [cond_false]
      obtain ⟨h1, f1⟩ := gtake_ok h (k := 1) (by decide)
      have ha0 := h.a0
      cases h5 : kindG L (takeG L 1 s).1 == 5 with
      | true =>
        intro he
        obtain ⟨h2, f2⟩ := gnext_ok h1 (kind_some (by decide) h5).2.1
        obtain ⟨q1, _, q3, q4, q5⟩ := take_er (L := L) (k := 1) (by decide) he
        obtain ⟨p1, _, p3, p4, p5⟩ := take_er (L := L) (s := s) (k := 1) (by decide) q1
        refine ⟨p1, goodT_le hN ?_⟩
        rw [cond_true, p3, q3]
        obtain ⟨w1, w2⟩ := hw s.at_ ha0 p4 p5
        obtain ⟨w3, w4⟩ := hw (nextG (takeG L 1 s).1).at_ h2.a0 q4 q5
        rw [goodT_ndC, w1, w3, decide_eq_true w2, decide_eq_true w4]; rfl
      | false =>
        intro he
        obtain ⟨p1, _, p3, p4, p5⟩ := take_er (L := L) (s := s) (k := 1) (by decide) he
        refine ⟨p1, goodT_le hN ?_⟩
        rw [cond_false, p3]
        obtain ⟨w1, w2⟩ := hw s.at_ ha0 p4 p5
        rw [goodT_ndC, w1, decide_eq_true w2, bE_toList, bNo_toList]; rfl
theorem less_goodR {L : List (List C)} (hw : TokW L) {un : Rd} {d N : Nat} (hg : ∀ d', d = d' + 1 → Good L un d') (hN : 1 ≤ N) (hu : ∀ d', d = d' + 1 → GoodR L un d' N) : GoodR L (lessG L un) d (N + 1) := by
  intro s h hd
  unfold lessG
  obtain ⟨h1, f1, n1⟩ := atom_good hg s h hd
  have t1 := atom_goodR hw hg hN hu s h hd
  cases hk : kindG L (atomG L un s).1 == 45 with
  | true =>
    intro he
    obtain ⟨h2, f2⟩ := gnext_ok h1 (kind_some (by decide) hk).2.1
    obtain ⟨q1, q2⟩ := atom_goodR hw hg hN hu _ h2 ((lvl_fol (f1.trans f2)).trans hd) he
    obtain ⟨p1, p2⟩ := t1 q1
    exact ⟨p1, goodT_mk (by simp [p2, q2]) (by simp) (.inr ⟨rfl, rfl⟩)⟩
  | false => intro he; obtain ⟨p1, p2⟩ := t1 he; exact ⟨p1, goodT_up _ _ p2⟩
theorem more_goodR {L : List (List C)} {one : Rd} {d N : Nat} (ho : Good L one d) (ht : GoodR L one d N) {sg : Int} (hsg : sg ≠ 0) : ∀ (n : Nat) (s : PS) (out : List Nde), St8 L s → lvl s = d → (moreG L one sg n s out).1.er = 0 →
    s.er = 0 ∧ (out.all (goodT N) = true → (moreG L one sg n s out).2.all (goodT N) = true) ∧ out.length ≤ (moreG L one sg n s out).2.length := by
  intro n
  induction n with
  | zero => intro s out _ _ h; exact ⟨h, fun h => h, Nat.le_refl _⟩
  | succ n ih =>
    intro s out h hd
    unfold moreG
    cases hk : kindG L s == sg with
    | true =>
      rw [cond_true]
      intro he
      obtain ⟨_, hlt, _⟩ := kind_some hsg hk
      obtain ⟨h2, f2⟩ := gnext_ok h hlt
      have hd2 := (lvl_fol f2).trans hd
      obtain ⟨h3, f3, n3⟩ := ho _ h2 hd2
      obtain ⟨q1, q2, q3⟩ := ih _ _ h3 ((lvl_fol f3).trans hd2) he
      obtain ⟨p1, p2⟩ := ht _ h2 hd2 q1
      refine ⟨p1, fun hall => q2 (by rw [List.all_append, hall]; simp [p2]), ?_⟩
      simp only [List.length_append, List.length_cons, List.length_nil] at q3
      omega
    | false => rw [cond_false]; intro he; exact ⟨he, fun h => h, Nat.le_refl _⟩
theorem list_goodR {L : List (List C)} {one : Rd} {d N : Nat} (ho : Good L one d) (ht : GoodR L one d N) {sg : Int} (hsg : sg ≠ 0) {s : PS} (h : St8 L s) (hd : lvl s = d) (he : (listG L one sg s).1.er = 0) :
    s.er = 0 ∧ (listG L one sg s).2.all (goodT N) = true ∧ 0 < (listG L one sg s).2.length := by
  obtain ⟨h1, f1, n1⟩ := ho s h hd
  obtain ⟨q1, q2, q3⟩ := more_goodR ho ht hsg _ _ _ h1 ((lvl_fol f1).trans hd) he
  obtain ⟨p1, p2⟩ := ht s h hd q1
  exact ⟨p1, q2 (by simp [p2]), by simp only [List.length_cons, List.length_nil] at q3; exact q3⟩
theorem meet_goodR {L : List (List C)} (hw : TokW L) {un : Rd} {d N : Nat} (hg : ∀ d', d = d' + 1 → Good L un d') (hN : 1 ≤ N) (hu : ∀ d', d = d' + 1 → GoodR L un d' N) : GoodR L (meetG L un) d (N + 2) := by
  intro s h hd he
  have := (list_good (less_good hg) (sg := 38) (by decide) h hd).2.2.2
  obtain ⟨q1, q2, q3⟩ := list_goodR (less_good hg) (less_goodR hw hg hN hu) (sg := 38) (by decide) h hd he
  exact ⟨q1, goodT_of q2 (by omega) q3 (.inr rfl)⟩
theorem union_goodR {L : List (List C)} (hw : TokW L) {un : Rd} {d N : Nat} (hg : ∀ d', d = d' + 1 → Good L un d') (hN : 1 ≤ N) (hu : ∀ d', d = d' + 1 → GoodR L un d' N) : GoodR L (unionL L un) d (N + 3) := by
  intro s h hd he
  have := (list_good (meet_good hg) (sg := 124) (by decide) h hd).2.2.2
  obtain ⟨q1, q2, q3⟩ := list_goodR (meet_good hg) (meet_goodR hw hg hN hu) (sg := 124) (by decide) h hd he
  exact ⟨q1, goodT_of q2 (by omega) q3 (.inl rfl)⟩
theorem unionN_goodR {L : List (List C)} (hw : TokW L) : ∀ d, GoodR L (unionN L d) d (3 * d + 4) := by
  intro d
  induction d with
  | zero => exact union_goodR hw (N := 1) (fun d' h => by omega) (by omega) (fun d' h => by omega)
  | succ d ih =>
    have := union_goodR hw (un := unionN L d) (d := d + 1) (N := 3 * d + 4) (fun d' h => (show d = d' by omega) ▸ unionN_good L d) (by omega) (fun d' h => (show d = d' by omega) ▸ ih)
    rw [show 3 * (d + 1) + 4 = 3 * d + 4 + 3 by omega]; exact this
theorem unionA_goodR {L : List (List C)} (hw : TokW L) {s : PS} (h : St8 L s) (he : (unionA L s).1.er = 0) : s.er = 0 ∧ goodT 30 (unionA L s).2 = true := by
  have ho := h.o0
  rw [unionA_eq, ← unionN_eq] at he ⊢
  obtain ⟨h1, h2⟩ := unionN_goodR hw (lvl s) s h rfl he
  exact ⟨h1, goodT_le (by unfold lvl; omega) h2⟩
/-! ### the lexer's words -/
theorem tokN_word {ns : List Nat} {t : List Nat} (h : tokN ns = some (1, t)) : t = wordN ns ∧ t ≠ [] ∧ t.length ≤ 16 ∧ kindN t = 1 := by
  unfold tokN at h
  by_cases hw : wordN ns ≠ []
  · rw [if_pos hw] at h
    split at h
    · rename_i hl
      have h9 := Prod.mk.inj (Option.some.inj h)
      rw [← h9.2]
      exact ⟨rfl, hw, hl, h9.1⟩
    · cases h
  · rw [if_neg hw] at h
    split at h
    · cases h
    · cases ns with
      | nil => cases h
      | cons c r =>
        simp only at h
        split at h
        · rename_i hc
          have h9 := Prod.mk.inj (Option.some.inj h)
          have : ∀ x ∈ signsN, x ≠ 1 := by decide
          exact absurd (by have := h9.1; omega) (this c hc)
        · cases h
theorem tok_low {ns : List Nat} {k : Int} {t : List Nat} (h : tokN ns = some (k, t)) : ∀ x ∈ t, x < 128 := by
  unfold tokN at h
  by_cases hw : wordN ns ≠ []
  · rw [if_pos hw] at h
    split at h
    · cases h; exact word_ascii ns
    · cases h
  · rw [if_neg hw] at h
    split at h
    · cases h; decide
    · cases ns with
      | nil => cases h
      | cons c r =>
        simp only at h
        split at h
        · rename_i hc
          cases h
          have : ∀ x ∈ signsN, x < 128 := by decide
          intro x hx
          simp only [List.mem_cons, List.mem_nil_iff, or_false] at hx
          subst hx; exact this _ hc
        · cases h
theorem lowB_N {c : Nat} (h : c < 128) : lowB (UInt8.ofNat c) = lowN c := by unfold lowB lowN; rw [u8 c (by omega)]
theorem prtB_N {c : Nat} (h : c < 128) : prtB (UInt8.ofNat c) = partN c := by
  unfold prtB partN; rw [lowB_N h, u8 c (by omega)]
  congr 1
theorem word_good {ns : List Nat} {t : List Nat} (h : tokN ns = some (1, t)) : wordB (bsN t) = true ∧ (bsN t).size < 1000000 := by
  obtain ⟨ht, hne, hl, hk⟩ := tokN_word h
  have ha := tok_low h
  have hsz : (bsN t).size = t.length := by rw [bsN_size, encs_ascii t ha]; simp
  refine ⟨?_, by omega⟩
  unfold wordB
  have sw := SC_low ha
  have e1 : bType = bsN [116, 121, 112, 101] := rfl
  have e2 : bRel = bsN [114, 101, 108] := rfl
  have e3 : bThis = bsN [116, 104, 105, 115] := rfl
  rw [e1, e2, e3, eqb_encs sw (SC_low (by decide)), eqb_encs sw (SC_low (by decide)), eqb_encs sw (SC_low (by decide))]
  unfold kindN at hk
  have n1 : ¬ t = [116, 121, 112, 101] := fun e => by rw [if_pos e] at hk; cases hk
  have n2 : ¬ t = [114, 101, 108] := fun e => by rw [if_neg n1, if_pos e] at hk; cases hk
  have n3 : ¬ t = [116, 104, 105, 115] := fun e => by rw [if_neg n1, if_neg n2, if_pos e] at hk; cases hk
  rw [decide_eq_false n1, decide_eq_false n2, decide_eq_false n3, bsN_data, encs_ascii t ha]
  simp only [Bool.not_false, Bool.and_true]
  cases ns with
  | nil => rw [ht] at hne; exact absurd rfl hne
  | cons c r =>
    rw [wordN_cons] at ht
    split at ht
    · rename_i hc
      rw [ht] at ha hl ⊢
      have h2 : ∀ x ∈ r.takeWhile partN, partN x = true := fun x hx => mem_takeW hx
      simp only [List.map_cons, nameB]
      rw [lowB_N (ha c (by simp)), hc]
      have h3 : ((r.takeWhile partN).map UInt8.ofNat).all prtB = true := by
        rw [List.all_eq_true]
        intro y hy
        obtain ⟨x, hx, rfl⟩ := List.mem_map.1 hy
        rw [prtB_N (ha x (by simp [hx]))]; exact h2 x hx
      rw [h3]
      simp only [List.length_cons] at hl
      simp only [Bool.true_and, List.length_map, decide_eq_true_eq]
      omega
    · exact absurd ht hne
theorem lx_words {p ns o q e} (h : Lx p ns o q e) : ∀ x ∈ o, x.1 = 1 → wordB (bsN x.2.1) = true ∧ (bsN x.2.1).size < 1000000 := by
  induction h with
  | nil p => intro x hx; cases hx
  | blank _ _ ih => exact ih
  | rem _ _ ih => exact ih
  | @tok p c r o q e k t r' hb hr ht hsp _ ih =>
    intro x hx h1
    rcases List.mem_cons.1 hx with rfl | hx
    · simp only at h1
      subst h1
      exact word_good ht
    · exact ih x hx h1
  | bad => intro x hx; cases hx
theorem tokW_map {o : List Tok} (h : ∀ x ∈ o, x.1 = 1 → wordB (bsN x.2.1) = true ∧ (bsN x.2.1).size < 1000000) : TokW (o.map tokC) := by
  intro i h0 h1 hk
  obtain ⟨j, rfl⟩ : ∃ j : Nat, i = j := ⟨i.toNat, by omega⟩
  have hj : j < o.length := by rw [List.length_map] at h1; omega
  have hg : (o.map tokC)[j]? = some (tokC o[j]) := by simp [hj]
  unfold tkK at hk
  unfold tkT
  rw [Int.toNat_natCast, List.getD_eq_getElem?_getD (l := o.map tokC), hg] at hk ⊢
  exact h o[j] (List.getElem_mem hj) hk
theorem lexP_words (s : ByteArray) (hz : s.size < 1000000) : TokW (lexP s).1 := by
  have hnil : TokW [] := fun i h0 h1 => by simp at h1; omega
  cases hv : validP s with
  | false => rw [lexP_bad hv]; exact hnil
  | true =>
    obtain ⟨ns, hs, rfl⟩ := valid_bsN hv
    have hel := encs_len ns
    have hbs := bsN_size ns
    by_cases hl : ns.length ≤ 3000
    · obtain ⟨o, q, e, hx⟩ := Lx.total _ ns (1, 1) (Nat.lt_succ_self _)
      rw [lexP_encs hs hl hx]
      unfold lexRes
      split
      · exact tokW_map (lx_words hx)
      · exact hnil
    · rw [lexP_big hs (by omega) (by omega)]; exact hnil
theorem exprN_good {s : ByteArray} (hz : s.size < 1000000) (h : exprE s = 0) : goodT 30 (exprN s) = true := by
  obtain ⟨h1, h2⟩ := lexP_toks s hz
  unfold exprE at h
  unfold exprN
  cases he : (lexP s).2.2.2 == 0 with
  | false => rw [he] at h; rw [beq_eq_false_iff_ne] at he; exact absurd h he
  | true =>
    rw [he, cond_true] at h
    have g3 := end_good (rd0_good hz).1
    have hr : (endW s).er = 0 := by
      rcases er3 (show (endW s).er ≤ 2 from g3.e2) with h3 | h3 | h3
      · exact h3
      · rw [h3] at h; cases h
      · rw [h3] at h; cases h
    have hr2 : (rd0 s).1.er = 0 := by
      unfold endW endG at hr
      by_cases hlt : (rd0 s).1.at_ < ((lexP s).1.length : Int)
      · rw [decide_eq_true hlt, cond_true] at hr; exact (fail_er (by decide) hr).elim
      · rw [decide_eq_false hlt, cond_false] at hr; exact hr
    rw [hr]
    exact (unionA_goodR (lexP_words s hz) (st0 h1 h2) hr2).2
end Go.Proofs.YtniiimpcakmkbaaDoor

/- grammar: the laws' tables; constant texts -/
set_option linter.unusedVariables false
namespace Go.Proofs.YtniiimpcakmkbaaDoor
open Go Vm Go.RowKit
/-! ### the lexer as a function -/
def lxF : Nat → Int × Int → List Nat → List Tok × (Int × Int) × Int
  | 0, p, _ => ([], p, 10)
  | _ + 1, p, [] => ([], p, 0)
  | n + 1, p, c :: r =>
    bif blankN c then lxF n (advN p c) r
    else bif isRem (c :: r) then lxF n (advs p ((c :: r).takeWhile ne10)) ((c :: r).dropWhile ne10)
    else match tokN (c :: r) with
      | none => ([], p, 10)
      | some (k, t) => ((k, t, p) :: (lxF n (advs p t) ((c :: r).drop t.length)).1, (lxF n (advs p t) ((c :: r).drop t.length)).2)
theorem lxF_ok : ∀ (n : Nat) (ns : List Nat) (p : Int × Int), ns.length < n → Lx p ns (lxF n p ns).1 (lxF n p ns).2.1 (lxF n p ns).2.2 := by
  intro n
  induction n with
  | zero => intro ns p h; omega
  | succ n ih =>
    intro ns p h
    cases ns with
    | nil => exact .nil p
    | cons c r =>
      unfold lxF
      cases hb : blankN c with
      | true => exact .blank hb (ih r (advN p c) (by simp at h; omega))
      | false =>
        cases hr : isRem (c :: r) with
        | true => exact .rem hr (ih ((c :: r).dropWhile ne10) (advs p ((c :: r).takeWhile ne10)) (by have := (rem_take hr).2; omega))
        | false =>
          cases ht : tokN (c :: r) with
          | none => exact .bad hb hr ht
          | some x =>
            obtain ⟨k, t⟩ := x
            obtain ⟨h1, r', h2⟩ := tokN_split ht
            have hl := congrArg List.length h2
            have : 0 < t.length := List.length_pos_iff.2 h1
            have h3 : (c :: r).drop t.length = r' := by rw [h2]; simp
            rw [← h3] at h2
            exact .tok hb hr ht h2 (ih _ (advs p t) (by rw [h3]; rw [List.length_append] at hl; omega))
theorem lexP_F {ns : List Nat} (hs : SC ns) (hl : ns.length ≤ 3000) : lexP (bsN ns) = lexRes (lxF (ns.length + 1) (1, 1) ns).1 (lxF (ns.length + 1) (1, 1) ns).2.1 (lxF (ns.length + 1) (1, 1) ns).2.2 :=
  lexP_encs hs hl (lxF_ok _ ns _ (Nat.lt_succ_self _))
/-! ### what is read off tokens -/
def plOf (L : List (List C)) (p : Int × Int) (s : PS) : Int × Int := (bif Nat.beq s.er 0 then 0 else plL L p.1 s, bif Nat.beq s.er 0 then 0 else plC L p.2 s)
theorem expr_toks {s : ByteArray} {L : List (List C)} {p : Int × Int} (h : lexP s = (L, p.1, p.2, 0)) :
    exprN s = (bif Nat.beq (endG L (unionN L 8 ⟨0, 0, 0⟩).1).er 0 then (unionN L 8 ⟨0, 0, 0⟩).2 else zeroN) ∧
    exprL s = (plOf L p (endG L (unionN L 8 ⟨0, 0, 0⟩).1)).1 ∧ exprC s = (plOf L p (endG L (unionN L 8 ⟨0, 0, 0⟩).1)).2 ∧ exprE s = erC (endG L (unionN L 8 ⟨0, 0, 0⟩).1).er := by
  have hu : unionA L ⟨0, 0, 0⟩ = unionN L 8 ⟨0, 0, 0⟩ := by rw [unionA_eq, ← unionN_eq]; rfl
  have hr : rd0 s = unionN L 8 ⟨0, 0, 0⟩ := by unfold rd0; rw [h, hu]
  have he : endW s = endG L (unionN L 8 ⟨0, 0, 0⟩).1 := by unfold endW; rw [hr, h]
  refine ⟨?_, ?_, ?_, ?_⟩
  · unfold exprN; rw [he, hr, h]; rfl
  · unfold exprL; rw [he, h]; rfl
  · unfold exprC; rw [he, h]; rfl
  · unfold exprE; rw [he, h]; rfl
/-! ### the two texts of awake -/
def awN1 : List Nat := [97, 32, 124, 32, 98, 32, 38, 32, 99, 32, 45, 32, 100]
def awN2 : List Nat := [97, 32, 45, 32, 98, 32, 45, 32, 99]
def awT1 : Nde := ndC 4 bE bE [ndC 2 (bsN [97]) bE [], ndC 5 bE bE [ndC 2 (bsN [98]) bE [], ndC 6 bE bE [ndC 2 (bsN [99]) bE [], ndC 2 (bsN [100]) bE []]]]
theorem aw1 : lexP (bsN awN1) = (([(1, [97], (1, 1)), (124, [124], (1, 3)), (1, [98], (1, 5)), (38, [38], (1, 7)), (1, [99], (1, 9)), (45, [45], (1, 11)), (1, [100], (1, 13))] : List Tok).map tokC, (1, 14).1, (1, 14).2, 0) :=
  (lexP_F (SC_low (by decide)) (by decide)).trans rfl
theorem aw2 : lexP (bsN awN2) = (([(1, [97], (1, 1)), (45, [45], (1, 3)), (1, [98], (1, 5)), (45, [45], (1, 7)), (1, [99], (1, 9))] : List Tok).map tokC, (1, 10).1, (1, 10).2, 0) :=
  (lexP_F (SC_low (by decide)) (by decide)).trans rfl
theorem aw1_n : exprN (bsN awN1) = awT1 := (expr_toks (p := (1, 14)) aw1).1.trans (by kernel_rfl)
theorem aw1_e : exprE (bsN awN1) = 0 := (expr_toks (p := (1, 14)) aw1).2.2.2.trans (by kernel_rfl)
theorem aw2_l : exprL (bsN awN2) = 1 := (expr_toks (p := (1, 10)) aw2).2.1.trans (by kernel_rfl)
theorem aw2_c : exprC (bsN awN2) = 7 := (expr_toks (p := (1, 10)) aw2).2.2.1.trans (by kernel_rfl)
theorem aw2_e : exprE (bsN awN2) = 11 := (expr_toks (p := (1, 10)) aw2).2.2.2.trans (by kernel_rfl)
theorem aw2_n : exprN (bsN awN2) = zeroN := (expr_toks (p := (1, 10)) aw2).1.trans (by kernel_rfl)
/-- Expr at awake's texts -/
def eqA (s : ByteArray) (ns : List Nat) : Bool := decide (s.data.toList = ns.map UInt8.ofNat)
def exprSA : List V → Bx → Tr
  | [.t (.w (.d (.str s)))], [] =>
    .ite (eqA s awN1) (.ret (.tup [.agg ⟨awT1, [], 4⟩, .agg (plM 0 0), .w (.d (.int .i64 0))]) [])
      (.ite (eqA s awN2) (.ret (.tup [.agg ⟨zeroN, [], 4⟩, .agg (plM 1 7), .w (.d (.int .i64 11))]) []) .no)
  | _, _ => .no
theorem aw1_l : exprL (bsN awN1) = 0 := (expr_toks (p := (1, 14)) aw1).2.1.trans (by kernel_rfl)
theorem aw1_c : exprC (bsN awN1) = 0 := (expr_toks (p := (1, 14)) aw1).2.2.1.trans (by kernel_rfl)
theorem eqA_bsN {s : ByteArray} {ns : List Nat} (hn : ∀ c ∈ ns, c < 128) (h : eqA s ns = true) : s = bsN ns := by
  unfold eqA at h
  rw [decide_eq_true_eq] at h
  apply ByteArray.ext
  apply Array.toList_inj.1
  rw [h, bsN_data, encs_ascii ns hn]
theorem exprSA_ok (m : Int) : SpecOk Tryd.prog (globG m) 20 exprSA := by
  intro a b v b' hr
  unfold exprSA at hr
  split at hr
  · rename_i s
    rcases run_ite hr with ⟨hl, hx⟩ | ⟨_, hx⟩
    · obtain ⟨rfl, rfl⟩ := run_ret hx
      obtain rfl := eqA_bsN (by decide) hl
      refine expr_ok m _ _ _ _ ?_
      show (Tr.ite (decide ((bsN awN1).size < 1000000)) (.ret (.tup [.agg ⟨exprN (bsN awN1), [], 4⟩, .agg (plM (exprL (bsN awN1)) (exprC (bsN awN1))), .w (.d (.int .i64 (exprE (bsN awN1))))]) []) .no).run fin2 = _
      rw [aw1_n, aw1_l, aw1_c, aw1_e]; rfl
    · rcases run_ite hx with ⟨hl, hx⟩ | ⟨_, hx⟩
      · obtain ⟨rfl, rfl⟩ := run_ret hx
        obtain rfl := eqA_bsN (by decide) hl
        refine expr_ok m _ _ _ _ ?_
        show (Tr.ite (decide ((bsN awN2).size < 1000000)) (.ret (.tup [.agg ⟨exprN (bsN awN2), [], 4⟩, .agg (plM (exprL (bsN awN2)) (exprC (bsN awN2))), .w (.d (.int .i64 (exprE (bsN awN2))))]) []) .no).run fin2 = _
        rw [aw2_n, aw2_l, aw2_c, aw2_e]; rfl
      · exact (run_no hx).elim
  · cases hr
noncomputable def tabGAw : List (FuncId × (List V → Bx → Tr)) := [(20, exprSA)]
noncomputable def orcGAw : FuncId → List V → Bx → Tr := orcOf tabGAw
def awakeGS : List V → Bx → Tr
  | [], [] => .ret (vb true) []
  | _, _ => .no
noncomputable def tabGLw : List (FuncId × (List V → Bx → Tr)) := [(19, awakeGS), (20, exprS), (21, rExprS), (22, sameS 30), (23, goodS 30)]
noncomputable def orcGLw : FuncId → List V → Bx → Tr := orcOf tabGLw
end Go.Proofs.YtniiimpcakmkbaaDoor

set_option linter.unusedVariables false
namespace Go.Proofs.YtniiimpcakmkbaaDoor
open Go Vm
noncomputable def g_awake_cf (m : Int) : Cfg := mkCfQ [25, 35] (globG m) vti orcGAw false [] []
theorem g_awake_start {R : Type} (m : Int) (k : V → Bx → Option R) (F : Nat) : runFn (g_awake_cf m) F Tryd.f19 (bd Tryd.f19) [] [] k =
    k (vb true) [] := by kernel_rfl
noncomputable def lExprs_cf (m : Int) : Cfg := mkCfQ [25, 35] (globG m) vti orcGLw false [] []
theorem lExprs_start {R : Type} (m : Int) (k : V → Bx → Option R) (F : Nat) (s : ByteArray) : runFn (lExprs_cf m) F Tryd.f8 (bd Tryd.f8) [vs s] [] k =
    (bif decide ((↑s.size : Int) > (4000 : Int)) then
      k (vb true) []
    else (bif decide (s.size < (1000000 : Nat)) then
        (bif decide (s.size < (1000000 : Nat)) then
          (bif exprE s == exprE s then
            (bif exprL s == exprL s && (exprC s == exprC s && true) then
              (bif eqN (List.take (4 : Nat) (exprN s ++ [])) (List.take (4 : Nat) (exprN s ++ [])) && tree (30 : Nat) (List.take (4 : Nat) (exprN s ++ [])) then
                (bif exprE s != (0 : Int) then
                  k (vb true) []
                else (bif goodT (30 : Nat) (List.take (4 : Nat) (exprN s ++ [])) then
                    k (vb true) []
                  else none))
              else none)
            else k (vb false) [])
          else k (vb false) [])
        else none)
      else none)) := by kernel_rfl
end Go.Proofs.YtniiimpcakmkbaaDoor
