/- YtniiimpcakmkbaaDoorGrZ -/
import Derived.Test.YtniiimpcakmkbaaDoorGrU
set_option linter.unusedVariables false
namespace Go.Proofs.YtniiimpcakmkbaaDoor
open Go Vm
noncomputable def h_end_cf (m : Int) : Cfg := mkCfQ [25, 35] (globG m) vti orc0 false [] []
theorem h_end_start {R : Type} (m : Int) (k : V → Bx → Option R) (F : Nat) (L : List (List C)) (a : Int) (o : Int) (c : Int) (el : Int) (ec : Int) : runFn (h_end_cf m) F Tryd.f48 (bd Tryd.f48) [V.t (T.agg { l := [C.sl (4 : Nat) L, C.int IntKind.i64 a, C.int IntKind.i64 o, C.int IntKind.i64 c], lk := [], n := (4 : Nat) }), vi el, vi ec] [] k =
    (bif c == (0 : Int) then
      (bif decide (a < (↑L.length : Int)) then
        (bif decide (a < (↑L.length : Int)) then
          (bif decide ((0 : Int) ≤ a) then
            (getT L a.toNat fun z1 =>
              (getT (List.drop (2 : Nat) z1) 0 fun z2 =>
                (bif shOk [Sh.int IntKind.i64] [z2] then
                  (bif decide ((0 : Int) ≤ a) then
                    (getT L a.toNat fun z3 =>
                      (getT (List.drop (3 : Nat) z3) 0 fun z4 =>
                        (bif shOk [Sh.int IntKind.i64] [z4] then
                          k (.tup [(.w (.d (.int .i64 (([z2].getD (0 : Nat) C.nf).toInt)))), (.w (.d (.int .i64 (([z4].getD (0 : Nat) C.nf).toInt)))), (.w (.d (.int .i64 11)))]) []
                        else none)))
                  else none)
                else none)))
          else none)
        else k (.tup [(.w (.d (.int .i64 el))), (.w (.d (.int .i64 ec))), (.w (.d (.int .i64 11)))]) [])
      else (bif c == (0 : Int) then
          k (.tup [(.w (.d (.int .i64 0))), (.w (.d (.int .i64 0))), (.w (.d (.int .i64 0)))]) []
        else (bif decide (a < (↑L.length : Int)) then
            (bif decide ((0 : Int) ≤ a) then
              (getT L a.toNat fun z5 =>
                (getT (List.drop (2 : Nat) z5) 0 fun z6 =>
                  (bif shOk [Sh.int IntKind.i64] [z6] then
                    (bif decide ((0 : Int) ≤ a) then
                      (getT L a.toNat fun z7 =>
                        (getT (List.drop (3 : Nat) z7) 0 fun z8 =>
                          (bif shOk [Sh.int IntKind.i64] [z8] then
                            k (.tup [(.w (.d (.int .i64 (([z6].getD (0 : Nat) C.nf).toInt)))), (.w (.d (.int .i64 (([z8].getD (0 : Nat) C.nf).toInt)))), (.w (.d (.int .i64 c)))]) []
                          else none)))
                    else none)
                  else none)))
            else none)
          else k (.tup [(.w (.d (.int .i64 el))), (.w (.d (.int .i64 ec))), (.w (.d (.int .i64 c)))]) [])))
    else (bif c == (0 : Int) then
        k (.tup [(.w (.d (.int .i64 0))), (.w (.d (.int .i64 0))), (.w (.d (.int .i64 0)))]) []
      else (bif decide (a < (↑L.length : Int)) then
          (bif decide ((0 : Int) ≤ a) then
            (getT L a.toNat fun z9 =>
              (getT (List.drop (2 : Nat) z9) 0 fun z10 =>
                (bif shOk [Sh.int IntKind.i64] [z10] then
                  (bif decide ((0 : Int) ≤ a) then
                    (getT L a.toNat fun z11 =>
                      (getT (List.drop (3 : Nat) z11) 0 fun z12 =>
                        (bif shOk [Sh.int IntKind.i64] [z12] then
                          k (.tup [(.w (.d (.int .i64 (([z10].getD (0 : Nat) C.nf).toInt)))), (.w (.d (.int .i64 (([z12].getD (0 : Nat) C.nf).toInt)))), (.w (.d (.int .i64 c)))]) []
                        else none)))
                  else none)
                else none)))
          else none)
        else k (.tup [(.w (.d (.int .i64 el))), (.w (.d (.int .i64 ec))), (.w (.d (.int .i64 c)))]) []))) := by kernel_rfl
noncomputable def h_expr_cf (m : Int) : Cfg := mkCfQ [25, 35] (globG m) vti orcRE false [] []
theorem h_expr_start {R : Type} (m : Int) (k : V → Bx → Option R) (F : Nat) (s : ByteArray) : runFn (h_expr_cf m) F Tryd.f21 (bd Tryd.f21) [vs s] [] k =
    (bif decide (s.size < (1000000 : Nat)) then
      (bif (lexP s).snd.snd.snd != (0 : Int) then
        k (.tup [(.agg ⟨[(.int .i64 0), (.str ByteArray.empty), (.str ByteArray.empty), (.sl 4 [])], [], 4⟩), (.w (.d (.int .i64 ((lexP s).snd.fst)))), (.w (.d (.int .i64 ((lexP s).snd.snd.fst)))), (.w (.d (.int .i64 ((lexP s).snd.snd.snd))))]) []
      else (bif stOk (lexP s).fst (rP (0 : Int) (0 : Int) (0 : Int)) && true && true then
          (bif stOk (lexP s).fst (rP (unionA (lexP s).fst (rP (0 : Int) (0 : Int) (0 : Int))).fst.at_ (unionA (lexP s).fst (rP (0 : Int) (0 : Int) (0 : Int))).fst.op (erC (unionA (lexP s).fst (rP (0 : Int) (0 : Int) (0 : Int))).fst.er)) && okC (erC (unionA (lexP s).fst (rP (0 : Int) (0 : Int) (0 : Int))).fst.er) then
            (bif erC (endG (lexP s).fst (rP (unionA (lexP s).fst (rP (0 : Int) (0 : Int) (0 : Int))).fst.at_ (unionA (lexP s).fst (rP (0 : Int) (0 : Int) (0 : Int))).fst.op (erC (unionA (lexP s).fst (rP (0 : Int) (0 : Int) (0 : Int))).fst.er))).er != (0 : Int) then
              k (.tup [(.agg ⟨[(.int .i64 0), (.str ByteArray.empty), (.str ByteArray.empty), (.sl 4 [])], [], 4⟩), (.w (.d (.int .i64 (bif (endG (lexP s).fst (rP (unionA (lexP s).fst (rP (0 : Int) (0 : Int) (0 : Int))).fst.at_ (unionA (lexP s).fst (rP (0 : Int) (0 : Int) (0 : Int))).fst.op (erC (unionA (lexP s).fst (rP (0 : Int) (0 : Int) (0 : Int))).fst.er))).er.beq (0 : Nat) then (0 : Int) else plL (lexP s).fst (lexP s).snd.fst (endG (lexP s).fst (rP (unionA (lexP s).fst (rP (0 : Int) (0 : Int) (0 : Int))).fst.at_ (unionA (lexP s).fst (rP (0 : Int) (0 : Int) (0 : Int))).fst.op (erC (unionA (lexP s).fst (rP (0 : Int) (0 : Int) (0 : Int))).fst.er))))))), (.w (.d (.int .i64 (bif (endG (lexP s).fst (rP (unionA (lexP s).fst (rP (0 : Int) (0 : Int) (0 : Int))).fst.at_ (unionA (lexP s).fst (rP (0 : Int) (0 : Int) (0 : Int))).fst.op (erC (unionA (lexP s).fst (rP (0 : Int) (0 : Int) (0 : Int))).fst.er))).er.beq (0 : Nat) then (0 : Int) else plC (lexP s).fst (lexP s).snd.snd.fst (endG (lexP s).fst (rP (unionA (lexP s).fst (rP (0 : Int) (0 : Int) (0 : Int))).fst.at_ (unionA (lexP s).fst (rP (0 : Int) (0 : Int) (0 : Int))).fst.op (erC (unionA (lexP s).fst (rP (0 : Int) (0 : Int) (0 : Int))).fst.er))))))), (.w (.d (.int .i64 (erC (endG (lexP s).fst (rP (unionA (lexP s).fst (rP (0 : Int) (0 : Int) (0 : Int))).fst.at_ (unionA (lexP s).fst (rP (0 : Int) (0 : Int) (0 : Int))).fst.op (erC (unionA (lexP s).fst (rP (0 : Int) (0 : Int) (0 : Int))).fst.er))).er))))]) []
            else k (.tup [(.agg ⟨(List.take (4 : Nat) (List.take (4 : Nat) ((unionA (lexP s).fst (rP (0 : Int) (0 : Int) (0 : Int))).snd ++ []) ++ [])), [], 4⟩), (.w (.d (.int .i64 0))), (.w (.d (.int .i64 0))), (.w (.d (.int .i64 0)))]) [])
          else none)
        else none))
    else none) := by kernel_rfl
noncomputable def h_name_cf (m : Int) : Cfg := mkCfQ [25, 35] (globG m) vti orc0 false [] [(2, 9), (999, 4), (1000, 1)]
noncomputable def h_name_m0 : List Bool := [true, false, false, true, false, false, false, false, false, false, false, false, false, false, false, false, false, false, false, false, false, false, false, false, false, false, false, false, false, false, false, false, false, false, false, false, false, false, false, false, false, false, false, false]
noncomputable def h_name_b0 : Code := (cA (cA (cB (cA (cB (bd Tryd.f53))))))
noncomputable def h_name_S0 (s : ByteArray) (v1 : Int) : St := { env := [(vs s), vu, vu, (vi v1), vu, vu, vu, vu, vu, vu, vu, vu, vu, vu, vu, vu, vu, vu, vu, vu, vu, vu, vu, vu, vu, vu, vu, vu, vu, vu, vu, vu, vu, vu, vu, vu, vu, vu, vu, vu, vu, vu, vu, vu], bx := [], np := 0 }
noncomputable def h_name_L0 {R : Type} (m : Int) (K : X → St → Option R) (F n : Nat) (s : ByteArray) (v1 : Int) : Option R := loopV (headM h_name_m0) (exec (h_name_cf m) F h_name_b0) (exitK (h_name_cf m) K) n (h_name_S0 s v1)
noncomputable def h_name_K0 {R : Type} (m : Int) (k : V → Bx → Option R) (F : Nat) : X → St → Option R := (blockK 0 (seqK (h_name_cf m) F (cB (cB (bd Tryd.f53))) (finK (h_name_cf m) Tryd.f53 k)))
noncomputable def h_name_E1 : St := { env := [vu, vu, (vb false), vu, vu, vu, vu, vu, vu, vu, vu, vu, vu, vu, vu, vu, vu, vu, vu, vu, vu, vu, vu, vu, vu, vu, vu, vu, vu, vu, vu, vu, vu, vu, vu, vu, vu, vu, vu, vu, vu, vu, vu, vu], bx := [], np := 0 }
theorem h_name_c1 {R : Type} (m : Int) (k : V → Bx → Option R) (F : Nat) : h_name_K0 m k F .rt (h_name_E1) =
    k (vb false) [] := by kernel_rfl
noncomputable def h_name_E2 (s : ByteArray) : St := { env := [(vs s), vu, vu, vu, vu, vu, vu, vu, vu, vu, vu, vu, vu, vu, vu, vu, vu, vu, vu, vu, vu, vu, vu, vu, vu, vu, vu, vu, vu, vu, vu, vu, vu, vu, vu, vu, vu, vu, vu, vu, vu, vu, vu, vu], bx := [], np := 0 }
theorem h_name_c2 {R : Type} (m : Int) (k : V → Bx → Option R) (F : Nat) (s : ByteArray) : h_name_K0 m k F (.ex 0) (h_name_E2 s) =
    (bif decide ((↑s.size : Int) ≥ (1 : Int)) then
      k (vb (decide ((↑s.size : Int) ≤ (16 : Int)))) []
    else k (vb false) []) := by kernel_rfl
theorem h_name_r0 {R : Type} (m : Int) (K : X → St → Option R) (F n : Nat) (s : ByteArray) (v1 : Int) : h_name_L0 m K F (n + 1) s v1 =
    (bif decide (v1 < (↑s.size : Int)) then
      (bif decide ((0 : Int) ≤ v1) then
        (getT s.data.toList v1.toNat fun z1 =>
          (bif decide ((↑z1.toNat : Int) < (97 : Int)) then
            (bif v1 == (0 : Int) then
              K .rt (h_name_E1)
            else (bif decide ((↑z1.toNat : Int) < (48 : Int)) then
                (bif (↑z1.toNat : Int) != (95 : Int) then
                  K .rt (h_name_E1)
                else h_name_L0 m K F n s (IntKind.i64.wrap (v1 + (1 : Int))))
              else (bif decide ((↑z1.toNat : Int) > (57 : Int)) then
                  (bif (↑z1.toNat : Int) != (95 : Int) then
                    K .rt (h_name_E1)
                  else h_name_L0 m K F n s (IntKind.i64.wrap (v1 + (1 : Int))))
                else h_name_L0 m K F n s (IntKind.i64.wrap (v1 + (1 : Int))))))
          else (bif decide ((↑z1.toNat : Int) > (122 : Int)) then
              (bif v1 == (0 : Int) then
                K .rt (h_name_E1)
              else (bif decide ((↑z1.toNat : Int) < (48 : Int)) then
                  (bif (↑z1.toNat : Int) != (95 : Int) then
                    K .rt (h_name_E1)
                  else h_name_L0 m K F n s (IntKind.i64.wrap (v1 + (1 : Int))))
                else (bif decide ((↑z1.toNat : Int) > (57 : Int)) then
                    (bif (↑z1.toNat : Int) != (95 : Int) then
                      K .rt (h_name_E1)
                    else h_name_L0 m K F n s (IntKind.i64.wrap (v1 + (1 : Int))))
                  else h_name_L0 m K F n s (IntKind.i64.wrap (v1 + (1 : Int))))))
            else h_name_L0 m K F n s (IntKind.i64.wrap (v1 + (1 : Int))))))
      else none)
    else K (.ex 0) (h_name_E2 s)) := by kernel_rfl
theorem h_name_start {R : Type} (m : Int) (k : V → Bx → Option R) (F : Nat) (s : ByteArray) : runFn (h_name_cf m) F Tryd.f53 (bd Tryd.f53) [vs s] [] k =
    h_name_L0 m (h_name_K0 m k F) F F s 0 := by kernel_rfl
noncomputable def h_word_cf (m : Int) : Cfg := mkCfQ [25, 35] (globG m) vti orcWd false [] []
theorem h_word_start {R : Type} (m : Int) (k : V → Bx → Option R) (F : Nat) (s : ByteArray) : runFn (h_word_cf m) F Tryd.f28 (bd Tryd.f28) [vs s] [] k =
    (bif decide (s.size < (1000000 : Nat)) then
      (bif nameB s.data.toList then
        (bif !s.toList == (ByteArray.mk #[(116 : UInt8), (121 : UInt8), (112 : UInt8), (101 : UInt8)]).toList then
          (bif !s.toList == (ByteArray.mk #[(114 : UInt8), (101 : UInt8), (108 : UInt8)]).toList then
            k (vb (!s.toList == (ByteArray.mk #[(116 : UInt8), (104 : UInt8), (105 : UInt8), (115 : UInt8)]).toList)) []
          else k (vb false) [])
        else k (vb false) [])
      else k (vb false) [])
    else none) := by kernel_rfl
noncomputable def h_same_cf (m : Int) (N : Nat) : Cfg := mkCfQ [25, 35] (globG m) vti (orcSm N) false [] [(4, 206158430220), (999, 16), (1000, 0)]
noncomputable def h_same_m0 : List Bool := [false, false, true, true, false, false, false, false, false, false, false, false, false, false, false, false, false, false, false, false, false, false, false, false, false, false, false, false, false, false, false, false, false, false, false, false, true, true, false, false, false, false, false, false, false, false, false, false, false, false, false, false, false]
noncomputable def h_same_b0 : Code := (cA (cA (cB (cA (cB (cB (bd Tryd.f22)))))))
noncomputable def h_same_S0 (l : List (List C)) (ka1 : Int) (a2 : ByteArray) (b3 : ByteArray) (l4 : List (List C)) (kb5 : Int) (a6 : ByteArray) (b7 : ByteArray) (l8 : List (List C)) (v9 : Int) : St := { env := [vu, vu, (.t (.w (.ptr 0 0))), (.t (.w (.ptr 1 0))), vu, vu, vu, vu, vu, vu, vu, vu, vu, vu, vu, vu, vu, vu, vu, vu, vu, vu, vu, vu, vu, vu, vu, vu, vu, vu, vu, vu, vu, vu, vu, vu, (vi ((↑l.length : Int))), (vi v9), vu, vu, vu, vu, vu, vu, vu, vu, vu, vu, vu, vu, vu, vu, vu], bx := [(some (.cells ⟨[(.int .i64 ka1), (.str a2), (.str b3), (.sl 4 l4)], [], 4⟩)), (some (.cells ⟨[(.int .i64 kb5), (.str a6), (.str b7), (.sl 4 l8)], [], 4⟩))], np := 0 }
noncomputable def h_same_L0 {R : Type} (m : Int) (N : Nat) (K : X → St → Option R) (F n : Nat) (l : List (List C)) (ka1 : Int) (a2 : ByteArray) (b3 : ByteArray) (l4 : List (List C)) (kb5 : Int) (a6 : ByteArray) (b7 : ByteArray) (l8 : List (List C)) (v9 : Int) : Option R := loopV (headM h_same_m0) (exec (h_same_cf m N) F h_same_b0) (exitK (h_same_cf m N) K) n (h_same_S0 l ka1 a2 b3 l4 kb5 a6 b7 l8 v9)
noncomputable def h_same_K0 {R : Type} (m : Int) (N : Nat) (k : V → Bx → Option R) (F : Nat) : X → St → Option R := (blockK 0 (seqK (h_same_cf m N) F (cB (cB (cB (bd Tryd.f22)))) (finK (h_same_cf m N) Tryd.f22 k)))
noncomputable def h_same_E1 : St := { env := (List.replicate 53 vu), bx := [], np := 0 }
theorem h_same_c1 {R : Type} (m : Int) (N : Nat) (k : V → Bx → Option R) (F : Nat) : h_same_K0 m N k F (.ex 0) (h_same_E1) =
    k (vb true) [] := by kernel_rfl
theorem h_same_r0 {R : Type} (m : Int) (N : Nat) (K : X → St → Option R) (F n : Nat) (l : List (List C)) (ka1 : Int) (a2 : ByteArray) (b3 : ByteArray) (l4 : List (List C)) (kb5 : Int) (a6 : ByteArray) (b7 : ByteArray) (l8 : List (List C)) (v9 : Int) : h_same_L0 m N K F (n + 1) l ka1 a2 b3 l4 kb5 a6 b7 l8 v9 =
    (bif decide (v9 < (↑l.length : Int)) then
      (bif decide ((0 : Int) ≤ v9) then
        (getT l4 v9.toNat fun z1 =>
          (bif (List.take (4 : Nat) z1).length == (4 : Nat) then
            (bif shOk [Sh.int IntKind.i64, Sh.str, Sh.str, Sh.sl (4 : Nat)] (List.take (4 : Nat) z1) then
              (bif decide ((0 : Int) ≤ v9) then
                (getT l8 v9.toNat fun z2 =>
                  (bif (List.take (4 : Nat) z2).length == (4 : Nat) then
                    (bif shOk [Sh.int IntKind.i64, Sh.str, Sh.str, Sh.sl (4 : Nat)] (List.take (4 : Nat) z2) then
                      (bif eqN [C.int IntKind.i64 ((List.take (4 : Nat) z1).getD (0 : Nat) C.nf).toInt, C.str ((List.take (4 : Nat) z1).getD (1 : Nat) C.nf).toStr, C.str ((List.take (4 : Nat) z1).getD (2 : Nat) C.nf).toStr, C.sl (4 : Nat) ((List.take (4 : Nat) z1).getD (3 : Nat) C.nf).toEls] [C.int IntKind.i64 ((List.take (4 : Nat) z2).getD (0 : Nat) C.nf).toInt, C.str ((List.take (4 : Nat) z2).getD (1 : Nat) C.nf).toStr, C.str ((List.take (4 : Nat) z2).getD (2 : Nat) C.nf).toStr, C.sl (4 : Nat) ((List.take (4 : Nat) z2).getD (3 : Nat) C.nf).toEls] && tree N [C.int IntKind.i64 ((List.take (4 : Nat) z1).getD (0 : Nat) C.nf).toInt, C.str ((List.take (4 : Nat) z1).getD (1 : Nat) C.nf).toStr, C.str ((List.take (4 : Nat) z1).getD (2 : Nat) C.nf).toStr, C.sl (4 : Nat) ((List.take (4 : Nat) z1).getD (3 : Nat) C.nf).toEls] then
                        h_same_L0 m N K F n l ka1 a2 b3 l4 kb5 a6 b7 l8 (IntKind.i64.wrap (v9 + (1 : Int)))
                      else none)
                    else none)
                  else none))
              else none)
            else none)
          else none))
      else none)
    else K (.ex 0) (h_same_E1)) := by kernel_rfl
theorem h_same_start {R : Type} (m : Int) (N : Nat) (k : V → Bx → Option R) (F : Nat) (ka : Int) (kb : Int) (a : ByteArray) (b : ByteArray) (a' : ByteArray) (b' : ByteArray) (l : List (List C)) (l' : List (List C)) : runFn (h_same_cf m N) F Tryd.f22 (bd Tryd.f22) [ndV (ndC ka a b l), ndV (ndC kb a' b' l')] [] k =
    (bif ka != kb then
      k (vb false) []
    else (bif !a.toList == a'.toList then
        k (vb false) []
      else (bif !b.toList == b'.toList then
          k (vb false) []
        else (bif (↑l.length : Int) != (↑l'.length : Int) then
            k (vb false) []
          else h_same_L0 m N (h_same_K0 m N k F) F F l ka a b l kb a' b' l' 0)))) := by kernel_rfl
noncomputable def h_good_cf (m : Int) (N : Nat) : Cfg := mkCfQ [25, 35] (globG m) vti (orcGd N) false [] [(2, 194), (999, 4), (1000, 2)]
noncomputable def h_good_m0 : List Bool := [false, true, false, false, false, false, true, true, false, false, false, false, false, false, false, false, false, false, false, false, false, false, false, false, false, false, false, false, false, false, false, false, false, false, false, false, false, false, false, false, false, false, false, false, false, false, false, false, false, false, false, false, false, false, false, false, false, false, false, false, false, false, false, false, false, false, false, false, false, false, false, false, false, false, false, false, false, false, false, false, false, false, false, false, false, false, false, false, false, false, false, false, false, false, false, false, false, false, false, false, false]
noncomputable def h_good_b0 : Code := (cA (cA (cB (cA (cB (bd Tryd.f23))))))
noncomputable def h_good_S0 (l : List (List C)) (ka1 : Int) (a2 : ByteArray) (b3 : ByteArray) (l4 : List (List C)) (v5 : Int) : St := { env := [vu, (.t (.w (.ptr 0 0))), vu, vu, vu, vu, (vi ((↑l.length : Int))), (vi v5), vu, vu, vu, vu, vu, vu, vu, vu, vu, vu, vu, vu, vu, vu, vu, vu, vu, vu, vu, vu, vu, vu, vu, vu, vu, vu, vu, vu, vu, vu, vu, vu, vu, vu, vu, vu, vu, vu, vu, vu, vu, vu, vu, vu, vu, vu, vu, vu, vu, vu, vu, vu, vu, vu, vu, vu, vu, vu, vu, vu, vu, vu, vu, vu, vu, vu, vu, vu, vu, vu, vu, vu, vu, vu, vu, vu, vu, vu, vu, vu, vu, vu, vu, vu, vu, vu, vu, vu, vu, vu, vu, vu, vu], bx := [(some (.cells ⟨[(.int .i64 ka1), (.str a2), (.str b3), (.sl 4 l4)], [], 4⟩))], np := 0 }
noncomputable def h_good_L0 {R : Type} (m : Int) (N : Nat) (K : X → St → Option R) (F n : Nat) (l : List (List C)) (ka1 : Int) (a2 : ByteArray) (b3 : ByteArray) (l4 : List (List C)) (v5 : Int) : Option R := loopV (headM h_good_m0) (exec (h_good_cf m N) F h_good_b0) (exitK (h_good_cf m N) K) n (h_good_S0 l ka1 a2 b3 l4 v5)
noncomputable def h_good_K0 {R : Type} (m : Int) (N : Nat) (k : V → Bx → Option R) (F : Nat) : X → St → Option R := (blockK 0 (seqK (h_good_cf m N) F (cB (cB (bd Tryd.f23))) (finK (h_good_cf m N) Tryd.f23 k)))
noncomputable def h_good_E1 (ka1 : Int) (a2 : ByteArray) (b3 : ByteArray) (l4 : List (List C)) : St := { env := [vu, (.t (.w (.ptr 0 0))), vu, vu, vu, vu, vu, vu, vu, vu, vu, vu, vu, vu, vu, vu, vu, vu, vu, vu, vu, vu, vu, vu, vu, vu, vu, vu, vu, vu, vu, vu, vu, vu, vu, vu, vu, vu, vu, vu, vu, vu, vu, vu, vu, vu, vu, vu, vu, vu, vu, vu, vu, vu, vu, vu, vu, vu, vu, vu, vu, vu, vu, vu, vu, vu, vu, vu, vu, vu, vu, vu, vu, vu, vu, vu, vu, vu, vu, vu, vu, vu, vu, vu, vu, vu, vu, vu, vu, vu, vu, vu, vu, vu, vu, vu, vu, vu, vu, vu, vu], bx := [(some (.cells ⟨[(.int .i64 ka1), (.str a2), (.str b3), (.sl 4 l4)], [], 4⟩))], np := 0 }
theorem h_good_c1 {R : Type} (m : Int) (N : Nat) (k : V → Bx → Option R) (F : Nat) (ka1 : Int) (a2 : ByteArray) (b3 : ByteArray) (l4 : List (List C)) : h_good_K0 m N k F (.ex 0) (h_good_E1 ka1 a2 b3 l4) =
    (bif ka1 == (1 : Int) then
      (bif a2.toList == (ByteArray.mk #[]).toList then
        (bif b3.toList == (ByteArray.mk #[]).toList then
          k (vb ((↑l4.length : Int) == (0 : Int))) []
        else k (vb false) [])
      else k (vb false) [])
    else (bif ka1 == (2 : Int) then
        (bif decide (a2.size < (1000000 : Nat)) then
          (bif wordB a2 then
            (bif b3.toList == (ByteArray.mk #[]).toList then
              k (vb ((↑l4.length : Int) == (0 : Int))) []
            else k (vb false) [])
          else k (vb false) [])
        else none)
      else (bif ka1 == (3 : Int) then
          (bif decide (a2.size < (1000000 : Nat)) then
            (bif wordB a2 then
              (bif decide (b3.size < (1000000 : Nat)) then
                (bif wordB b3 then
                  k (vb ((↑l4.length : Int) == (0 : Int))) []
                else k (vb false) [])
              else none)
            else k (vb false) [])
          else none)
        else (bif ka1 == (4 : Int) then
            (bif ka1 == (4 : Int) then
              (bif a2.toList == (ByteArray.mk #[]).toList then
                (bif b3.toList == (ByteArray.mk #[]).toList then
                  k (vb (decide ((↑l4.length : Int) ≥ (2 : Int)))) []
                else k (vb false) [])
              else k (vb false) [])
            else (bif ka1 == (6 : Int) then
                (bif a2.toList == (ByteArray.mk #[]).toList then
                  (bif b3.toList == (ByteArray.mk #[]).toList then
                    k (vb ((↑l4.length : Int) == (2 : Int))) []
                  else k (vb false) [])
                else k (vb false) [])
              else k (vb false) []))
          else (bif ka1 == (5 : Int) then
              (bif a2.toList == (ByteArray.mk #[]).toList then
                (bif b3.toList == (ByteArray.mk #[]).toList then
                  k (vb (decide ((↑l4.length : Int) ≥ (2 : Int)))) []
                else k (vb false) [])
              else k (vb false) [])
            else (bif ka1 == (6 : Int) then
                (bif a2.toList == (ByteArray.mk #[]).toList then
                  (bif b3.toList == (ByteArray.mk #[]).toList then
                    k (vb ((↑l4.length : Int) == (2 : Int))) []
                  else k (vb false) [])
                else k (vb false) [])
              else k (vb false) [])))))) := by kernel_rfl
theorem h_good_r0 {R : Type} (m : Int) (N : Nat) (K : X → St → Option R) (F n : Nat) (l : List (List C)) (ka1 : Int) (a2 : ByteArray) (b3 : ByteArray) (l4 : List (List C)) (v5 : Int) : h_good_L0 m N K F (n + 1) l ka1 a2 b3 l4 v5 =
    (bif decide (v5 < (↑l.length : Int)) then
      (bif decide ((0 : Int) ≤ v5) then
        (getT l4 v5.toNat fun z1 =>
          (bif (List.take (4 : Nat) z1).length == (4 : Nat) then
            (bif shOk [Sh.int IntKind.i64, Sh.str, Sh.str, Sh.sl (4 : Nat)] (List.take (4 : Nat) z1) then
              (bif goodT N [C.int IntKind.i64 ((List.take (4 : Nat) z1).getD (0 : Nat) C.nf).toInt, C.str ((List.take (4 : Nat) z1).getD (1 : Nat) C.nf).toStr, C.str ((List.take (4 : Nat) z1).getD (2 : Nat) C.nf).toStr, C.sl (4 : Nat) ((List.take (4 : Nat) z1).getD (3 : Nat) C.nf).toEls] then
                h_good_L0 m N K F n l ka1 a2 b3 l4 (IntKind.i64.wrap (v5 + (1 : Int)))
              else none)
            else none)
          else none))
      else none)
    else K (.ex 0) (h_good_E1 ka1 a2 b3 l4)) := by kernel_rfl
theorem h_good_start {R : Type} (m : Int) (N : Nat) (k : V → Bx → Option R) (F : Nat) (ka : Int) (a : ByteArray) (b : ByteArray) (l : List (List C)) : runFn (h_good_cf m N) F Tryd.f23 (bd Tryd.f23) [ndV (ndC ka a b l)] [] k =
    h_good_L0 m N (h_good_K0 m N k F) F F l ka a b l 0 := by kernel_rfl
end Go.Proofs.YtniiimpcakmkbaaDoor
