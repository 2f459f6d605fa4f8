/- YtniiimpcakmkbaaDoorSgTl -/
import Derived.Test.YtniiimpcakmkbaaDoorSgVo
set_option linter.unusedVariables false
namespace Go.Proofs.YtniiimpcakmkbaaDoor
open Go Vm
noncomputable def lLexes_cf (m : Int) : Cfg := mkCfQ [25, 35] (globT m) vti orcE false [] [(4, 1048577), (10, 1008806316532039753), (999, 4), (1000, 0), (1001, 1048577), (1002, 1048577)]
noncomputable def lLexes_m0 : List Bool := [true, false, false, false, false, false, false, false, false, false, false, false, false, false, false, false, false, false, false, false, true, false, false, false, false, false, false, false, false, false, false, false, false, false, false, false, false, false, false, false, false, false, false, false, false, false, false, false, false, false, false, false, false, false, false, false, false, false, false, false, false, false, false, false, false, false, false, false, false, false, false, false, false, false, false, false, false, false, false, false, false, false, false, false, false, false]
noncomputable def lLexes_b0 : Code := (cA (cA (cB (cA (cB (cB (bd Tryd.f3)))))))
noncomputable def lLexes_S0 (s : ByteArray) (v1 : Int) : St := { env := [(vs s), vu, vu, vu, vu, vu, vu, vu, vu, vu, vu, vu, vu, vu, vu, vu, vu, vu, vu, vu, (vi v1), vu, vu, vu, vu, vu, vu, vu, vu, vu, vu, vu, vu, vu, vu, vu, vu, vu, vu, vu, vu, vu, vu, vu, vu, vu, vu, vu, vu, vu, vu, vu, vu, vu, vu, vu, vu, vu, vu, vu, vu, vu, vu, vu, vu, vu, vu, vu, vu, vu, vu, vu, vu, vu, vu, vu, vu, vu, vu, vu, vu, vu, vu, vu, vu, vu], bx := [], np := 0 }
noncomputable def lLexes_L0 {R : Type} (m : Int) (K : X → St → Option R) (F n : Nat) (s : ByteArray) (v1 : Int) : Option R := loopV (headM lLexes_m0) (exec (lLexes_cf m) F lLexes_b0) (exitK (lLexes_cf m) K) n (lLexes_S0 s v1)
noncomputable def lLexes_K0 {R : Type} (m : Int) (k : V → Bx → Option R) (F : Nat) : X → St → Option R := (blockK 0 (seqK (lLexes_cf m) F (cB (cB (cB (bd Tryd.f3)))) (finK (lLexes_cf m) Tryd.f3 k)))
noncomputable def lLexes_E1 : St := { env := [vu, vu, (vb false), vu, vu, vu, vu, vu, vu, vu, vu, vu, vu, vu, vu, vu, vu, vu, vu, vu, vu, vu, vu, vu, vu, vu, vu, vu, vu, vu, vu, vu, vu, vu, vu, vu, vu, vu, vu, vu, vu, vu, vu, vu, vu, vu, vu, vu, vu, vu, vu, vu, vu, vu, vu, vu, vu, vu, vu, vu, vu, vu, vu, vu, vu, vu, vu, vu, vu, vu, vu, vu, vu, vu, vu, vu, vu, vu, vu, vu, vu, vu, vu, vu, vu, vu], bx := [], np := 0 }
theorem lLexes_c1 {R : Type} (m : Int) (k : V → Bx → Option R) (F : Nat) : lLexes_K0 m k F .rt (lLexes_E1) =
    k (vb false) [] := by kernel_rfl
noncomputable def lLexes_m1 : List Bool := [true, false, false, true, false, false, true, false, false, false, false, false, false, false, false, false, false, false, false, false, true, false, false, false, false, false, false, false, false, false, false, false, false, false, false, false, false, false, false, false, false, false, false, false, false, false, false, false, false, false, false, false, false, false, false, false, false, true, true, true, false, false, false, false, false, false, false, false, false, false, false, false, false, false, false, false, false, false, false, false, false, false, false, false, false, false]
noncomputable def lLexes_b1 : Code := (cA (cA (cB (cB (cB (cB (cA (cA (cB (cB (cA (cA (cB (cA (cB (cB (bd Tryd.f3)))))))))))))))))
noncomputable def lLexes_S1 (s : ByteArray) (v1 : Int) (v2 : Int) (v3 : Int) : St := { env := [(vs s), vu, vu, (vc (.sl 4 [])), vu, vu, (vc (.sl 4 ((lexP s).fst))), vu, vu, vu, vu, vu, vu, vu, vu, vu, vu, vu, vu, vu, (vi v1), vu, vu, vu, vu, vu, vu, vu, vu, vu, vu, vu, vu, vu, vu, vu, vu, vu, vu, vu, vu, vu, vu, vu, vu, vu, vu, vu, vu, vu, vu, vu, vu, vu, vu, vu, vu, (vc (.sl 4 [])), (vi v2), (vi v3), vu, vu, vu, vu, vu, vu, vu, vu, vu, vu, vu, vu, vu, vu, vu, vu, vu, vu, vu, vu, vu, vu, vu, vu, vu, vu], bx := [], np := 0 }
noncomputable def lLexes_L1 {R : Type} (m : Int) (K : X → St → Option R) (F n : Nat) (s : ByteArray) (v1 : Int) (v2 : Int) (v3 : Int) : Option R := loopV (headM lLexes_m1) (exec (lLexes_cf m) F lLexes_b1) (exitK (lLexes_cf m) K) n (lLexes_S1 s v1 v2 v3)
noncomputable def lLexes_K1 {R : Type} (m : Int) (K : X → St → Option R) (F n : Nat) : X → St → Option R := (blockK 2 (blockK 1 (seqK (lLexes_cf m) F (cB (cB (cB (cA (cA (cB (cA (cB (cB (bd Tryd.f3)))))))))) (loopK (headM lLexes_m0) (exec (lLexes_cf m) F lLexes_b0) (exitK (lLexes_cf m) K) n))))
noncomputable def lLexes_E2 (s : ByteArray) (v1 : Int) : St := { env := [(vs s), vu, vu, vu, vu, vu, vu, vu, vu, vu, vu, vu, vu, vu, vu, vu, vu, vu, vu, vu, (vi v1), vu, vu, vu, vu, vu, vu, vu, vu, vu, vu, vu, vu, vu, vu, vu, vu, vu, vu, vu, vu, vu, vu, vu, vu, vu, vu, vu, vu, vu, vu, vu, vu, vu, vu, vu, vu, vu, vu, vu, vu, vu, vu, vu, vu, vu, vu, vu, vu, vu, vu, vu, vu, vu, vu, vu, vu, vu, vu, vu, vu, vu, vu, vu, vu, vu], bx := [], np := 0 }
theorem lLexes_c2 {R : Type} (m : Int) (K : X → St → Option R) (F n : Nat) (s : ByteArray) (v1 : Int) : lLexes_K1 m K F n (.ex 2) (lLexes_E2 s v1) =
    lLexes_L0 m K F n s (IntKind.i64.wrap (v1 + (1 : Int))) := by kernel_rfl
theorem lLexes_r1 {R : Type} (m : Int) (K : X → St → Option R) (F n : Nat) (s : ByteArray) (v1 : Int) (v2 : Int) (v3 : Int) : lLexes_L1 m K F (n + 1) s v1 v2 v3 =
    (bif decide (v3 < v2) then
      (bif decide ((0 : Int) ≤ v3) then
        none
      else none)
    else K (.ex 2) (lLexes_E2 s v1)) := by kernel_rfl
noncomputable def lLexes_m2 : List Bool := [true, false, false, true, false, false, true, false, false, false, false, false, false, false, false, false, false, false, false, false, true, false, false, false, false, false, false, false, false, false, false, false, false, false, false, false, false, false, false, false, false, false, false, false, false, false, false, false, false, false, false, false, false, false, false, false, false, true, true, true, false, false, false, false, false, false, false, false, false, false, false, false, false, false, false, false, false, false, false, false, false, false, false, false, false, false]
noncomputable def lLexes_b2 : Code := (cA (cA (cB (cB (cB (cB (cA (cA (cB (cB (cA (cA (cB (cA (cB (cB (bd Tryd.f3)))))))))))))))))
noncomputable def lLexes_S2 (s : ByteArray) (v1 : Int) (v4 : List (List C)) (v5 : Int) : St := { env := [(vs s), vu, vu, (.t (.w (.arr 0))), vu, vu, (vc (.sl 4 ((lexP s).fst))), vu, vu, vu, vu, vu, vu, vu, vu, vu, vu, vu, vu, vu, (vi v1), vu, vu, vu, vu, vu, vu, vu, vu, vu, vu, vu, vu, vu, vu, vu, vu, vu, vu, vu, vu, vu, vu, vu, vu, vu, vu, vu, vu, vu, vu, vu, vu, vu, vu, vu, vu, (.t (.w (.arr 0))), (vi ((↑(lexP s).fst.length : Int))), (vi v5), vu, vu, vu, vu, vu, vu, vu, vu, vu, vu, vu, vu, vu, vu, vu, vu, vu, vu, vu, vu, vu, vu, vu, vu, vu, vu], bx := [(some (.arr true (some 33) 4 v4))], np := 0 }
noncomputable def lLexes_L2 {R : Type} (m : Int) (K : X → St → Option R) (F n : Nat) (s : ByteArray) (v1 : Int) (v4 : List (List C)) (v5 : Int) : Option R := loopV (headM lLexes_m2) (exec (lLexes_cf m) F lLexes_b2) (exitK (lLexes_cf m) K) n (lLexes_S2 s v1 v4 v5)
noncomputable def lLexes_K2 {R : Type} (m : Int) (K : X → St → Option R) (F n : Nat) : X → St → Option R := (blockK 2 (blockK 1 (seqK (lLexes_cf m) F (cB (cB (cB (cA (cA (cB (cA (cB (cB (bd Tryd.f3)))))))))) (loopK (headM lLexes_m0) (exec (lLexes_cf m) F lLexes_b0) (exitK (lLexes_cf m) K) n))))
noncomputable def lLexes_E3 : St := { env := [vu, vu, (vb false), vu, vu, vu, vu, vu, vu, vu, vu, vu, vu, vu, vu, vu, vu, vu, vu, vu, vu, vu, vu, vu, vu, vu, vu, vu, vu, vu, vu, vu, vu, vu, vu, vu, vu, vu, vu, vu, vu, vu, vu, vu, vu, vu, vu, vu, vu, vu, vu, vu, vu, vu, vu, vu, vu, vu, vu, vu, vu, vu, vu, vu, vu, vu, vu, vu, vu, vu, vu, vu, vu, vu, vu, vu, vu, vu, vu, vu, vu, vu, vu, vu, vu, vu], bx := [], np := 0 }
theorem lLexes_c3 {R : Type} (m : Int) (K : X → St → Option R) (F n : Nat) : lLexes_K2 m K F n .rt (lLexes_E3) =
    K .rt (lLexes_E1) := by kernel_rfl
noncomputable def lLexes_E4 (s : ByteArray) (v1 : Int) : St := { env := [(vs s), vu, vu, vu, vu, vu, vu, vu, vu, vu, vu, vu, vu, vu, vu, vu, vu, vu, vu, vu, (vi v1), vu, vu, vu, vu, vu, vu, vu, vu, vu, vu, vu, vu, vu, vu, vu, vu, vu, vu, vu, vu, vu, vu, vu, vu, vu, vu, vu, vu, vu, vu, vu, vu, vu, vu, vu, vu, vu, vu, vu, vu, vu, vu, vu, vu, vu, vu, vu, vu, vu, vu, vu, vu, vu, vu, vu, vu, vu, vu, vu, vu, vu, vu, vu, vu, vu], bx := [], np := 0 }
theorem lLexes_c4 {R : Type} (m : Int) (K : X → St → Option R) (F n : Nat) (s : ByteArray) (v1 : Int) : lLexes_K2 m K F n (.ex 2) (lLexes_E4 s v1) =
    lLexes_L0 m K F n s (IntKind.i64.wrap (v1 + (1 : Int))) := by kernel_rfl
theorem lLexes_r2 {R : Type} (m : Int) (K : X → St → Option R) (F n : Nat) (s : ByteArray) (v1 : Int) (v4 : List (List C)) (v5 : Int) : lLexes_L2 m K F (n + 1) s v1 v4 v5 =
    (bif decide (v5 < (↑(lexP s).fst.length : Int)) then
      (bif decide ((0 : Int) ≤ v5) then
        (getT v4 v5.toNat fun _ =>
          (getT v4 v5.toNat fun z2 =>
            (bif (List.take (4 : Nat) z2).length == (4 : Nat) then
              (bif shOk [Sh.int IntKind.i64, Sh.str, Sh.int IntKind.i64, Sh.int IntKind.i64] (List.take (4 : Nat) z2) then
                (bif decide ((0 : Int) ≤ v5) then
                  (getT ((lexP s).fst) v5.toNat fun z3 =>
                    (bif (List.take (4 : Nat) z3).length == (4 : Nat) then
                      (bif shOk [Sh.int IntKind.i64, Sh.str, Sh.int IntKind.i64, Sh.int IntKind.i64] (List.take (4 : Nat) z3) then
                        (bif !(((List.take (4 : Nat) z2).getD (0 : Nat) C.nf).toInt == ((List.take (4 : Nat) z3).getD (0 : Nat) C.nf).toInt && (((List.take (4 : Nat) z2).getD (1 : Nat) C.nf).toStr.toList == ((List.take (4 : Nat) z3).getD (1 : Nat) C.nf).toStr.toList && (((List.take (4 : Nat) z2).getD (2 : Nat) C.nf).toInt == ((List.take (4 : Nat) z3).getD (2 : Nat) C.nf).toInt && (((List.take (4 : Nat) z2).getD (3 : Nat) C.nf).toInt == ((List.take (4 : Nat) z3).getD (3 : Nat) C.nf).toInt && true)))) then
                          K .rt (lLexes_E3)
                        else (bif decide ((0 : Int) ≤ v5) then
                            (getT v4 v5.toNat fun _ =>
                              (getT v4 v5.toNat fun z5 =>
                                lLexes_L2 m K F n s v1 (v4.set v5.toNat (C.int IntKind.i64 (0 : Int) :: C.str ByteArray.empty :: C.int IntKind.i64 (0 : Int) :: C.int IntKind.i64 (0 : Int) :: List.drop (4 : Nat) z5)) (IntKind.i64.wrap (v5 + (1 : Int)))))
                          else none))
                      else none)
                    else none))
                else none)
              else none)
            else none)))
      else none)
    else K (.ex 2) (lLexes_E4 s v1)) := by kernel_rfl
noncomputable def lLexes_E5 : St := { env := (List.replicate 86 vu), bx := [], np := 0 }
theorem lLexes_c5 {R : Type} (m : Int) (k : V → Bx → Option R) (F : Nat) : lLexes_K0 m k F (.ex 0) (lLexes_E5) =
    k (vb true) [] := by kernel_rfl
theorem lLexes_r0 {R : Type} (m : Int) (K : X → St → Option R) (F n : Nat) (s : ByteArray) (v1 : Int) : lLexes_L0 m K F (n + 1) s v1 =
    (bif decide (v1 < (2 : Int)) then
      (bif decide (s.size < (1000000 : Nat)) then
        (bif (lexP s).snd.snd.snd == (10 : Int) then
          (bif decide (s.size < (1000000 : Nat)) then
            (bif (10 : Int) != (lexP s).snd.snd.snd then
              K .rt (lLexes_E1)
            else (bif (lexP s).snd.fst != (lexP s).snd.fst then
                K .rt (lLexes_E1)
              else (bif (lexP s).snd.snd.fst != (lexP s).snd.snd.fst then
                  K .rt (lLexes_E1)
                else (bif (0 : Int) != (↑(lexP s).fst.length : Int) then
                    K .rt (lLexes_E1)
                  else lLexes_L1 m (lLexes_K1 m K F n) F F s v1 0 0))))
          else none)
        else (bif decide (s.size < (1000000 : Nat)) then
            (bif (lexP s).snd.snd.snd != (lexP s).snd.snd.snd then
              K .rt (lLexes_E1)
            else (bif (lexP s).snd.fst != (lexP s).snd.fst then
                K .rt (lLexes_E1)
              else (bif (lexP s).snd.snd.fst != (lexP s).snd.snd.fst then
                  K .rt (lLexes_E1)
                else (bif (↑(lexP s).fst.length : Int) != (↑(lexP s).fst.length : Int) then
                    K .rt (lLexes_E1)
                  else lLexes_L2 m (lLexes_K2 m K F n) F F s v1 ((lexP s).fst) 0))))
          else none))
      else none)
    else K (.ex 0) (lLexes_E5)) := by kernel_rfl
theorem lLexes_start {R : Type} (m : Int) (k : V → Bx → Option R) (F : Nat) (s : ByteArray) : runFn (lLexes_cf m) F Tryd.f3 (bd Tryd.f3) [vs s] [] k =
    (bif decide ((↑s.size : Int) > (4000 : Int)) then
      k (vb true) []
    else lLexes_L0 m (lLexes_K0 m k F) F F s 0) := by kernel_rfl
end Go.Proofs.YtniiimpcakmkbaaDoor
