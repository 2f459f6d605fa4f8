/- YtniiimpcakmkbaaDoorSgT -/
import Derived.Test.YtniiimpcakmkbaaDoorSgD
import Derived.Test.YtniiimpcakmkbaaDoorSgPb
import Derived.Test.YtniiimpcakmkbaaDoorSgZ
set_option linter.unusedVariables false
namespace Go.Proofs.YtniiimpcakmkbaaDoor
open Go Vm
noncomputable def lAgain_cf (m : Int) : Cfg := mkCfG (globT m) vti orcD false [] [(8, 3758096456), (16, 432345564227568136), (999, 4), (1000, 72), (1002, 0)]
noncomputable def lAgain_m0 : List Bool := [false, false, false, true, false, false, true, false, false, false, false, false, false, false, false, false, false, false, false, false, false, false, false, false, false, false, false, false, false, true, true, true, false, false, false, false, false, false, false, false, false, false, false, false, false, false, false, false, false, false, false, false, false, false, false, false, false, false, false, false, false, false, false, false, false, false, false, false, false, false, false, false, false, false, false, false, false, false, false, false, false, false, false, false, false, false]
noncomputable def lAgain_b0 : Code := (cA (cA (cB (cA (cB (cB (cB (cB (cB (bd Tryd.f5))))))))))
noncomputable def lAgain_S0 (s : ByteArray) (v1 : ByteArray) (v2 : Int) : St := { env := [vu, vu, vu, (vc (.sl 4 ((lexP s).fst))), vu, vu, (vs v1), vu, vu, vu, vu, vu, vu, vu, vu, vu, vu, vu, vu, vu, vu, vu, vu, vu, vu, vu, vu, vu, vu, (vc (.sl 4 ((lexP s).fst))), (vi ((↑(lexP s).fst.length : Int))), (vi v2), vu, vu, vu, vu, vu, vu, vu, vu, vu, vu, vu, vu, vu, vu, vu, vu, vu, vu, vu, vu, vu, vu, vu, vu, vu, vu, vu, vu, vu, vu, vu, vu, vu, vu, vu, vu, vu, vu, vu, vu, vu, vu, vu, vu, vu, vu, vu, vu, vu, vu, vu, vu, vu, vu], bx := [], np := 0 }
noncomputable def lAgain_L0 {R : Type} (m : Int) (K : X → St → Option R) (F n : Nat) (s : ByteArray) (v1 : ByteArray) (v2 : Int) : Option R := loopV (headM lAgain_m0) (exec (lAgain_cf m) F lAgain_b0) (exitK (lAgain_cf m) K) n (lAgain_S0 s v1 v2)
noncomputable def lAgain_K0 {R : Type} (m : Int) (k : V → Bx → Option R) (F : Nat) : X → St → Option R := (blockK 0 (seqK (lAgain_cf m) F (cB (cB (cB (cB (cB (cB (bd Tryd.f5))))))) (finK (lAgain_cf m) Tryd.f5 k)))
noncomputable def lAgain_E1 (s : ByteArray) (v1 : ByteArray) : St := { env := [vu, vu, vu, (vc (.sl 4 ((lexP s).fst))), vu, vu, (vs v1), vu, vu, vu, vu, vu, vu, vu, vu, vu, vu, vu, vu, vu, vu, vu, vu, vu, vu, vu, vu, vu, vu, vu, vu, vu, vu, vu, vu, vu, vu, vu, vu, vu, vu, vu, vu, vu, vu, vu, vu, vu, vu, vu, vu, vu, vu, vu, vu, vu, vu, vu, vu, vu, vu, vu, vu, vu, vu, vu, vu, vu, vu, vu, vu, vu, vu, vu, vu, vu, vu, vu, vu, vu, vu, vu, vu, vu, vu, vu], bx := [], np := 0 }
noncomputable def lAgain_m1 : List Bool := [false, false, false, true, false, false, false, false, false, true, false, false, false, false, false, false, false, false, false, false, false, false, false, false, false, false, false, false, false, false, false, false, false, false, false, false, false, false, false, false, false, false, false, false, false, false, false, false, false, false, false, false, false, false, false, false, false, true, true, false, false, false, false, false, false, false, false, false, false, false, false, false, false, false, false, false, false, false, false, false, false, false, false, false, false, false]
noncomputable def lAgain_b1 : Code := (cA (cA (cB (cA (cB (cB (cB (cB (cB (cB (cB (cB (bd Tryd.f5)))))))))))))
noncomputable def lAgain_S1 (s : ByteArray) (v1 : ByteArray) (v3 : Int) : St := { env := [vu, vu, vu, (vc (.sl 4 ((lexP s).fst))), vu, vu, vu, vu, vu, (vc (.sl 4 ((lexP v1).fst))), vu, vu, vu, vu, vu, vu, vu, vu, vu, vu, vu, vu, vu, vu, vu, vu, vu, vu, vu, vu, vu, vu, vu, vu, vu, vu, vu, vu, vu, vu, vu, vu, vu, vu, vu, vu, vu, vu, vu, vu, vu, vu, vu, vu, vu, vu, vu, (vi ((↑(lexP s).fst.length : Int))), (vi v3), vu, vu, vu, vu, vu, vu, vu, vu, vu, vu, vu, vu, vu, vu, vu, vu, vu, vu, vu, vu, vu, vu, vu, vu, vu, vu, vu], bx := [], np := 0 }
noncomputable def lAgain_L1 {R : Type} (m : Int) (K : X → St → Option R) (F n : Nat) (s : ByteArray) (v1 : ByteArray) (v3 : Int) : Option R := loopV (headM lAgain_m1) (exec (lAgain_cf m) F lAgain_b1) (exitK (lAgain_cf m) K) n (lAgain_S1 s v1 v3)
noncomputable def lAgain_K1 {R : Type} (m : Int) (k : V → Bx → Option R) (F : Nat) : X → St → Option R := (blockK 2 (seqK (lAgain_cf m) F (cB (cB (cB (cB (cB (cB (cB (cB (cB (bd Tryd.f5)))))))))) (finK (lAgain_cf m) Tryd.f5 k)))
noncomputable def lAgain_E2 : St := { env := [vu, vu, (vb false), vu, vu, vu, vu, vu, vu, vu, vu, vu, vu, vu, vu, vu, vu, vu, vu, vu, vu, vu, vu, vu, vu, vu, vu, vu, vu, vu, vu, vu, vu, vu, vu, vu, vu, vu, vu, vu, vu, vu, vu, vu, vu, vu, vu, vu, vu, vu, vu, vu, vu, vu, vu, vu, vu, vu, vu, vu, vu, vu, vu, vu, vu, vu, vu, vu, vu, vu, vu, vu, vu, vu, vu, vu, vu, vu, vu, vu, vu, vu, vu, vu, vu, vu], bx := [], np := 0 }
theorem lAgain_c2 {R : Type} (m : Int) (k : V → Bx → Option R) (F : Nat) : lAgain_K1 m k F .rt (lAgain_E2) =
    k (vb false) [] := by kernel_rfl
noncomputable def lAgain_E3 : St := { env := (List.replicate 86 vu), bx := [], np := 0 }
theorem lAgain_c3 {R : Type} (m : Int) (k : V → Bx → Option R) (F : Nat) : lAgain_K1 m k F (.ex 2) (lAgain_E3) =
    k (vb true) [] := by kernel_rfl
theorem lAgain_r1 {R : Type} (m : Int) (K : X → St → Option R) (F n : Nat) (s : ByteArray) (v1 : ByteArray) (v3 : Int) : lAgain_L1 m K F (n + 1) s v1 v3 =
    (bif decide (v3 < (↑(lexP s).fst.length : Int)) then
      (bif decide ((0 : Int) ≤ v3) then
        (getT ((lexP s).fst) v3.toNat fun z2 =>
          (getT z2 0 fun z3 =>
            (bif shOk [Sh.int IntKind.i64] [z3] then
              (bif decide ((0 : Int) ≤ v3) then
                (getT ((lexP v1).fst) v3.toNat fun z4 =>
                  (getT z4 0 fun z5 =>
                    (bif shOk [Sh.int IntKind.i64] [z5] then
                      (bif ([z3].getD (0 : Nat) C.nf).toInt != ([z5].getD (0 : Nat) C.nf).toInt then
                        K .rt (lAgain_E2)
                      else (bif decide ((0 : Int) ≤ v3) then
                          (getT ((lexP s).fst) v3.toNat fun z6 =>
                            (getT (List.drop (1 : Nat) z6) 0 fun z7 =>
                              (bif shOk [Sh.str] [z7] then
                                (bif decide ((0 : Int) ≤ v3) then
                                  (getT ((lexP v1).fst) v3.toNat fun z8 =>
                                    (getT (List.drop (1 : Nat) z8) 0 fun z9 =>
                                      (bif shOk [Sh.str] [z9] then
                                        (bif !([z7].getD (0 : Nat) C.nf).toStr.toList == ([z9].getD (0 : Nat) C.nf).toStr.toList then
                                          K .rt (lAgain_E2)
                                        else lAgain_L1 m K F n s v1 (IntKind.i64.wrap (v3 + (1 : Int))))
                                      else none)))
                                else none)
                              else none)))
                        else none))
                    else none)))
              else none)
            else none)))
      else none)
    else K (.ex 2) (lAgain_E3)) := by kernel_rfl
theorem lAgain_c1 {R : Type} (m : Int) (k : V → Bx → Option R) (F : Nat) (s : ByteArray) (v1 : ByteArray) : lAgain_K0 m k F (.ex 0) (lAgain_E1 s v1) =
    (bif decide (v1.size < (1000000 : Nat)) then
      (bif (lexP v1).snd.snd.snd != (0 : Int) then
        k (vb false) []
      else (bif (↑(lexP v1).fst.length : Int) != (↑(lexP s).fst.length : Int) then
          k (vb false) []
        else lAgain_L1 m (lAgain_K1 m k F) F F s v1 0))
    else none) := by kernel_rfl
theorem lAgain_r0 {R : Type} (m : Int) (K : X → St → Option R) (F n : Nat) (s : ByteArray) (v1 : ByteArray) (v2 : Int) : lAgain_L0 m K F (n + 1) s v1 v2 =
    (bif decide (v2 < (↑(lexP s).fst.length : Int)) then
      (bif decide ((0 : Int) ≤ v2) then
        (getT ((lexP s).fst) v2.toNat fun z1 =>
          (bif (List.take (4 : Nat) z1).length == (4 : Nat) then
            (bif shOk [Sh.int IntKind.i64, Sh.str, Sh.int IntKind.i64, Sh.int IntKind.i64] (List.take (4 : Nat) z1) then
              (bif decide ((↑(((List.take (4 : Nat) z1).getD (1 : Nat) C.nf).toStr.size + (ByteArray.mk #[(32 : UInt8)]).size) : Int) > (9223372036854775807 : Int)) then
                none
              else (bif decide ((↑(v1.size + (((List.take (4 : Nat) z1).getD (1 : Nat) C.nf).toStr ++ (ByteArray.mk #[(32 : UInt8)])).size) : Int) > (9223372036854775807 : Int)) then
                  none
                else lAgain_L0 m K F n s (v1 ++ (((List.take (4 : Nat) z1).getD (1 : Nat) C.nf).toStr ++ (ByteArray.mk #[(32 : UInt8)]))) (IntKind.i64.wrap (v2 + (1 : Int)))))
            else none)
          else none))
      else none)
    else K (.ex 0) (lAgain_E1 s v1)) := by kernel_rfl
theorem lAgain_start {R : Type} (m : Int) (k : V → Bx → Option R) (F : Nat) (s : ByteArray) : runFn (lAgain_cf m) F Tryd.f5 (bd Tryd.f5) [vs s] [] k =
    (bif decide ((↑s.size : Int) > (1000 : Int)) then
      k (vb true) []
    else (bif decide (s.size < (1000000 : Nat)) then
        (bif (lexP s).snd.snd.snd != (0 : Int) then
          k (vb true) []
        else lAgain_L0 m (lAgain_K0 m k F) F F s ((ByteArray.mk #[])) 0)
      else none)) := by kernel_rfl
noncomputable def lBlanks_cf (m : Int) : Cfg := mkCfG (globT m) vti orcD false [] [(12, 33849922949209616891789312), (999, 64), (1000, 0)]
noncomputable def lBlanks_m0 : List Bool := [false, false, false, false, false, false, false, false, false, false, false, false, false, false, true, false, false, false, false, false, false, false, false, false, false, false, false, false, false, false, false, false, false, false, false, false, false, false, false, false, false, false, false, false, false, false, false, false, false, false, false, false, false, false, false, false, false, false, false, false, false, false, false, false, false, false, false, false, false, false, false, false, false, false, false, false, false, false, false, false, false, false, true, true, true, false, false, false, false, false, false, false, false, false, false, false, false, false, false, false, false, false, false, false, false, false, false, false]
noncomputable def lBlanks_b0 : Code := (cA (cA (cB (cA (cB (cB (cB (cB (cB (cB (cB (cB (bd Tryd.f4)))))))))))))
noncomputable def lBlanks_S0 (v1 : List (List C)) (v2 : Int) (v3 : List (List C)) (v4 : Int) : St := { env := [vu, vu, vu, vu, vu, vu, vu, vu, vu, vu, vu, vu, vu, vu, (vc (.sl 4 v1)), vu, vu, vu, vu, vu, vu, vu, vu, vu, vu, vu, vu, vu, vu, vu, vu, vu, vu, vu, vu, vu, vu, vu, vu, vu, vu, vu, vu, vu, vu, vu, vu, vu, vu, vu, vu, vu, vu, vu, vu, vu, vu, vu, vu, vu, vu, vu, vu, vu, vu, vu, vu, vu, vu, vu, vu, vu, vu, vu, vu, vu, vu, vu, vu, vu, vu, vu, (.t (.w (.arr 0))), (vi v2), (vi v4), vu, vu, vu, vu, vu, vu, vu, vu, vu, vu, vu, vu, vu, vu, vu, vu, vu, vu, vu, vu, vu, vu, vu], bx := [(some (.arr true (some 33) 4 v3))], np := 0 }
noncomputable def lBlanks_L0 {R : Type} (m : Int) (K : X → St → Option R) (F n : Nat) (v1 : List (List C)) (v2 : Int) (v3 : List (List C)) (v4 : Int) : Option R := loopV (headM lBlanks_m0) (exec (lBlanks_cf m) F lBlanks_b0) (exitK (lBlanks_cf m) K) n (lBlanks_S0 v1 v2 v3 v4)
noncomputable def lBlanks_K0 {R : Type} (m : Int) (k : V → Bx → Option R) (F : Nat) : X → St → Option R := (blockK 0 (seqK (lBlanks_cf m) F (cB (cB (cB (cB (cB (cB (cB (cB (cB (bd Tryd.f4)))))))))) (finK (lBlanks_cf m) Tryd.f4 k)))
noncomputable def lBlanks_E1 : St := { env := [vu, vu, vu, vu, vu, vu, (vb false), vu, vu, vu, vu, vu, vu, vu, vu, vu, vu, vu, vu, vu, vu, vu, vu, vu, vu, vu, vu, vu, vu, vu, vu, vu, vu, vu, vu, vu, vu, vu, vu, vu, vu, vu, vu, vu, vu, vu, vu, vu, vu, vu, vu, vu, vu, vu, vu, vu, vu, vu, vu, vu, vu, vu, vu, vu, vu, vu, vu, vu, vu, vu, vu, vu, vu, vu, vu, vu, vu, vu, vu, vu, vu, vu, vu, vu, vu, vu, vu, vu, vu, vu, vu, vu, vu, vu, vu, vu, vu, vu, vu, vu, vu, vu, vu, vu, vu, vu, vu, vu], bx := [], np := 0 }
theorem lBlanks_c1 {R : Type} (m : Int) (k : V → Bx → Option R) (F : Nat) : lBlanks_K0 m k F .rt (lBlanks_E1) =
    k (vb false) [] := by kernel_rfl
noncomputable def lBlanks_E2 : St := { env := (List.replicate 108 vu), bx := [], np := 0 }
theorem lBlanks_c2 {R : Type} (m : Int) (k : V → Bx → Option R) (F : Nat) : lBlanks_K0 m k F (.ex 0) (lBlanks_E2) =
    k (vb true) [] := by kernel_rfl
theorem lBlanks_r0 {R : Type} (m : Int) (K : X → St → Option R) (F n : Nat) (v1 : List (List C)) (v2 : Int) (v3 : List (List C)) (v4 : Int) : lBlanks_L0 m K F (n + 1) v1 v2 v3 v4 =
    (bif decide (v4 < v2) then
      (bif decide ((0 : Int) ≤ v4) then
        (getT v3 v4.toNat fun _ =>
          (getT v3 v4.toNat fun z3 =>
            (bif (List.take (4 : Nat) z3).length == (4 : Nat) then
              (bif shOk [Sh.int IntKind.i64, Sh.str, Sh.int IntKind.i64, Sh.int IntKind.i64] (List.take (4 : Nat) z3) then
                (bif decide ((0 : Int) ≤ v4) then
                  (getT v1 v4.toNat fun z4 =>
                    (getT z4 0 fun z5 =>
                      (bif shOk [Sh.int IntKind.i64] [z5] then
                        (bif ([z5].getD (0 : Nat) C.nf).toInt != ((List.take (4 : Nat) z3).getD (0 : Nat) C.nf).toInt then
                          K .rt (lBlanks_E1)
                        else (bif decide ((0 : Int) ≤ v4) then
                            (getT v1 v4.toNat fun z6 =>
                              (getT (List.drop (1 : Nat) z6) 0 fun z7 =>
                                (bif shOk [Sh.str] [z7] then
                                  (bif !([z7].getD (0 : Nat) C.nf).toStr.toList == ((List.take (4 : Nat) z3).getD (1 : Nat) C.nf).toStr.toList then
                                    K .rt (lBlanks_E1)
                                  else lBlanks_L0 m K F n v1 v2 v3 (IntKind.i64.wrap (v4 + (1 : Int))))
                                else none)))
                          else none))
                      else none)))
                else none)
              else none)
            else none)))
      else none)
    else K (.ex 0) (lBlanks_E2)) := by kernel_rfl
theorem lBlanks_start {R : Type} (m : Int) (k : V → Bx → Option R) (F : Nat) (s : ByteArray) (t : ByteArray) (gap : Int) : runFn (lBlanks_cf m) F Tryd.f4 (bd Tryd.f4) [vs s, vs t, vc (C.int IntKind.u8 gap)] [] k =
    (bif decide ((↑s.size : Int) > (1000 : Int)) then
      k (vb true) []
    else (bif decide ((↑t.size : Int) > (1000 : Int)) then
        k (vb true) []
      else (bif decide ((0 : Int) ≤ gap.tmod (4 : Int) ∧ gap.tmod (4 : Int) < (4 : Int)) then
          (getT (List.drop ((gap.tmod (4 : Int)).toNat * (1 : Nat)) [C.str (ByteArray.mk #[(10 : UInt8)]), C.str (ByteArray.mk #[(32 : UInt8), (227 : UInt8), (128 : UInt8), (128 : UInt8)]), C.str (ByteArray.mk #[(47 : UInt8), (47 : UInt8), (120 : UInt8), (10 : UInt8)]), C.str (ByteArray.mk #[(9 : UInt8), (13 : UInt8)])]) 0 fun z1 =>
            (bif shOk [Sh.str] [z1] then
              (bif decide ((↑(s.size + (ByteArray.mk #[(10 : UInt8)]).size) : Int) > (9223372036854775807 : Int)) then
                none
              else (bif decide ((s ++ (ByteArray.mk #[(10 : UInt8)])).size < (1000000 : Nat)) then
                  (bif decide (t.size < (1000000 : Nat)) then
                    (bif decide ((↑(s.size + (ByteArray.mk #[(10 : UInt8)]).size) : Int) > (9223372036854775807 : Int)) then
                      none
                    else (bif decide ((↑((s ++ (ByteArray.mk #[(10 : UInt8)])).size + ([z1].getD (0 : Nat) C.nf).toStr.size) : Int) > (9223372036854775807 : Int)) then
                        none
                      else (bif decide ((↑((s ++ (ByteArray.mk #[(10 : UInt8)]) ++ ([z1].getD (0 : Nat) C.nf).toStr).size + t.size) : Int) > (9223372036854775807 : Int)) then
                          none
                        else (bif decide ((s ++ (ByteArray.mk #[(10 : UInt8)]) ++ ([z1].getD (0 : Nat) C.nf).toStr ++ t).size < (1000000 : Nat)) then
                            (bif (lexP (s ++ (ByteArray.mk #[(10 : UInt8)]))).snd.snd.snd != (0 : Int) then
                              k (vb true) []
                            else (bif (lexP t).snd.snd.snd != (0 : Int) then
                                k (vb true) []
                              else (bif (lexP (s ++ (ByteArray.mk #[(10 : UInt8)]) ++ ([z1].getD (0 : Nat) C.nf).toStr ++ t)).snd.snd.snd != (0 : Int) then
                                  k (vb false) []
                                else (bif (↑(lexP (s ++ (ByteArray.mk #[(10 : UInt8)]) ++ ([z1].getD (0 : Nat) C.nf).toStr ++ t)).fst.length : Int) != IntKind.i64.wrap ((↑(lexP (s ++ (ByteArray.mk #[(10 : UInt8)]))).fst.length : Int) + (↑(lexP t).fst.length : Int)) then
                                    k (vb false) []
                                  else (bif decide (((0 : Nat) + (lexP (s ++ (ByteArray.mk #[(10 : UInt8)]))).fst.length) * (40 : Nat) ≤ (140737488355328 : Nat) ∧ (0 : Nat) + (lexP (s ++ (ByteArray.mk #[(10 : UInt8)]))).fst.length ≤ (9223372036854775807 : Nat)) then
                                      (bif decide (((lexP (s ++ (ByteArray.mk #[(10 : UInt8)]))).fst.length + (lexP t).fst.length) * (40 : Nat) ≤ (140737488355328 : Nat) ∧ (lexP (s ++ (ByteArray.mk #[(10 : UInt8)]))).fst.length + (lexP t).fst.length ≤ (9223372036854775807 : Nat)) then
                                        lBlanks_L0 m (lBlanks_K0 m k F) F F ((lexP (s ++ (ByteArray.mk #[(10 : UInt8)]) ++ ([z1].getD (0 : Nat) C.nf).toStr ++ t)).fst) ((↑((lexP (s ++ (ByteArray.mk #[(10 : UInt8)]))).fst ++ (lexP t).fst).length : Int)) ((lexP (s ++ (ByteArray.mk #[(10 : UInt8)]))).fst ++ (lexP t).fst) 0
                                      else none)
                                    else none)))))
                          else none))))
                  else none)
                else none))
            else none))
        else none))) := by kernel_rfl
end Go.Proofs.YtniiimpcakmkbaaDoor

/- sigil: the tokens' texts with blanks have the same tokens -/
set_option linter.unusedVariables false
namespace Go.Proofs.YtniiimpcakmkbaaDoor
open Go Vm Go.Lib
/-! ### plain -/
theorem wordN_app {w r : List Nat} {d : Nat} (hw : wordN (w ++ r) = w) (hn : w ≠ []) (hd : partN d = false) (q : List Nat) : wordN (w ++ d :: q) = w := by
  cases w with
  | nil => exact absurd rfl hn
  | cons c w =>
    rw [List.cons_append, wordN_cons] at hw ⊢
    split at hw
    · rename_i hc
      rw [if_pos hc]
      have h1 : (w ++ r).takeWhile partN = w := by simpa using hw
      have h2 : ∀ x ∈ w, partN x = true := fun x hx => by rw [← h1] at hx; exact mem_takeW hx
      rw [List.takeWhile_append_of_pos h2, List.takeWhile_cons, hd]
      simp
    · cases hw
theorem wordN_none {c : Nat} {r r' : List Nat} (h : wordN (c :: r) = []) : wordN (c :: r') = [] := by
  rw [wordN_cons] at h ⊢
  split at h
  · cases h
  · rename_i hc; rw [if_neg hc]
theorem low_of_word {c : Nat} {r : List Nat} (h : wordN (c :: r) ≠ []) : lowN c = true := by
  rw [wordN_cons] at h
  cases hl : lowN c with
  | true => rfl
  | false => rw [hl] at h; simp at h
/-- a token stands as well before a blank that ends its text -/
theorem tokN_again {ns : List Nat} {k : Int} {t : List Nat} (h : tokN ns = some (k, t)) (q : List Nat) : tokN (t ++ 32 :: q) = some (k, t) := by
  obtain ⟨htn, r, hr⟩ := tokN_split h
  unfold tokN at h ⊢
  by_cases hw : wordN ns ≠ []
  · rw [if_pos hw] at h
    split at h
    · rename_i hl
      have ht : t = wordN ns := by cases h; rfl
      have hk : k = kindN (wordN ns) := by cases h; rfl
      have h1 : wordN (t ++ 32 :: q) = t := wordN_app (r := r) (by rw [← hr]; exact ht.symm) htn rfl q
      rw [h1, if_pos htn, ht, if_pos hl, hk]
    · cases h
  · rw [if_neg hw] at h
    have hw' : wordN ns = [] := by simpa using hw
    split at h
    · cases h; rfl
    · rename_i h2
      cases ns with
      | nil => cases h
      | cons c r0 =>
        simp only at h
        split at h
        · rename_i hc
          cases h
          have hw2 := wordN_none (r' := 32 :: q) hw'
          simp only [List.cons_append, List.nil_append]
          rw [hw2]
          have h3 : isTo (c :: 32 :: q) = false := by
            unfold isTo
            split
            · rename_i heq; cases heq
            · rfl
          rw [h3]
          simp [hc]
        · cases h
theorem tok_head {c : Nat} {r : List Nat} {k : Int} {t : List Nat} (h : tokN (c :: r) = some (k, t)) : ∃ t', t = c :: t' ∧ c ≠ 47 ∧ blankN c = false := by
  obtain ⟨htn, r', hr⟩ := tokN_split h
  cases t with
  | nil => exact absurd rfl htn
  | cons d t' =>
    simp only [List.cons_append, List.cons.injEq] at hr
    obtain ⟨rfl, _⟩ := hr
    refine ⟨t', rfl, ?_⟩
    unfold tokN at h
    by_cases hw : wordN (c :: r) ≠ []
    · have := low_of_word hw
      unfold lowN at this
      simp only [Bool.and_eq_true, decide_eq_true_eq] at this
      refine ⟨by omega, ?_⟩
      unfold blankN
      simp only [Bool.or_eq_false_iff, beq_eq_false_iff_ne]
      omega
    · rw [if_neg hw] at h
      split at h
      · cases h; exact ⟨by decide, by decide⟩
      · simp only at h
        split at h
        · rename_i hc
          have : ∀ x ∈ signsN, x ≠ 47 ∧ blankN x = false := by decide
          exact this c hc
        · cases h
theorem notRem {c : Nat} {r : List Nat} (h : c ≠ 47) : isRem (c :: r) = false := by
  unfold isRem
  split
  · rename_i heq; cases heq; exact absurd rfl h
  · rfl
/-- the texts of all tokens, with blanks -/
def txt (o : List Tok) : List Nat := o.flatMap fun x => x.2.1 ++ [32]
theorem txt_cons (x : Tok) (o : List Tok) : txt (x :: o) = x.2.1 ++ 32 :: txt o := by simp [txt]
theorem lx_again {p ns o q e} (h : Lx p ns o q e) (he : e = 0) : ∀ p', ∃ o' q', Lx p' (txt o) o' q' 0 ∧ o'.map (fun x => (x.1, x.2.1)) = o.map (fun x => (x.1, x.2.1)) := by
  induction h with
  | nil p => intro p'; exact ⟨[], p', .nil p', rfl⟩
  | blank _ _ ih => exact ih he
  | rem _ _ ih => exact ih he
  | @tok p c r o q e k t r' hb hr ht hsp h ih =>
    intro p'
    obtain ⟨t', rfl, h47, hbc⟩ := tok_head ht
    have h1 := tokN_again ht (txt o)
    rw [List.cons_append] at h1
    obtain ⟨o', q', h2, h3⟩ := ih he (advN (advs p' (c :: t')) 32)
    refine ⟨(k, c :: t', p') :: o', q', ?_, by simp [h3]⟩
    rw [txt_cons]
    exact .tok hbc (notRem h47) h1 rfl (.blank rfl h2)
  | bad => cases he
theorem txt_SC {p ns o q e} (h : Lx p ns o q e) (hs : SC ns) : SC (txt o) := by
  induction h with
  | nil p => exact SC.nil
  | blank _ _ ih => exact ih hs.tail
  | @rem p ns o q e _ _ ih =>
    have := takeDrop ne10 ns
    rw [this] at hs
    exact ih hs.right
  | @tok p c r o q e k t r' hb hr ht hsp h ih =>
    have h2 : SC (t ++ r') := hsp ▸ hs
    rw [txt_cons]
    refine h2.left.app ?_
    intro x hx
    rcases List.mem_cons.1 hx with rfl | hx
    · exact .inl (by omega)
    · exact ih h2.right x hx
  | bad => exact SC.nil
theorem txt_len {p ns o q e} (h : Lx p ns o q e) : (txt o).length ≤ ns.length + o.length ∧ o.length ≤ ns.length ∧ (encs (txt o)).length ≤ (encs ns).length + o.length := by
  induction h with
  | nil p => simp [txt, encs]
  | @blank p c r o q e _ _ ih => rw [encs_cons]; simp only [List.length_cons, List.length_append]; omega
  | @rem p ns o q e _ _ ih =>
    have := takeDrop ne10 ns
    have h2 := congrArg List.length this
    have h3 := congrArg (fun x => (encs x).length) this
    simp only [encs_app, List.length_append] at h2 h3
    omega
  | @tok p c r o q e k t r' hb hr ht hsp h ih =>
    rw [txt_cons, hsp, encs_app, encs_app, encs_cons]
    have : (encN 32).length = 1 := rfl
    have : 0 < t.length := List.length_pos_iff.2 (tokN_split ht).1
    simp only [List.length_cons, List.length_append]
    omega
  | bad => simp [txt, encs]
theorem tokC_get (x : Tok) : tokC x = [.int .i64 x.1, .str (bsN x.2.1), .int .i64 x.2.2.1, .int .i64 x.2.2.2] := rfl
theorem bsN_app (a b : List Nat) : bsN a ++ bsN b = bsN (a ++ b) := by
  apply ba_ext
  rw [ByteArray.data_append, bsN_data, encs_app]
  simp [bsN]
theorem sp_bsN : ByteArray.mk #[32] = bsN [32] := rfl
/-! ### the run -/
theorem lAgain_loop0 {R : Type} (m : Int) (K : X → St → Option R) (F : Nat) (s : ByteArray) (o : List Tok) (hl : (lexP s).1 = o.map tokC) (hb : o.length < 1000000) : ∀ (n : Nat) (dn rest : List Tok), o = dn ++ rest → rest.length < n → (encs (txt o)).length < 100000 →
    lAgain_L0 m K F n s (bsN (txt dn)) (dn.length : Int) = K (.ex 0) (lAgain_E1 s (bsN (txt o))) := by
  intro n
  induction n with
  | zero => intro dn rest h h1; omega
  | succ n ih =>
    intro dn rest h h1 h2
    rw [lAgain_r0, hl]
    cases rest with
    | nil =>
      have : o = dn := by simpa using h
      subst this
      have d1 : decide ((o.length : Int) < ((o.map tokC).length : Int)) = false := by simp
      rw [d1, cond_false]
    | cons x rest =>
      have hlen : o.length = dn.length + rest.length + 1 := by rw [h]; simp; omega
      have d1 : decide ((dn.length : Int) < ((o.map tokC).length : Int)) = true := by simp; omega
      have d2 : decide ((0 : Int) ≤ (dn.length : Int)) = true := by simp
      have hg : (o.map tokC)[dn.length]? = some (tokC x) := by rw [h]; simp
      rw [d1, cond_true, d2, cond_true, getT_at rfl hg]
      have e1 : List.take 4 (tokC x) = tokC x := rfl
      have e2 : ((tokC x).getD 1 C.nf).toStr = bsN x.2.1 := rfl
      have e3 : ((tokC x).length == 4) = true := rfl
      have e4 : shOk [Sh.int IntKind.i64, Sh.str, Sh.int IntKind.i64, Sh.int IntKind.i64] (tokC x) = true := rfl
      have hsz : (encs (txt o)).length = (encs (txt dn)).length + ((encs x.2.1).length + 1) + (encs (txt rest)).length := by
        have : txt o = txt dn ++ ((x.2.1 ++ [32]) ++ txt rest) := by rw [h]; simp [txt]
        rw [this, encs_app, encs_app, encs_app]
        have : (encs [32]).length = 1 := rfl
        simp only [List.length_append]; omega
      rw [e1, e3, cond_true, e4, cond_true, e2, sp_bsN, bsN_app, bsN_app]
      have d3 : decide ((((bsN x.2.1).size + (bsN [32]).size : Nat) : Int) > 9223372036854775807) = false := by
        simp only [decide_eq_false_iff_not]; rw [bsN_size, bsN_size]; have : (encs [32]).length = 1 := rfl; omega
      have d4 : decide ((((bsN (txt dn)).size + (bsN (x.2.1 ++ [32])).size : Nat) : Int) > 9223372036854775807) = false := by
        simp only [decide_eq_false_iff_not]; rw [bsN_size, bsN_size, encs_app]; have : (encs [32]).length = 1 := rfl; simp only [List.length_append]; omega
      rw [d3, cond_false, d4, cond_false, w64 _ (by omega) (by omega)]
      have e5 : txt dn ++ (x.2.1 ++ [32]) = txt (dn ++ [x]) := by simp [txt]
      have e6 : (dn.length : Int) + 1 = ((dn ++ [x]).length : Int) := by simp
      rw [e5, e6]
      exact ih (dn ++ [x]) rest (by rw [h]; simp) (by simp at h1; omega) h2
theorem lAgain_loop1 {R : Type} (m : Int) (k : V → Bx → Option R) (F : Nat) (s v : ByteArray) (o o' : List Tok) (hl : (lexP s).1 = o.map tokC) (hl' : (lexP v).1 = o'.map tokC) (hs : ∀ x ∈ o, True) (he : o'.map (fun x => (x.1, x.2.1)) = o.map (fun x => (x.1, x.2.1))) (hb : o.length < 1000000) : ∀ (n i : Nat), i ≤ o.length → o.length - i < n →
    lAgain_L1 m (lAgain_K1 m k F) F n s v (i : Int) = k (vb true) [] := by
  intro n
  induction n with
  | zero => intro i h h1; omega
  | succ n ih =>
    intro i h h1
    rw [lAgain_r1, hl, hl']
    by_cases hi : i < o.length
    · have hlo : o'.length = o.length := by have := congrArg List.length he; simpa using this
      have hi' : i < o'.length := by omega
      have d1 : decide ((i : Int) < ((o.map tokC).length : Int)) = true := by simp; omega
      have d2 : decide ((0 : Int) ≤ (i : Int)) = true := by simp
      have hg : (o.map tokC)[i]? = some (tokC o[i]) := by simp [hi]
      have hg' : (o'.map tokC)[i]? = some (tokC o'[i]) := by simp [hi']
      have hx : (o'[i].1, o'[i].2.1) = (o[i].1, o[i].2.1) := by
        have h3 := congrArg (fun l => l[i]?) he
        simpa [hi, hi'] using h3
      have ek : o'[i].1 = o[i].1 := (Prod.mk.inj hx).1
      have et : o'[i].2.1 = o[i].2.1 := (Prod.mk.inj hx).2
      have g0 : ∀ x : Tok, (tokC x)[0]? = some (.int .i64 x.1) := fun _ => rfl
      have g1 : ∀ x : Tok, (List.drop 1 (tokC x))[0]? = some (.str (bsN x.2.1)) := fun _ => rfl
      have s0 : ∀ x : Tok, shOk [Sh.int IntKind.i64] [C.int .i64 x.1] = true := fun _ => rfl
      have s1 : ∀ x : Tok, shOk [Sh.str] [C.str (bsN x.2.1)] = true := fun _ => rfl
      rw [d1, cond_true, d2, cond_true, getT_at rfl hg, getT_some (g0 _), s0, cond_true, cond_true, getT_at rfl hg', getT_some (g0 _), s0, cond_true]
      have e1 : ((([C.int .i64 o[i].1].getD 0 C.nf).toInt) != (([C.int .i64 o'[i].1].getD 0 C.nf).toInt)) = false := by
        show (o[i].1 != o'[i].1) = false
        rw [ek]; simp
      rw [e1, cond_false, cond_true, getT_at rfl hg, getT_some (g1 _), s1, cond_true, cond_true, getT_at rfl hg', getT_some (g1 _), s1, cond_true]
      have e2 : (([C.str (bsN o[i].2.1)].getD 0 C.nf).toStr.toList == ([C.str (bsN o'[i].2.1)].getD 0 C.nf).toStr.toList) = true := by
        show ((bsN o[i].2.1).toList == (bsN o'[i].2.1).toList) = true
        rw [et]; simp
      rw [e2, Bool.not_true, cond_false, w64 _ (by omega) (by omega)]
      exact ih (i + 1) (by omega) (by omega)
    · have : i = o.length := by omega
      subst this
      have d1 : decide ((o.length : Int) < ((o.map tokC).length : Int)) = false := by simp
      rw [d1, cond_false, lAgain_c3]
theorem lAgain_run (m : Int) (s : ByteArray) (F : Nat) (hF : 5000 ≤ F) : runFn (lAgain_cf m) F Tryd.f5 (bd Tryd.f5) [vs s] [] fin2 = some (vb true, []) := by
  rw [lAgain_start]
  cases h : decide ((s.size : Int) > 1000) with
  | true => rfl
  | false =>
    simp only [decide_eq_false_iff_not] at h
    have d0 : decide (s.size < 1000000) = true := by simp; omega
    rw [cond_false, d0, cond_true]
    cases he : (lexP s).2.2.2 != 0 with
    | true => rfl
    | false =>
      have he' : (lexP s).2.2.2 = 0 := by simpa using he
      obtain ⟨ns, o, q, hs, rfl, hl, hx, hr⟩ := lexP_ok (by omega) he'
      have hl1 : (lexP (bsN ns)).1 = o.map tokC := by rw [hr]
      obtain ⟨t1, t2, t3⟩ := txt_len hx
      have hsz := bsN_size ns
      have hel := encs_len ns
      have hlp := lAgain_loop0 m (lAgain_K0 m fin2 F) F (bsN ns) o hl1 (by omega) F [] o rfl (by omega) (by omega)
      have e0 : bsN (txt []) = ByteArray.mk #[] := rfl
      rw [e0] at hlp
      rw [cond_false]
      refine (show _ = _ from hlp).trans ?_
      rw [lAgain_c1]
      obtain ⟨o', q', hx', hk⟩ := lx_again hx rfl (1, 1)
      have hr' := lexP_encs (txt_SC hx hs) (by omega) hx'
      have hr2 : lexP (bsN (txt o)) = (o'.map tokC, q'.1, q'.2, 0) := hr'
      have hlo : o'.length = o.length := by have := congrArg List.length hk; simpa using this
      have d1 : decide ((bsN (txt o)).size < 1000000) = true := by simp only [decide_eq_true_eq]; rw [bsN_size]; omega
      have d2 : ((lexP (bsN (txt o))).2.2.2 != 0) = false := by rw [hr2]; rfl
      have d3 : (((lexP (bsN (txt o))).1.length : Int) != ((lexP (bsN ns)).1.length : Int)) = false := by rw [hr2, hl1]; simp [hlo]
      rw [d1, cond_true, d2, cond_false, d3, cond_false]
      have hl2 : (lexP (bsN (txt o))).1 = o'.map tokC := by rw [hr2]
      exact lAgain_loop1 m fin2 F _ _ o o' hl1 hl2 (fun _ _ => trivial) hk (by omega) F 0 (by omega) (by omega)
theorem again_spec (m : Int) (s : ByteArray) : FnRes Tryd.prog (globT m) 5 [vs s] [] (vb true) [] :=
  specAtG mix vti_ok Tryd.func5 rfl (by kernel_rfl) (tabD_ok m) 5000 (lAgain_run m s 5000 (Nat.le_refl _))
theorem again_res (m : Int) (xs : List V) (h : argVs Tryd.prog [9] xs) : ∃ b, FnRes Tryd.prog (globT m) 5 xs [] (vb true) b := by
  obtain ⟨x, rfl, h1⟩ := argVs1 h
  obtain ⟨s, rfl, _⟩ := str_arg h1
  exact ⟨[], again_spec m s⟩
end Go.Proofs.YtniiimpcakmkbaaDoor

/- sigil: blanks between two texts change no token -/
set_option linter.unusedVariables false
namespace Go.Proofs.YtniiimpcakmkbaaDoor
open Go Vm Go.Lib
/-! ### plain -/
abbrev kt (o : List Tok) : List (Int × List Nat) := o.map fun x => (x.1, x.2.1)
theorem lx_shift {p ns o q e} (h : Lx p ns o q e) : ∀ p', ∃ o' q', Lx p' ns o' q' e ∧ kt o' = kt o := by
  induction h with
  | nil p => intro p'; exact ⟨[], p', .nil p', rfl⟩
  | blank hb _ ih => intro p'; obtain ⟨o', q', h1, h2⟩ := ih (advN p' _); exact ⟨o', q', .blank hb h1, h2⟩
  | rem hr _ ih => intro p'; obtain ⟨o', q', h1, h2⟩ := ih (advs p' _); exact ⟨o', q', .rem hr h1, h2⟩
  | @tok p c r o q e k t r' hb hr ht hs h ih =>
    intro p'; obtain ⟨o', q', h1, h2⟩ := ih (advs p' t)
    exact ⟨(k, t, p') :: o', q', .tok hb hr ht hs h1, by simp only [kt] at h2 ⊢; simp [h2]⟩
  | bad hb hr ht => intro p'; exact ⟨[], p', .bad hb hr ht, rfl⟩
theorem wordN_next {w r : List Nat} {d : Nat} (hw : wordN (w ++ d :: r) = w) (hn : w ≠ []) (q : List Nat) : wordN (w ++ d :: q) = w := by
  cases w with
  | nil => exact absurd rfl hn
  | cons c w =>
    rw [List.cons_append, wordN_cons] at hw ⊢
    split at hw
    · rename_i hc
      rw [if_pos hc]
      have h1 : (w ++ d :: r).takeWhile partN = w := by simpa using hw
      have h2 : ∀ x ∈ w, partN x = true := fun x hx => by rw [← h1] at hx; exact mem_takeW hx
      rw [List.takeWhile_append_of_pos h2] at h1 ⊢
      have h3 : (d :: r).takeWhile partN = [] := by
        have := congrArg List.length h1
        rw [List.length_append] at this
        exact List.length_eq_zero_iff.1 (by omega)
      have h4 : partN d = false := by
        rw [← Bool.not_eq_true]; intro hd
        rw [List.takeWhile_cons, hd] at h3; simp at h3
      rw [List.takeWhile_cons, h4]; simp
    · cases hw
theorem isTo_next {a b : Nat} {r q : List Nat} : isTo (a :: b :: r) = isTo (a :: b :: q) := by
  apply bool_eq
  constructor
  · intro h; obtain ⟨x, hx⟩ := isTo_eq h; cases hx; rfl
  · intro h; obtain ⟨x, hx⟩ := isTo_eq h; cases hx; rfl
theorem tokN_next {t r : List Nat} {d : Nat} {k : Int} (h : tokN (t ++ d :: r) = some (k, t)) (q : List Nat) : tokN (t ++ d :: q) = some (k, t) := by
  obtain ⟨htn, _⟩ := tokN_split h
  unfold tokN at h ⊢
  by_cases hw : wordN (t ++ d :: r) ≠ []
  · rw [if_pos hw] at h
    split at h
    · rename_i hl
      have h9 := Prod.mk.inj (Option.some.inj h)
      have ht : wordN (t ++ d :: r) = t := h9.2
      have hk : k = kindN (wordN (t ++ d :: r)) := h9.1.symm
      have h1 := wordN_next ht htn q
      rw [h1, if_pos htn, hk, ht, if_pos (by rw [ht] at hl; exact hl)]
    · cases h
  · rw [if_neg hw] at h
    have hw' : wordN (t ++ d :: r) = [] := by simpa using hw
    cases t with
    | nil => exact absurd rfl htn
    | cons c t =>
      have hw2 : wordN (c :: t ++ d :: q) = [] := wordN_none (r := t ++ d :: r) hw'
      rw [hw2, if_neg (by simp)]
      split at h
      · cases h; rfl
      · rename_i h2
        simp only [List.cons_append] at h h2 ⊢
        split at h
        · rename_i hc
          cases h
          rw [if_neg (by rw [List.nil_append, isTo_next (q := r)]; simpa using h2), if_pos hc]
        · cases h
theorem tok_no10 {ns : List Nat} {k : Int} {t : List Nat} (h : tokN ns = some (k, t)) : ∀ x ∈ t, x ≠ 10 := by
  unfold tokN at h
  by_cases hw : wordN ns ≠ []
  · rw [if_pos hw] at h
    split at h
    · cases h
      intro x hx
      cases ns with
      | nil => cases hx
      | cons c r =>
        rw [wordN_cons] at hx
        split at hx
        · rename_i hc
          rcases List.mem_cons.1 hx with rfl | hx
          · unfold lowN at hc; simp at hc; omega
          · have := mem_takeW hx
            unfold partN lowN at this
            simp at this; omega
        · cases hx
    · cases h
  · rw [if_neg hw] at h
    split at h
    · cases h; decide
    · cases ns with
      | nil => cases h
      | cons c r =>
        simp only at h
        split at h
        · rename_i hc
          cases h
          have : ∀ x ∈ signsN, x ≠ 10 := by decide
          intro x hx
          simp only [List.mem_cons, List.mem_nil_iff, or_false] at hx
          subst hx; exact this _ hc
        · cases h
def ends10 (a : List Nat) : Prop := a = [] ∨ ∃ x, a = x ++ [10]
theorem ends10_cons {c : Nat} {r : List Nat} (h : ends10 (c :: r)) : ends10 r := by
  rcases h with h | ⟨x, h⟩
  · cases h
  · cases x with
    | nil => cases h; exact .inl rfl
    | cons y x => cases h; exact .inr ⟨x, rfl⟩
theorem ends10_right {a b : List Nat} (h : ends10 (a ++ b)) : ends10 b := by
  induction a with
  | nil => exact h
  | cons c a ih => exact ih (ends10_cons h)
theorem isRem_app {a : List Nat} (b : List Nat) (h : isRem a = true) : isRem (a ++ b) = true := by obtain ⟨r, rfl⟩ := isRem_eq h; rfl
theorem drop10 {x : List Nat} : (x ++ [10]).dropWhile ne10 ≠ [] := by
  induction x with
  | nil => simp [ne10]
  | cons c x ih =>
    rw [List.cons_append, List.dropWhile_cons]
    split
    · exact ih
    · simp
theorem takeDrop_app (p : Nat → Bool) : ∀ (a b : List Nat), a.dropWhile p ≠ [] → (a ++ b).takeWhile p = a.takeWhile p ∧ (a ++ b).dropWhile p = a.dropWhile p ++ b := by
  intro a
  induction a with
  | nil => intro b h; exact absurd rfl h
  | cons c a ih =>
    intro b h
    rw [List.dropWhile_cons] at h
    rw [List.cons_append, List.takeWhile_cons, List.dropWhile_cons, List.takeWhile_cons, List.dropWhile_cons]
    cases hp : p c with
    | true => rw [hp] at h; obtain ⟨h1, h2⟩ := ih b h; simp [h1, h2]
    | false => simp
theorem lx_join {p a o q e} (h : Lx p a o q e) : e = 0 → ends10 a → ∀ {b o2 q2 e2}, Lx q b o2 q2 e2 → Lx p (a ++ b) (o ++ o2) q2 e2 := by
  induction h with
  | nil p => intro _ _ b o2 q2 e2 h; exact h
  | blank hb _ ih => intro he ha b o2 q2 e2 h; exact .blank hb (ih he (ends10_cons ha) h)
  | @rem p ns o q e hr _ ih =>
    intro he ha b o2 q2 e2 h
    have hd : ns.dropWhile ne10 ≠ [] := by
      rcases ha with rfl | ⟨x, rfl⟩
      · cases hr
      · exact drop10
    obtain ⟨h1, h2⟩ := takeDrop_app ne10 ns b hd
    refine .rem (isRem_app b hr) ?_
    rw [h1, h2]
    refine ih he ?_ h
    have := takeDrop ne10 ns
    rw [this] at ha; exact ends10_right ha
  | @tok p c r o q e k t r' hb hr ht hs _ ih =>
    intro he ha b o2 q2 e2 h
    rw [hs] at ha
    obtain ⟨t', rfl, h47, _⟩ := tok_head ht
    cases r' with
    | nil =>
      exfalso
      rcases ha with ha | ⟨x, ha⟩
      · cases ha
      · have : (10 : Nat) ∈ c :: t' := by
          have : (10 : Nat) ∈ c :: t' ++ [] := by rw [ha]; simp
          simpa using this
        exact tok_no10 ht 10 this rfl
    | cons d r'' =>
      have h5 : tokN (c :: (r ++ b)) = some (k, c :: t') := by
        rw [hs] at ht
        have := tokN_next ht (r'' ++ b)
        have e5 : c :: (r ++ b) = c :: t' ++ d :: (r'' ++ b) := by
          have := congrArg (fun z => z ++ b) hs
          simpa using this
        rw [e5]; exact this
      refine .tok hb (notRem h47) h5 ?_ (ih he (ends10_right ha) h)
      have := congrArg (fun z => z ++ b) hs
      simpa using this
  | bad => intro he; cases he
theorem encN_big {c : Nat} (hc : Sc c) (h : ¬ c < 128) : ∃ l x, encN c = l ++ [UInt8.ofNat (128 + x)] ∧ x < 64 := by
  unfold encN
  rw [if_neg h]
  split
  · exact ⟨[_], c % 64, rfl, by omega⟩
  split
  · exact ⟨[_, _], c % 64, rfl, by omega⟩
  · exact ⟨[_, _, _], c % 64, rfl, by omega⟩
theorem encs_last {ns : List Nat} (hs : SC ns) {l : List UInt8} (h : encs ns = l ++ [10]) : ∃ x, ns = x ++ [10] := by
  rcases List.eq_nil_or_concat ns with rfl | ⟨x, c, rfl⟩
  · rw [encs_nil] at h
    have := congrArg List.length h; simp at this
  · have hc : Sc c := hs c (by simp)
    have e : encs (x ++ [c]) = encs x ++ encN c := by rw [encs_app, encs_cons, encs_nil, List.append_nil]
    rw [List.concat_eq_append] at h ⊢
    rw [e] at h
    by_cases h1 : c < 128
    · rw [encN_low h1] at h
      have := congrArg List.getLast? h
      simp only [List.getLast?_append, List.getLast?_singleton, Option.some_or] at this
      have h2 : (UInt8.ofNat c) = 10 := Option.some.inj this
      have h3 := congrArg UInt8.toNat h2
      rw [u8 c (by omega)] at h3
      exact ⟨x, by rw [h3]; rfl⟩
    · obtain ⟨l', y, h2, h3⟩ := encN_big hc h1
      rw [h2, ← List.append_assoc] at h
      have := congrArg List.getLast? h
      simp only [List.getLast?_append, List.getLast?_singleton, Option.some_or] at this
      have h4 : (UInt8.ofNat (128 + y)) = 10 := Option.some.inj this
      have h5 := congrArg UInt8.toNat h4
      rw [u8 _ (by omega)] at h5
      have : (10 : UInt8).toNat = 10 := rfl
      omega
/-- the four texts -/
def gaps : List (List Nat) := [[10], [32, 12288], [47, 47, 120, 10], [9, 13]]
theorem gap_lx : ∀ g ∈ gaps, ∀ (p : Int × Int) (b : List Nat), ∃ p', ∀ o q e, Lx p' b o q e → Lx p (g ++ b) o q e := by
  intro g hg p b
  simp only [gaps, List.mem_cons, List.mem_nil_iff, or_false] at hg
  rcases hg with rfl | rfl | rfl | rfl
  · exact ⟨_, fun o q e h => .blank rfl h⟩
  · exact ⟨_, fun o q e h => .blank rfl (.blank rfl h)⟩
  · exact ⟨_, fun o q e h => .rem rfl (.blank rfl h)⟩
  · exact ⟨_, fun o q e h => .blank rfl (.blank rfl h)⟩
theorem gap_SC : ∀ g ∈ gaps, SC g ∧ g.length ≤ 4 := by
  intro g hg
  simp only [gaps, List.mem_cons, List.mem_nil_iff, or_false] at hg
  rcases hg with rfl | rfl | rfl | rfl <;> exact ⟨fun c hc => by simp at hc; unfold Sc; omega, by simp⟩
/-! ### the run -/
theorem g0' (x : Tok) : (tokC x)[0]? = some (.int .i64 x.1) := rfl
theorem g1' (x : Tok) : (List.drop 1 (tokC x))[0]? = some (.str (bsN x.2.1)) := rfl
theorem lBlanks_loop {R : Type} (m : Int) (k : V → Bx → Option R) (F : Nat) (o o' : List Tok) (he : kt o' = kt o) (hb : o.length < 1000000) : ∀ (n i : Nat), i ≤ o.length → o.length - i < n →
    lBlanks_L0 m (lBlanks_K0 m k F) F n (o'.map tokC) (o.length : Int) (o.map tokC) (i : Int) = k (vb true) [] := by
  intro n
  induction n with
  | zero => intro i h h1; omega
  | succ n ih =>
    intro i h h1
    rw [lBlanks_r0]
    by_cases hi : i < o.length
    · have hlo : o'.length = o.length := by have := congrArg List.length he; simpa using this
      have hi' : i < o'.length := by omega
      have d1 : decide ((i : Int) < (o.length : Int)) = true := by simp; omega
      have d2 : decide ((0 : Int) ≤ (i : Int)) = true := by simp
      have hg : (o.map tokC)[i]? = some (tokC o[i]) := by simp [hi]
      have hg' : (o'.map tokC)[i]? = some (tokC o'[i]) := by simp [hi']
      have hx : (o'[i].1, o'[i].2.1) = (o[i].1, o[i].2.1) := by
        have h3 := congrArg (fun l => l[i]?) he
        simpa [kt, hi, hi'] using h3
      have ek : o'[i].1 = o[i].1 := (Prod.mk.inj hx).1
      have et : o'[i].2.1 = o[i].2.1 := (Prod.mk.inj hx).2
      have s0 : ∀ x : Tok, shOk [Sh.int IntKind.i64] [C.int .i64 x.1] = true := fun _ => rfl
      have s1 : ∀ x : Tok, shOk [Sh.str] [C.str (bsN x.2.1)] = true := fun _ => rfl
      have e1 : List.take 4 (tokC o[i]) = tokC o[i] := rfl
      have e3 : ((tokC o[i]).length == 4) = true := rfl
      have e4 : shOk [Sh.int IntKind.i64, Sh.str, Sh.int IntKind.i64, Sh.int IntKind.i64] (tokC o[i]) = true := rfl
      rw [d1, cond_true, d2, cond_true, getT_at rfl hg, getT_at rfl hg, e1, e3, cond_true, e4, cond_true, cond_true, getT_at rfl hg', getT_some (g0' _), s0, cond_true]
      have e5 : ((([C.int .i64 o'[i].1].getD 0 C.nf).toInt) != (((tokC o[i]).getD 0 C.nf).toInt)) = false := by
        show (o'[i].1 != o[i].1) = false
        rw [ek]; simp
      rw [e5, cond_false, cond_true, getT_at rfl hg', getT_some (g1' _), s1, cond_true]
      have e2 : (([C.str (bsN o'[i].2.1)].getD 0 C.nf).toStr.toList == ((tokC o[i]).getD 1 C.nf).toStr.toList) = true := by
        show ((bsN o'[i].2.1).toList == (bsN o[i].2.1).toList) = true
        rw [et]; simp
      rw [e2, Bool.not_true, cond_false, w64 _ (by omega) (by omega)]
      exact ih (i + 1) (by omega) (by omega)
    · have : i = o.length := by omega
      subst this
      have d1 : decide ((o.length : Int) < (o.length : Int)) = false := by simp
      rw [d1, cond_false, lBlanks_c2]
theorem nl_bsN : ByteArray.mk #[10] = bsN [10] := rfl
theorem lBlanks_run (m : Int) (s t : ByteArray) (gap : Int) (h0 : 0 ≤ gap) (F : Nat) (hF : 5000 ≤ F) : runFn (lBlanks_cf m) F Tryd.f4 (bd Tryd.f4) [vs s, vs t, vc (C.int IntKind.u8 gap)] [] fin2 = some (vb true, []) := by
  rw [lBlanks_start]
  cases hs : decide ((s.size : Int) > 1000) with
  | true => rfl
  | false =>
  cases ht : decide ((t.size : Int) > 1000) with
  | true => rfl
  | false =>
    simp only [decide_eq_false_iff_not] at hs ht
    obtain ⟨g, hg⟩ : ∃ n : Nat, gap = n := ⟨gap.toNat, by omega⟩
    subst hg
    have hm : Int.tmod (g : Int) 4 = ((g % 4 : Nat) : Int) := by
      rw [show (4 : Int) = ((4 : Nat) : Int) from rfl, ← Int.ofNat_tmod]
    have d0 : decide ((0 : Int) ≤ Int.tmod (g : Int) 4 ∧ Int.tmod (g : Int) 4 < 4) = true := by rw [hm]; simp only [decide_eq_true_eq]; omega
    rw [cond_false, cond_false, d0, cond_true, hm, Int.toNat_natCast, Nat.mul_one]
    have key : ∃ ga ∈ gaps, (List.drop (g % 4) [C.str (ByteArray.mk #[(10 : UInt8)]), C.str (ByteArray.mk #[(32 : UInt8), (227 : UInt8), (128 : UInt8), (128 : UInt8)]), C.str (ByteArray.mk #[(47 : UInt8), (47 : UInt8), (120 : UInt8), (10 : UInt8)]), C.str (ByteArray.mk #[(9 : UInt8), (13 : UInt8)])])[0]? = some (C.str (bsN ga)) := by
      have : g % 4 = 0 ∨ g % 4 = 1 ∨ g % 4 = 2 ∨ g % 4 = 3 := by omega
      rcases this with h | h | h | h <;> rw [h]
      · exact ⟨[10], by simp [gaps], rfl⟩
      · exact ⟨[32, 12288], by simp [gaps], rfl⟩
      · exact ⟨[47, 47, 120, 10], by simp [gaps], rfl⟩
      · exact ⟨[9, 13], by simp [gaps], rfl⟩
    obtain ⟨ga, hga, hz⟩ := key
    obtain ⟨gs1, gs2⟩ := gap_SC ga hga
    rw [getT_some hz]
    have e1 : shOk [Sh.str] [C.str (bsN ga)] = true := rfl
    have e2 : ([C.str (bsN ga)].getD 0 C.nf).toStr = bsN ga := rfl
    rw [e1, cond_true, e2, nl_bsN]
    have z1 : (bsN [10]).size = 1 := rfl
    have zg : (bsN ga).size ≤ 16 := by
      rw [bsN_size]
      have : ∀ l : List Nat, (encs l).length ≤ 4 * l.length := by
        intro l; induction l with
        | nil => simp [encs_nil]
        | cons c r ih => rw [encs_cons]; have := (encN_len c).2; simp only [List.length_append, List.length_cons]; omega
      have := this ga; omega
    have a1 : (s ++ bsN [10]).size = s.size + 1 := by rw [ByteArray.size_append, z1]
    have a2 : (s ++ bsN [10] ++ bsN ga).size = s.size + 1 + (bsN ga).size := by rw [ByteArray.size_append, a1]
    have a3 : (s ++ bsN [10] ++ bsN ga ++ t).size = s.size + 1 + (bsN ga).size + t.size := by rw [ByteArray.size_append, a2]
    have d1 : decide (((s.size + (bsN [10]).size : Nat) : Int) > 9223372036854775807) = false := by simp only [decide_eq_false_iff_not]; omega
    have d2 : decide ((s ++ bsN [10]).size < 1000000) = true := by simp only [decide_eq_true_eq]; omega
    have d3 : decide (t.size < 1000000) = true := by simp only [decide_eq_true_eq]; omega
    have d4 : decide ((((s ++ bsN [10]).size + (bsN ga).size : Nat) : Int) > 9223372036854775807) = false := by simp only [decide_eq_false_iff_not]; omega
    have d5 : decide ((((s ++ bsN [10] ++ bsN ga).size + t.size : Nat) : Int) > 9223372036854775807) = false := by simp only [decide_eq_false_iff_not]; omega
    have d6 : decide ((s ++ bsN [10] ++ bsN ga ++ t).size < 1000000) = true := by simp only [decide_eq_true_eq]; omega
    rw [d1, cond_false, d2, cond_true, d3, cond_true, cond_false, d4, cond_false, d5, cond_false, d6, cond_true]
    cases hea : (lexP (s ++ bsN [10])).2.2.2 != 0 with
    | true => rfl
    | false =>
    cases heb : (lexP t).2.2.2 != 0 with
    | true => rfl
    | false =>
      rw [cond_false, cond_false]
      obtain ⟨na, oa, qa, sa, ea, la, xa, ra⟩ := lexP_ok (by omega) (show (lexP (s ++ bsN [10])).2.2.2 = 0 by simpa using hea)
      obtain ⟨nb, ob, qb, sb, eb, lb, xb, rb⟩ := lexP_ok (by omega) (show (lexP t).2.2.2 = 0 by simpa using heb)
      have hla : na.length ≤ 1001 := by have h1 := encs_len na; have h2 := bsN_size na; rw [← ea] at h2; omega
      have hlb : nb.length ≤ 1000 := by have h1 := encs_len nb; have h2 := bsN_size nb; rw [← eb] at h2; omega
      have hend : ends10 na := by
        have h1 : encs na = s.data.toList ++ [10] := by
          rw [← bsN_data, ← ea, ByteArray.data_append]; simp [bsN, encs, encN]
        exact .inr (encs_last sa h1)
      obtain ⟨p', hp'⟩ := gap_lx ga hga qa nb
      obtain ⟨ob', qb', xb', hkb⟩ := lx_shift xb p'
      have hx := lx_join xa rfl hend (hp' _ _ _ xb')
      have hsc : SC (na ++ (ga ++ nb)) := sa.app (gs1.app sb)
      have hr := lexP_encs hsc (by simp only [List.length_append]; omega) hx
      have hc : s ++ bsN [10] ++ bsN ga ++ t = bsN (na ++ (ga ++ nb)) := by
        rw [ea, eb, bsN_app, bsN_app, List.append_assoc]
      have hr2 : lexP (s ++ bsN [10] ++ bsN ga ++ t) = ((oa ++ ob').map tokC, qb'.1, qb'.2, 0) := by rw [hc]; exact hr
      have hke : kt (oa ++ ob') = kt (oa ++ ob) := by simp only [kt, List.map_append] at hkb ⊢; rw [hkb]
      have hlo : ob'.length = ob.length := by have := congrArg List.length hkb; simpa using this
      have toa := txt_len xa
      have tob := txt_len xb
      rw [hr2, ra, rb]
      simp only [List.length_map]
      have f1 : ((0 : Int) != 0) = false := rfl
      have w1 : IntKind.i64.wrap ((oa.length : Int) + (ob.length : Int)) = (oa.length : Int) + (ob.length : Int) := w64 _ (by omega) (by omega)
      have f2 : ((((oa ++ ob').length : Nat) : Int) != IntKind.i64.wrap ((oa.length : Int) + (ob.length : Int))) = false := by
        rw [w1]; simp [hlo]
      have f3 : decide ((0 + oa.length) * 40 ≤ 140737488355328 ∧ 0 + oa.length ≤ 9223372036854775807) = true := by simp only [decide_eq_true_eq]; omega
      have f4 : decide ((oa.length + ob.length) * 40 ≤ 140737488355328 ∧ oa.length + ob.length ≤ 9223372036854775807) = true := by simp only [decide_eq_true_eq]; omega
      rw [f1, cond_false, f2, cond_false, f3, cond_true, f4, cond_true, ← List.map_append]
      have := lBlanks_loop m fin2 F (oa ++ ob) (oa ++ ob') hke (by simp only [List.length_append]; omega) F 0 (by omega) (by simp only [List.length_append]; omega)
      simp only [List.length_map]
      exact this
theorem blanks_res (m : Int) (xs : List V) (h : argVs Tryd.prog [9, 9, 5] xs) : ∃ b, FnRes Tryd.prog (globT m) 4 xs [] (vb true) b := by
  obtain ⟨x, y, z, rfl, h1, h2, h3⟩ := argVs3 h
  obtain ⟨s, rfl, _⟩ := str_arg h1
  obtain ⟨t, rfl, _⟩ := str_arg h2
  obtain ⟨g, rfl, hg, _⟩ := u8_arg h3
  exact ⟨[], specAtG mix vti_ok Tryd.func4 rfl (by kernel_rfl) (tabD_ok m) 5000 (lBlanks_run m s t g hg 5000 (Nat.le_refl _))⟩
end Go.Proofs.YtniiimpcakmkbaaDoor
