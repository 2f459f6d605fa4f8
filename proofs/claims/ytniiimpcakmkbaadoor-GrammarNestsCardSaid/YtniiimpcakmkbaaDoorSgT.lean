/- YtniiimpcakmkbaaDoorSgT -/
import Derived.Test.YtniiimpcakmkbaaDoorSgD
import Derived.Test.YtniiimpcakmkbaaDoorSgPb
import Derived.Test.YtniiimpcakmkbaaDoorSgZ
set_option linter.unusedVariables false
namespace Go.Proofs.YtniiimpcakmkbaaDoor
open Go Vm
noncomputable def lAgain_cf (m : Int) : Cfg := mkCfG (globT m) vti orcD false [] [(8, 3758096456), (16, 432345564227568136), (999, 4), (1000, 72), (1002, 0)]
noncomputable def lAgain_m0 : List Bool := [false, false, false, true, false, false, true, false, false, false, false, false, false, false, false, false, false, false, false, false, false, false, false, false, false, false, false, false, false, true, true, true, false, false, false, false, false, false, false, false, false, false, false, false, false, false, false, false, false, false, false, false, false, false, false, false, false, false, false, false, false, false, false, false, false, false, false, false, false, false, false, false, false, false, false, false, false, false, false, false, false, false, false, false, false, false]
noncomputable def lAgain_b0 : Code := (cA (cA (cB (cA (cB (cB (cB (cB (cB (bd Tryd.f5))))))))))
noncomputable def lAgain_S0 (s : ByteArray) (v1 : ByteArray) (v2 : Int) : St := { env := [vu, vu, vu, (vc (.sl 4 ((lexP s).fst))), vu, vu, (vs v1), vu, vu, vu, vu, vu, vu, vu, vu, vu, vu, vu, vu, vu, vu, vu, vu, vu, vu, vu, vu, vu, vu, (vc (.sl 4 ((lexP s).fst))), (vi ((↑(lexP s).fst.length : Int))), (vi v2), vu, vu, vu, vu, vu, vu, vu, vu, vu, vu, vu, vu, vu, vu, vu, vu, vu, vu, vu, vu, vu, vu, vu, vu, vu, vu, vu, vu, vu, vu, vu, vu, vu, vu, vu, vu, vu, vu, vu, vu, vu, vu, vu, vu, vu, vu, vu, vu, vu, vu, vu, vu, vu, vu], bx := [], np := 0 }
noncomputable def lAgain_L0 {R : Type} (m : Int) (K : X → St → Option R) (F n : Nat) (s : ByteArray) (v1 : ByteArray) (v2 : Int) : Option R := loopV (headM lAgain_m0) (exec (lAgain_cf m) F lAgain_b0) (exitK (lAgain_cf m) K) n (lAgain_S0 s v1 v2)
noncomputable def lAgain_K0 {R : Type} (m : Int) (k : V → Bx → Option R) (F : Nat) : X → St → Option R := (blockK 0 (seqK (lAgain_cf m) F (cB (cB (cB (cB (cB (cB (bd Tryd.f5))))))) (finK (lAgain_cf m) Tryd.f5 k)))
noncomputable def lAgain_E1 (s : ByteArray) (v1 : ByteArray) : St := { env := [vu, vu, vu, (vc (.sl 4 ((lexP s).fst))), vu, vu, (vs v1), vu, vu, vu, vu, vu, vu, vu, vu, vu, vu, vu, vu, vu, vu, vu, vu, vu, vu, vu, vu, vu, vu, vu, vu, vu, vu, vu, vu, vu, vu, vu, vu, vu, vu, vu, vu, vu, vu, vu, vu, vu, vu, vu, vu, vu, vu, vu, vu, vu, vu, vu, vu, vu, vu, vu, vu, vu, vu, vu, vu, vu, vu, vu, vu, vu, vu, vu, vu, vu, vu, vu, vu, vu, vu, vu, vu, vu, vu, vu], bx := [], np := 0 }
noncomputable def lAgain_m1 : List Bool := [false, false, false, true, false, false, false, false, false, true, false, false, false, false, false, false, false, false, false, false, false, false, false, false, false, false, false, false, false, false, false, false, false, false, false, false, false, false, false, false, false, false, false, false, false, false, false, false, false, false, false, false, false, false, false, false, false, true, true, false, false, false, false, false, false, false, false, false, false, false, false, false, false, false, false, false, false, false, false, false, false, false, false, false, false, false]
noncomputable def lAgain_b1 : Code := (cA (cA (cB (cA (cB (cB (cB (cB (cB (cB (cB (cB (bd Tryd.f5)))))))))))))
noncomputable def lAgain_S1 (s : ByteArray) (v1 : ByteArray) (v3 : Int) : St := { env := [vu, vu, vu, (vc (.sl 4 ((lexP s).fst))), vu, vu, vu, vu, vu, (vc (.sl 4 ((lexP v1).fst))), vu, vu, vu, vu, vu, vu, vu, vu, vu, vu, vu, vu, vu, vu, vu, vu, vu, vu, vu, vu, vu, vu, vu, vu, vu, vu, vu, vu, vu, vu, vu, vu, vu, vu, vu, vu, vu, vu, vu, vu, vu, vu, vu, vu, vu, vu, vu, (vi ((↑(lexP s).fst.length : Int))), (vi v3), vu, vu, vu, vu, vu, vu, vu, vu, vu, vu, vu, vu, vu, vu, vu, vu, vu, vu, vu, vu, vu, vu, vu, vu, vu, vu, vu], bx := [], np := 0 }
noncomputable def lAgain_L1 {R : Type} (m : Int) (K : X → St → Option R) (F n : Nat) (s : ByteArray) (v1 : ByteArray) (v3 : Int) : Option R := loopV (headM lAgain_m1) (exec (lAgain_cf m) F lAgain_b1) (exitK (lAgain_cf m) K) n (lAgain_S1 s v1 v3)
noncomputable def lAgain_K1 {R : Type} (m : Int) (k : V → Bx → Option R) (F : Nat) : X → St → Option R := (blockK 2 (seqK (lAgain_cf m) F (cB (cB (cB (cB (cB (cB (cB (cB (cB (bd Tryd.f5)))))))))) (finK (lAgain_cf m) Tryd.f5 k)))
noncomputable def lAgain_E2 : St := { env := [vu, vu, (vb false), vu, vu, vu, vu, vu, vu, vu, vu, vu, vu, vu, vu, vu, vu, vu, vu, vu, vu, vu, vu, vu, vu, vu, vu, vu, vu, vu, vu, vu, vu, vu, vu, vu, vu, vu, vu, vu, vu, vu, vu, vu, vu, vu, vu, vu, vu, vu, vu, vu, vu, vu, vu, vu, vu, vu, vu, vu, vu, vu, vu, vu, vu, vu, vu, vu, vu, vu, vu, vu, vu, vu, vu, vu, vu, vu, vu, vu, vu, vu, vu, vu, vu, vu], bx := [], np := 0 }
theorem lAgain_c2 {R : Type} (m : Int) (k : V → Bx → Option R) (F : Nat) : lAgain_K1 m k F .rt (lAgain_E2) =
    k (vb false) [] := by kernel_rfl
noncomputable def lAgain_E3 : St := { env := (List.replicate 86 vu), bx := [], np := 0 }
theorem lAgain_c3 {R : Type} (m : Int) (k : V → Bx → Option R) (F : Nat) : lAgain_K1 m k F (.ex 2) (lAgain_E3) =
    k (vb true) [] := by kernel_rfl
theorem lAgain_r1 {R : Type} (m : Int) (K : X → St → Option R) (F n : Nat) (s : ByteArray) (v1 : ByteArray) (v3 : Int) : lAgain_L1 m K F (n + 1) s v1 v3 =
    (bif decide (v3 < (↑(lexP s).fst.length : Int)) then
      (bif decide ((0 : Int) ≤ v3) then
        (getT ((lexP s).fst) v3.toNat fun z2 =>
          (getT z2 0 fun z3 =>
            (bif shOk [Sh.int IntKind.i64] [z3] then
              (bif decide ((0 : Int) ≤ v3) then
                (getT ((lexP v1).fst) v3.toNat fun z4 =>
                  (getT z4 0 fun z5 =>
                    (bif shOk [Sh.int IntKind.i64] [z5] then
                      (bif ([z3].getD (0 : Nat) C.nf).toInt != ([z5].getD (0 : Nat) C.nf).toInt then
                        K .rt (lAgain_E2)
                      else (bif decide ((0 : Int) ≤ v3) then
                          (getT ((lexP s).fst) v3.toNat fun z6 =>
                            (getT (List.drop (1 : Nat) z6) 0 fun z7 =>
                              (bif shOk [Sh.str] [z7] then
                                (bif decide ((0 : Int) ≤ v3) then
                                  (getT ((lexP v1).fst) v3.toNat fun z8 =>
                                    (getT (List.drop (1 : Nat) z8) 0 fun z9 =>
                                      (bif shOk [Sh.str] [z9] then
                                        (bif !([z7].getD (0 : Nat) C.nf).toStr.toList == ([z9].getD (0 : Nat) C.nf).toStr.toList then
                                          K .rt (lAgain_E2)
                                        else lAgain_L1 m K F n s v1 (IntKind.i64.wrap (v3 + (1 : Int))))
                                      else none)))
                                else none)
                              else none)))
                        else none))
                    else none)))
              else none)
            else none)))
      else none)
    else K (.ex 2) (lAgain_E3)) := by kernel_rfl
theorem lAgain_c1 {R : Type} (m : Int) (k : V → Bx → Option R) (F : Nat) (s : ByteArray) (v1 : ByteArray) : lAgain_K0 m k F (.ex 0) (lAgain_E1 s v1) =
    (bif decide (v1.size < (1000000 : Nat)) then
      (bif (lexP v1).snd.snd.snd != (0 : Int) then
        k (vb false) []
      else (bif (↑(lexP v1).fst.length : Int) != (↑(lexP s).fst.length : Int) then
          k (vb false) []
        else lAgain_L1 m (lAgain_K1 m k F) F F s v1 0))
    else none) := by kernel_rfl
theorem lAgain_r0 {R : Type} (m : Int) (K : X → St → Option R) (F n : Nat) (s : ByteArray) (v1 : ByteArray) (v2 : Int) : lAgain_L0 m K F (n + 1) s v1 v2 =
    (bif decide (v2 < (↑(lexP s).fst.length : Int)) then
      (bif decide ((0 : Int) ≤ v2) then
        (getT ((lexP s).fst) v2.toNat fun z1 =>
          (bif (List.take (4 : Nat) z1).length == (4 : Nat) then
            (bif shOk [Sh.int IntKind.i64, Sh.str, Sh.int IntKind.i64, Sh.int IntKind.i64] (List.take (4 : Nat) z1) then
              (bif decide ((↑(((List.take (4 : Nat) z1).getD (1 : Nat) C.nf).toStr.size + (ByteArray.mk #[(32 : UInt8)]).size) : Int) > (9223372036854775807 : Int)) then
                none
              else (bif decide ((↑(v1.size + (((List.take (4 : Nat) z1).getD (1 : Nat) C.nf).toStr ++ (ByteArray.mk #[(32 : UInt8)])).size) : Int) > (9223372036854775807 : Int)) then
                  none
                else lAgain_L0 m K F n s (v1 ++ (((List.take (4 : Nat) z1).getD (1 : Nat) C.nf).toStr ++ (ByteArray.mk #[(32 : UInt8)]))) (IntKind.i64.wrap (v2 + (1 : Int)))))
            else none)
          else none))
      else none)
    else K (.ex 0) (lAgain_E1 s v1)) := by kernel_rfl
theorem lAgain_start {R : Type} (m : Int) (k : V → Bx → Option R) (F : Nat) (s : ByteArray) : runFn (lAgain_cf m) F Tryd.f5 (bd Tryd.f5) [vs s] [] k =
    (bif decide ((↑s.size : Int) > (1000 : Int)) then
      k (vb true) []
    else (bif decide (s.size < (1000000 : Nat)) then
        (bif (lexP s).snd.snd.snd != (0 : Int) then
          k (vb true) []
        else lAgain_L0 m (lAgain_K0 m k F) F F s ((ByteArray.mk #[])) 0)
      else none)) := by kernel_rfl
noncomputable def lBlanks_cf (m : Int) : Cfg := mkCfG (globT m) vti orcD false [] [(12, 33849922949209616891789312), (999, 64), (1000, 0)]
noncomputable def lBlanks_m0 : List Bool := [false, false, false, false, false, false, false, false, false, false, false, false, false, false, true, false, false, false, false, false, false, false, false, false, false, false, false, false, false, false, false, false, false, false, false, false, false, false, false, false, false, false, false, false, false, false, false, false, false, false, false, false, false, false, false, false, false, false, false, false, false, false, false, false, false, false, false, false, false, false, false, false, false, false, false, false, false, false, false, false, false, false, true, true, true, false, false, false, false, false, false, false, false, false, false, false, false, false, false, false, false, false, false, false, false, false, false, false]
noncomputable def lBlanks_b0 : Code := (cA (cA (cB (cA (cB (cB (cB (cB (cB (cB (cB (cB (bd Tryd.f4)))))))))))))
noncomputable def lBlanks_S0 (v1 : List (List C)) (v2 : Int) (v3 : List (List C)) (v4 : Int) : St := { env := [vu, vu, vu, vu, vu, vu, vu, vu, vu, vu, vu, vu, vu, vu, (vc (.sl 4 v1)), vu, vu, vu, vu, vu, vu, vu, vu, vu, vu, vu, vu, vu, vu, vu, vu, vu, vu, vu, vu, vu, vu, vu, vu, vu, vu, vu, vu, vu, vu, vu, vu, vu, vu, vu, vu, vu, vu, vu, vu, vu, vu, vu, vu, vu, vu, vu, vu, vu, vu, vu, vu, vu, vu, vu, vu, vu, vu, vu, vu, vu, vu, vu, vu, vu, vu, vu, (.t (.w (.arr 0))), (vi v2), (vi v4), vu, vu, vu, vu, vu, vu, vu, vu, vu, vu, vu, vu, vu, vu, vu, vu, vu, vu, vu, vu, vu, vu, vu], bx := [(some (.arr true (some 33) 4 v3))], np := 0 }
noncomputable def lBlanks_L0 {R : Type} (m : Int) (K : X → St → Option R) (F n : Nat) (v1 : List (List C)) (v2 : Int) (v3 : List (List C)) (v4 : Int) : Option R := loopV (headM lBlanks_m0) (exec (lBlanks_cf m) F lBlanks_b0) (exitK (lBlanks_cf m) K) n (lBlanks_S0 v1 v2 v3 v4)
noncomputable def lBlanks_K0 {R : Type} (m : Int) (k : V → Bx → Option R) (F : Nat) : X → St → Option R := (blockK 0 (seqK (lBlanks_cf m) F (cB (cB (cB (cB (cB (cB (cB (cB (cB (bd Tryd.f4)))))))))) (finK (lBlanks_cf m) Tryd.f4 k)))
noncomputable def lBlanks_E1 : St := { env := [vu, vu, vu, vu, vu, vu, (vb false), vu, vu, vu, vu, vu, vu, vu, vu, vu, vu, vu, vu, vu, vu, vu, vu, vu, vu, vu, vu, vu, vu, vu, vu, vu, vu, vu, vu, vu, vu, vu, vu, vu, vu, vu, vu, vu, vu, vu, vu, vu, vu, vu, vu, vu, vu, vu, vu, vu, vu, vu, vu, vu, vu, vu, vu, vu, vu, vu, vu, vu, vu, vu, vu, vu, vu, vu, vu, vu, vu, vu, vu, vu, vu, vu, vu, vu, vu, vu, vu, vu, vu, vu, vu, vu, vu, vu, vu, vu, vu, vu, vu, vu, vu, vu, vu, vu, vu, vu, vu, vu], bx := [], np := 0 }
theorem lBlanks_c1 {R : Type} (m : Int) (k : V → Bx → Option R) (F : Nat) : lBlanks_K0 m k F .rt (lBlanks_E1) =
    k (vb false) [] := by kernel_rfl
noncomputable def lBlanks_E2 : St := { env := (List.replicate 108 vu), bx := [], np := 0 }
theorem lBlanks_c2 {R : Type} (m : Int) (k : V → Bx → Option R) (F : Nat) : lBlanks_K0 m k F (.ex 0) (lBlanks_E2) =
    k (vb true) [] := by kernel_rfl
theorem lBlanks_r0 {R : Type} (m : Int) (K : X → St → Option R) (F n : Nat) (v1 : List (List C)) (v2 : Int) (v3 : List (List C)) (v4 : Int) : lBlanks_L0 m K F (n + 1) v1 v2 v3 v4 =
    (bif decide (v4 < v2) then
      (bif decide ((0 : Int) ≤ v4) then
        (getT v3 v4.toNat fun _ =>
          (getT v3 v4.toNat fun z3 =>
            (bif (List.take (4 : Nat) z3).length == (4 : Nat) then
              (bif shOk [Sh.int IntKind.i64, Sh.str, Sh.int IntKind.i64, Sh.int IntKind.i64] (List.take (4 : Nat) z3) then
                (bif decide ((0 : Int) ≤ v4) then
                  (getT v1 v4.toNat fun z4 =>
                    (getT z4 0 fun z5 =>
                      (bif shOk [Sh.int IntKind.i64] [z5] then
                        (bif ([z5].getD (0 : Nat) C.nf).toInt != ((List.take (4 : Nat) z3).getD (0 : Nat) C.nf).toInt then
                          K .rt (lBlanks_E1)
                        else (bif decide ((0 : Int) ≤ v4) then
                            (getT v1 v4.toNat fun z6 =>
                              (getT (List.drop (1 : Nat) z6) 0 fun z7 =>
                                (bif shOk [Sh.str] [z7] then
                                  (bif !([z7].getD (0 : Nat) C.nf).toStr.toList == ((List.take (4 : Nat) z3).getD (1 : Nat) C.nf).toStr.toList then
                                    K .rt (lBlanks_E1)
                                  else lBlanks_L0 m K F n v1 v2 v3 (IntKind.i64.wrap (v4 + (1 : Int))))
                                else none)))
                          else none))
                      else none)))
                else none)
              else none)
            else none)))
      else none)
    else K (.ex 0) (lBlanks_E2)) := by kernel_rfl
theorem lBlanks_start {R : Type} (m : Int) (k : V → Bx → Option R) (F : Nat) (s : ByteArray) (t : ByteArray) (gap : Int) : runFn (lBlanks_cf m) F Tryd.f4 (bd Tryd.f4) [vs s, vs t, vc (C.int IntKind.u8 gap)] [] k =
    (bif decide ((↑s.size : Int) > (1000 : Int)) then
      k (vb true) []
    else (bif decide ((↑t.size : Int) > (1000 : Int)) then
        k (vb true) []
      else (bif decide ((0 : Int) ≤ gap.tmod (4 : Int) ∧ gap.tmod (4 : Int) < (4 : Int)) then
          (getT (List.drop ((gap.tmod (4 : Int)).toNat * (1 : Nat)) [C.str (ByteArray.mk #[(10 : UInt8)]), C.str (ByteArray.mk #[(32 : UInt8), (227 : UInt8), (128 : UInt8), (128 : UInt8)]), C.str (ByteArray.mk #[(47 : UInt8), (47 : UInt8), (120 : UInt8), (10 : UInt8)]), C.str (ByteArray.mk #[(9 : UInt8), (13 : UInt8)])]) 0 fun z1 =>
            (bif shOk [Sh.str] [z1] then
              (bif decide ((↑(s.size + (ByteArray.mk #[(10 : UInt8)]).size) : Int) > (9223372036854775807 : Int)) then
                none
              else (bif decide ((s ++ (ByteArray.mk #[(10 : UInt8)])).size < (1000000 : Nat)) then
                  (bif decide (t.size < (1000000 : Nat)) then
                    (bif decide ((↑(s.size + (ByteArray.mk #[(10 : UInt8)]).size) : Int) > (9223372036854775807 : Int)) then
                      none
                    else (bif decide ((↑((s ++ (ByteArray.mk #[(10 : UInt8)])).size + ([z1].getD (0 : Nat) C.nf).toStr.size) : Int) > (9223372036854775807 : Int)) then
                        none
                      else (bif decide ((↑((s ++ (ByteArray.mk #[(10 : UInt8)]) ++ ([z1].getD (0 : Nat) C.nf).toStr).size + t.size) : Int) > (9223372036854775807 : Int)) then
                          none
                        else (bif decide ((s ++ (ByteArray.mk #[(10 : UInt8)]) ++ ([z1].getD (0 : Nat) C.nf).toStr ++ t).size < (1000000 : Nat)) then
                            (bif (lexP (s ++ (ByteArray.mk #[(10 : UInt8)]))).snd.snd.snd != (0 : Int) then
                              k (vb true) []
                            else (bif (lexP t).snd.snd.snd != (0 : Int) then
                                k (vb true) []
                              else (bif (lexP (s ++ (ByteArray.mk #[(10 : UInt8)]) ++ ([z1].getD (0 : Nat) C.nf).toStr ++ t)).snd.snd.snd != (0 : Int) then
                                  k (vb false) []
                                else (bif (↑(lexP (s ++ (ByteArray.mk #[(10 : UInt8)]) ++ ([z1].getD (0 : Nat) C.nf).toStr ++ t)).fst.length : Int) != IntKind.i64.wrap ((↑(lexP (s ++ (ByteArray.mk #[(10 : UInt8)]))).fst.length : Int) + (↑(lexP t).fst.length : Int)) then
                                    k (vb false) []
                                  else (bif decide (((0 : Nat) + (lexP (s ++ (ByteArray.mk #[(10 : UInt8)]))).fst.length) * (40 : Nat) ≤ (140737488355328 : Nat) ∧ (0 : Nat) + (lexP (s ++ (ByteArray.mk #[(10 : UInt8)]))).fst.length ≤ (9223372036854775807 : Nat)) then
                                      (bif decide (((lexP (s ++ (ByteArray.mk #[(10 : UInt8)]))).fst.length + (lexP t).fst.length) * (40 : Nat) ≤ (140737488355328 : Nat) ∧ (lexP (s ++ (ByteArray.mk #[(10 : UInt8)]))).fst.length + (lexP t).fst.length ≤ (9223372036854775807 : Nat)) then
                                        lBlanks_L0 m (lBlanks_K0 m k F) F F ((lexP (s ++ (ByteArray.mk #[(10 : UInt8)]) ++ ([z1].getD (0 : Nat) C.nf).toStr ++ t)).fst) ((↑((lexP (s ++ (ByteArray.mk #[(10 : UInt8)]))).fst ++ (lexP t).fst).length : Int)) ((lexP (s ++ (ByteArray.mk #[(10 : UInt8)]))).fst ++ (lexP t).fst) 0
                                      else none)
                                    else none)))))
                          else none))))
                  else none)
                else none))
            else none))
        else none))) := by kernel_rfl
end Go.Proofs.YtniiimpcakmkbaaDoor

/- sigil: the tokens' texts with blanks have the same tokens -/
set_option linter.unusedVariables false
namespace Go.Proofs.YtniiimpcakmkbaaDoor
open Go Vm Go.Lib
/-! ### plain -/
theorem wordN_app {w r : List Nat} {d : Nat} (hw : wordN (w ++ r) = w) (hn : w ≠ []) (hd : partN d = false) (q : List Nat) : wordN (w ++ d :: q) = w := by
  cases w with
  | nil => exact absurd rfl hn
  | cons c w =>
    rw [List.cons_append, wordN_cons] at hw ⊢
    split at hw
    · rename_i hc
      rw [if_pos hc]
      have h1 : (w ++ r).takeWhile partN = w := by simpa using hw
      have h2 : ∀ x ∈ w, partN x = true := fun x hx => by rw [← h1] at hx; exact mem_takeW hx
      rw [List.takeWhile_append_of_pos h2, List.takeWhile_cons, hd]
      simp
    · cases hw
theorem wordN_none {c : Nat} {r r' : List Nat} (h : wordN (c :: r) = []) : wordN (c :: r') = [] := by
  rw [wordN_cons] at h ⊢
  split at h
  · cases h
  · rename_i hc; rw [if_neg hc]
theorem low_of_word {c : Nat} {r : List Nat} (h : wordN (c :: r) ≠ []) : lowN c = true := by
  rw [wordN_cons] at h
  cases hl : lowN c with
  | true => rfl
  | false => rw [hl] at h; simp at h
/-- a token stands as well before a blank that ends its text -/
theorem tokN_again {ns : List Nat} {k : Int} {t : List Nat} (h : tokN ns = some (k, t)) (q : List Nat) : tokN (t ++ 32 :: q) = some (k, t) := by
  obtain ⟨htn, r, hr⟩ := tokN_split h
  unfold tokN at h ⊢
  by_cases hw : wordN ns ≠ []
  · rw [if_pos hw] at h
    split at h
    · rename_i hl
      have ht : t = wordN ns := by cases h; rfl
      have hk : k = kindN (wordN ns) := by cases h; rfl
      have h1 : wordN (t ++ 32 :: q) = t := wordN_app (r := r) (by rw [← hr]; exact ht.symm) htn rfl q
      rw [h1, if_pos htn, ht, if_pos hl, hk]
    · cases h
  · rw [if_neg hw] at h
    have hw' : wordN ns = [] := by simpa using hw
    split at h
    · cases h; rfl
    · rename_i h2
      cases ns with
      | nil => cases h
      | cons c r0 =>
        simp only at h
        split at h
        · rename_i hc
          cases h
          have hw2 := wordN_none (r' := 32 :: q) hw'
          simp only [List.cons_append, List.nil_append]
          rw [hw2]
          have h3 : isTo (c :: 32 :: q) = false := by
            unfold isTo
            split
            · rename_i heq; cases heq
            · rfl
          rw [h3]
          simp [hc]
        · cases h
theorem tok_head {c : Nat} {r : List Nat} {k : Int} {t : List Nat} (h : tokN (c :: r) = some (k, t)) : ∃ t', t = c :: t' ∧ c ≠ 47 ∧ blankN c = false := by
  obtain ⟨htn, r', hr⟩ := tokN_split h
  cases t with
  | nil => exact absurd rfl htn
  | cons d t' =>
    simp only [List.cons_append, List.cons.injEq] at hr
    obtain ⟨rfl, _⟩ := hr
    refine ⟨t', rfl, ?_⟩
    unfold tokN at h
    by_cases hw : wordN (c :: r) ≠ []
    · have := low_of_word hw
      unfold lowN at this
      simp only [Bool.and_eq_true, decide_eq_true_eq] at this
      refine ⟨by omega, ?_⟩
      unfold blankN
      simp only [Bool.or_eq_false_iff, beq_eq_false_iff_ne]
      omega
    · rw [if_neg hw] at h
      split at h
      · cases h; exact ⟨by decide, by decide⟩
      · simp only at h
        split at h
        · rename_i hc
          have : ∀ x ∈ signsN, x ≠ 47 ∧ blankN x = false := by decide
          exact this c hc
        · cases h
theorem notRem {c : Nat} {r : List Nat} (h : c ≠ 47) : isRem (c :: r) = false := by
  unfold isRem
  split
  · rename_i heq; cases heq; exact absurd rfl h
  · rfl
/-- the texts of all tokens, with blanks -/
def txt (o : List Tok) : List Nat := o.flatMap fun x => x.2.1 ++ [32]
theorem txt_cons (x : Tok) (o : List Tok) : txt (x :: o) = x.2.1 ++ 32 :: txt o := by simp [txt]
theorem lx_again {p ns o q e} (h : Lx p ns o q e) (he : e = 0) : ∀ p', ∃ o' q', Lx p' (txt o) o' q' 0 ∧ o'.map (fun x => (x.1, x.2.1)) = o.map (fun x => (x.1, x.2.1)) := by
  induction h with
  | nil p => intro p'; exact ⟨[], p', .nil p', rfl⟩
  | blank _ _ ih => exact ih he
  | rem _ _ ih => exact ih he
  | @tok p c r o q e k t r' hb hr ht hsp h ih =>
    intro p'
    obtain ⟨t', rfl, h47, hbc⟩ := tok_head ht
    have h1 := tokN_again ht (txt o)
    rw [List.cons_append] at h1
    obtain ⟨o', q', h2, h3⟩ := ih he (advN (advs p' (c :: t')) 32)
    refine ⟨(k, c :: t', p') :: o', q', ?_, by simp [h3]⟩
    rw [txt_cons]
    exact .tok hbc (notRem h47) h1 rfl (.blank rfl h2)
  | bad => cases he
theorem txt_SC {p ns o q e} (h : Lx p ns o q e) (hs : SC ns) : SC (txt o) := by
  induction h with
  | nil p => exact SC.nil
  | blank _ _ ih => exact ih hs.tail
  | @rem p ns o q e _ _ ih =>
    have := takeDrop ne10 ns
    rw [this] at hs
    exact ih hs.right
  | @tok p c r o q e k t r' hb hr ht hsp h ih =>
    have h2 : SC (t ++ r') := hsp ▸ hs
    rw [txt_cons]
    refine h2.left.app ?_
    intro x hx
    rcases List.mem_cons.1 hx with rfl | hx
    · exact .inl (by omega)
    · exact ih h2.right x hx
  | bad => exact SC.nil
theorem txt_len {p ns o q e} (h : Lx p ns o q e) : (txt o).length ≤ ns.length + o.length ∧ o.length ≤ ns.length ∧ (encs (txt o)).length ≤ (encs ns).length + o.length := by
  induction h with
  | nil p => simp [txt, encs]
  | @blank p c r o q e _ _ ih => rw [encs_cons]; simp only [List.length_cons, List.length_append]; omega
  | @rem p ns o q e _ _ ih =>
    have := takeDrop ne10 ns
    have h2 := congrArg List.length this
    have h3 := congrArg (fun x => (encs x).length) this
    simp only [encs_app, List.length_append] at h2 h3
    omega
  | @tok p c r o q e k t r' hb hr ht hsp h ih =>
    rw [txt_cons, hsp, encs_app, encs_app, encs_cons]
    have : (encN 32).length = 1 := rfl
    have : 0 < t.length := List.length_pos_iff.2 (tokN_split ht).1
    simp only [List.length_cons, List.length_append]
    omega
  | bad => simp [txt, encs]
theorem tokC_get (x : Tok) : tokC x = [.int .i64 x.1, .str (bsN x.2.1), .int .i64 x.2.2.1, .int .i64 x.2.2.2] := rfl
theorem bsN_app (a b : List Nat) : bsN a ++ bsN b = bsN (a ++ b) := by
  apply ba_ext
  rw [ByteArray.data_append, bsN_data, encs_app]
  simp [bsN]
theorem sp_bsN : ByteArray.mk #[32] = bsN [32] := rfl
/-! ### the run -/
theorem lAgain_loop0 {R : Type} (m : Int) (K : X → St → Option R) (F : Nat) (s : ByteArray) (o : List Tok) (hl : (lexP s).1 = o.map tokC) (hb : o.length < 1000000) : ∀ (n : Nat) (dn rest : List Tok), o = dn ++ rest → rest.length < n → (encs (txt o)).length < 100000 →
    lAgain_L0 m K F n s (bsN (txt dn)) (dn.length : Int) = K (.ex 0) (lAgain_E1 s (bsN (txt o))) := by
  intro n
  induction n with
  | zero => intro dn rest h h1; omega
  | succ n ih =>
    intro dn rest h h1 h2
    rw [lAgain_r0, hl]
    cases rest with
    | nil =>
      have : o = dn := by simpa using h
      subst this
      have d1 : decide ((o.length : Int) < ((o.map tokC).length : Int)) = false := by simp
      rw [d1, cond_false]
    | cons x rest =>
      have hlen : o.length = dn.length + rest.length + 1 := by rw [h]; simp; omega
      have d1 : decide ((dn.length : Int) < ((o.map tokC).length : Int)) = true := by simp; omega
      have d2 : decide ((0 : Int) ≤ (dn.length : Int)) = true := by simp
      have hg : (o.map tokC)[dn.length]? = some (tokC x) := by rw [h]; simp
      rw [d1, cond_true, d2, cond_true, getT_at rfl hg]
      have e1 : List.take 4 (tokC x) = tokC x := rfl
      have e2 : ((tokC x).getD 1 C.nf).toStr = bsN x.2.1 := rfl
      have e3 : ((tokC x).length == 4) = true := rfl
      have e4 : shOk [Sh.int IntKind.i64, Sh.str, Sh.int IntKind.i64, Sh.int IntKind.i64] (tokC x) = true := rfl
      have hsz : (encs (txt o)).length = (encs (txt dn)).length + ((encs x.2.1).length + 1) + (encs (txt rest)).length := by
        have : txt o = txt dn ++ ((x.2.1 ++ [32]) ++ txt rest) := by rw [h]; simp [txt]
        rw [this, encs_app, encs_app, encs_app]
        have : (encs [32]).length = 1 := rfl
        simp only [List.length_append]; omega
      rw [e1, e3, cond_true, e4, cond_true, e2, sp_bsN, bsN_app, bsN_app]
      have d3 : decide ((((bsN x.2.1).size + (bsN [32]).size : Nat) : Int) > 9223372036854775807) = false := by
        simp only [decide_eq_false_iff_not]; rw [bsN_size, bsN_size]; have : (encs [32]).length = 1 := rfl; omega
      have d4 : decide ((((bsN (txt dn)).size + (bsN (x.2.1 ++ [32])).size : Nat) : Int) > 9223372036854775807) = false := by
        simp only [decide_eq_false_iff_not]; rw [bsN_size, bsN_size, encs_app]; have : (encs [32]).length = 1 := rfl; simp only [List.length_append]; omega
      rw [d3, cond_false, d4, cond_false, w64 _ (by omega) (by omega)]
      have e5 : txt dn ++ (x.2.1 ++ [32]) = txt (dn ++ [x]) := by simp [txt]
      have e6 : (dn.length : Int) + 1 = ((dn ++ [x]).length : Int) := by simp
      rw [e5, e6]
      exact ih (dn ++ [x]) rest (by rw [h]; simp) (by simp at h1; omega) h2
theorem lAgain_loop1 {R : Type} (m : Int) (k : V → Bx → Option R) (F : Nat) (s v : ByteArray) (o o' : List Tok) (hl : (lexP s).1 = o.map tokC) (hl' : (lexP v).1 = o'.map tokC) (hs : ∀ x ∈ o, True) (he : o'.map (fun x => (x.1, x.2.1)) = o.map (fun x => (x.1, x.2.1))) (hb : o.length < 1000000) : ∀ (n i : Nat), i ≤ o.length → o.length - i < n →
    lAgain_L1 m (lAgain_K1 m k F) F n s v (i : Int) = k (vb true) [] := by
  intro n
  induction n with
  | zero => intro i h h1; omega
  | succ n ih =>
    intro i h h1
    rw [lAgain_r1, hl, hl']
    by_cases hi : i < o.length
    · have hlo : o'.length = o.length := by have := congrArg List.length he; simpa using this
      have hi' : i < o'.length := by omega
      have d1 : decide ((i : Int) < ((o.map tokC).length : Int)) = true := by simp; omega
      have d2 : decide ((0 : Int) ≤ (i : Int)) = true := by simp
      have hg : (o.map tokC)[i]? = some (tokC o[i]) := by simp [hi]
      have hg' : (o'.map tokC)[i]? = some (tokC o'[i]) := by simp [hi']
      have hx : (o'[i].1, o'[i].2.1) = (o[i].1, o[i].2.1) := by
        have h3 := congrArg (fun l => l[i]?) he
        simpa [hi, hi'] using h3
      have ek : o'[i].1 = o[i].1 := (Prod.mk.inj hx).1
      have et : o'[i].2.1 = o[i].2.1 := (Prod.mk.inj hx).2
      have g0 : ∀ x : Tok, (tokC x)[0]? = some (.int .i64 x.1) := fun _ => rfl
      have g1 : ∀ x : Tok, (List.drop 1 (tokC x))[0]? = some (.str (bsN x.2.1)) := fun _ => rfl
      have s0 : ∀ x : Tok, shOk [Sh.int IntKind.i64] [C.int .i64 x.1] = true := fun _ => rfl
      have s1 : ∀ x : Tok, shOk [Sh.str] [C.str (bsN x.2.1)] = true := fun _ => rfl
      rw [d1, cond_true, d2, cond_true, getT_at rfl hg, getT_some (g0 _), s0, cond_true, cond_true, getT_at rfl hg', getT_some (g0 _), s0, cond_true]
      have e1 : ((([C.int .i64 o[i].1].getD 0 C.nf).toInt) != (([C.int .i64 o'[i].1].getD 0 C.nf).toInt)) = false := by
        show (o[i].1 != o'[i].1) = false
        rw [ek]; simp
      rw [e1, cond_false, cond_true, getT_at rfl hg, getT_some (g1 _), s1, cond_true, cond_true, getT_at rfl hg', getT_some (g1 _), s1, cond_true]
      have e2 : (([C.str (bsN o[i].2.1)].getD 0 C.nf).toStr.toList == ([C.str (bsN o'[i].2.1)].getD 0 C.nf).toStr.toList) = true := by
        show ((bsN o[i].2.1).toList == (bsN o'[i].2.1).toList) = true
        rw [et]; simp
      rw [e2, Bool.not_true, cond_false, w64 _ (by omega) (by omega)]
      exact ih (i + 1) (by omega) (by omega)
    · have : i = o.length := by omega
      subst this
      have d1 : decide ((o.length : Int) < ((o.map tokC).length : Int)) = false := by simp
      rw [d1, cond_false, lAgain_c3]
theorem lAgain_run (m : Int) (s : ByteArray) (F : Nat) (hF : 5000 ≤ F) : runFn (lAgain_cf m) F Tryd.f5 (bd Tryd.f5) [vs s] [] fin2 = some (vb true, []) := by
  rw [lAgain_start]
  cases h : decide ((s.size : Int) > 1000) with
  | true => rfl
  | false =>
    simp only [decide_eq_false_iff_not] at h
    have d0 : decide (s.size < 1000000) = true := by simp; omega
    rw [cond_false, d0, cond_true]
    cases he : (lexP s).2.2.2 != 0 with
    | true => rfl
    | false =>
      have he' : (lexP s).2.2.2 = 0 := by simpa using he
      obtain ⟨ns, o, q, hs, rfl, hl, hx, hr⟩ := lexP_ok (by omega) he'
      have hl1 : (lexP (bsN ns)).1 = o.map tokC := by rw [hr]
      obtain ⟨t1, t2, t3⟩ := txt_len hx
      have hsz := bsN_size ns
      have hel := encs_len ns
      have hlp := lAgain_loop0 m (lAgain_K0 m fin2 F) F (bsN ns) o hl1 (by omega) F [] o rfl (by omega) (by omega)
      have e0 : bsN (txt []) = ByteArray.mk #[] := rfl
      rw [e0] at hlp
      rw [cond_false]
      refine (show _ = _ from hlp).trans ?_
      rw [lAgain_c1]
      obtain ⟨o', q', hx', hk⟩ := lx_again hx rfl (1, 1)
      have hr' := lexP_encs (txt_SC hx hs) (by omega) hx'
      have hr2 : lexP (bsN (txt o)) = (o'.map tokC, q'.1, q'.2, 0) := hr'
      have hlo : o'.length = o.length := by have := congrArg List.length hk; simpa using this
      have d1 : decide ((bsN (txt o)).size < 1000000) = true := by simp only [decide_eq_true_eq]; rw [bsN_size]; omega
      have d2 : ((lexP (bsN (txt o))).2.2.2 != 0) = false := by rw [hr2]; rfl
      have d3 : (((lexP (bsN (txt o))).1.length : Int) != ((lexP (bsN ns)).1.length : Int)) = false := by rw [hr2, hl1]; simp [hlo]
      rw [d1, cond_true, d2, cond_false, d3, cond_false]
      have hl2 : (lexP (bsN (txt o))).1 = o'.map tokC := by rw [hr2]
      exact lAgain_loop1 m fin2 F _ _ o o' hl1 hl2 (fun _ _ => trivial) hk (by omega) F 0 (by omega) (by omega)
theorem again_spec (m : Int) (s : ByteArray) : FnRes Tryd.prog (globT m) 5 [vs s] [] (vb true) [] :=
  specAtG mix vti_ok Tryd.func5 rfl (by kernel_rfl) (tabD_ok m) 5000 (lAgain_run m s 5000 (Nat.le_refl _))
theorem again_res (m : Int) (xs : List V) (h : argVs Tryd.prog [9] xs) : ∃ b, FnRes Tryd.prog (globT m) 5 xs [] (vb true) b := by
  obtain ⟨x, rfl, h1⟩ := argVs1 h
  obtain ⟨s, rfl, _⟩ := str_arg h1
  exact ⟨[], again_spec m s⟩
end Go.Proofs.YtniiimpcakmkbaaDoor
