/- YtniiimpcakmkbaaDoorSgT -/
import Derived.Test.YtniiimpcakmkbaaDoorSgK
set_option linter.unusedVariables false
namespace Go.Proofs.YtniiimpcakmkbaaDoor
open Go Vm
noncomputable def lAgain_cf (m : Int) : Cfg := mkCfG (globT m) vti orcD false [] [(8, 3758096456), (16, 432345564227568136), (999, 4), (1000, 72), (1002, 0)]
noncomputable def lAgain_m0 : List Bool := [false, false, false, true, false, false, true, false, false, false, false, false, false, false, false, false, false, false, false, false, false, false, false, false, false, false, false, false, false, true, true, true, false, false, false, false, false, false, false, false, false, false, false, false, false, false, false, false, false, false, false, false, false, false, false, false, false, false, false, false, false, false, false, false, false, false, false, false, false, false, false, false, false, false, false, false, false, false, false, false, false, false, false, false, false, false]
noncomputable def lAgain_b0 : Code := (cA (cA (cB (cA (cB (cB (cB (cB (cB (bd Tryd.f5))))))))))
noncomputable def lAgain_S0 (s : ByteArray) (v1 : ByteArray) (v2 : Int) : St := { env := [vu, vu, vu, (vc (.sl 4 ((lexP s).fst))), vu, vu, (vs v1), vu, vu, vu, vu, vu, vu, vu, vu, vu, vu, vu, vu, vu, vu, vu, vu, vu, vu, vu, vu, vu, vu, (vc (.sl 4 ((lexP s).fst))), (vi ((↑(lexP s).fst.length : Int))), (vi v2), vu, vu, vu, vu, vu, vu, vu, vu, vu, vu, vu, vu, vu, vu, vu, vu, vu, vu, vu, vu, vu, vu, vu, vu, vu, vu, vu, vu, vu, vu, vu, vu, vu, vu, vu, vu, vu, vu, vu, vu, vu, vu, vu, vu, vu, vu, vu, vu, vu, vu, vu, vu, vu, vu], bx := [], np := 0 }
noncomputable def lAgain_L0 {R : Type} (m : Int) (K : X → St → Option R) (F n : Nat) (s : ByteArray) (v1 : ByteArray) (v2 : Int) : Option R := loopV (headM lAgain_m0) (exec (lAgain_cf m) F lAgain_b0) (exitK (lAgain_cf m) K) n (lAgain_S0 s v1 v2)
noncomputable def lAgain_K0 {R : Type} (m : Int) (k : V → Bx → Option R) (F : Nat) : X → St → Option R := (blockK 0 (seqK (lAgain_cf m) F (cB (cB (cB (cB (cB (cB (bd Tryd.f5))))))) (finK (lAgain_cf m) Tryd.f5 k)))
noncomputable def lAgain_E1 (s : ByteArray) (v1 : ByteArray) : St := { env := [vu, vu, vu, (vc (.sl 4 ((lexP s).fst))), vu, vu, (vs v1), vu, vu, vu, vu, vu, vu, vu, vu, vu, vu, vu, vu, vu, vu, vu, vu, vu, vu, vu, vu, vu, vu, vu, vu, vu, vu, vu, vu, vu, vu, vu, vu, vu, vu, vu, vu, vu, vu, vu, vu, vu, vu, vu, vu, vu, vu, vu, vu, vu, vu, vu, vu, vu, vu, vu, vu, vu, vu, vu, vu, vu, vu, vu, vu, vu, vu, vu, vu, vu, vu, vu, vu, vu, vu, vu, vu, vu, vu, vu], bx := [], np := 0 }
noncomputable def lAgain_m1 : List Bool := [false, false, false, true, false, false, false, false, false, true, false, false, false, false, false, false, false, false, false, false, false, false, false, false, false, false, false, false, false, false, false, false, false, false, false, false, false, false, false, false, false, false, false, false, false, false, false, false, false, false, false, false, false, false, false, false, false, true, true, false, false, false, false, false, false, false, false, false, false, false, false, false, false, false, false, false, false, false, false, false, false, false, false, false, false, false]
noncomputable def lAgain_b1 : Code := (cA (cA (cB (cA (cB (cB (cB (cB (cB (cB (cB (cB (bd Tryd.f5)))))))))))))
noncomputable def lAgain_S1 (s : ByteArray) (v1 : ByteArray) (v3 : Int) : St := { env := [vu, vu, vu, (vc (.sl 4 ((lexP s).fst))), vu, vu, vu, vu, vu, (vc (.sl 4 ((lexP v1).fst))), vu, vu, vu, vu, vu, vu, vu, vu, vu, vu, vu, vu, vu, vu, vu, vu, vu, vu, vu, vu, vu, vu, vu, vu, vu, vu, vu, vu, vu, vu, vu, vu, vu, vu, vu, vu, vu, vu, vu, vu, vu, vu, vu, vu, vu, vu, vu, (vi ((↑(lexP s).fst.length : Int))), (vi v3), vu, vu, vu, vu, vu, vu, vu, vu, vu, vu, vu, vu, vu, vu, vu, vu, vu, vu, vu, vu, vu, vu, vu, vu, vu, vu, vu], bx := [], np := 0 }
noncomputable def lAgain_L1 {R : Type} (m : Int) (K : X → St → Option R) (F n : Nat) (s : ByteArray) (v1 : ByteArray) (v3 : Int) : Option R := loopV (headM lAgain_m1) (exec (lAgain_cf m) F lAgain_b1) (exitK (lAgain_cf m) K) n (lAgain_S1 s v1 v3)
noncomputable def lAgain_K1 {R : Type} (m : Int) (k : V → Bx → Option R) (F : Nat) : X → St → Option R := (blockK 2 (seqK (lAgain_cf m) F (cB (cB (cB (cB (cB (cB (cB (cB (cB (bd Tryd.f5)))))))))) (finK (lAgain_cf m) Tryd.f5 k)))
noncomputable def lAgain_E2 : St := { env := [vu, vu, (vb false), vu, vu, vu, vu, vu, vu, vu, vu, vu, vu, vu, vu, vu, vu, vu, vu, vu, vu, vu, vu, vu, vu, vu, vu, vu, vu, vu, vu, vu, vu, vu, vu, vu, vu, vu, vu, vu, vu, vu, vu, vu, vu, vu, vu, vu, vu, vu, vu, vu, vu, vu, vu, vu, vu, vu, vu, vu, vu, vu, vu, vu, vu, vu, vu, vu, vu, vu, vu, vu, vu, vu, vu, vu, vu, vu, vu, vu, vu, vu, vu, vu, vu, vu], bx := [], np := 0 }
theorem lAgain_c2 {R : Type} (m : Int) (k : V → Bx → Option R) (F : Nat) : lAgain_K1 m k F .rt (lAgain_E2) =
    k (vb false) [] := by kernel_rfl
noncomputable def lAgain_E3 : St := { env := (List.replicate 86 vu), bx := [], np := 0 }
theorem lAgain_c3 {R : Type} (m : Int) (k : V → Bx → Option R) (F : Nat) : lAgain_K1 m k F (.ex 2) (lAgain_E3) =
    k (vb true) [] := by kernel_rfl
theorem lAgain_r1 {R : Type} (m : Int) (K : X → St → Option R) (F n : Nat) (s : ByteArray) (v1 : ByteArray) (v3 : Int) : lAgain_L1 m K F (n + 1) s v1 v3 =
    (bif decide (v3 < (↑(lexP s).fst.length : Int)) then
      (bif decide ((0 : Int) ≤ v3) then
        (getT ((lexP s).fst) v3.toNat fun z2 =>
          (getT z2 0 fun z3 =>
            (bif shOk [Sh.int IntKind.i64] [z3] then
              (bif decide ((0 : Int) ≤ v3) then
                (getT ((lexP v1).fst) v3.toNat fun z4 =>
                  (getT z4 0 fun z5 =>
                    (bif shOk [Sh.int IntKind.i64] [z5] then
                      (bif ([z3].getD (0 : Nat) C.nf).toInt != ([z5].getD (0 : Nat) C.nf).toInt then
                        K .rt (lAgain_E2)
                      else (bif decide ((0 : Int) ≤ v3) then
                          (getT ((lexP s).fst) v3.toNat fun z6 =>
                            (getT (List.drop (1 : Nat) z6) 0 fun z7 =>
                              (bif shOk [Sh.str] [z7] then
                                (bif decide ((0 : Int) ≤ v3) then
                                  (getT ((lexP v1).fst) v3.toNat fun z8 =>
                                    (getT (List.drop (1 : Nat) z8) 0 fun z9 =>
                                      (bif shOk [Sh.str] [z9] then
                                        (bif !([z7].getD (0 : Nat) C.nf).toStr.toList == ([z9].getD (0 : Nat) C.nf).toStr.toList then
                                          K .rt (lAgain_E2)
                                        else lAgain_L1 m K F n s v1 (IntKind.i64.wrap (v3 + (1 : Int))))
                                      else none)))
                                else none)
                              else none)))
                        else none))
                    else none)))
              else none)
            else none)))
      else none)
    else K (.ex 2) (lAgain_E3)) := by kernel_rfl
theorem lAgain_c1 {R : Type} (m : Int) (k : V → Bx → Option R) (F : Nat) (s : ByteArray) (v1 : ByteArray) : lAgain_K0 m k F (.ex 0) (lAgain_E1 s v1) =
    (bif decide (v1.size < (1000000 : Nat)) then
      (bif (lexP v1).snd.snd.snd != (0 : Int) then
        k (vb false) []
      else (bif (↑(lexP v1).fst.length : Int) != (↑(lexP s).fst.length : Int) then
          k (vb false) []
        else lAgain_L1 m (lAgain_K1 m k F) F F s v1 0))
    else none) := by kernel_rfl
theorem lAgain_r0 {R : Type} (m : Int) (K : X → St → Option R) (F n : Nat) (s : ByteArray) (v1 : ByteArray) (v2 : Int) : lAgain_L0 m K F (n + 1) s v1 v2 =
    (bif decide (v2 < (↑(lexP s).fst.length : Int)) then
      (bif decide ((0 : Int) ≤ v2) then
        (getT ((lexP s).fst) v2.toNat fun z1 =>
          (bif (List.take (4 : Nat) z1).length == (4 : Nat) then
            (bif shOk [Sh.int IntKind.i64, Sh.str, Sh.int IntKind.i64, Sh.int IntKind.i64] (List.take (4 : Nat) z1) then
              (bif decide ((↑(((List.take (4 : Nat) z1).getD (1 : Nat) C.nf).toStr.size + (ByteArray.mk #[(32 : UInt8)]).size) : Int) > (9223372036854775807 : Int)) then
                none
              else (bif decide ((↑(v1.size + (((List.take (4 : Nat) z1).getD (1 : Nat) C.nf).toStr ++ (ByteArray.mk #[(32 : UInt8)])).size) : Int) > (9223372036854775807 : Int)) then
                  none
                else lAgain_L0 m K F n s (v1 ++ (((List.take (4 : Nat) z1).getD (1 : Nat) C.nf).toStr ++ (ByteArray.mk #[(32 : UInt8)]))) (IntKind.i64.wrap (v2 + (1 : Int)))))
            else none)
          else none))
      else none)
    else K (.ex 0) (lAgain_E1 s v1)) := by kernel_rfl
theorem lAgain_start {R : Type} (m : Int) (k : V → Bx → Option R) (F : Nat) (s : ByteArray) : runFn (lAgain_cf m) F Tryd.f5 (bd Tryd.f5) [vs s] [] k =
    (bif decide ((↑s.size : Int) > (1000 : Int)) then
      k (vb true) []
    else (bif decide (s.size < (1000000 : Nat)) then
        (bif (lexP s).snd.snd.snd != (0 : Int) then
          k (vb true) []
        else lAgain_L0 m (lAgain_K0 m k F) F F s ((ByteArray.mk #[])) 0)
      else none)) := by kernel_rfl
noncomputable def lBlanks_cf (m : Int) : Cfg := mkCfG (globT m) vti orcD false [] [(12, 33849922949209616891789312), (999, 64), (1000, 0)]
noncomputable def lBlanks_m0 : List Bool := [false, false, false, false, false, false, false, false, false, false, false, false, false, false, true, false, false, false, false, false, false, false, false, false, false, false, false, false, false, false, false, false, false, false, false, false, false, false, false, false, false, false, false, false, false, false, false, false, false, false, false, false, false, false, false, false, false, false, false, false, false, false, false, false, false, false, false, false, false, false, false, false, false, false, false, false, false, false, false, false, false, false, true, true, true, false, false, false, false, false, false, false, false, false, false, false, false, false, false, false, false, false, false, false, false, false, false, false]
noncomputable def lBlanks_b0 : Code := (cA (cA (cB (cA (cB (cB (cB (cB (cB (cB (cB (cB (bd Tryd.f4)))))))))))))
noncomputable def lBlanks_S0 (v1 : List (List C)) (v2 : Int) (v3 : List (List C)) (v4 : Int) : St := { env := [vu, vu, vu, vu, vu, vu, vu, vu, vu, vu, vu, vu, vu, vu, (vc (.sl 4 v1)), vu, vu, vu, vu, vu, vu, vu, vu, vu, vu, vu, vu, vu, vu, vu, vu, vu, vu, vu, vu, vu, vu, vu, vu, vu, vu, vu, vu, vu, vu, vu, vu, vu, vu, vu, vu, vu, vu, vu, vu, vu, vu, vu, vu, vu, vu, vu, vu, vu, vu, vu, vu, vu, vu, vu, vu, vu, vu, vu, vu, vu, vu, vu, vu, vu, vu, vu, (.t (.w (.arr 0))), (vi v2), (vi v4), vu, vu, vu, vu, vu, vu, vu, vu, vu, vu, vu, vu, vu, vu, vu, vu, vu, vu, vu, vu, vu, vu, vu], bx := [(some (.arr true (some 33) 4 v3))], np := 0 }
noncomputable def lBlanks_L0 {R : Type} (m : Int) (K : X → St → Option R) (F n : Nat) (v1 : List (List C)) (v2 : Int) (v3 : List (List C)) (v4 : Int) : Option R := loopV (headM lBlanks_m0) (exec (lBlanks_cf m) F lBlanks_b0) (exitK (lBlanks_cf m) K) n (lBlanks_S0 v1 v2 v3 v4)
noncomputable def lBlanks_K0 {R : Type} (m : Int) (k : V → Bx → Option R) (F : Nat) : X → St → Option R := (blockK 0 (seqK (lBlanks_cf m) F (cB (cB (cB (cB (cB (cB (cB (cB (cB (bd Tryd.f4)))))))))) (finK (lBlanks_cf m) Tryd.f4 k)))
noncomputable def lBlanks_E1 : St := { env := [vu, vu, vu, vu, vu, vu, (vb false), vu, vu, vu, vu, vu, vu, vu, vu, vu, vu, vu, vu, vu, vu, vu, vu, vu, vu, vu, vu, vu, vu, vu, vu, vu, vu, vu, vu, vu, vu, vu, vu, vu, vu, vu, vu, vu, vu, vu, vu, vu, vu, vu, vu, vu, vu, vu, vu, vu, vu, vu, vu, vu, vu, vu, vu, vu, vu, vu, vu, vu, vu, vu, vu, vu, vu, vu, vu, vu, vu, vu, vu, vu, vu, vu, vu, vu, vu, vu, vu, vu, vu, vu, vu, vu, vu, vu, vu, vu, vu, vu, vu, vu, vu, vu, vu, vu, vu, vu, vu, vu], bx := [], np := 0 }
theorem lBlanks_c1 {R : Type} (m : Int) (k : V → Bx → Option R) (F : Nat) : lBlanks_K0 m k F .rt (lBlanks_E1) =
    k (vb false) [] := by kernel_rfl
noncomputable def lBlanks_E2 : St := { env := (List.replicate 108 vu), bx := [], np := 0 }
theorem lBlanks_c2 {R : Type} (m : Int) (k : V → Bx → Option R) (F : Nat) : lBlanks_K0 m k F (.ex 0) (lBlanks_E2) =
    k (vb true) [] := by kernel_rfl
theorem lBlanks_r0 {R : Type} (m : Int) (K : X → St → Option R) (F n : Nat) (v1 : List (List C)) (v2 : Int) (v3 : List (List C)) (v4 : Int) : lBlanks_L0 m K F (n + 1) v1 v2 v3 v4 =
    (bif decide (v4 < v2) then
      (bif decide ((0 : Int) ≤ v4) then
        (getT v3 v4.toNat fun _ =>
          (getT v3 v4.toNat fun z3 =>
            (bif (List.take (4 : Nat) z3).length == (4 : Nat) then
              (bif shOk [Sh.int IntKind.i64, Sh.str, Sh.int IntKind.i64, Sh.int IntKind.i64] (List.take (4 : Nat) z3) then
                (bif decide ((0 : Int) ≤ v4) then
                  (getT v1 v4.toNat fun z4 =>
                    (getT z4 0 fun z5 =>
                      (bif shOk [Sh.int IntKind.i64] [z5] then
                        (bif ([z5].getD (0 : Nat) C.nf).toInt != ((List.take (4 : Nat) z3).getD (0 : Nat) C.nf).toInt then
                          K .rt (lBlanks_E1)
                        else (bif decide ((0 : Int) ≤ v4) then
                            (getT v1 v4.toNat fun z6 =>
                              (getT (List.drop (1 : Nat) z6) 0 fun z7 =>
                                (bif shOk [Sh.str] [z7] then
                                  (bif !([z7].getD (0 : Nat) C.nf).toStr.toList == ((List.take (4 : Nat) z3).getD (1 : Nat) C.nf).toStr.toList then
                                    K .rt (lBlanks_E1)
                                  else lBlanks_L0 m K F n v1 v2 v3 (IntKind.i64.wrap (v4 + (1 : Int))))
                                else none)))
                          else none))
                      else none)))
                else none)
              else none)
            else none)))
      else none)
    else K (.ex 0) (lBlanks_E2)) := by kernel_rfl
theorem lBlanks_start {R : Type} (m : Int) (k : V → Bx → Option R) (F : Nat) (s : ByteArray) (t : ByteArray) (gap : Int) : runFn (lBlanks_cf m) F Tryd.f4 (bd Tryd.f4) [vs s, vs t, vc (C.int IntKind.u8 gap)] [] k =
    (bif decide ((↑s.size : Int) > (1000 : Int)) then
      k (vb true) []
    else (bif decide ((↑t.size : Int) > (1000 : Int)) then
        k (vb true) []
      else (bif decide ((0 : Int) ≤ gap.tmod (4 : Int) ∧ gap.tmod (4 : Int) < (4 : Int)) then
          (getT (List.drop ((gap.tmod (4 : Int)).toNat * (1 : Nat)) [C.str (ByteArray.mk #[(10 : UInt8)]), C.str (ByteArray.mk #[(32 : UInt8), (227 : UInt8), (128 : UInt8), (128 : UInt8)]), C.str (ByteArray.mk #[(47 : UInt8), (47 : UInt8), (120 : UInt8), (10 : UInt8)]), C.str (ByteArray.mk #[(9 : UInt8), (13 : UInt8)])]) 0 fun z1 =>
            (bif shOk [Sh.str] [z1] then
              (bif decide ((↑(s.size + (ByteArray.mk #[(10 : UInt8)]).size) : Int) > (9223372036854775807 : Int)) then
                none
              else (bif decide ((s ++ (ByteArray.mk #[(10 : UInt8)])).size < (1000000 : Nat)) then
                  (bif decide (t.size < (1000000 : Nat)) then
                    (bif decide ((↑(s.size + (ByteArray.mk #[(10 : UInt8)]).size) : Int) > (9223372036854775807 : Int)) then
                      none
                    else (bif decide ((↑((s ++ (ByteArray.mk #[(10 : UInt8)])).size + ([z1].getD (0 : Nat) C.nf).toStr.size) : Int) > (9223372036854775807 : Int)) then
                        none
                      else (bif decide ((↑((s ++ (ByteArray.mk #[(10 : UInt8)]) ++ ([z1].getD (0 : Nat) C.nf).toStr).size + t.size) : Int) > (9223372036854775807 : Int)) then
                          none
                        else (bif decide ((s ++ (ByteArray.mk #[(10 : UInt8)]) ++ ([z1].getD (0 : Nat) C.nf).toStr ++ t).size < (1000000 : Nat)) then
                            (bif (lexP (s ++ (ByteArray.mk #[(10 : UInt8)]))).snd.snd.snd != (0 : Int) then
                              k (vb true) []
                            else (bif (lexP t).snd.snd.snd != (0 : Int) then
                                k (vb true) []
                              else (bif (lexP (s ++ (ByteArray.mk #[(10 : UInt8)]) ++ ([z1].getD (0 : Nat) C.nf).toStr ++ t)).snd.snd.snd != (0 : Int) then
                                  k (vb false) []
                                else (bif (↑(lexP (s ++ (ByteArray.mk #[(10 : UInt8)]) ++ ([z1].getD (0 : Nat) C.nf).toStr ++ t)).fst.length : Int) != IntKind.i64.wrap ((↑(lexP (s ++ (ByteArray.mk #[(10 : UInt8)]))).fst.length : Int) + (↑(lexP t).fst.length : Int)) then
                                    k (vb false) []
                                  else (bif decide (((0 : Nat) + (lexP (s ++ (ByteArray.mk #[(10 : UInt8)]))).fst.length) * (40 : Nat) ≤ (140737488355328 : Nat) ∧ (0 : Nat) + (lexP (s ++ (ByteArray.mk #[(10 : UInt8)]))).fst.length ≤ (9223372036854775807 : Nat)) then
                                      (bif decide (((lexP (s ++ (ByteArray.mk #[(10 : UInt8)]))).fst.length + (lexP t).fst.length) * (40 : Nat) ≤ (140737488355328 : Nat) ∧ (lexP (s ++ (ByteArray.mk #[(10 : UInt8)]))).fst.length + (lexP t).fst.length ≤ (9223372036854775807 : Nat)) then
                                        lBlanks_L0 m (lBlanks_K0 m k F) F F ((lexP (s ++ (ByteArray.mk #[(10 : UInt8)]) ++ ([z1].getD (0 : Nat) C.nf).toStr ++ t)).fst) ((↑((lexP (s ++ (ByteArray.mk #[(10 : UInt8)]))).fst ++ (lexP t).fst).length : Int)) ((lexP (s ++ (ByteArray.mk #[(10 : UInt8)]))).fst ++ (lexP t).fst) 0
                                      else none)
                                    else none)))))
                          else none))))
                  else none)
                else none))
            else none))
        else none))) := by kernel_rfl
end Go.Proofs.YtniiimpcakmkbaaDoor
