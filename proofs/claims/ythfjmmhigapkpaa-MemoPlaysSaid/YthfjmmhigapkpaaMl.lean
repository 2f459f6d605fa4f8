/- YthfjmmhigapkpaaMl -/
import Derived.Test.YthfjmmhigapkpaaMb
set_option linter.unusedVariables false
namespace Go.Proofs.Ythfjmmhigapkpaa
open Go Vm
noncomputable def lLast_cf (N : MF) : Cfg := mkCfD vti (orcML N) false [] [(6, 30786325577826), (16, 8264141375808204702562), (999, 16), (1000, 0), (1001, 30786325577826), (1003, 30786325578338)]
noncomputable def lLast_m0 : List Bool := [false, true, false, false, false, true, true, false, false, false, false, false, false, false, false, false, false, false, false, false, false, false, false, false, false, false, false, false, false, false, false, false, false, false, false, false, false, false, false, false, false, false, true, true, true, false, false, false, false, false, false, false, false, false, false, false, false, false, false, false, false, false, false, false, false, false, false, false, false, false, false, false, false, false, false, false, false, false, false, false, false, false, false, false, false, false, false, false, false, false, false, false, false, false, false, false, false, false, false, false, false, false, false, false, false, false, false, false, false, false, false, false, false, false, false, false, false, false, false, false, false, false]
noncomputable def lLast_b0 : Code := (cA (cA (cB (cA (cB (cB (cB (cB (bd Try.f3)))))))))
noncomputable def lLast_S0 (acts : List (List C)) (v1 : Int) (v2 : Int) (v3 : Int) (v4 : List (List C)) (v5 : Int) (v17 : List (List C × List C)) : St := { env := [vu, (vc (.sl 4 acts)), vu, vu, vu, (vi v1), (.t (.w (.ptr 0 0))), vu, vu, vu, vu, vu, vu, vu, vu, vu, vu, vu, vu, vu, vu, vu, vu, vu, vu, vu, vu, vu, vu, vu, vu, vu, vu, vu, vu, vu, vu, vu, vu, vu, vu, vu, (vc (.sl 4 acts)), (vi ((↑acts.length : Int))), (vi v5), vu, vu, vu, vu, vu, vu, vu, vu, vu, vu, vu, vu, vu, vu, vu, vu, vu, vu, vu, vu, vu, vu, vu, vu, vu, vu, vu, vu, vu, vu, vu, vu, vu, vu, vu, vu, vu, vu, vu, vu, vu, vu, vu, vu, vu, vu, vu, vu, vu, vu, vu, vu, vu, vu, vu, vu, vu, vu, vu, vu, vu, vu, vu, vu, vu, vu, vu, vu, vu, vu, vu, vu, vu, vu, vu, vu, vu], bx := [(some (.cells ⟨[(.int .i64 v2), (.int .i64 v3), .nf, .nf], [(2, (.mp 1)), (3, (.arr 2))], 4⟩)), (some (.map [Sh.str] false true 2 v17)), (some (.arr true (some 57) 2 v4))], np := 0 }
noncomputable def lLast_L0 (N : MF) {R : Type} (K : X → St → Option R) (F n : Nat) (acts : List (List C)) (v1 : Int) (v2 : Int) (v3 : Int) (v4 : List (List C)) (v5 : Int) (v17 : List (List C × List C)) : Option R := loopV (headM lLast_m0) (exec (lLast_cf N) F lLast_b0) (exitK (lLast_cf N) K) n (lLast_S0 acts v1 v2 v3 v4 v5 v17)
noncomputable def lLast_K0 (N : MF) {R : Type} (k : V → Bx → Option R) (F : Nat) : X → St → Option R := (blockK 0 (seqK (lLast_cf N) F (cB (cB (cB (cB (cB (bd Try.f3)))))) (finK (lLast_cf N) Try.f3 k)))
noncomputable def lLast_E1 : St := { env := [vu, vu, vu, vu, (vb false), vu, vu, vu, vu, vu, vu, vu, vu, vu, vu, vu, vu, vu, vu, vu, vu, vu, vu, vu, vu, vu, vu, vu, vu, vu, vu, vu, vu, vu, vu, vu, vu, vu, vu, vu, vu, vu, vu, vu, vu, vu, vu, vu, vu, vu, vu, vu, vu, vu, vu, vu, vu, vu, vu, vu, vu, vu, vu, vu, vu, vu, vu, vu, vu, vu, vu, vu, vu, vu, vu, vu, vu, vu, vu, vu, vu, vu, vu, vu, vu, vu, vu, vu, vu, vu, vu, vu, vu, vu, vu, vu, vu, vu, vu, vu, vu, vu, vu, vu, vu, vu, vu, vu, vu, vu, vu, vu, vu, vu, vu, vu, vu, vu, vu, vu, vu, vu], bx := [], np := 0 }
theorem lLast_c1 (N : MF) {R : Type} (k : V → Bx → Option R) (F : Nat) : (lLast_K0 N) k F .rt (lLast_E1) =
    k (vb false) [] := by kernel_rfl
noncomputable def lLast_m1 : List Bool := [false, true, false, false, false, true, true, false, true, true, false, false, false, false, false, false, false, false, false, false, false, false, false, false, false, false, false, false, false, false, false, false, false, false, false, false, false, false, false, false, false, false, true, true, true, false, false, false, false, false, false, false, false, false, false, false, false, false, false, false, false, false, false, false, false, false, false, false, false, false, true, true, true, false, false, false, false, false, false, false, false, false, false, false, false, false, false, false, false, false, false, false, false, false, false, false, false, false, false, false, false, false, false, false, false, false, false, false, false, false, false, false, false, false, false, false, false, false, false, false, false, false]
noncomputable def lLast_b1 : Code := (cA (cA (cB (cA (cB (cB (cB (cA (cA (cB (cB (cA (cA (cB (cA (cB (cB (cB (cB (bd Try.f3))))))))))))))))))))
noncomputable def lLast_S1 (acts : List (List C)) (v1 : Int) (v5 : Int) (v18 : Int) (v19 : Int) (v20 : Int) (v21 : ByteArray) (v22 : Bool) (v23 : Row) (v24 : Ents) (v25 : Row) (v26 : Int) (v27 : Int) (v28 : Int) : St := { env := [vu, (vc (.sl 4 acts)), vu, vu, vu, (vi v1), (.t (.w (.ptr 0 0))), vu, (vi v5), (.t (.w (.ptr 1 0))), vu, vu, vu, vu, vu, vu, vu, vu, vu, vu, vu, vu, vu, vu, vu, vu, vu, vu, vu, vu, vu, vu, vu, vu, vu, vu, vu, vu, vu, vu, vu, vu, (vc (.sl 4 acts)), (vi ((↑acts.length : Int))), (vi v5), vu, vu, vu, vu, vu, vu, vu, vu, vu, vu, vu, vu, vu, vu, vu, vu, vu, vu, vu, vu, vu, vu, vu, vu, vu, (.t (.w (.arr 2))), (vi v18), (vi v28), vu, vu, vu, vu, vu, vu, vu, vu, vu, vu, vu, vu, vu, vu, vu, vu, vu, vu, vu, vu, vu, vu, vu, vu, vu, vu, vu, vu, vu, vu, vu, vu, vu, vu, vu, vu, vu, vu, vu, vu, vu, vu, vu, vu, vu, vu, vu, vu, vu], bx := [(some (.cells ⟨[(.int .i64 v26), (.int .i64 v27), .nf, .nf], [(2, (.mp 3)), (3, (.arr 4))], 4⟩)), (some (.cells ⟨[(.int .i64 v19), (.int .i64 v20), (.str v21), (.bool v22)], [], 4⟩)), (some (.arr true (some 9) 1 v23)), (some (.map [Sh.str] false true 2 v24)), (some (.arr true (some 57) 2 v25))], np := 0 }
noncomputable def lLast_L1 (N : MF) {R : Type} (K : X → St → Option R) (F n : Nat) (acts : List (List C)) (v1 : Int) (v5 : Int) (v18 : Int) (v19 : Int) (v20 : Int) (v21 : ByteArray) (v22 : Bool) (v23 : Row) (v24 : Ents) (v25 : Row) (v26 : Int) (v27 : Int) (v28 : Int) : Option R := loopV (headM lLast_m1) (exec (lLast_cf N) F lLast_b1) (exitK (lLast_cf N) K) n (lLast_S1 acts v1 v5 v18 v19 v20 v21 v22 v23 v24 v25 v26 v27 v28)
noncomputable def lLast_K1 (N : MF) {R : Type} (K : X → St → Option R) (F n : Nat) : X → St → Option R := (blockK 3 (seqK (lLast_cf N) F (cB (cB (cB (cB (cA (cA (cB (cB (cA (cA (cB (cA (cB (cB (cB (cB (bd Try.f3))))))))))))))))) (blockK 1 (seqK (lLast_cf N) F (cB (cB (cB (cA (cA (cB (cA (cB (cB (cB (cB (bd Try.f3)))))))))))) (loopK (headM lLast_m0) (exec (lLast_cf N) F lLast_b0) (exitK (lLast_cf N) K) n)))))
noncomputable def lLast_E2 : St := { env := [vu, vu, vu, vu, (vb false), vu, vu, vu, vu, vu, vu, vu, vu, vu, vu, vu, vu, vu, vu, vu, vu, vu, vu, vu, vu, vu, vu, vu, vu, vu, vu, vu, vu, vu, vu, vu, vu, vu, vu, vu, vu, vu, vu, vu, vu, vu, vu, vu, vu, vu, vu, vu, vu, vu, vu, vu, vu, vu, vu, vu, vu, vu, vu, vu, vu, vu, vu, vu, vu, vu, vu, vu, vu, vu, vu, vu, vu, vu, vu, vu, vu, vu, vu, vu, vu, vu, vu, vu, vu, vu, vu, vu, vu, vu, vu, vu, vu, vu, vu, vu, vu, vu, vu, vu, vu, vu, vu, vu, vu, vu, vu, vu, vu, vu, vu, vu, vu, vu, vu, vu, vu, vu], bx := [], np := 0 }
theorem lLast_c2 (N : MF) {R : Type} (K : X → St → Option R) (F n : Nat) : (lLast_K1 N) K F n .rt (lLast_E2) =
    K .rt (lLast_E1) := by kernel_rfl
noncomputable def lLast_E3 (acts : List (List C)) (v1 : Int) (v5 : Int) (v19 : Int) (v20 : Int) (v21 : ByteArray) (v22 : Bool) (v24 : Ents) (v25 : Row) (v26 : Int) (v27 : Int) : St := { env := [vu, (vc (.sl 4 acts)), vu, vu, vu, (vi v1), (.t (.w (.ptr 0 0))), vu, vu, (.t (.w (.ptr 1 0))), vu, vu, vu, vu, vu, vu, vu, vu, vu, vu, vu, vu, vu, vu, vu, vu, vu, vu, vu, vu, vu, vu, vu, vu, vu, vu, vu, vu, vu, vu, vu, vu, (vc (.sl 4 acts)), (vi ((↑acts.length : Int))), (vi v5), vu, vu, vu, vu, vu, vu, vu, vu, vu, vu, vu, vu, vu, vu, vu, vu, vu, vu, vu, vu, vu, vu, vu, vu, vu, vu, vu, vu, vu, vu, vu, vu, vu, vu, vu, vu, vu, vu, vu, vu, vu, vu, vu, vu, vu, vu, vu, vu, vu, vu, vu, vu, vu, vu, vu, vu, vu, vu, vu, vu, vu, vu, vu, vu, vu, vu, vu, vu, vu, vu, vu, vu, vu, vu, vu, vu, vu], bx := [(some (.cells ⟨[(.int .i64 v26), (.int .i64 v27), .nf, .nf], [(2, (.mp 2)), (3, (.arr 3))], 4⟩)), (some (.cells ⟨[(.int .i64 v19), (.int .i64 v20), (.str v21), (.bool v22)], [], 4⟩)), (some (.map [Sh.str] false true 2 v24)), (some (.arr true (some 57) 2 v25))], np := 0 }
theorem lLast_c3 (N : MF) {R : Type} (K : X → St → Option R) (F n : Nat) (acts : List (List C)) (v1 : Int) (v5 : Int) (v19 : Int) (v20 : Int) (v21 : ByteArray) (v22 : Bool) (v24 : Ents) (v25 : Row) (v26 : Int) (v27 : Int) : (lLast_K1 N) K F n (.ex 3) (lLast_E3 acts v1 v5 v19 v20 v21 v22 v24 v25 v26 v27) =
    (bif okM v24 v25 then
      (bif v19 == (1 : Int) then
        (bif decide (v1 > (0 : Int)) then
          (bif (bif N.gs v24 v21 then (0 : Int) else (19 : Int)) != (0 : Int) then
            K .rt (lLast_E1)
          else (lLast_L0 N) K F n acts v1 v26 v27 v25 (IntKind.i64.wrap (v5 + (1 : Int))) v24)
        else (lLast_L0 N) K F n acts v1 v26 v27 v25 (IntKind.i64.wrap (v5 + (1 : Int))) v24)
      else (lLast_L0 N) K F n acts v1 v26 v27 v25 (IntKind.i64.wrap (v5 + (1 : Int))) v24)
    else none) := by kernel_rfl
theorem lLast_r1 (N : MF) {R : Type} (K : X → St → Option R) (F n : Nat) (acts : List (List C)) (v1 : Int) (v5 : Int) (v18 : Int) (v19 : Int) (v20 : Int) (v21 : ByteArray) (v22 : Bool) (v23 : Row) (v24 : Ents) (v25 : Row) (v26 : Int) (v27 : Int) (v28 : Int) : (lLast_L1 N) K F (n + 1) acts v1 v5 v18 v19 v20 v21 v22 v23 v24 v25 v26 v27 v28 =
    (bif decide (v28 < v18) then
      (bif decide ((0 : Int) ≤ v28) then
        (getT v23 v28.toNat fun _ =>
          (getT v23 v28.toNat fun z3 =>
            (getT z3 0 fun z4 =>
              (bif shOk [Sh.str] [z4] then
                (bif okM v24 v25 then
                  (bif decide ((0 : Int) ≤ (0 : Int) ∧ (0 : Int) ≤ IntKind.i64.wrap (v5 + (1 : Int)) ∧ IntKind.i64.wrap (v5 + (1 : Int)) ≤ (↑acts.length : Int)) then
                    (bif (List.take ((IntKind.i64.wrap (v5 + (1 : Int))).toNat - (0 : Nat)) acts).all actOk && decide ((List.take ((IntKind.i64.wrap (v5 + (1 : Int))).toNat - (0 : Nat)) acts).length < (1000000 : Nat)) then
                      (bif (bif N.gs v24 ([z4].getD (0 : Nat) C.nf).toStr then (0 : Int) else (19 : Int)) != (0 : Int) then
                        K .rt (lLast_E2)
                      else (bif !N.ls (List.take ((IntKind.i64.wrap (v5 + (1 : Int))).toNat - (0 : Nat)) acts) ([z4].getD (0 : Nat) C.nf).toStr then
                          K .rt (lLast_E2)
                        else (bif !N.ge v24 ([z4].getD (0 : Nat) C.nf).toStr == N.ly (List.take ((IntKind.i64.wrap (v5 + (1 : Int))).toNat - (0 : Nat)) acts) ([z4].getD (0 : Nat) C.nf).toStr then
                            K .rt (lLast_E2)
                          else (lLast_L1 N) K F n acts v1 v5 v18 v19 v20 v21 v22 v23 v24 v25 v26 v27 (IntKind.i64.wrap (v28 + (1 : Int))))))
                    else none)
                  else none)
                else none)
              else none))))
      else none)
    else K (.ex 3) (lLast_E3 acts v1 v5 v19 v20 v21 v22 v24 v25 v26 v27)) := by kernel_rfl
noncomputable def lLast_E4 : St := { env := (List.replicate 122 vu), bx := [], np := 0 }
theorem lLast_c4 (N : MF) {R : Type} (k : V → Bx → Option R) (F : Nat) : (lLast_K0 N) k F (.ex 0) (lLast_E4) =
    k (vb true) [] := by kernel_rfl
theorem lLast_r0 (N : MF) {R : Type} (K : X → St → Option R) (F n : Nat) (acts : List (List C)) (v1 : Int) (v2 : Int) (v3 : Int) (v4 : List (List C)) (v5 : Int) (v17 : List (List C × List C)) : (lLast_L0 N) K F (n + 1) acts v1 v2 v3 v4 v5 v17 =
    (bif decide (v5 < (↑acts.length : Int)) then
      (bif decide ((0 : Int) ≤ v5) then
        (getT acts v5.toNat fun z1 =>
          (bif (List.take (4 : Nat) z1).length == (4 : Nat) then
            (bif shOk [Sh.int IntKind.i64, Sh.int IntKind.i64, Sh.str, Sh.bool] (List.take (4 : Nat) z1) then
              (bif ((List.take (4 : Nat) z1).getD (0 : Nat) C.nf).toInt == (1 : Int) then
                (bif okM v17 v4 then
                  (bif decide ((0 : Int) ≤ v3 ∧ v3 < (1000000 : Int)) && N.pk v2 v3 v17 v4 ((List.take (4 : Nat) z1).getD (2 : Nat) C.nf).toStr ((List.take (4 : Nat) z1).getD (3 : Nat) C.nf).toBool then
                    (bif okM (N.pe v2 v3 v17 v4 ((List.take (4 : Nat) z1).getD (2 : Nat) C.nf).toStr ((List.take (4 : Nat) z1).getD (3 : Nat) C.nf).toBool) (N.po v2 v3 v17 v4 ((List.take (4 : Nat) z1).getD (2 : Nat) C.nf).toStr ((List.take (4 : Nat) z1).getD (3 : Nat) C.nf).toBool) then
                      (bif decide ((↑(List.length (N.pe v2 v3 v17 v4 ((List.take (4 : Nat) z1).getD (2 : Nat) C.nf).toStr ((List.take (4 : Nat) z1).getD (3 : Nat) C.nf).toBool)) : Int) > v1) then
                        K .rt (lLast_E1)
                      else (bif okM (N.pe v2 v3 v17 v4 ((List.take (4 : Nat) z1).getD (2 : Nat) C.nf).toStr ((List.take (4 : Nat) z1).getD (3 : Nat) C.nf).toBool) (N.po v2 v3 v17 v4 ((List.take (4 : Nat) z1).getD (2 : Nat) C.nf).toStr ((List.take (4 : Nat) z1).getD (3 : Nat) C.nf).toBool) then
                          (lLast_L1 N) ((lLast_K1 N) K F n) F F acts v1 v5 ((↑(List.length (N.ks (N.po v2 v3 v17 v4 ((List.take (4 : Nat) z1).getD (2 : Nat) C.nf).toStr ((List.take (4 : Nat) z1).getD (3 : Nat) C.nf).toBool))) : Int)) (((List.take (4 : Nat) z1).getD (0 : Nat) C.nf).toInt) (((List.take (4 : Nat) z1).getD (1 : Nat) C.nf).toInt) (((List.take (4 : Nat) z1).getD (2 : Nat) C.nf).toStr) (((List.take (4 : Nat) z1).getD (3 : Nat) C.nf).toBool) (N.ks (N.po v2 v3 v17 v4 ((List.take (4 : Nat) z1).getD (2 : Nat) C.nf).toStr ((List.take (4 : Nat) z1).getD (3 : Nat) C.nf).toBool)) (N.pe v2 v3 v17 v4 ((List.take (4 : Nat) z1).getD (2 : Nat) C.nf).toStr ((List.take (4 : Nat) z1).getD (3 : Nat) C.nf).toBool) (N.po v2 v3 v17 v4 ((List.take (4 : Nat) z1).getD (2 : Nat) C.nf).toStr ((List.take (4 : Nat) z1).getD (3 : Nat) C.nf).toBool) v2 (v3 + (1 : Int)) 0
                        else none))
                    else none)
                  else none)
                else none)
              else (bif ((List.take (4 : Nat) z1).getD (0 : Nat) C.nf).toInt == (3 : Int) then
                  (bif okM v17 v4 then
                    (bif v4.isEmpty then
                      (bif okM v17 v4 then
                        (bif decide ((↑v17.length : Int) > v1) then
                          K .rt (lLast_E1)
                        else (bif okM v17 v4 then
                            (lLast_L1 N) ((lLast_K1 N) K F n) F F acts v1 v5 ((↑(List.length (N.ks v4)) : Int)) (((List.take (4 : Nat) z1).getD (0 : Nat) C.nf).toInt) (((List.take (4 : Nat) z1).getD (1 : Nat) C.nf).toInt) (((List.take (4 : Nat) z1).getD (2 : Nat) C.nf).toStr) (((List.take (4 : Nat) z1).getD (3 : Nat) C.nf).toBool) (N.ks v4) v17 v4 v2 v3 0
                          else none))
                      else none)
                    else (bif okM (mapDel [C.str (N.ki v4 (N.di ((List.take (4 : Nat) z1).getD (1 : Nat) C.nf).toInt v4.length))] v17) (v4.eraseIdx (N.di ((List.take (4 : Nat) z1).getD (1 : Nat) C.nf).toInt v4.length)) then
                        (bif decide ((↑(mapDel [C.str (N.ki v4 (N.di ((List.take (4 : Nat) z1).getD (1 : Nat) C.nf).toInt v4.length))] v17).length : Int) > v1) then
                          K .rt (lLast_E1)
                        else (bif okM (mapDel [C.str (N.ki v4 (N.di ((List.take (4 : Nat) z1).getD (1 : Nat) C.nf).toInt v4.length))] v17) (v4.eraseIdx (N.di ((List.take (4 : Nat) z1).getD (1 : Nat) C.nf).toInt v4.length)) then
                            (lLast_L1 N) ((lLast_K1 N) K F n) F F acts v1 v5 ((↑(List.length (N.ks (v4.eraseIdx (N.di ((List.take (4 : Nat) z1).getD (1 : Nat) C.nf).toInt v4.length)))) : Int)) (((List.take (4 : Nat) z1).getD (0 : Nat) C.nf).toInt) (((List.take (4 : Nat) z1).getD (1 : Nat) C.nf).toInt) (((List.take (4 : Nat) z1).getD (2 : Nat) C.nf).toStr) (((List.take (4 : Nat) z1).getD (3 : Nat) C.nf).toBool) (N.ks (v4.eraseIdx (N.di ((List.take (4 : Nat) z1).getD (1 : Nat) C.nf).toInt v4.length))) (mapDel [C.str (N.ki v4 (N.di ((List.take (4 : Nat) z1).getD (1 : Nat) C.nf).toInt v4.length))] v17) (v4.eraseIdx (N.di ((List.take (4 : Nat) z1).getD (1 : Nat) C.nf).toInt v4.length)) v2 v3 0
                          else none))
                      else none))
                  else none)
                else (bif okM v17 v4 then
                    (bif decide ((↑v17.length : Int) > v1) then
                      K .rt (lLast_E1)
                    else (bif okM v17 v4 then
                        (lLast_L1 N) ((lLast_K1 N) K F n) F F acts v1 v5 ((↑(List.length (N.ks v4)) : Int)) (((List.take (4 : Nat) z1).getD (0 : Nat) C.nf).toInt) (((List.take (4 : Nat) z1).getD (1 : Nat) C.nf).toInt) (((List.take (4 : Nat) z1).getD (2 : Nat) C.nf).toStr) (((List.take (4 : Nat) z1).getD (3 : Nat) C.nf).toBool) (N.ks v4) v17 v4 v2 v3 0
                      else none))
                  else none)))
            else none)
          else none))
      else none)
    else K (.ex 0) (lLast_E4)) := by kernel_rfl
theorem lLast_start (N : MF) {R : Type} (k : V → Bx → Option R) (F : Nat) (rm : Int) (acts : List (List C)) : runFn (lLast_cf N) F Try.f3 (bd Try.f3) [vc (C.int IntKind.u8 rm), vc (C.sl (4 : Nat) acts)] [] k =
    (bif decide ((0 : Int) ≤ IntKind.i64.wrap (rm.tmod (12 : Int)) ∧ IntKind.i64.wrap (rm.tmod (12 : Int)) ≤ (1000 : Int)) then
      (bif decide ((↑acts.length : Int) > (200 : Int)) then
        k (vb true) []
      else (lLast_L0 N) ((lLast_K0 N) k F) F F acts (IntKind.i64.wrap (rm.tmod (12 : Int))) (IntKind.i64.wrap (rm.tmod (12 : Int))) 0 [] 0 [])
    else k (vb true) []) := by kernel_rfl
noncomputable def lAwake_cf (N : MF) : Cfg := mkCfD vti (orcMA N) false [] [(5, 98306), (999, 1), (1000, 2)]
noncomputable def lAwake_m0 : List Bool := [false, true, false, false, false, false, false, false, false, false, false, false, false, false, false, true, true, false, false, false, false, false, false, false, false, false, false]
noncomputable def lAwake_b0 : Code := (cA (cA (cB (cA (cB (cB (cB (bd Try.f6))))))))
noncomputable def lAwake_S0 (v1 : Int) (v2 : Int) (v3 : List (List C × List C)) (v4 : List (List C)) : St := { env := [vu, (.t (.w (.ptr 0 0))), vu, vu, vu, vu, vu, vu, vu, vu, vu, vu, vu, vu, vu, (.t (.agg ⟨[(.str ((ByteArray.mk #[(97 : UInt8)]))), (.str ((ByteArray.mk #[(98 : UInt8)]))), (.str ((ByteArray.mk #[(97 : UInt8)]))), (.str ((ByteArray.mk #[(99 : UInt8)])))], [], 4⟩)), (vi v1), vu, vu, vu, vu, vu, vu, vu, vu, vu, vu], bx := [(some (.cells ⟨[(.int .i64 2), (.int .i64 v2), .nf, .nf], [(2, (.mp 1)), (3, (.arr 2))], 4⟩)), (some (.map [Sh.str] false true 2 v3)), (some (.arr true (some 57) 2 v4))], np := 0 }
noncomputable def lAwake_L0 (N : MF) {R : Type} (K : X → St → Option R) (F n : Nat) (v1 : Int) (v2 : Int) (v3 : List (List C × List C)) (v4 : List (List C)) : Option R := loopV (headM lAwake_m0) (exec (lAwake_cf N) F lAwake_b0) (exitK (lAwake_cf N) K) n (lAwake_S0 v1 v2 v3 v4)
noncomputable def lAwake_K0 (N : MF) {R : Type} (k : V → Bx → Option R) (F : Nat) : X → St → Option R := (blockK 0 (seqK (lAwake_cf N) F (cB (cB (cB (cB (bd Try.f6))))) (finK (lAwake_cf N) Try.f6 k)))
noncomputable def lAwake_E1 (v2 : Int) (v3 : List (List C × List C)) (v4 : List (List C)) : St := { env := [vu, (.t (.w (.ptr 0 0))), vu, vu, vu, vu, vu, vu, vu, vu, vu, vu, vu, vu, vu, vu, vu, vu, vu, vu, vu, vu, vu, vu, vu, vu, vu], bx := [(some (.cells ⟨[(.int .i64 2), (.int .i64 v2), .nf, .nf], [(2, (.mp 1)), (3, (.arr 2))], 4⟩)), (some (.map [Sh.str] false true 2 v3)), (some (.arr true (some 57) 2 v4))], np := 0 }
theorem lAwake_c1 (N : MF) {R : Type} (k : V → Bx → Option R) (F : Nat) (v2 : Int) (v3 : List (List C × List C)) (v4 : List (List C)) : (lAwake_K0 N) k F (.ex 0) (lAwake_E1 v2 v3 v4) =
    (bif okM v3 v4 then
      (bif List.all (N.ks v4) (shOk [Sh.str]) && true && decide (List.length (N.ks v4) < (1000000 : Nat)) then
        k (vb (decide (List.map (fun e => (e.getD (0 : Nat) C.nf).toStr.toList) (N.ks v4) = List.map (fun e => (e.getD (0 : Nat) C.nf).toStr.toList) [[C.str (ByteArray.mk #[(97 : UInt8)])], [C.str (ByteArray.mk #[(99 : UInt8)])]]))) []
      else none)
    else none) := by kernel_rfl
theorem lAwake_r0 (N : MF) {R : Type} (K : X → St → Option R) (F n : Nat) (v1 : Int) (v2 : Int) (v3 : List (List C × List C)) (v4 : List (List C)) : (lAwake_L0 N) K F (n + 1) v1 v2 v3 v4 =
    (bif decide (v1 < (4 : Int)) then
      (bif decide ((0 : Int) ≤ v1 ∧ v1 < (4 : Int)) then
        (getT (List.drop (v1.toNat * (1 : Nat)) [C.str (ByteArray.mk #[(97 : UInt8)]), C.str (ByteArray.mk #[(98 : UInt8)]), C.str (ByteArray.mk #[(97 : UInt8)]), C.str (ByteArray.mk #[(99 : UInt8)])]) 0 fun z1 =>
          (bif shOk [Sh.str] [z1] then
            (bif okM v3 v4 then
              (bif decide ((0 : Int) ≤ v2 ∧ v2 < (1000000 : Int)) && N.pk (2 : Int) v2 v3 v4 ([z1].getD (0 : Nat) C.nf).toStr true then
                (lAwake_L0 N) K F n (IntKind.i64.wrap (v1 + (1 : Int))) (v2 + (1 : Int)) (N.pe (2 : Int) v2 v3 v4 ([z1].getD (0 : Nat) C.nf).toStr true) (N.po (2 : Int) v2 v3 v4 ([z1].getD (0 : Nat) C.nf).toStr true)
              else none)
            else none)
          else none))
      else none)
    else K (.ex 0) (lAwake_E1 v2 v3 v4)) := by kernel_rfl
theorem lAwake_start (N : MF) {R : Type} (k : V → Bx → Option R) (F : Nat) : runFn (lAwake_cf N) F Try.f6 (bd Try.f6) [] [] k =
    (lAwake_L0 N) ((lAwake_K0 N) k F) F F 0 0 [] [] := by kernel_rfl
end Go.Proofs.Ythfjmmhigapkpaa
