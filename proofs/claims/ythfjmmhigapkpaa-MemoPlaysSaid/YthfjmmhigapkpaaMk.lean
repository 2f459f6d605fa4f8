/- YthfjmmhigapkpaaMk -/
import Derived.Test.YthfjmmhigapkpaaMb
set_option linter.unusedVariables false
namespace Go.Proofs.Ythfjmmhigapkpaa
open Go Vm
noncomputable def lPlays_cf (N : MF) : Cfg := mkCfD vti (orcMP N) false [100008, 126] [(11, 504403158265495841), (34, 8979466059761067529443439612208843377169207809573153), (999, 16), (1000, 288), (1001, 504403158265495841), (1003, 504403158265495841)]
noncomputable def lPlays_m0 : List Bool := [true, false, false, false, false, true, false, false, true, false, false, false, false, false, false, false, false, false, false, false, false, false, false, false, false, false, false, false, false, false, false, false, false, false, false, false, false, false, false, false, false, false, false, false, false, false, false, false, false, false, false, false, false, false, false, false, true, true, true, false, false, false, false, false, false, false, false, false, false, false, false, false, false, false, false, false, false, false, false, false, false, false, false, false, false, false, false, false, false, false, false, false, false, false, false, false, false, false, false, false, false, false, false, false, false, false, false, false, false, false, false, false, false, false, false, false, false, false, false, false, false, false, false, false, false, false, false, false, false, false, false, false, false, false, false, false, false, false, false, false, false, false, false, false, false, false, false, false, false, false, false, false, false, false, false, false, false, false, false, false, false, false, false, false, false, false, false, false, false, false, false, false, false, false, false, false, false, false, false, false, false, false, false, false, false, false, false, false, false, false, false, false, false, false, false]
noncomputable def lPlays_b0 : Code := (cA (cA (cB (cA (cB (cB (cB (cB (cB (cB (cB (bd Try.f4))))))))))))
noncomputable def lPlays_S0 (room : Int) (acts : List (List C)) (room1 : Int) (v2 : Int) (v3 : List (List C)) (v4 : Int) (v13 : List (List C)) (v14 : List (List C × List C)) : St := { env := [(vi room), vu, vu, vu, vu, (.t (.w (.ptr 0 0))), vu, vu, (vc (.sl 2 v13)), vu, vu, vu, vu, vu, vu, vu, vu, vu, vu, vu, vu, vu, vu, vu, vu, vu, vu, vu, vu, vu, vu, vu, vu, vu, vu, vu, vu, vu, vu, vu, vu, vu, vu, vu, vu, vu, vu, vu, vu, vu, vu, vu, vu, vu, vu, vu, (vc (.sl 4 acts)), (vi ((↑acts.length : Int))), (vi v4), vu, vu, vu, vu, vu, vu, vu, vu, vu, vu, vu, vu, vu, vu, vu, vu, vu, vu, vu, vu, vu, vu, vu, vu, vu, vu, vu, vu, vu, vu, vu, vu, vu, vu, vu, vu, vu, vu, vu, vu, vu, vu, vu, vu, vu, vu, vu, vu, vu, vu, vu, vu, vu, vu, vu, vu, vu, vu, vu, vu, vu, vu, vu, vu, vu, vu, vu, vu, vu, vu, vu, vu, vu, vu, vu, vu, vu, vu, vu, vu, vu, vu, vu, vu, vu, vu, vu, vu, vu, vu, vu, vu, vu, vu, vu, vu, vu, vu, vu, vu, vu, vu, vu, vu, vu, vu, vu, vu, vu, vu, vu, vu, vu, vu, vu, vu, vu, vu, vu, vu, vu, vu, vu, vu, vu, vu, vu, vu, vu, vu, vu, vu, vu, vu, vu, vu], bx := [(some (.cells ⟨[(.int .i64 room1), (.int .i64 v2), .nf, .nf], [(2, (.mp 1)), (3, (.arr 2))], 4⟩)), (some (.map [Sh.str] false true 2 v14)), (some (.arr true (some 57) 2 v3))], np := 0 }
noncomputable def lPlays_L0 (N : MF) {R : Type} (K : X → St → Option R) (F n : Nat) (room : Int) (acts : List (List C)) (room1 : Int) (v2 : Int) (v3 : List (List C)) (v4 : Int) (v13 : List (List C)) (v14 : List (List C × List C)) : Option R := loopV (headM lPlays_m0) (exec (lPlays_cf N) F lPlays_b0) (exitK (lPlays_cf N) K) n (lPlays_S0 room acts room1 v2 v3 v4 v13 v14)
noncomputable def lPlays_K0 (N : MF) {R : Type} (k : V → Bx → Option R) (F : Nat) : X → St → Option R := (blockK 0 (seqK (lPlays_cf N) F (cB (cB (cB (cB (cB (cB (cB (cB (bd Try.f4))))))))) (finK (lPlays_cf N) Try.f4 k)))
noncomputable def lPlays_E1 : St := { env := [vu, vu, vu, vu, (vb false), vu, vu, vu, vu, vu, vu, vu, vu, vu, vu, vu, vu, vu, vu, vu, vu, vu, vu, vu, vu, vu, vu, vu, vu, vu, vu, vu, vu, vu, vu, vu, vu, vu, vu, vu, vu, vu, vu, vu, vu, vu, vu, vu, vu, vu, vu, vu, vu, vu, vu, vu, vu, vu, vu, vu, vu, vu, vu, vu, vu, vu, vu, vu, vu, vu, vu, vu, vu, vu, vu, vu, vu, vu, vu, vu, vu, vu, vu, vu, vu, vu, vu, vu, vu, vu, vu, vu, vu, vu, vu, vu, vu, vu, vu, vu, vu, vu, vu, vu, vu, vu, vu, vu, vu, vu, vu, vu, vu, vu, vu, vu, vu, vu, vu, vu, vu, vu, vu, vu, vu, vu, vu, vu, vu, vu, vu, vu, vu, vu, vu, vu, vu, vu, vu, vu, vu, vu, vu, vu, vu, vu, vu, vu, vu, vu, vu, vu, vu, vu, vu, vu, vu, vu, vu, vu, vu, vu, vu, vu, vu, vu, vu, vu, vu, vu, vu, vu, vu, vu, vu, vu, vu, vu, vu, vu, vu, vu, vu, vu, vu, vu, vu, vu, vu, vu, vu, vu, vu, vu, vu], bx := [], np := 0 }
theorem lPlays_c1 (N : MF) {R : Type} (k : V → Bx → Option R) (F : Nat) : (lPlays_K0 N) k F .rt (lPlays_E1) =
    k (vb false) [] := by kernel_rfl
noncomputable def lPlays_m1 : List Bool := [true, false, false, false, false, true, false, false, true, false, false, false, false, false, false, true, false, false, false, false, false, false, false, false, false, false, false, false, false, false, false, false, false, false, false, false, false, false, false, false, false, false, false, false, false, false, false, false, false, false, false, false, false, false, false, false, true, true, true, false, false, false, false, false, false, false, false, false, false, false, false, false, false, false, false, false, false, false, false, false, false, false, false, false, false, false, false, false, false, false, false, false, false, false, false, false, false, false, false, false, false, false, false, false, false, false, false, false, false, false, false, false, false, false, false, false, false, false, false, false, false, false, false, false, false, false, false, false, false, false, false, false, false, false, false, false, false, false, false, false, false, false, false, false, false, false, false, false, false, false, false, false, false, false, false, false, false, false, false, false, false, false, false, false, false, false, false, false, false, false, false, true, true, false, false, false, false, false, false, false, false, false, false, false, false, false, false, false, false, false, false, false, false, false, false]
noncomputable def lPlays_b1 : Code := (cA (cA (cB (cB (cB (cB (cB (cB (cB (cB (cA (cA (cB (cB (cA (cA (cB (cA (cB (cB (cB (cB (cB (cB (cB (bd Try.f4))))))))))))))))))))))))))
noncomputable def lPlays_S1 (room : Int) (acts : List (List C)) (v4 : Int) (v15 : Row) (v16 : Int) (v17 : Row) (v18 : Ents) (v19 : Row) (room20 : Int) (v21 : Int) (v22 : Int) : St := { env := [(vi room), vu, vu, vu, vu, (.t (.w (.ptr 0 0))), vu, vu, (vc (.sl 2 v15)), vu, vu, vu, vu, vu, vu, (.t (.w (.arr 1))), vu, vu, vu, vu, vu, vu, vu, vu, vu, vu, vu, vu, vu, vu, vu, vu, vu, vu, vu, vu, vu, vu, vu, vu, vu, vu, vu, vu, vu, vu, vu, vu, vu, vu, vu, vu, vu, vu, vu, vu, (vc (.sl 4 acts)), (vi ((↑acts.length : Int))), (vi v4), vu, vu, vu, vu, vu, vu, vu, vu, vu, vu, vu, vu, vu, vu, vu, vu, vu, vu, vu, vu, vu, vu, vu, vu, vu, vu, vu, vu, vu, vu, vu, vu, vu, vu, vu, vu, vu, vu, vu, vu, vu, vu, vu, vu, vu, vu, vu, vu, vu, vu, vu, vu, vu, vu, vu, vu, vu, vu, vu, vu, vu, vu, vu, vu, vu, vu, vu, vu, vu, vu, vu, vu, vu, vu, vu, vu, vu, vu, vu, vu, vu, vu, vu, vu, vu, vu, vu, vu, vu, vu, vu, vu, vu, vu, vu, vu, vu, vu, vu, vu, vu, vu, vu, vu, vu, vu, vu, vu, vu, vu, vu, vu, (vi v16), (vi v22), vu, vu, vu, vu, vu, vu, vu, vu, vu, vu, vu, vu, vu, vu, vu, vu, vu, vu, vu, vu, vu, vu], bx := [(some (.cells ⟨[(.int .i64 room20), (.int .i64 v21), .nf, .nf], [(2, (.mp 2)), (3, (.arr 3))], 4⟩)), (some (.arr true (some 9) 1 v17)), (some (.map [Sh.str] false true 2 v18)), (some (.arr true (some 57) 2 v19))], np := 0 }
noncomputable def lPlays_L1 (N : MF) {R : Type} (K : X → St → Option R) (F n : Nat) (room : Int) (acts : List (List C)) (v4 : Int) (v15 : Row) (v16 : Int) (v17 : Row) (v18 : Ents) (v19 : Row) (room20 : Int) (v21 : Int) (v22 : Int) : Option R := loopV (headM lPlays_m1) (exec (lPlays_cf N) F lPlays_b1) (exitK (lPlays_cf N) K) n (lPlays_S1 room acts v4 v15 v16 v17 v18 v19 room20 v21 v22)
noncomputable def lPlays_K1 (N : MF) {R : Type} (K : X → St → Option R) (F n : Nat) : X → St → Option R := (blockK 3 (blockK 1 (seqK (lPlays_cf N) F (cB (cB (cB (cA (cA (cB (cA (cB (cB (cB (cB (cB (cB (cB (bd Try.f4))))))))))))))) (loopK (headM lPlays_m0) (exec (lPlays_cf N) F lPlays_b0) (exitK (lPlays_cf N) K) n))))
noncomputable def lPlays_E2 : St := { env := [vu, vu, vu, vu, (vb false), vu, vu, vu, vu, vu, vu, vu, vu, vu, vu, vu, vu, vu, vu, vu, vu, vu, vu, vu, vu, vu, vu, vu, vu, vu, vu, vu, vu, vu, vu, vu, vu, vu, vu, vu, vu, vu, vu, vu, vu, vu, vu, vu, vu, vu, vu, vu, vu, vu, vu, vu, vu, vu, vu, vu, vu, vu, vu, vu, vu, vu, vu, vu, vu, vu, vu, vu, vu, vu, vu, vu, vu, vu, vu, vu, vu, vu, vu, vu, vu, vu, vu, vu, vu, vu, vu, vu, vu, vu, vu, vu, vu, vu, vu, vu, vu, vu, vu, vu, vu, vu, vu, vu, vu, vu, vu, vu, vu, vu, vu, vu, vu, vu, vu, vu, vu, vu, vu, vu, vu, vu, vu, vu, vu, vu, vu, vu, vu, vu, vu, vu, vu, vu, vu, vu, vu, vu, vu, vu, vu, vu, vu, vu, vu, vu, vu, vu, vu, vu, vu, vu, vu, vu, vu, vu, vu, vu, vu, vu, vu, vu, vu, vu, vu, vu, vu, vu, vu, vu, vu, vu, vu, vu, vu, vu, vu, vu, vu, vu, vu, vu, vu, vu, vu, vu, vu, vu, vu, vu, vu], bx := [], np := 0 }
theorem lPlays_c2 (N : MF) {R : Type} (K : X → St → Option R) (F n : Nat) : (lPlays_K1 N) K F n .rt (lPlays_E2) =
    K .rt (lPlays_E1) := by kernel_rfl
noncomputable def lPlays_E3 (room : Int) (acts : List (List C)) (v4 : Int) (v15 : Row) (v18 : Ents) (v19 : Row) (room20 : Int) (v21 : Int) : St := { env := [(vi room), vu, vu, vu, vu, (.t (.w (.ptr 0 0))), vu, vu, (vc (.sl 2 v15)), vu, vu, vu, vu, vu, vu, vu, vu, vu, vu, vu, vu, vu, vu, vu, vu, vu, vu, vu, vu, vu, vu, vu, vu, vu, vu, vu, vu, vu, vu, vu, vu, vu, vu, vu, vu, vu, vu, vu, vu, vu, vu, vu, vu, vu, vu, vu, (vc (.sl 4 acts)), (vi ((↑acts.length : Int))), (vi v4), vu, vu, vu, vu, vu, vu, vu, vu, vu, vu, vu, vu, vu, vu, vu, vu, vu, vu, vu, vu, vu, vu, vu, vu, vu, vu, vu, vu, vu, vu, vu, vu, vu, vu, vu, vu, vu, vu, vu, vu, vu, vu, vu, vu, vu, vu, vu, vu, vu, vu, vu, vu, vu, vu, vu, vu, vu, vu, vu, vu, vu, vu, vu, vu, vu, vu, vu, vu, vu, vu, vu, vu, vu, vu, vu, vu, vu, vu, vu, vu, vu, vu, vu, vu, vu, vu, vu, vu, vu, vu, vu, vu, vu, vu, vu, vu, vu, vu, vu, vu, vu, vu, vu, vu, vu, vu, vu, vu, vu, vu, vu, vu, vu, vu, vu, vu, vu, vu, vu, vu, vu, vu, vu, vu, vu, vu, vu, vu, vu, vu, vu, vu, vu, vu, vu, vu], bx := [(some (.cells ⟨[(.int .i64 room20), (.int .i64 v21), .nf, .nf], [(2, (.mp 1)), (3, (.arr 2))], 4⟩)), (some (.map [Sh.str] false true 2 v18)), (some (.arr true (some 57) 2 v19))], np := 0 }
theorem lPlays_c3 (N : MF) {R : Type} (K : X → St → Option R) (F n : Nat) (room : Int) (acts : List (List C)) (v4 : Int) (v15 : Row) (v18 : Ents) (v19 : Row) (room20 : Int) (v21 : Int) : (lPlays_K1 N) K F n (.ex 3) (lPlays_E3 room acts v4 v15 v18 v19 room20 v21) =
    (lPlays_L0 N) K F n room acts room20 v21 v19 (IntKind.i64.wrap (v4 + (1 : Int))) v15 v18 := by kernel_rfl
theorem lPlays_r1 (N : MF) {R : Type} (K : X → St → Option R) (F n : Nat) (room : Int) (acts : List (List C)) (v4 : Int) (v15 : Row) (v16 : Int) (v17 : Row) (v18 : Ents) (v19 : Row) (room20 : Int) (v21 : Int) (v22 : Int) : (lPlays_L1 N) K F (n + 1) room acts v4 v15 v16 v17 v18 v19 room20 v21 v22 =
    (bif decide (v22 < v16) then
      (bif decide ((0 : Int) ≤ v22) then
        (getT v17 v22.toNat fun _ =>
          (getT v17 v22.toNat fun z5 =>
            (getT z5 0 fun z6 =>
              (bif shOk [Sh.str] [z6] then
                (bif decide ((0 : Int) ≤ v22) then
                  (getT v15 v22.toNat fun z7 =>
                    (getT z7 0 fun z8 =>
                      (bif shOk [Sh.str] [z8] then
                        (bif !([z6].getD (0 : Nat) C.nf).toStr.toList == ([z8].getD (0 : Nat) C.nf).toStr.toList then
                          K .rt (lPlays_E2)
                        else (bif decide ((0 : Int) ≤ v22) then
                            (getT v17 v22.toNat fun _ =>
                              (getT v17 v22.toNat fun z10 =>
                                (lPlays_L1 N) K F n room acts v4 v15 v16 (List.set v17 v22.toNat (C.str (ByteArray.mk #[(63 : UInt8)]) :: ([] ++ List.drop (1 : Nat) z10))) v18 v19 room20 v21 (IntKind.i64.wrap (v22 + (1 : Int)))))
                          else none))
                      else none)))
                else none)
              else none))))
      else none)
    else K (.ex 3) (lPlays_E3 room acts v4 v15 v18 v19 room20 v21)) := by kernel_rfl
noncomputable def lPlays_E4 (room1 : Int) (v2 : Int) (v3 : List (List C)) (v13 : List (List C)) (v14 : List (List C × List C)) : St := { env := [vu, vu, vu, vu, vu, (.t (.w (.ptr 0 0))), vu, vu, (vc (.sl 2 v13)), vu, vu, vu, vu, vu, vu, vu, vu, vu, vu, vu, vu, vu, vu, vu, vu, vu, vu, vu, vu, vu, vu, vu, vu, vu, vu, vu, vu, vu, vu, vu, vu, vu, vu, vu, vu, vu, vu, vu, vu, vu, vu, vu, vu, vu, vu, vu, vu, vu, vu, vu, vu, vu, vu, vu, vu, vu, vu, vu, vu, vu, vu, vu, vu, vu, vu, vu, vu, vu, vu, vu, vu, vu, vu, vu, vu, vu, vu, vu, vu, vu, vu, vu, vu, vu, vu, vu, vu, vu, vu, vu, vu, vu, vu, vu, vu, vu, vu, vu, vu, vu, vu, vu, vu, vu, vu, vu, vu, vu, vu, vu, vu, vu, vu, vu, vu, vu, vu, vu, vu, vu, vu, vu, vu, vu, vu, vu, vu, vu, vu, vu, vu, vu, vu, vu, vu, vu, vu, vu, vu, vu, vu, vu, vu, vu, vu, vu, vu, vu, vu, vu, vu, vu, vu, vu, vu, vu, vu, vu, vu, vu, vu, vu, vu, vu, vu, vu, vu, vu, vu, vu, vu, vu, vu, vu, vu, vu, vu, vu, vu, vu, vu, vu, vu, vu, vu], bx := [(some (.cells ⟨[(.int .i64 room1), (.int .i64 v2), .nf, .nf], [(2, (.mp 1)), (3, (.arr 2))], 4⟩)), (some (.map [Sh.str] false true 2 v14)), (some (.arr true (some 57) 2 v3))], np := 0 }
theorem lPlays_c4 (N : MF) {R : Type} (k : V → Bx → Option R) (F : Nat) (room1 : Int) (v2 : Int) (v3 : List (List C)) (v13 : List (List C)) (v14 : List (List C × List C)) : (lPlays_K0 N) k F (.ex 0) (lPlays_E4 room1 v2 v3 v13 v14) =
    (bif okM v14 v3 then
      k (vb ((↑v14.length : Int) == (↑v13.length : Int))) []
    else none) := by kernel_rfl
theorem lPlays_r0 (N : MF) {R : Type} (K : X → St → Option R) (F n : Nat) (room : Int) (acts : List (List C)) (room1 : Int) (v2 : Int) (v3 : List (List C)) (v4 : Int) (v13 : List (List C)) (v14 : List (List C × List C)) : (lPlays_L0 N) K F (n + 1) room acts room1 v2 v3 v4 v13 v14 =
    (bif decide (v4 < (↑acts.length : Int)) then
      (bif decide ((0 : Int) ≤ v4) then
        (getT acts v4.toNat fun z1 =>
          (bif (List.take (4 : Nat) z1).length == (4 : Nat) then
            (bif shOk [Sh.int IntKind.i64, Sh.int IntKind.i64, Sh.str, Sh.bool] (List.take (4 : Nat) z1) then
              (bif ((List.take (4 : Nat) z1).getD (0 : Nat) C.nf).toInt == (1 : Int) then
                (bif okM v14 v3 then
                  (bif decide ((0 : Int) ≤ v2 ∧ v2 < (1000000 : Int)) && N.pk room1 v2 v14 v3 ((List.take (4 : Nat) z1).getD (2 : Nat) C.nf).toStr ((List.take (4 : Nat) z1).getD (3 : Nat) C.nf).toBool then
                    (bif okL v13 then
                      (bif okM (N.pe room1 v2 v14 v3 ((List.take (4 : Nat) z1).getD (2 : Nat) C.nf).toStr ((List.take (4 : Nat) z1).getD (3 : Nat) C.nf).toBool) (N.po room1 v2 v14 v3 ((List.take (4 : Nat) z1).getD (2 : Nat) C.nf).toStr ((List.take (4 : Nat) z1).getD (3 : Nat) C.nf).toBool) then
                        (bif okL (N.rp v13 room ((List.take (4 : Nat) z1).getD (2 : Nat) C.nf).toStr ((List.take (4 : Nat) z1).getD (3 : Nat) C.nf).toBool) then
                          (bif !((bif N.gs (N.pe room1 v2 v14 v3 ((List.take (4 : Nat) z1).getD (2 : Nat) C.nf).toStr ((List.take (4 : Nat) z1).getD (3 : Nat) C.nf).toBool) ((List.take (4 : Nat) z1).getD (2 : Nat) C.nf).toStr then (0 : Int) else (19 : Int)) == (0 : Int)) == decide (N.fi (N.rp v13 room ((List.take (4 : Nat) z1).getD (2 : Nat) C.nf).toStr ((List.take (4 : Nat) z1).getD (3 : Nat) C.nf).toBool) ((List.take (4 : Nat) z1).getD (2 : Nat) C.nf).toStr ≥ (0 : Int)) then
                            K .rt (lPlays_E1)
                          else (bif decide (N.fi (N.rp v13 room ((List.take (4 : Nat) z1).getD (2 : Nat) C.nf).toStr ((List.take (4 : Nat) z1).getD (3 : Nat) C.nf).toBool) ((List.take (4 : Nat) z1).getD (2 : Nat) C.nf).toStr ≥ (0 : Int)) then
                              (bif decide ((0 : Int) ≤ N.fi (N.rp v13 room ((List.take (4 : Nat) z1).getD (2 : Nat) C.nf).toStr ((List.take (4 : Nat) z1).getD (3 : Nat) C.nf).toBool) ((List.take (4 : Nat) z1).getD (2 : Nat) C.nf).toStr) then
                                (getT (N.rp v13 room ((List.take (4 : Nat) z1).getD (2 : Nat) C.nf).toStr ((List.take (4 : Nat) z1).getD (3 : Nat) C.nf).toBool) ((N.fi (N.rp v13 room ((List.take (4 : Nat) z1).getD (2 : Nat) C.nf).toStr ((List.take (4 : Nat) z1).getD (3 : Nat) C.nf).toBool) ((List.take (4 : Nat) z1).getD (2 : Nat) C.nf).toStr).toNat) fun z2 =>
                                  (getT (List.drop (1 : Nat) z2) 0 fun z3 =>
                                    (bif shOk [Sh.bool] [z3] then
                                      (bif !N.ge (N.pe room1 v2 v14 v3 ((List.take (4 : Nat) z1).getD (2 : Nat) C.nf).toStr ((List.take (4 : Nat) z1).getD (3 : Nat) C.nf).toBool) ((List.take (4 : Nat) z1).getD (2 : Nat) C.nf).toStr == ([z3].getD (0 : Nat) C.nf).toBool then
                                        K .rt (lPlays_E1)
                                      else (bif decide (N.fi (N.rp v13 room ((List.take (4 : Nat) z1).getD (2 : Nat) C.nf).toStr ((List.take (4 : Nat) z1).getD (3 : Nat) C.nf).toBool) ((List.take (4 : Nat) z1).getD (2 : Nat) C.nf).toStr < (0 : Int)) then
                                          (bif N.ge (N.pe room1 v2 v14 v3 ((List.take (4 : Nat) z1).getD (2 : Nat) C.nf).toStr ((List.take (4 : Nat) z1).getD (3 : Nat) C.nf).toBool) ((List.take (4 : Nat) z1).getD (2 : Nat) C.nf).toStr then
                                            K .rt (lPlays_E1)
                                          else (bif (bif N.gs (N.pe room1 v2 v14 v3 ((List.take (4 : Nat) z1).getD (2 : Nat) C.nf).toStr ((List.take (4 : Nat) z1).getD (3 : Nat) C.nf).toBool) ((List.take (4 : Nat) z1).getD (2 : Nat) C.nf).toStr then (0 : Int) else (19 : Int)) != (19 : Int) then
                                              K .rt (lPlays_E1)
                                            else (bif okM (N.pe room1 v2 v14 v3 ((List.take (4 : Nat) z1).getD (2 : Nat) C.nf).toStr ((List.take (4 : Nat) z1).getD (3 : Nat) C.nf).toBool) (N.po room1 v2 v14 v3 ((List.take (4 : Nat) z1).getD (2 : Nat) C.nf).toStr ((List.take (4 : Nat) z1).getD (3 : Nat) C.nf).toBool) then
                                                (bif (↑(List.length (N.pe room1 v2 v14 v3 ((List.take (4 : Nat) z1).getD (2 : Nat) C.nf).toStr ((List.take (4 : Nat) z1).getD (3 : Nat) C.nf).toBool)) : Int) != (↑(List.length (N.rp v13 room ((List.take (4 : Nat) z1).getD (2 : Nat) C.nf).toStr ((List.take (4 : Nat) z1).getD (3 : Nat) C.nf).toBool)) : Int) then
                                                  K .rt (lPlays_E1)
                                                else (bif okM (N.pe room1 v2 v14 v3 ((List.take (4 : Nat) z1).getD (2 : Nat) C.nf).toStr ((List.take (4 : Nat) z1).getD (3 : Nat) C.nf).toBool) (N.po room1 v2 v14 v3 ((List.take (4 : Nat) z1).getD (2 : Nat) C.nf).toStr ((List.take (4 : Nat) z1).getD (3 : Nat) C.nf).toBool) then
                                                    (bif (↑(List.length (N.ks (N.po room1 v2 v14 v3 ((List.take (4 : Nat) z1).getD (2 : Nat) C.nf).toStr ((List.take (4 : Nat) z1).getD (3 : Nat) C.nf).toBool))) : Int) != (↑(List.length (N.rp v13 room ((List.take (4 : Nat) z1).getD (2 : Nat) C.nf).toStr ((List.take (4 : Nat) z1).getD (3 : Nat) C.nf).toBool)) : Int) then
                                                      K .rt (lPlays_E1)
                                                    else (lPlays_L1 N) ((lPlays_K1 N) K F n) F F room acts v4 (N.rp v13 room ((List.take (4 : Nat) z1).getD (2 : Nat) C.nf).toStr ((List.take (4 : Nat) z1).getD (3 : Nat) C.nf).toBool) ((↑(List.length (N.ks (N.po room1 v2 v14 v3 ((List.take (4 : Nat) z1).getD (2 : Nat) C.nf).toStr ((List.take (4 : Nat) z1).getD (3 : Nat) C.nf).toBool))) : Int)) (N.ks (N.po room1 v2 v14 v3 ((List.take (4 : Nat) z1).getD (2 : Nat) C.nf).toStr ((List.take (4 : Nat) z1).getD (3 : Nat) C.nf).toBool)) (N.pe room1 v2 v14 v3 ((List.take (4 : Nat) z1).getD (2 : Nat) C.nf).toStr ((List.take (4 : Nat) z1).getD (3 : Nat) C.nf).toBool) (N.po room1 v2 v14 v3 ((List.take (4 : Nat) z1).getD (2 : Nat) C.nf).toStr ((List.take (4 : Nat) z1).getD (3 : Nat) C.nf).toBool) room1 (v2 + (1 : Int)) 0)
                                                  else none))
                                              else none)))
                                        else (bif okM (N.pe room1 v2 v14 v3 ((List.take (4 : Nat) z1).getD (2 : Nat) C.nf).toStr ((List.take (4 : Nat) z1).getD (3 : Nat) C.nf).toBool) (N.po room1 v2 v14 v3 ((List.take (4 : Nat) z1).getD (2 : Nat) C.nf).toStr ((List.take (4 : Nat) z1).getD (3 : Nat) C.nf).toBool) then
                                            (bif (↑(List.length (N.pe room1 v2 v14 v3 ((List.take (4 : Nat) z1).getD (2 : Nat) C.nf).toStr ((List.take (4 : Nat) z1).getD (3 : Nat) C.nf).toBool)) : Int) != (↑(List.length (N.rp v13 room ((List.take (4 : Nat) z1).getD (2 : Nat) C.nf).toStr ((List.take (4 : Nat) z1).getD (3 : Nat) C.nf).toBool)) : Int) then
                                              K .rt (lPlays_E1)
                                            else (bif okM (N.pe room1 v2 v14 v3 ((List.take (4 : Nat) z1).getD (2 : Nat) C.nf).toStr ((List.take (4 : Nat) z1).getD (3 : Nat) C.nf).toBool) (N.po room1 v2 v14 v3 ((List.take (4 : Nat) z1).getD (2 : Nat) C.nf).toStr ((List.take (4 : Nat) z1).getD (3 : Nat) C.nf).toBool) then
                                                (bif (↑(List.length (N.ks (N.po room1 v2 v14 v3 ((List.take (4 : Nat) z1).getD (2 : Nat) C.nf).toStr ((List.take (4 : Nat) z1).getD (3 : Nat) C.nf).toBool))) : Int) != (↑(List.length (N.rp v13 room ((List.take (4 : Nat) z1).getD (2 : Nat) C.nf).toStr ((List.take (4 : Nat) z1).getD (3 : Nat) C.nf).toBool)) : Int) then
                                                  K .rt (lPlays_E1)
                                                else (lPlays_L1 N) ((lPlays_K1 N) K F n) F F room acts v4 (N.rp v13 room ((List.take (4 : Nat) z1).getD (2 : Nat) C.nf).toStr ((List.take (4 : Nat) z1).getD (3 : Nat) C.nf).toBool) ((↑(List.length (N.ks (N.po room1 v2 v14 v3 ((List.take (4 : Nat) z1).getD (2 : Nat) C.nf).toStr ((List.take (4 : Nat) z1).getD (3 : Nat) C.nf).toBool))) : Int)) (N.ks (N.po room1 v2 v14 v3 ((List.take (4 : Nat) z1).getD (2 : Nat) C.nf).toStr ((List.take (4 : Nat) z1).getD (3 : Nat) C.nf).toBool)) (N.pe room1 v2 v14 v3 ((List.take (4 : Nat) z1).getD (2 : Nat) C.nf).toStr ((List.take (4 : Nat) z1).getD (3 : Nat) C.nf).toBool) (N.po room1 v2 v14 v3 ((List.take (4 : Nat) z1).getD (2 : Nat) C.nf).toStr ((List.take (4 : Nat) z1).getD (3 : Nat) C.nf).toBool) room1 (v2 + (1 : Int)) 0)
                                              else none))
                                          else none)))
                                    else none)))
                              else none)
                            else (bif decide (N.fi (N.rp v13 room ((List.take (4 : Nat) z1).getD (2 : Nat) C.nf).toStr ((List.take (4 : Nat) z1).getD (3 : Nat) C.nf).toBool) ((List.take (4 : Nat) z1).getD (2 : Nat) C.nf).toStr < (0 : Int)) then
                                (bif N.ge (N.pe room1 v2 v14 v3 ((List.take (4 : Nat) z1).getD (2 : Nat) C.nf).toStr ((List.take (4 : Nat) z1).getD (3 : Nat) C.nf).toBool) ((List.take (4 : Nat) z1).getD (2 : Nat) C.nf).toStr then
                                  K .rt (lPlays_E1)
                                else (bif (bif N.gs (N.pe room1 v2 v14 v3 ((List.take (4 : Nat) z1).getD (2 : Nat) C.nf).toStr ((List.take (4 : Nat) z1).getD (3 : Nat) C.nf).toBool) ((List.take (4 : Nat) z1).getD (2 : Nat) C.nf).toStr then (0 : Int) else (19 : Int)) != (19 : Int) then
                                    K .rt (lPlays_E1)
                                  else (bif okM (N.pe room1 v2 v14 v3 ((List.take (4 : Nat) z1).getD (2 : Nat) C.nf).toStr ((List.take (4 : Nat) z1).getD (3 : Nat) C.nf).toBool) (N.po room1 v2 v14 v3 ((List.take (4 : Nat) z1).getD (2 : Nat) C.nf).toStr ((List.take (4 : Nat) z1).getD (3 : Nat) C.nf).toBool) then
                                      (bif (↑(List.length (N.pe room1 v2 v14 v3 ((List.take (4 : Nat) z1).getD (2 : Nat) C.nf).toStr ((List.take (4 : Nat) z1).getD (3 : Nat) C.nf).toBool)) : Int) != (↑(List.length (N.rp v13 room ((List.take (4 : Nat) z1).getD (2 : Nat) C.nf).toStr ((List.take (4 : Nat) z1).getD (3 : Nat) C.nf).toBool)) : Int) then
                                        K .rt (lPlays_E1)
                                      else (bif okM (N.pe room1 v2 v14 v3 ((List.take (4 : Nat) z1).getD (2 : Nat) C.nf).toStr ((List.take (4 : Nat) z1).getD (3 : Nat) C.nf).toBool) (N.po room1 v2 v14 v3 ((List.take (4 : Nat) z1).getD (2 : Nat) C.nf).toStr ((List.take (4 : Nat) z1).getD (3 : Nat) C.nf).toBool) then
                                          (bif (↑(List.length (N.ks (N.po room1 v2 v14 v3 ((List.take (4 : Nat) z1).getD (2 : Nat) C.nf).toStr ((List.take (4 : Nat) z1).getD (3 : Nat) C.nf).toBool))) : Int) != (↑(List.length (N.rp v13 room ((List.take (4 : Nat) z1).getD (2 : Nat) C.nf).toStr ((List.take (4 : Nat) z1).getD (3 : Nat) C.nf).toBool)) : Int) then
                                            K .rt (lPlays_E1)
                                          else (lPlays_L1 N) ((lPlays_K1 N) K F n) F F room acts v4 (N.rp v13 room ((List.take (4 : Nat) z1).getD (2 : Nat) C.nf).toStr ((List.take (4 : Nat) z1).getD (3 : Nat) C.nf).toBool) ((↑(List.length (N.ks (N.po room1 v2 v14 v3 ((List.take (4 : Nat) z1).getD (2 : Nat) C.nf).toStr ((List.take (4 : Nat) z1).getD (3 : Nat) C.nf).toBool))) : Int)) (N.ks (N.po room1 v2 v14 v3 ((List.take (4 : Nat) z1).getD (2 : Nat) C.nf).toStr ((List.take (4 : Nat) z1).getD (3 : Nat) C.nf).toBool)) (N.pe room1 v2 v14 v3 ((List.take (4 : Nat) z1).getD (2 : Nat) C.nf).toStr ((List.take (4 : Nat) z1).getD (3 : Nat) C.nf).toBool) (N.po room1 v2 v14 v3 ((List.take (4 : Nat) z1).getD (2 : Nat) C.nf).toStr ((List.take (4 : Nat) z1).getD (3 : Nat) C.nf).toBool) room1 (v2 + (1 : Int)) 0)
                                        else none))
                                    else none)))
                              else (bif okM (N.pe room1 v2 v14 v3 ((List.take (4 : Nat) z1).getD (2 : Nat) C.nf).toStr ((List.take (4 : Nat) z1).getD (3 : Nat) C.nf).toBool) (N.po room1 v2 v14 v3 ((List.take (4 : Nat) z1).getD (2 : Nat) C.nf).toStr ((List.take (4 : Nat) z1).getD (3 : Nat) C.nf).toBool) then
                                  (bif (↑(List.length (N.pe room1 v2 v14 v3 ((List.take (4 : Nat) z1).getD (2 : Nat) C.nf).toStr ((List.take (4 : Nat) z1).getD (3 : Nat) C.nf).toBool)) : Int) != (↑(List.length (N.rp v13 room ((List.take (4 : Nat) z1).getD (2 : Nat) C.nf).toStr ((List.take (4 : Nat) z1).getD (3 : Nat) C.nf).toBool)) : Int) then
                                    K .rt (lPlays_E1)
                                  else (bif okM (N.pe room1 v2 v14 v3 ((List.take (4 : Nat) z1).getD (2 : Nat) C.nf).toStr ((List.take (4 : Nat) z1).getD (3 : Nat) C.nf).toBool) (N.po room1 v2 v14 v3 ((List.take (4 : Nat) z1).getD (2 : Nat) C.nf).toStr ((List.take (4 : Nat) z1).getD (3 : Nat) C.nf).toBool) then
                                      (bif (↑(List.length (N.ks (N.po room1 v2 v14 v3 ((List.take (4 : Nat) z1).getD (2 : Nat) C.nf).toStr ((List.take (4 : Nat) z1).getD (3 : Nat) C.nf).toBool))) : Int) != (↑(List.length (N.rp v13 room ((List.take (4 : Nat) z1).getD (2 : Nat) C.nf).toStr ((List.take (4 : Nat) z1).getD (3 : Nat) C.nf).toBool)) : Int) then
                                        K .rt (lPlays_E1)
                                      else (lPlays_L1 N) ((lPlays_K1 N) K F n) F F room acts v4 (N.rp v13 room ((List.take (4 : Nat) z1).getD (2 : Nat) C.nf).toStr ((List.take (4 : Nat) z1).getD (3 : Nat) C.nf).toBool) ((↑(List.length (N.ks (N.po room1 v2 v14 v3 ((List.take (4 : Nat) z1).getD (2 : Nat) C.nf).toStr ((List.take (4 : Nat) z1).getD (3 : Nat) C.nf).toBool))) : Int)) (N.ks (N.po room1 v2 v14 v3 ((List.take (4 : Nat) z1).getD (2 : Nat) C.nf).toStr ((List.take (4 : Nat) z1).getD (3 : Nat) C.nf).toBool)) (N.pe room1 v2 v14 v3 ((List.take (4 : Nat) z1).getD (2 : Nat) C.nf).toStr ((List.take (4 : Nat) z1).getD (3 : Nat) C.nf).toBool) (N.po room1 v2 v14 v3 ((List.take (4 : Nat) z1).getD (2 : Nat) C.nf).toStr ((List.take (4 : Nat) z1).getD (3 : Nat) C.nf).toBool) room1 (v2 + (1 : Int)) 0)
                                    else none))
                                else none))))
                        else none)
                      else none)
                    else none)
                  else none)
                else none)
              else (bif ((List.take (4 : Nat) z1).getD (0 : Nat) C.nf).toInt == (3 : Int) then
                  (bif okM v14 v3 then
                    (bif v3.isEmpty then
                      (bif !false == decide ((↑v13.length : Int) > (0 : Int)) then
                        K .rt (lPlays_E1)
                      else (bif decide ((↑v13.length : Int) > (0 : Int)) then
                          (bif IntKind.u64.wrap (↑v13.length : Int) == (0 : Int) then
                            none
                          else (bif decide ((0 : Int) ≤ IntKind.i64.wrap ((IntKind.u64.wrap ((List.take (4 : Nat) z1).getD (1 : Nat) C.nf).toInt).tmod (IntKind.u64.wrap (↑v13.length : Int))) ∧ IntKind.i64.wrap ((IntKind.u64.wrap ((List.take (4 : Nat) z1).getD (1 : Nat) C.nf).toInt).tmod (IntKind.u64.wrap (↑v13.length : Int))) < (↑v13.length : Int)) && okL v13 then
                              (bif okM v14 v3 then
                                (bif okL (v13.eraseIdx (IntKind.i64.wrap ((IntKind.u64.wrap ((List.take (4 : Nat) z1).getD (1 : Nat) C.nf).toInt).tmod (IntKind.u64.wrap (↑v13.length : Int)))).toNat) then
                                  (bif !((bif N.gs v14 ((List.take (4 : Nat) z1).getD (2 : Nat) C.nf).toStr then (0 : Int) else (19 : Int)) == (0 : Int)) == decide (N.fi (v13.eraseIdx (IntKind.i64.wrap ((IntKind.u64.wrap ((List.take (4 : Nat) z1).getD (1 : Nat) C.nf).toInt).tmod (IntKind.u64.wrap (↑v13.length : Int)))).toNat) ((List.take (4 : Nat) z1).getD (2 : Nat) C.nf).toStr ≥ (0 : Int)) then
                                    K .rt (lPlays_E1)
                                  else (bif decide (N.fi (v13.eraseIdx (IntKind.i64.wrap ((IntKind.u64.wrap ((List.take (4 : Nat) z1).getD (1 : Nat) C.nf).toInt).tmod (IntKind.u64.wrap (↑v13.length : Int)))).toNat) ((List.take (4 : Nat) z1).getD (2 : Nat) C.nf).toStr ≥ (0 : Int)) then
                                      (bif decide ((0 : Int) ≤ N.fi (v13.eraseIdx (IntKind.i64.wrap ((IntKind.u64.wrap ((List.take (4 : Nat) z1).getD (1 : Nat) C.nf).toInt).tmod (IntKind.u64.wrap (↑v13.length : Int)))).toNat) ((List.take (4 : Nat) z1).getD (2 : Nat) C.nf).toStr) then
                                        (getT (v13.eraseIdx (IntKind.i64.wrap ((IntKind.u64.wrap ((List.take (4 : Nat) z1).getD (1 : Nat) C.nf).toInt).tmod (IntKind.u64.wrap (↑v13.length : Int)))).toNat) ((N.fi (v13.eraseIdx (IntKind.i64.wrap ((IntKind.u64.wrap ((List.take (4 : Nat) z1).getD (1 : Nat) C.nf).toInt).tmod (IntKind.u64.wrap (↑v13.length : Int)))).toNat) ((List.take (4 : Nat) z1).getD (2 : Nat) C.nf).toStr).toNat) fun z11 =>
                                          (getT (List.drop (1 : Nat) z11) 0 fun z12 =>
                                            (bif shOk [Sh.bool] [z12] then
                                              (bif !N.ge v14 ((List.take (4 : Nat) z1).getD (2 : Nat) C.nf).toStr == ([z12].getD (0 : Nat) C.nf).toBool then
                                                K .rt (lPlays_E1)
                                              else (bif decide (N.fi (v13.eraseIdx (IntKind.i64.wrap ((IntKind.u64.wrap ((List.take (4 : Nat) z1).getD (1 : Nat) C.nf).toInt).tmod (IntKind.u64.wrap (↑v13.length : Int)))).toNat) ((List.take (4 : Nat) z1).getD (2 : Nat) C.nf).toStr < (0 : Int)) then
                                                  (bif N.ge v14 ((List.take (4 : Nat) z1).getD (2 : Nat) C.nf).toStr then
                                                    K .rt (lPlays_E1)
                                                  else (bif (bif N.gs v14 ((List.take (4 : Nat) z1).getD (2 : Nat) C.nf).toStr then (0 : Int) else (19 : Int)) != (19 : Int) then
                                                      K .rt (lPlays_E1)
                                                    else (bif okM v14 v3 then
                                                        (bif (↑v14.length : Int) != (↑(v13.eraseIdx (IntKind.i64.wrap ((IntKind.u64.wrap ((List.take (4 : Nat) z1).getD (1 : Nat) C.nf).toInt).tmod (IntKind.u64.wrap (↑v13.length : Int)))).toNat).length : Int) then
                                                          K .rt (lPlays_E1)
                                                        else (bif okM v14 v3 then
                                                            (bif (↑(List.length (N.ks v3)) : Int) != (↑(v13.eraseIdx (IntKind.i64.wrap ((IntKind.u64.wrap ((List.take (4 : Nat) z1).getD (1 : Nat) C.nf).toInt).tmod (IntKind.u64.wrap (↑v13.length : Int)))).toNat).length : Int) then
                                                              K .rt (lPlays_E1)
                                                            else (lPlays_L1 N) ((lPlays_K1 N) K F n) F F room acts v4 (v13.eraseIdx (IntKind.i64.wrap ((IntKind.u64.wrap ((List.take (4 : Nat) z1).getD (1 : Nat) C.nf).toInt).tmod (IntKind.u64.wrap (↑v13.length : Int)))).toNat) ((↑(List.length (N.ks v3)) : Int)) (N.ks v3) v14 v3 room1 v2 0)
                                                          else none))
                                                      else none)))
                                                else (bif okM v14 v3 then
                                                    (bif (↑v14.length : Int) != (↑(v13.eraseIdx (IntKind.i64.wrap ((IntKind.u64.wrap ((List.take (4 : Nat) z1).getD (1 : Nat) C.nf).toInt).tmod (IntKind.u64.wrap (↑v13.length : Int)))).toNat).length : Int) then
                                                      K .rt (lPlays_E1)
                                                    else (bif okM v14 v3 then
                                                        (bif (↑(List.length (N.ks v3)) : Int) != (↑(v13.eraseIdx (IntKind.i64.wrap ((IntKind.u64.wrap ((List.take (4 : Nat) z1).getD (1 : Nat) C.nf).toInt).tmod (IntKind.u64.wrap (↑v13.length : Int)))).toNat).length : Int) then
                                                          K .rt (lPlays_E1)
                                                        else (lPlays_L1 N) ((lPlays_K1 N) K F n) F F room acts v4 (v13.eraseIdx (IntKind.i64.wrap ((IntKind.u64.wrap ((List.take (4 : Nat) z1).getD (1 : Nat) C.nf).toInt).tmod (IntKind.u64.wrap (↑v13.length : Int)))).toNat) ((↑(List.length (N.ks v3)) : Int)) (N.ks v3) v14 v3 room1 v2 0)
                                                      else none))
                                                  else none)))
                                            else none)))
                                      else none)
                                    else (bif decide (N.fi (v13.eraseIdx (IntKind.i64.wrap ((IntKind.u64.wrap ((List.take (4 : Nat) z1).getD (1 : Nat) C.nf).toInt).tmod (IntKind.u64.wrap (↑v13.length : Int)))).toNat) ((List.take (4 : Nat) z1).getD (2 : Nat) C.nf).toStr < (0 : Int)) then
                                        (bif N.ge v14 ((List.take (4 : Nat) z1).getD (2 : Nat) C.nf).toStr then
                                          K .rt (lPlays_E1)
                                        else (bif (bif N.gs v14 ((List.take (4 : Nat) z1).getD (2 : Nat) C.nf).toStr then (0 : Int) else (19 : Int)) != (19 : Int) then
                                            K .rt (lPlays_E1)
                                          else (bif okM v14 v3 then
                                              (bif (↑v14.length : Int) != (↑(v13.eraseIdx (IntKind.i64.wrap ((IntKind.u64.wrap ((List.take (4 : Nat) z1).getD (1 : Nat) C.nf).toInt).tmod (IntKind.u64.wrap (↑v13.length : Int)))).toNat).length : Int) then
                                                K .rt (lPlays_E1)
                                              else (bif okM v14 v3 then
                                                  (bif (↑(List.length (N.ks v3)) : Int) != (↑(v13.eraseIdx (IntKind.i64.wrap ((IntKind.u64.wrap ((List.take (4 : Nat) z1).getD (1 : Nat) C.nf).toInt).tmod (IntKind.u64.wrap (↑v13.length : Int)))).toNat).length : Int) then
                                                    K .rt (lPlays_E1)
                                                  else (lPlays_L1 N) ((lPlays_K1 N) K F n) F F room acts v4 (v13.eraseIdx (IntKind.i64.wrap ((IntKind.u64.wrap ((List.take (4 : Nat) z1).getD (1 : Nat) C.nf).toInt).tmod (IntKind.u64.wrap (↑v13.length : Int)))).toNat) ((↑(List.length (N.ks v3)) : Int)) (N.ks v3) v14 v3 room1 v2 0)
                                                else none))
                                            else none)))
                                      else (bif okM v14 v3 then
                                          (bif (↑v14.length : Int) != (↑(v13.eraseIdx (IntKind.i64.wrap ((IntKind.u64.wrap ((List.take (4 : Nat) z1).getD (1 : Nat) C.nf).toInt).tmod (IntKind.u64.wrap (↑v13.length : Int)))).toNat).length : Int) then
                                            K .rt (lPlays_E1)
                                          else (bif okM v14 v3 then
                                              (bif (↑(List.length (N.ks v3)) : Int) != (↑(v13.eraseIdx (IntKind.i64.wrap ((IntKind.u64.wrap ((List.take (4 : Nat) z1).getD (1 : Nat) C.nf).toInt).tmod (IntKind.u64.wrap (↑v13.length : Int)))).toNat).length : Int) then
                                                K .rt (lPlays_E1)
                                              else (lPlays_L1 N) ((lPlays_K1 N) K F n) F F room acts v4 (v13.eraseIdx (IntKind.i64.wrap ((IntKind.u64.wrap ((List.take (4 : Nat) z1).getD (1 : Nat) C.nf).toInt).tmod (IntKind.u64.wrap (↑v13.length : Int)))).toNat) ((↑(List.length (N.ks v3)) : Int)) (N.ks v3) v14 v3 room1 v2 0)
                                            else none))
                                        else none))))
                                else none)
                              else none)
                            else none))
                        else (bif okM v14 v3 then
                            (bif okL v13 then
                              (bif !((bif N.gs v14 ((List.take (4 : Nat) z1).getD (2 : Nat) C.nf).toStr then (0 : Int) else (19 : Int)) == (0 : Int)) == decide (N.fi v13 ((List.take (4 : Nat) z1).getD (2 : Nat) C.nf).toStr ≥ (0 : Int)) then
                                K .rt (lPlays_E1)
                              else (bif decide (N.fi v13 ((List.take (4 : Nat) z1).getD (2 : Nat) C.nf).toStr ≥ (0 : Int)) then
                                  (bif decide ((0 : Int) ≤ N.fi v13 ((List.take (4 : Nat) z1).getD (2 : Nat) C.nf).toStr) then
                                    (getT v13 ((N.fi v13 ((List.take (4 : Nat) z1).getD (2 : Nat) C.nf).toStr).toNat) fun z13 =>
                                      (getT (List.drop (1 : Nat) z13) 0 fun z14 =>
                                        (bif shOk [Sh.bool] [z14] then
                                          (bif !N.ge v14 ((List.take (4 : Nat) z1).getD (2 : Nat) C.nf).toStr == ([z14].getD (0 : Nat) C.nf).toBool then
                                            K .rt (lPlays_E1)
                                          else (bif decide (N.fi v13 ((List.take (4 : Nat) z1).getD (2 : Nat) C.nf).toStr < (0 : Int)) then
                                              (bif N.ge v14 ((List.take (4 : Nat) z1).getD (2 : Nat) C.nf).toStr then
                                                K .rt (lPlays_E1)
                                              else (bif (bif N.gs v14 ((List.take (4 : Nat) z1).getD (2 : Nat) C.nf).toStr then (0 : Int) else (19 : Int)) != (19 : Int) then
                                                  K .rt (lPlays_E1)
                                                else (bif okM v14 v3 then
                                                    (bif (↑v14.length : Int) != (↑v13.length : Int) then
                                                      K .rt (lPlays_E1)
                                                    else (bif okM v14 v3 then
                                                        (bif (↑(List.length (N.ks v3)) : Int) != (↑v13.length : Int) then
                                                          K .rt (lPlays_E1)
                                                        else (lPlays_L1 N) ((lPlays_K1 N) K F n) F F room acts v4 v13 ((↑(List.length (N.ks v3)) : Int)) (N.ks v3) v14 v3 room1 v2 0)
                                                      else none))
                                                  else none)))
                                            else (bif okM v14 v3 then
                                                (bif (↑v14.length : Int) != (↑v13.length : Int) then
                                                  K .rt (lPlays_E1)
                                                else (bif okM v14 v3 then
                                                    (bif (↑(List.length (N.ks v3)) : Int) != (↑v13.length : Int) then
                                                      K .rt (lPlays_E1)
                                                    else (lPlays_L1 N) ((lPlays_K1 N) K F n) F F room acts v4 v13 ((↑(List.length (N.ks v3)) : Int)) (N.ks v3) v14 v3 room1 v2 0)
                                                  else none))
                                              else none)))
                                        else none)))
                                  else none)
                                else (bif decide (N.fi v13 ((List.take (4 : Nat) z1).getD (2 : Nat) C.nf).toStr < (0 : Int)) then
                                    (bif N.ge v14 ((List.take (4 : Nat) z1).getD (2 : Nat) C.nf).toStr then
                                      K .rt (lPlays_E1)
                                    else (bif (bif N.gs v14 ((List.take (4 : Nat) z1).getD (2 : Nat) C.nf).toStr then (0 : Int) else (19 : Int)) != (19 : Int) then
                                        K .rt (lPlays_E1)
                                      else (bif okM v14 v3 then
                                          (bif (↑v14.length : Int) != (↑v13.length : Int) then
                                            K .rt (lPlays_E1)
                                          else (bif okM v14 v3 then
                                              (bif (↑(List.length (N.ks v3)) : Int) != (↑v13.length : Int) then
                                                K .rt (lPlays_E1)
                                              else (lPlays_L1 N) ((lPlays_K1 N) K F n) F F room acts v4 v13 ((↑(List.length (N.ks v3)) : Int)) (N.ks v3) v14 v3 room1 v2 0)
                                            else none))
                                        else none)))
                                  else (bif okM v14 v3 then
                                      (bif (↑v14.length : Int) != (↑v13.length : Int) then
                                        K .rt (lPlays_E1)
                                      else (bif okM v14 v3 then
                                          (bif (↑(List.length (N.ks v3)) : Int) != (↑v13.length : Int) then
                                            K .rt (lPlays_E1)
                                          else (lPlays_L1 N) ((lPlays_K1 N) K F n) F F room acts v4 v13 ((↑(List.length (N.ks v3)) : Int)) (N.ks v3) v14 v3 room1 v2 0)
                                        else none))
                                    else none))))
                            else none)
                          else none)))
                    else (bif !true == decide ((↑v13.length : Int) > (0 : Int)) then
                        K .rt (lPlays_E1)
                      else (bif decide ((↑v13.length : Int) > (0 : Int)) then
                          (bif IntKind.u64.wrap (↑v13.length : Int) == (0 : Int) then
                            none
                          else (bif decide ((0 : Int) ≤ IntKind.i64.wrap ((IntKind.u64.wrap ((List.take (4 : Nat) z1).getD (1 : Nat) C.nf).toInt).tmod (IntKind.u64.wrap (↑v13.length : Int))) ∧ IntKind.i64.wrap ((IntKind.u64.wrap ((List.take (4 : Nat) z1).getD (1 : Nat) C.nf).toInt).tmod (IntKind.u64.wrap (↑v13.length : Int))) < (↑v13.length : Int)) && okL v13 then
                              (bif okM (mapDel [C.str (N.ki v3 (N.di ((List.take (4 : Nat) z1).getD (1 : Nat) C.nf).toInt v3.length))] v14) (v3.eraseIdx (N.di ((List.take (4 : Nat) z1).getD (1 : Nat) C.nf).toInt v3.length)) then
                                (bif okL (v13.eraseIdx (IntKind.i64.wrap ((IntKind.u64.wrap ((List.take (4 : Nat) z1).getD (1 : Nat) C.nf).toInt).tmod (IntKind.u64.wrap (↑v13.length : Int)))).toNat) then
                                  (bif !((bif N.gs (mapDel [C.str (N.ki v3 (N.di ((List.take (4 : Nat) z1).getD (1 : Nat) C.nf).toInt v3.length))] v14) ((List.take (4 : Nat) z1).getD (2 : Nat) C.nf).toStr then (0 : Int) else (19 : Int)) == (0 : Int)) == decide (N.fi (v13.eraseIdx (IntKind.i64.wrap ((IntKind.u64.wrap ((List.take (4 : Nat) z1).getD (1 : Nat) C.nf).toInt).tmod (IntKind.u64.wrap (↑v13.length : Int)))).toNat) ((List.take (4 : Nat) z1).getD (2 : Nat) C.nf).toStr ≥ (0 : Int)) then
                                    K .rt (lPlays_E1)
                                  else (bif decide (N.fi (v13.eraseIdx (IntKind.i64.wrap ((IntKind.u64.wrap ((List.take (4 : Nat) z1).getD (1 : Nat) C.nf).toInt).tmod (IntKind.u64.wrap (↑v13.length : Int)))).toNat) ((List.take (4 : Nat) z1).getD (2 : Nat) C.nf).toStr ≥ (0 : Int)) then
                                      (bif decide ((0 : Int) ≤ N.fi (v13.eraseIdx (IntKind.i64.wrap ((IntKind.u64.wrap ((List.take (4 : Nat) z1).getD (1 : Nat) C.nf).toInt).tmod (IntKind.u64.wrap (↑v13.length : Int)))).toNat) ((List.take (4 : Nat) z1).getD (2 : Nat) C.nf).toStr) then
                                        (getT (v13.eraseIdx (IntKind.i64.wrap ((IntKind.u64.wrap ((List.take (4 : Nat) z1).getD (1 : Nat) C.nf).toInt).tmod (IntKind.u64.wrap (↑v13.length : Int)))).toNat) ((N.fi (v13.eraseIdx (IntKind.i64.wrap ((IntKind.u64.wrap ((List.take (4 : Nat) z1).getD (1 : Nat) C.nf).toInt).tmod (IntKind.u64.wrap (↑v13.length : Int)))).toNat) ((List.take (4 : Nat) z1).getD (2 : Nat) C.nf).toStr).toNat) fun z15 =>
                                          (getT (List.drop (1 : Nat) z15) 0 fun z16 =>
                                            (bif shOk [Sh.bool] [z16] then
                                              (bif !N.ge (mapDel [C.str (N.ki v3 (N.di ((List.take (4 : Nat) z1).getD (1 : Nat) C.nf).toInt v3.length))] v14) ((List.take (4 : Nat) z1).getD (2 : Nat) C.nf).toStr == ([z16].getD (0 : Nat) C.nf).toBool then
                                                K .rt (lPlays_E1)
                                              else (bif decide (N.fi (v13.eraseIdx (IntKind.i64.wrap ((IntKind.u64.wrap ((List.take (4 : Nat) z1).getD (1 : Nat) C.nf).toInt).tmod (IntKind.u64.wrap (↑v13.length : Int)))).toNat) ((List.take (4 : Nat) z1).getD (2 : Nat) C.nf).toStr < (0 : Int)) then
                                                  (bif N.ge (mapDel [C.str (N.ki v3 (N.di ((List.take (4 : Nat) z1).getD (1 : Nat) C.nf).toInt v3.length))] v14) ((List.take (4 : Nat) z1).getD (2 : Nat) C.nf).toStr then
                                                    K .rt (lPlays_E1)
                                                  else (bif (bif N.gs (mapDel [C.str (N.ki v3 (N.di ((List.take (4 : Nat) z1).getD (1 : Nat) C.nf).toInt v3.length))] v14) ((List.take (4 : Nat) z1).getD (2 : Nat) C.nf).toStr then (0 : Int) else (19 : Int)) != (19 : Int) then
                                                      K .rt (lPlays_E1)
                                                    else (bif okM (mapDel [C.str (N.ki v3 (N.di ((List.take (4 : Nat) z1).getD (1 : Nat) C.nf).toInt v3.length))] v14) (v3.eraseIdx (N.di ((List.take (4 : Nat) z1).getD (1 : Nat) C.nf).toInt v3.length)) then
                                                        (bif (↑(mapDel [C.str (N.ki v3 (N.di ((List.take (4 : Nat) z1).getD (1 : Nat) C.nf).toInt v3.length))] v14).length : Int) != (↑(v13.eraseIdx (IntKind.i64.wrap ((IntKind.u64.wrap ((List.take (4 : Nat) z1).getD (1 : Nat) C.nf).toInt).tmod (IntKind.u64.wrap (↑v13.length : Int)))).toNat).length : Int) then
                                                          K .rt (lPlays_E1)
                                                        else (bif okM (mapDel [C.str (N.ki v3 (N.di ((List.take (4 : Nat) z1).getD (1 : Nat) C.nf).toInt v3.length))] v14) (v3.eraseIdx (N.di ((List.take (4 : Nat) z1).getD (1 : Nat) C.nf).toInt v3.length)) then
                                                            (bif (↑(List.length (N.ks (v3.eraseIdx (N.di ((List.take (4 : Nat) z1).getD (1 : Nat) C.nf).toInt v3.length)))) : Int) != (↑(v13.eraseIdx (IntKind.i64.wrap ((IntKind.u64.wrap ((List.take (4 : Nat) z1).getD (1 : Nat) C.nf).toInt).tmod (IntKind.u64.wrap (↑v13.length : Int)))).toNat).length : Int) then
                                                              K .rt (lPlays_E1)
                                                            else (lPlays_L1 N) ((lPlays_K1 N) K F n) F F room acts v4 (v13.eraseIdx (IntKind.i64.wrap ((IntKind.u64.wrap ((List.take (4 : Nat) z1).getD (1 : Nat) C.nf).toInt).tmod (IntKind.u64.wrap (↑v13.length : Int)))).toNat) ((↑(List.length (N.ks (v3.eraseIdx (N.di ((List.take (4 : Nat) z1).getD (1 : Nat) C.nf).toInt v3.length)))) : Int)) (N.ks (v3.eraseIdx (N.di ((List.take (4 : Nat) z1).getD (1 : Nat) C.nf).toInt v3.length))) (mapDel [C.str (N.ki v3 (N.di ((List.take (4 : Nat) z1).getD (1 : Nat) C.nf).toInt v3.length))] v14) (v3.eraseIdx (N.di ((List.take (4 : Nat) z1).getD (1 : Nat) C.nf).toInt v3.length)) room1 v2 0)
                                                          else none))
                                                      else none)))
                                                else (bif okM (mapDel [C.str (N.ki v3 (N.di ((List.take (4 : Nat) z1).getD (1 : Nat) C.nf).toInt v3.length))] v14) (v3.eraseIdx (N.di ((List.take (4 : Nat) z1).getD (1 : Nat) C.nf).toInt v3.length)) then
                                                    (bif (↑(mapDel [C.str (N.ki v3 (N.di ((List.take (4 : Nat) z1).getD (1 : Nat) C.nf).toInt v3.length))] v14).length : Int) != (↑(v13.eraseIdx (IntKind.i64.wrap ((IntKind.u64.wrap ((List.take (4 : Nat) z1).getD (1 : Nat) C.nf).toInt).tmod (IntKind.u64.wrap (↑v13.length : Int)))).toNat).length : Int) then
                                                      K .rt (lPlays_E1)
                                                    else (bif okM (mapDel [C.str (N.ki v3 (N.di ((List.take (4 : Nat) z1).getD (1 : Nat) C.nf).toInt v3.length))] v14) (v3.eraseIdx (N.di ((List.take (4 : Nat) z1).getD (1 : Nat) C.nf).toInt v3.length)) then
                                                        (bif (↑(List.length (N.ks (v3.eraseIdx (N.di ((List.take (4 : Nat) z1).getD (1 : Nat) C.nf).toInt v3.length)))) : Int) != (↑(v13.eraseIdx (IntKind.i64.wrap ((IntKind.u64.wrap ((List.take (4 : Nat) z1).getD (1 : Nat) C.nf).toInt).tmod (IntKind.u64.wrap (↑v13.length : Int)))).toNat).length : Int) then
                                                          K .rt (lPlays_E1)
                                                        else (lPlays_L1 N) ((lPlays_K1 N) K F n) F F room acts v4 (v13.eraseIdx (IntKind.i64.wrap ((IntKind.u64.wrap ((List.take (4 : Nat) z1).getD (1 : Nat) C.nf).toInt).tmod (IntKind.u64.wrap (↑v13.length : Int)))).toNat) ((↑(List.length (N.ks (v3.eraseIdx (N.di ((List.take (4 : Nat) z1).getD (1 : Nat) C.nf).toInt v3.length)))) : Int)) (N.ks (v3.eraseIdx (N.di ((List.take (4 : Nat) z1).getD (1 : Nat) C.nf).toInt v3.length))) (mapDel [C.str (N.ki v3 (N.di ((List.take (4 : Nat) z1).getD (1 : Nat) C.nf).toInt v3.length))] v14) (v3.eraseIdx (N.di ((List.take (4 : Nat) z1).getD (1 : Nat) C.nf).toInt v3.length)) room1 v2 0)
                                                      else none))
                                                  else none)))
                                            else none)))
                                      else none)
                                    else (bif decide (N.fi (v13.eraseIdx (IntKind.i64.wrap ((IntKind.u64.wrap ((List.take (4 : Nat) z1).getD (1 : Nat) C.nf).toInt).tmod (IntKind.u64.wrap (↑v13.length : Int)))).toNat) ((List.take (4 : Nat) z1).getD (2 : Nat) C.nf).toStr < (0 : Int)) then
                                        (bif N.ge (mapDel [C.str (N.ki v3 (N.di ((List.take (4 : Nat) z1).getD (1 : Nat) C.nf).toInt v3.length))] v14) ((List.take (4 : Nat) z1).getD (2 : Nat) C.nf).toStr then
                                          K .rt (lPlays_E1)
                                        else (bif (bif N.gs (mapDel [C.str (N.ki v3 (N.di ((List.take (4 : Nat) z1).getD (1 : Nat) C.nf).toInt v3.length))] v14) ((List.take (4 : Nat) z1).getD (2 : Nat) C.nf).toStr then (0 : Int) else (19 : Int)) != (19 : Int) then
                                            K .rt (lPlays_E1)
                                          else (bif okM (mapDel [C.str (N.ki v3 (N.di ((List.take (4 : Nat) z1).getD (1 : Nat) C.nf).toInt v3.length))] v14) (v3.eraseIdx (N.di ((List.take (4 : Nat) z1).getD (1 : Nat) C.nf).toInt v3.length)) then
                                              (bif (↑(mapDel [C.str (N.ki v3 (N.di ((List.take (4 : Nat) z1).getD (1 : Nat) C.nf).toInt v3.length))] v14).length : Int) != (↑(v13.eraseIdx (IntKind.i64.wrap ((IntKind.u64.wrap ((List.take (4 : Nat) z1).getD (1 : Nat) C.nf).toInt).tmod (IntKind.u64.wrap (↑v13.length : Int)))).toNat).length : Int) then
                                                K .rt (lPlays_E1)
                                              else (bif okM (mapDel [C.str (N.ki v3 (N.di ((List.take (4 : Nat) z1).getD (1 : Nat) C.nf).toInt v3.length))] v14) (v3.eraseIdx (N.di ((List.take (4 : Nat) z1).getD (1 : Nat) C.nf).toInt v3.length)) then
                                                  (bif (↑(List.length (N.ks (v3.eraseIdx (N.di ((List.take (4 : Nat) z1).getD (1 : Nat) C.nf).toInt v3.length)))) : Int) != (↑(v13.eraseIdx (IntKind.i64.wrap ((IntKind.u64.wrap ((List.take (4 : Nat) z1).getD (1 : Nat) C.nf).toInt).tmod (IntKind.u64.wrap (↑v13.length : Int)))).toNat).length : Int) then
                                                    K .rt (lPlays_E1)
                                                  else (lPlays_L1 N) ((lPlays_K1 N) K F n) F F room acts v4 (v13.eraseIdx (IntKind.i64.wrap ((IntKind.u64.wrap ((List.take (4 : Nat) z1).getD (1 : Nat) C.nf).toInt).tmod (IntKind.u64.wrap (↑v13.length : Int)))).toNat) ((↑(List.length (N.ks (v3.eraseIdx (N.di ((List.take (4 : Nat) z1).getD (1 : Nat) C.nf).toInt v3.length)))) : Int)) (N.ks (v3.eraseIdx (N.di ((List.take (4 : Nat) z1).getD (1 : Nat) C.nf).toInt v3.length))) (mapDel [C.str (N.ki v3 (N.di ((List.take (4 : Nat) z1).getD (1 : Nat) C.nf).toInt v3.length))] v14) (v3.eraseIdx (N.di ((List.take (4 : Nat) z1).getD (1 : Nat) C.nf).toInt v3.length)) room1 v2 0)
                                                else none))
                                            else none)))
                                      else (bif okM (mapDel [C.str (N.ki v3 (N.di ((List.take (4 : Nat) z1).getD (1 : Nat) C.nf).toInt v3.length))] v14) (v3.eraseIdx (N.di ((List.take (4 : Nat) z1).getD (1 : Nat) C.nf).toInt v3.length)) then
                                          (bif (↑(mapDel [C.str (N.ki v3 (N.di ((List.take (4 : Nat) z1).getD (1 : Nat) C.nf).toInt v3.length))] v14).length : Int) != (↑(v13.eraseIdx (IntKind.i64.wrap ((IntKind.u64.wrap ((List.take (4 : Nat) z1).getD (1 : Nat) C.nf).toInt).tmod (IntKind.u64.wrap (↑v13.length : Int)))).toNat).length : Int) then
                                            K .rt (lPlays_E1)
                                          else (bif okM (mapDel [C.str (N.ki v3 (N.di ((List.take (4 : Nat) z1).getD (1 : Nat) C.nf).toInt v3.length))] v14) (v3.eraseIdx (N.di ((List.take (4 : Nat) z1).getD (1 : Nat) C.nf).toInt v3.length)) then
                                              (bif (↑(List.length (N.ks (v3.eraseIdx (N.di ((List.take (4 : Nat) z1).getD (1 : Nat) C.nf).toInt v3.length)))) : Int) != (↑(v13.eraseIdx (IntKind.i64.wrap ((IntKind.u64.wrap ((List.take (4 : Nat) z1).getD (1 : Nat) C.nf).toInt).tmod (IntKind.u64.wrap (↑v13.length : Int)))).toNat).length : Int) then
                                                K .rt (lPlays_E1)
                                              else (lPlays_L1 N) ((lPlays_K1 N) K F n) F F room acts v4 (v13.eraseIdx (IntKind.i64.wrap ((IntKind.u64.wrap ((List.take (4 : Nat) z1).getD (1 : Nat) C.nf).toInt).tmod (IntKind.u64.wrap (↑v13.length : Int)))).toNat) ((↑(List.length (N.ks (v3.eraseIdx (N.di ((List.take (4 : Nat) z1).getD (1 : Nat) C.nf).toInt v3.length)))) : Int)) (N.ks (v3.eraseIdx (N.di ((List.take (4 : Nat) z1).getD (1 : Nat) C.nf).toInt v3.length))) (mapDel [C.str (N.ki v3 (N.di ((List.take (4 : Nat) z1).getD (1 : Nat) C.nf).toInt v3.length))] v14) (v3.eraseIdx (N.di ((List.take (4 : Nat) z1).getD (1 : Nat) C.nf).toInt v3.length)) room1 v2 0)
                                            else none))
                                        else none))))
                                else none)
                              else none)
                            else none))
                        else (bif okM (mapDel [C.str (N.ki v3 (N.di ((List.take (4 : Nat) z1).getD (1 : Nat) C.nf).toInt v3.length))] v14) (v3.eraseIdx (N.di ((List.take (4 : Nat) z1).getD (1 : Nat) C.nf).toInt v3.length)) then
                            (bif okL v13 then
                              (bif !((bif N.gs (mapDel [C.str (N.ki v3 (N.di ((List.take (4 : Nat) z1).getD (1 : Nat) C.nf).toInt v3.length))] v14) ((List.take (4 : Nat) z1).getD (2 : Nat) C.nf).toStr then (0 : Int) else (19 : Int)) == (0 : Int)) == decide (N.fi v13 ((List.take (4 : Nat) z1).getD (2 : Nat) C.nf).toStr ≥ (0 : Int)) then
                                K .rt (lPlays_E1)
                              else (bif decide (N.fi v13 ((List.take (4 : Nat) z1).getD (2 : Nat) C.nf).toStr ≥ (0 : Int)) then
                                  (bif decide ((0 : Int) ≤ N.fi v13 ((List.take (4 : Nat) z1).getD (2 : Nat) C.nf).toStr) then
                                    (getT v13 ((N.fi v13 ((List.take (4 : Nat) z1).getD (2 : Nat) C.nf).toStr).toNat) fun z17 =>
                                      (getT (List.drop (1 : Nat) z17) 0 fun z18 =>
                                        (bif shOk [Sh.bool] [z18] then
                                          (bif !N.ge (mapDel [C.str (N.ki v3 (N.di ((List.take (4 : Nat) z1).getD (1 : Nat) C.nf).toInt v3.length))] v14) ((List.take (4 : Nat) z1).getD (2 : Nat) C.nf).toStr == ([z18].getD (0 : Nat) C.nf).toBool then
                                            K .rt (lPlays_E1)
                                          else (bif decide (N.fi v13 ((List.take (4 : Nat) z1).getD (2 : Nat) C.nf).toStr < (0 : Int)) then
                                              (bif N.ge (mapDel [C.str (N.ki v3 (N.di ((List.take (4 : Nat) z1).getD (1 : Nat) C.nf).toInt v3.length))] v14) ((List.take (4 : Nat) z1).getD (2 : Nat) C.nf).toStr then
                                                K .rt (lPlays_E1)
                                              else (bif (bif N.gs (mapDel [C.str (N.ki v3 (N.di ((List.take (4 : Nat) z1).getD (1 : Nat) C.nf).toInt v3.length))] v14) ((List.take (4 : Nat) z1).getD (2 : Nat) C.nf).toStr then (0 : Int) else (19 : Int)) != (19 : Int) then
                                                  K .rt (lPlays_E1)
                                                else (bif okM (mapDel [C.str (N.ki v3 (N.di ((List.take (4 : Nat) z1).getD (1 : Nat) C.nf).toInt v3.length))] v14) (v3.eraseIdx (N.di ((List.take (4 : Nat) z1).getD (1 : Nat) C.nf).toInt v3.length)) then
                                                    (bif (↑(mapDel [C.str (N.ki v3 (N.di ((List.take (4 : Nat) z1).getD (1 : Nat) C.nf).toInt v3.length))] v14).length : Int) != (↑v13.length : Int) then
                                                      K .rt (lPlays_E1)
                                                    else (bif okM (mapDel [C.str (N.ki v3 (N.di ((List.take (4 : Nat) z1).getD (1 : Nat) C.nf).toInt v3.length))] v14) (v3.eraseIdx (N.di ((List.take (4 : Nat) z1).getD (1 : Nat) C.nf).toInt v3.length)) then
                                                        (bif (↑(List.length (N.ks (v3.eraseIdx (N.di ((List.take (4 : Nat) z1).getD (1 : Nat) C.nf).toInt v3.length)))) : Int) != (↑v13.length : Int) then
                                                          K .rt (lPlays_E1)
                                                        else (lPlays_L1 N) ((lPlays_K1 N) K F n) F F room acts v4 v13 ((↑(List.length (N.ks (v3.eraseIdx (N.di ((List.take (4 : Nat) z1).getD (1 : Nat) C.nf).toInt v3.length)))) : Int)) (N.ks (v3.eraseIdx (N.di ((List.take (4 : Nat) z1).getD (1 : Nat) C.nf).toInt v3.length))) (mapDel [C.str (N.ki v3 (N.di ((List.take (4 : Nat) z1).getD (1 : Nat) C.nf).toInt v3.length))] v14) (v3.eraseIdx (N.di ((List.take (4 : Nat) z1).getD (1 : Nat) C.nf).toInt v3.length)) room1 v2 0)
                                                      else none))
                                                  else none)))
                                            else (bif okM (mapDel [C.str (N.ki v3 (N.di ((List.take (4 : Nat) z1).getD (1 : Nat) C.nf).toInt v3.length))] v14) (v3.eraseIdx (N.di ((List.take (4 : Nat) z1).getD (1 : Nat) C.nf).toInt v3.length)) then
                                                (bif (↑(mapDel [C.str (N.ki v3 (N.di ((List.take (4 : Nat) z1).getD (1 : Nat) C.nf).toInt v3.length))] v14).length : Int) != (↑v13.length : Int) then
                                                  K .rt (lPlays_E1)
                                                else (bif okM (mapDel [C.str (N.ki v3 (N.di ((List.take (4 : Nat) z1).getD (1 : Nat) C.nf).toInt v3.length))] v14) (v3.eraseIdx (N.di ((List.take (4 : Nat) z1).getD (1 : Nat) C.nf).toInt v3.length)) then
                                                    (bif (↑(List.length (N.ks (v3.eraseIdx (N.di ((List.take (4 : Nat) z1).getD (1 : Nat) C.nf).toInt v3.length)))) : Int) != (↑v13.length : Int) then
                                                      K .rt (lPlays_E1)
                                                    else (lPlays_L1 N) ((lPlays_K1 N) K F n) F F room acts v4 v13 ((↑(List.length (N.ks (v3.eraseIdx (N.di ((List.take (4 : Nat) z1).getD (1 : Nat) C.nf).toInt v3.length)))) : Int)) (N.ks (v3.eraseIdx (N.di ((List.take (4 : Nat) z1).getD (1 : Nat) C.nf).toInt v3.length))) (mapDel [C.str (N.ki v3 (N.di ((List.take (4 : Nat) z1).getD (1 : Nat) C.nf).toInt v3.length))] v14) (v3.eraseIdx (N.di ((List.take (4 : Nat) z1).getD (1 : Nat) C.nf).toInt v3.length)) room1 v2 0)
                                                  else none))
                                              else none)))
                                        else none)))
                                  else none)
                                else (bif decide (N.fi v13 ((List.take (4 : Nat) z1).getD (2 : Nat) C.nf).toStr < (0 : Int)) then
                                    (bif N.ge (mapDel [C.str (N.ki v3 (N.di ((List.take (4 : Nat) z1).getD (1 : Nat) C.nf).toInt v3.length))] v14) ((List.take (4 : Nat) z1).getD (2 : Nat) C.nf).toStr then
                                      K .rt (lPlays_E1)
                                    else (bif (bif N.gs (mapDel [C.str (N.ki v3 (N.di ((List.take (4 : Nat) z1).getD (1 : Nat) C.nf).toInt v3.length))] v14) ((List.take (4 : Nat) z1).getD (2 : Nat) C.nf).toStr then (0 : Int) else (19 : Int)) != (19 : Int) then
                                        K .rt (lPlays_E1)
                                      else (bif okM (mapDel [C.str (N.ki v3 (N.di ((List.take (4 : Nat) z1).getD (1 : Nat) C.nf).toInt v3.length))] v14) (v3.eraseIdx (N.di ((List.take (4 : Nat) z1).getD (1 : Nat) C.nf).toInt v3.length)) then
                                          (bif (↑(mapDel [C.str (N.ki v3 (N.di ((List.take (4 : Nat) z1).getD (1 : Nat) C.nf).toInt v3.length))] v14).length : Int) != (↑v13.length : Int) then
                                            K .rt (lPlays_E1)
                                          else (bif okM (mapDel [C.str (N.ki v3 (N.di ((List.take (4 : Nat) z1).getD (1 : Nat) C.nf).toInt v3.length))] v14) (v3.eraseIdx (N.di ((List.take (4 : Nat) z1).getD (1 : Nat) C.nf).toInt v3.length)) then
                                              (bif (↑(List.length (N.ks (v3.eraseIdx (N.di ((List.take (4 : Nat) z1).getD (1 : Nat) C.nf).toInt v3.length)))) : Int) != (↑v13.length : Int) then
                                                K .rt (lPlays_E1)
                                              else (lPlays_L1 N) ((lPlays_K1 N) K F n) F F room acts v4 v13 ((↑(List.length (N.ks (v3.eraseIdx (N.di ((List.take (4 : Nat) z1).getD (1 : Nat) C.nf).toInt v3.length)))) : Int)) (N.ks (v3.eraseIdx (N.di ((List.take (4 : Nat) z1).getD (1 : Nat) C.nf).toInt v3.length))) (mapDel [C.str (N.ki v3 (N.di ((List.take (4 : Nat) z1).getD (1 : Nat) C.nf).toInt v3.length))] v14) (v3.eraseIdx (N.di ((List.take (4 : Nat) z1).getD (1 : Nat) C.nf).toInt v3.length)) room1 v2 0)
                                            else none))
                                        else none)))
                                  else (bif okM (mapDel [C.str (N.ki v3 (N.di ((List.take (4 : Nat) z1).getD (1 : Nat) C.nf).toInt v3.length))] v14) (v3.eraseIdx (N.di ((List.take (4 : Nat) z1).getD (1 : Nat) C.nf).toInt v3.length)) then
                                      (bif (↑(mapDel [C.str (N.ki v3 (N.di ((List.take (4 : Nat) z1).getD (1 : Nat) C.nf).toInt v3.length))] v14).length : Int) != (↑v13.length : Int) then
                                        K .rt (lPlays_E1)
                                      else (bif okM (mapDel [C.str (N.ki v3 (N.di ((List.take (4 : Nat) z1).getD (1 : Nat) C.nf).toInt v3.length))] v14) (v3.eraseIdx (N.di ((List.take (4 : Nat) z1).getD (1 : Nat) C.nf).toInt v3.length)) then
                                          (bif (↑(List.length (N.ks (v3.eraseIdx (N.di ((List.take (4 : Nat) z1).getD (1 : Nat) C.nf).toInt v3.length)))) : Int) != (↑v13.length : Int) then
                                            K .rt (lPlays_E1)
                                          else (lPlays_L1 N) ((lPlays_K1 N) K F n) F F room acts v4 v13 ((↑(List.length (N.ks (v3.eraseIdx (N.di ((List.take (4 : Nat) z1).getD (1 : Nat) C.nf).toInt v3.length)))) : Int)) (N.ks (v3.eraseIdx (N.di ((List.take (4 : Nat) z1).getD (1 : Nat) C.nf).toInt v3.length))) (mapDel [C.str (N.ki v3 (N.di ((List.take (4 : Nat) z1).getD (1 : Nat) C.nf).toInt v3.length))] v14) (v3.eraseIdx (N.di ((List.take (4 : Nat) z1).getD (1 : Nat) C.nf).toInt v3.length)) room1 v2 0)
                                        else none))
                                    else none))))
                            else none)
                          else none))))
                  else none)
                else (bif ((List.take (4 : Nat) z1).getD (0 : Nat) C.nf).toInt == (4 : Int) then
                    (bif okM v14 v3 then
                      (bif !((bif N.gs [] ((List.take (4 : Nat) z1).getD (2 : Nat) C.nf).toStr then (0 : Int) else (19 : Int)) == (0 : Int)) == decide (N.fi [] ((List.take (4 : Nat) z1).getD (2 : Nat) C.nf).toStr ≥ (0 : Int)) then
                        K .rt (lPlays_E1)
                      else (bif decide (N.fi [] ((List.take (4 : Nat) z1).getD (2 : Nat) C.nf).toStr ≥ (0 : Int)) then
                          (bif decide ((0 : Int) ≤ N.fi [] ((List.take (4 : Nat) z1).getD (2 : Nat) C.nf).toStr) then
                            none
                          else none)
                        else (bif decide (N.fi [] ((List.take (4 : Nat) z1).getD (2 : Nat) C.nf).toStr < (0 : Int)) then
                            (bif N.ge [] ((List.take (4 : Nat) z1).getD (2 : Nat) C.nf).toStr then
                              K .rt (lPlays_E1)
                            else (bif (bif N.gs [] ((List.take (4 : Nat) z1).getD (2 : Nat) C.nf).toStr then (0 : Int) else (19 : Int)) != (19 : Int) then
                                K .rt (lPlays_E1)
                              else (bif (↑(List.length (N.ks [])) : Int) != (0 : Int) then
                                  K .rt (lPlays_E1)
                                else (lPlays_L1 N) ((lPlays_K1 N) K F n) F F room acts v4 [] ((↑(List.length (N.ks [])) : Int)) (N.ks []) [] [] room1 v2 0)))
                          else (bif (↑(List.length (N.ks [])) : Int) != (0 : Int) then
                              K .rt (lPlays_E1)
                            else (lPlays_L1 N) ((lPlays_K1 N) K F n) F F room acts v4 [] ((↑(List.length (N.ks [])) : Int)) (N.ks []) [] [] room1 v2 0))))
                    else none)
                  else (bif okM v14 v3 then
                      (bif okL v13 then
                        (bif !((bif N.gs v14 ((List.take (4 : Nat) z1).getD (2 : Nat) C.nf).toStr then (0 : Int) else (19 : Int)) == (0 : Int)) == decide (N.fi v13 ((List.take (4 : Nat) z1).getD (2 : Nat) C.nf).toStr ≥ (0 : Int)) then
                          K .rt (lPlays_E1)
                        else (bif decide (N.fi v13 ((List.take (4 : Nat) z1).getD (2 : Nat) C.nf).toStr ≥ (0 : Int)) then
                            (bif decide ((0 : Int) ≤ N.fi v13 ((List.take (4 : Nat) z1).getD (2 : Nat) C.nf).toStr) then
                              (getT v13 ((N.fi v13 ((List.take (4 : Nat) z1).getD (2 : Nat) C.nf).toStr).toNat) fun z19 =>
                                (getT (List.drop (1 : Nat) z19) 0 fun z20 =>
                                  (bif shOk [Sh.bool] [z20] then
                                    (bif !N.ge v14 ((List.take (4 : Nat) z1).getD (2 : Nat) C.nf).toStr == ([z20].getD (0 : Nat) C.nf).toBool then
                                      K .rt (lPlays_E1)
                                    else (bif decide (N.fi v13 ((List.take (4 : Nat) z1).getD (2 : Nat) C.nf).toStr < (0 : Int)) then
                                        (bif N.ge v14 ((List.take (4 : Nat) z1).getD (2 : Nat) C.nf).toStr then
                                          K .rt (lPlays_E1)
                                        else (bif (bif N.gs v14 ((List.take (4 : Nat) z1).getD (2 : Nat) C.nf).toStr then (0 : Int) else (19 : Int)) != (19 : Int) then
                                            K .rt (lPlays_E1)
                                          else (bif okM v14 v3 then
                                              (bif (↑v14.length : Int) != (↑v13.length : Int) then
                                                K .rt (lPlays_E1)
                                              else (bif okM v14 v3 then
                                                  (bif (↑(List.length (N.ks v3)) : Int) != (↑v13.length : Int) then
                                                    K .rt (lPlays_E1)
                                                  else (lPlays_L1 N) ((lPlays_K1 N) K F n) F F room acts v4 v13 ((↑(List.length (N.ks v3)) : Int)) (N.ks v3) v14 v3 room1 v2 0)
                                                else none))
                                            else none)))
                                      else (bif okM v14 v3 then
                                          (bif (↑v14.length : Int) != (↑v13.length : Int) then
                                            K .rt (lPlays_E1)
                                          else (bif okM v14 v3 then
                                              (bif (↑(List.length (N.ks v3)) : Int) != (↑v13.length : Int) then
                                                K .rt (lPlays_E1)
                                              else (lPlays_L1 N) ((lPlays_K1 N) K F n) F F room acts v4 v13 ((↑(List.length (N.ks v3)) : Int)) (N.ks v3) v14 v3 room1 v2 0)
                                            else none))
                                        else none)))
                                  else none)))
                            else none)
                          else (bif decide (N.fi v13 ((List.take (4 : Nat) z1).getD (2 : Nat) C.nf).toStr < (0 : Int)) then
                              (bif N.ge v14 ((List.take (4 : Nat) z1).getD (2 : Nat) C.nf).toStr then
                                K .rt (lPlays_E1)
                              else (bif (bif N.gs v14 ((List.take (4 : Nat) z1).getD (2 : Nat) C.nf).toStr then (0 : Int) else (19 : Int)) != (19 : Int) then
                                  K .rt (lPlays_E1)
                                else (bif okM v14 v3 then
                                    (bif (↑v14.length : Int) != (↑v13.length : Int) then
                                      K .rt (lPlays_E1)
                                    else (bif okM v14 v3 then
                                        (bif (↑(List.length (N.ks v3)) : Int) != (↑v13.length : Int) then
                                          K .rt (lPlays_E1)
                                        else (lPlays_L1 N) ((lPlays_K1 N) K F n) F F room acts v4 v13 ((↑(List.length (N.ks v3)) : Int)) (N.ks v3) v14 v3 room1 v2 0)
                                      else none))
                                  else none)))
                            else (bif okM v14 v3 then
                                (bif (↑v14.length : Int) != (↑v13.length : Int) then
                                  K .rt (lPlays_E1)
                                else (bif okM v14 v3 then
                                    (bif (↑(List.length (N.ks v3)) : Int) != (↑v13.length : Int) then
                                      K .rt (lPlays_E1)
                                    else (lPlays_L1 N) ((lPlays_K1 N) K F n) F F room acts v4 v13 ((↑(List.length (N.ks v3)) : Int)) (N.ks v3) v14 v3 room1 v2 0)
                                  else none))
                              else none))))
                      else none)
                    else none))))
            else none)
          else none))
      else none)
    else K (.ex 0) (lPlays_E4 room1 v2 v3 v13 v14)) := by kernel_rfl
noncomputable def lPlays_m2 : List Bool := [true, false, false, false, false, true, false, false, true, false, false, false, false, false, false, false, false, false, false, false, false, false, false, false, false, false, false, false, false, false, false, false, false, false, false, false, false, false, false, false, false, false, false, false, false, false, false, false, false, false, false, false, false, false, false, false, true, true, true, false, false, false, false, false, false, false, false, false, false, false, false, false, false, false, false, false, false, false, false, false, false, false, false, false, false, false, false, false, false, false, false, false, false, false, false, false, false, false, false, false, false, false, false, false, false, false, false, false, false, false, false, false, false, false, false, false, false, false, false, false, false, false, false, false, false, false, false, false, false, false, false, false, false, false, false, false, false, false, false, false, false, false, false, false, false, false, false, false, false, false, false, false, false, false, false, false, false, false, false, false, false, false, false, false, false, false, false, false, false, false, false, false, false, false, false, false, false, false, false, false, false, false, false, false, false, false, false, false, false, false, false, false, false, false, false]
noncomputable def lPlays_b2 : Code := (cA (cA (cB (cA (cB (cB (cB (cB (cB (cB (cB (bd Try.f4))))))))))))
noncomputable def lPlays_S2 (room : Int) (acts : List (List C)) (v23 : Int) : St := { env := [(vi room), vu, vu, vu, vu, (vc .np), vu, vu, (vc (.sl 2 [])), vu, vu, vu, vu, vu, vu, vu, vu, vu, vu, vu, vu, vu, vu, vu, vu, vu, vu, vu, vu, vu, vu, vu, vu, vu, vu, vu, vu, vu, vu, vu, vu, vu, vu, vu, vu, vu, vu, vu, vu, vu, vu, vu, vu, vu, vu, vu, (vc (.sl 4 acts)), (vi ((↑acts.length : Int))), (vi v23), vu, vu, vu, vu, vu, vu, vu, vu, vu, vu, vu, vu, vu, vu, vu, vu, vu, vu, vu, vu, vu, vu, vu, vu, vu, vu, vu, vu, vu, vu, vu, vu, vu, vu, vu, vu, vu, vu, vu, vu, vu, vu, vu, vu, vu, vu, vu, vu, vu, vu, vu, vu, vu, vu, vu, vu, vu, vu, vu, vu, vu, vu, vu, vu, vu, vu, vu, vu, vu, vu, vu, vu, vu, vu, vu, vu, vu, vu, vu, vu, vu, vu, vu, vu, vu, vu, vu, vu, vu, vu, vu, vu, vu, vu, vu, vu, vu, vu, vu, vu, vu, vu, vu, vu, vu, vu, vu, vu, vu, vu, vu, vu, vu, vu, vu, vu, vu, vu, vu, vu, vu, vu, vu, vu, vu, vu, vu, vu, vu, vu, vu, vu, vu, vu, vu, vu], bx := [], np := 0 }
noncomputable def lPlays_L2 (N : MF) {R : Type} (K : X → St → Option R) (F n : Nat) (room : Int) (acts : List (List C)) (v23 : Int) : Option R := loopV (headM lPlays_m2) (exec (lPlays_cf N) F lPlays_b2) (exitK (lPlays_cf N) K) n (lPlays_S2 room acts v23)
noncomputable def lPlays_K2 (N : MF) {R : Type} (k : V → Bx → Option R) (F : Nat) : X → St → Option R := (blockK 0 (seqK (lPlays_cf N) F (cB (cB (cB (cB (cB (cB (cB (cB (bd Try.f4))))))))) (finK (lPlays_cf N) Try.f4 k)))
noncomputable def lPlays_E5 : St := { env := [vu, vu, vu, vu, vu, (vc .np), vu, vu, (vc (.sl 2 [])), vu, vu, vu, vu, vu, vu, vu, vu, vu, vu, vu, vu, vu, vu, vu, vu, vu, vu, vu, vu, vu, vu, vu, vu, vu, vu, vu, vu, vu, vu, vu, vu, vu, vu, vu, vu, vu, vu, vu, vu, vu, vu, vu, vu, vu, vu, vu, vu, vu, vu, vu, vu, vu, vu, vu, vu, vu, vu, vu, vu, vu, vu, vu, vu, vu, vu, vu, vu, vu, vu, vu, vu, vu, vu, vu, vu, vu, vu, vu, vu, vu, vu, vu, vu, vu, vu, vu, vu, vu, vu, vu, vu, vu, vu, vu, vu, vu, vu, vu, vu, vu, vu, vu, vu, vu, vu, vu, vu, vu, vu, vu, vu, vu, vu, vu, vu, vu, vu, vu, vu, vu, vu, vu, vu, vu, vu, vu, vu, vu, vu, vu, vu, vu, vu, vu, vu, vu, vu, vu, vu, vu, vu, vu, vu, vu, vu, vu, vu, vu, vu, vu, vu, vu, vu, vu, vu, vu, vu, vu, vu, vu, vu, vu, vu, vu, vu, vu, vu, vu, vu, vu, vu, vu, vu, vu, vu, vu, vu, vu, vu, vu, vu, vu, vu, vu, vu], bx := [], np := 0 }
theorem lPlays_c5 (N : MF) {R : Type} (k : V → Bx → Option R) (F : Nat) : (lPlays_K2 N) k F (.ex 0) (lPlays_E5) =
    none := by kernel_rfl
theorem lPlays_r2 (N : MF) {R : Type} (K : X → St → Option R) (F n : Nat) (room : Int) (acts : List (List C)) (v23 : Int) : (lPlays_L2 N) K F (n + 1) room acts v23 =
    (bif decide (v23 < (↑acts.length : Int)) then
      (bif decide ((0 : Int) ≤ v23) then
        (getT acts v23.toNat fun z21 =>
          (bif (List.take (4 : Nat) z21).length == (4 : Nat) then
            (bif shOk [Sh.int IntKind.i64, Sh.int IntKind.i64, Sh.str, Sh.bool] (List.take (4 : Nat) z21) then
              (bif ((List.take (4 : Nat) z21).getD (0 : Nat) C.nf).toInt == (1 : Int) then
                none
              else (bif ((List.take (4 : Nat) z21).getD (0 : Nat) C.nf).toInt == (3 : Int) then
                  none
                else (bif ((List.take (4 : Nat) z21).getD (0 : Nat) C.nf).toInt == (4 : Int) then
                    none
                  else none)))
            else none)
          else none))
      else none)
    else K (.ex 0) (lPlays_E5)) := by kernel_rfl
theorem lPlays_start (N : MF) {R : Type} (k : V → Bx → Option R) (F : Nat) (room : Int) (acts : List (List C)) : runFn (lPlays_cf N) F Try.f4 (bd Try.f4) [vi room, vc (C.sl (4 : Nat) acts)] [] k =
    (bif decide ((↑acts.length : Int) > (200 : Int)) then
      k (vb true) []
    else (bif decide ((0 : Int) ≤ room ∧ room ≤ (1000 : Int)) then
        (bif decide (room ≥ (0 : Int)) then
          (bif !true == decide (room ≤ (1000 : Int)) then
            k (vb false) []
          else (bif !(!false) == decide (room ≤ (1000 : Int)) then
              k (vb false) []
            else (bif !decide (room ≤ (1000 : Int)) then
                k (vb false) []
              else (bif !decide (room ≤ (1000 : Int)) then
                  k (vb true) []
                else (lPlays_L0 N) ((lPlays_K0 N) k F) F F room acts room 0 [] 0 [] []))))
        else k (vb false) [])
      else (bif decide (room ≥ (0 : Int)) then
          (bif !false == decide (room ≤ (1000 : Int)) then
            k (vb false) []
          else (bif !(!true) == decide (room ≤ (1000 : Int)) then
              k (vb false) []
            else (bif !decide (room ≤ (1000 : Int)) then
                (bif !decide (room ≤ (1000 : Int)) then
                  k (vb true) []
                else (lPlays_L2 N) ((lPlays_K2 N) k F) F F room acts 0)
              else (bif !decide (room ≤ (1000 : Int)) then
                  k (vb true) []
                else (lPlays_L2 N) ((lPlays_K2 N) k F) F F room acts 0))))
        else k (vb true) []))) := by kernel_rfl
end Go.Proofs.Ythfjmmhigapkpaa
