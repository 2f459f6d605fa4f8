import Derived.Test.YtniiimpcakmkbaaDoorSgK
set_option linter.unusedVariables false
namespace Go.Proofs.YtniiimpcakmkbaaDoor
open Go Vm
noncomputable def lPlaces_cf (m : Int) : Cfg := mkCfQ [25, 35] (globT m) vti orcD false [] [(8, 60129542225), (12, 60129544017), (999, 4), (1000, 81), (1001, 60129542225), (1002, 60129542993)]
noncomputable def lPlaces_m0 : List Bool := [true, false, false, false, true, false, true, false, false, false, false, false, false, false, false, false, false, false, false, false, false, false, false, false, false, false, false, false, false, false, false, false, false, true, true, true, false, false, false, false, false, false, false, false, false, false, false, false, false, false, false, false, false, false, false, false, false, false, false, false, false, false, false, false, false, false, false, false, false, false, false, false, false, false, false, false, false, false, false, false, false, false, false, false, false, false, false, false, false, false, false, false, false, false, false, false, false, false, false, false, false, false, false, false, false, false, false, false, false, false, false, false, false, false, false, false, false, false, false, false, false, false, false, false, false]
noncomputable def lPlaces_b0 : Code := (cA (cA (cB (cA (cB (cB (cB (cB (cB (bd Tryd.f6))))))))))
noncomputable def lPlaces_S0 (s : ByteArray) (v1 : Int) (v2 : Int) (v3 : Int) (v4 : Int) : St := { env := [(vs s), vu, vu, vu, (.t (.w (.ptr 0 0))), vu, (vi v3), vu, vu, vu, vu, vu, vu, vu, vu, vu, vu, vu, vu, vu, vu, vu, vu, vu, vu, vu, vu, vu, vu, vu, vu, vu, vu, (vc (.sl 4 ((lexP s).fst))), (vi ((↑(lexP s).fst.length : Int))), (vi v4), vu, vu, vu, vu, vu, vu, vu, vu, vu, vu, vu, vu, vu, vu, vu, vu, vu, vu, vu, vu, vu, vu, vu, vu, vu, vu, vu, vu, vu, vu, vu, vu, vu, vu, vu, vu, vu, vu, vu, vu, vu, vu, vu, vu, vu, vu, vu, vu, vu, vu, vu, vu, vu, vu, vu, vu, vu, vu, vu, vu, vu, vu, vu, vu, vu, vu, vu, vu, vu, vu, vu, vu, vu, vu, vu, vu, vu, vu, vu, vu, vu, vu, vu, vu, vu, vu, vu, vu, vu], bx := [(some (.cells ⟨[(.int .i64 v1), (.int .i64 v2)], [], 2⟩))], np := 0 }
noncomputable def lPlaces_L0 {R : Type} (m : Int) (K : X → St → Option R) (F n : Nat) (s : ByteArray) (v1 : Int) (v2 : Int) (v3 : Int) (v4 : Int) : Option R := loopV (headM lPlaces_m0) (exec (lPlaces_cf m) F lPlaces_b0) (exitK (lPlaces_cf m) K) n (lPlaces_S0 s v1 v2 v3 v4)
noncomputable def lPlaces_K0 {R : Type} (m : Int) (k : V → Bx → Option R) (F : Nat) : X → St → Option R := (blockK 0 (seqK (lPlaces_cf m) F (cB (cB (cB (cB (cB (cB (bd Tryd.f6))))))) (finK (lPlaces_cf m) Tryd.f6 k)))
noncomputable def lPlaces_m1 : List Bool := [true, false, false, false, true, false, true, false, true, true, true, false, false, false, false, false, false, false, false, false, false, false, false, false, false, false, false, false, false, false, false, false, false, true, true, true, false, false, false, false, false, false, false, false, false, false, false, false, false, false, false, false, false, false, false, false, false, false, false, false, false, false, false, false, false, false, false, false, false, false, false, false, false, false, false, false, false, false, false, false, false, false, false, false, false, false, false, false, false, false, false, false, false, false, false, false, false, false, false, false, false, false, false, false, false, false, false, false, false, false, false, false, false, false, false, false, false, false, false, false, false, false, false, false, false]
noncomputable def lPlaces_b1 : Code := (cA (cA (cB (cA (cB (cB (cA (cA (cB (cB (cA (cA (cB (cA (cB (cB (cB (cB (cB (bd Tryd.f6))))))))))))))))))))
noncomputable def lPlaces_S1 (s : ByteArray) (v3 : Int) (v4 : Int) (v5 : Int) (v6 : ByteArray) (v7 : Int) (v8 : Int) (v9 : Int) (v10 : Int) (v11 : Int) (v12 : Int) : St := { env := [(vs s), vu, vu, vu, (.t (.w (.ptr 0 0))), vu, (vi v3), vu, (.t (.w (.ptr 1 0))), (vi v11), (vi v12), vu, vu, vu, vu, vu, vu, vu, vu, vu, vu, vu, vu, vu, vu, vu, vu, vu, vu, vu, vu, vu, vu, (vc (.sl 4 ((lexP s).fst))), (vi ((↑(lexP s).fst.length : Int))), (vi v4), vu, vu, vu, vu, vu, vu, vu, vu, vu, vu, vu, vu, vu, vu, vu, vu, vu, vu, vu, vu, vu, vu, vu, vu, vu, vu, vu, vu, vu, vu, vu, vu, vu, vu, vu, vu, vu, vu, vu, vu, vu, vu, vu, vu, vu, vu, vu, vu, vu, vu, vu, vu, vu, vu, vu, vu, vu, vu, vu, vu, vu, vu, vu, vu, vu, vu, vu, vu, vu, vu, vu, vu, vu, vu, vu, vu, vu, vu, vu, vu, vu, vu, vu, vu, vu, vu, vu, vu, vu], bx := [(some (.cells ⟨[(.int .i64 v9), (.int .i64 v10)], [], 2⟩)), (some (.cells ⟨[(.int .i64 v5), (.str v6), (.int .i64 v7), (.int .i64 v8)], [], 4⟩))], np := 0 }
noncomputable def lPlaces_L1 {R : Type} (m : Int) (K : X → St → Option R) (F n : Nat) (s : ByteArray) (v3 : Int) (v4 : Int) (v5 : Int) (v6 : ByteArray) (v7 : Int) (v8 : Int) (v9 : Int) (v10 : Int) (v11 : Int) (v12 : Int) : Option R := loopV (headM lPlaces_m1) (exec (lPlaces_cf m) F lPlaces_b1) (exitK (lPlaces_cf m) K) n (lPlaces_S1 s v3 v4 v5 v6 v7 v8 v9 v10 v11 v12)
noncomputable def lPlaces_K1 {R : Type} (m : Int) (K : X → St → Option R) (F n : Nat) : X → St → Option R := (blockK 2 (seqK (lPlaces_cf m) F (cB (cB (cB (cA (cA (cB (cB (cA (cA (cB (cA (cB (cB (cB (cB (cB (bd Tryd.f6))))))))))))))))) (blockK 1 (seqK (lPlaces_cf m) F (cB (cB (cB (cA (cA (cB (cA (cB (cB (cB (cB (cB (bd Tryd.f6))))))))))))) (loopK (headM lPlaces_m0) (exec (lPlaces_cf m) F lPlaces_b0) (exitK (lPlaces_cf m) K) n)))))
noncomputable def lPlaces_E1 (s : ByteArray) (v3 : Int) (v4 : Int) (v5 : Int) (v6 : ByteArray) (v7 : Int) (v8 : Int) (v9 : Int) (v10 : Int) (v11 : Int) : St := { env := [(vs s), vu, vu, vu, (.t (.w (.ptr 0 0))), vu, (vi v3), vu, (.t (.w (.ptr 1 0))), (vi v11), vu, vu, vu, vu, vu, vu, vu, vu, vu, vu, vu, vu, vu, vu, vu, vu, vu, vu, vu, vu, vu, vu, vu, (vc (.sl 4 ((lexP s).fst))), (vi ((↑(lexP s).fst.length : Int))), (vi v4), vu, vu, vu, vu, vu, vu, vu, vu, vu, vu, vu, vu, vu, vu, vu, vu, vu, vu, vu, vu, vu, vu, vu, vu, vu, vu, vu, vu, vu, vu, vu, vu, vu, vu, vu, vu, vu, vu, vu, vu, vu, vu, vu, vu, vu, vu, vu, vu, vu, vu, vu, vu, vu, vu, vu, vu, vu, vu, vu, vu, vu, vu, vu, vu, vu, vu, vu, vu, vu, vu, vu, vu, vu, vu, vu, vu, vu, vu, vu, vu, vu, vu, vu, vu, vu, vu, vu, vu, vu], bx := [(some (.cells ⟨[(.int .i64 v9), (.int .i64 v10)], [], 2⟩)), (some (.cells ⟨[(.int .i64 v5), (.str v6), (.int .i64 v7), (.int .i64 v8)], [], 4⟩))], np := 0 }
noncomputable def lPlaces_E2 : St := { env := [vu, vu, (vb false), vu, vu, vu, vu, vu, vu, vu, vu, vu, vu, vu, vu, vu, vu, vu, vu, vu, vu, vu, vu, vu, vu, vu, vu, vu, vu, vu, vu, vu, vu, vu, vu, vu, vu, vu, vu, vu, vu, vu, vu, vu, vu, vu, vu, vu, vu, vu, vu, vu, vu, vu, vu, vu, vu, vu, vu, vu, vu, vu, vu, vu, vu, vu, vu, vu, vu, vu, vu, vu, vu, vu, vu, vu, vu, vu, vu, vu, vu, vu, vu, vu, vu, vu, vu, vu, vu, vu, vu, vu, vu, vu, vu, vu, vu, vu, vu, vu, vu, vu, vu, vu, vu, vu, vu, vu, vu, vu, vu, vu, vu, vu, vu, vu, vu, vu, vu, vu, vu, vu, vu, vu, vu], bx := [], np := 0 }
theorem lPlaces_c2 {R : Type} (m : Int) (k : V → Bx → Option R) (F : Nat) : lPlaces_K0 m k F .rt (lPlaces_E2) =
    k (vb false) [] := by kernel_rfl
theorem lPlaces_c1 {R : Type} (m : Int) (K : X → St → Option R) (F n : Nat) (s : ByteArray) (v3 : Int) (v4 : Int) (v5 : Int) (v6 : ByteArray) (v7 : Int) (v8 : Int) (v9 : Int) (v10 : Int) (v11 : Int) : lPlaces_K1 m K F n (.ex 2) (lPlaces_E1 s v3 v4 v5 v6 v7 v8 v9 v10 v11) =
    (bif decide (v11 < (0 : Int)) then
      K .rt (lPlaces_E2)
    else (bif v6.toList == (ByteArray.mk #[]).toList then
        K .rt (lPlaces_E2)
      else (bif decide ((0 : Int) ≤ v3 ∧ v3 ≤ v11 ∧ v11 ≤ (↑s.size : Int)) then
          (bif decide ((s.extract v3.toNat v11.toNat).size < (1000000 : Nat)) then
            (bif (lexP (s.extract v3.toNat v11.toNat)).snd.snd.snd != (0 : Int) then
              K .rt (lPlaces_E2)
            else (bif (↑(lexP (s.extract v3.toNat v11.toNat)).fst.length : Int) != (0 : Int) then
                K .rt (lPlaces_E2)
              else lPlaces_L0 m K F n s v9 v10 (IntKind.i64.wrap (v11 + (↑v6.size : Int))) (IntKind.i64.wrap (v4 + (1 : Int)))))
          else none)
        else none))) := by kernel_rfl
theorem lPlaces_r1 {R : Type} (m : Int) (K : X → St → Option R) (F n : Nat) (s : ByteArray) (v3 : Int) (v4 : Int) (v5 : Int) (v6 : ByteArray) (v7 : Int) (v8 : Int) (v9 : Int) (v10 : Int) (v11 : Int) (v12 : Int) : lPlaces_L1 m K F (n + 1) s v3 v4 v5 v6 v7 v8 v9 v10 v11 v12 =
    (bif decide (IntKind.i64.wrap (v12 + (↑v6.size : Int)) ≤ (↑s.size : Int)) then
      (bif decide (v11 < (0 : Int)) then
        (bif decide ((0 : Int) ≤ v12 ∧ v12 ≤ IntKind.i64.wrap (v12 + (↑v6.size : Int)) ∧ IntKind.i64.wrap (v12 + (↑v6.size : Int)) ≤ (↑s.size : Int)) then
          (bif (s.extract v12.toNat (IntKind.i64.wrap (v12 + (↑v6.size : Int))).toNat).toList == v6.toList then
            (bif decide ((0 : Int) ≤ (0 : Int) ∧ (0 : Int) ≤ v12 ∧ v12 ≤ (↑s.size : Int)) then
              (bif (behindP (1 : Int) (1 : Int) (s.extract (0 : Nat) v12.toNat)).fst == v7 && ((behindP (1 : Int) (1 : Int) (s.extract (0 : Nat) v12.toNat)).snd == v8 && true) then
                lPlaces_L1 m K F n s v3 v4 v5 v6 v7 v8 v9 v10 v12 (IntKind.i64.wrap (v12 + (1 : Int)))
              else lPlaces_L1 m K F n s v3 v4 v5 v6 v7 v8 v9 v10 v11 (IntKind.i64.wrap (v12 + (1 : Int))))
            else none)
          else lPlaces_L1 m K F n s v3 v4 v5 v6 v7 v8 v9 v10 v11 (IntKind.i64.wrap (v12 + (1 : Int))))
        else none)
      else K (.ex 2) (lPlaces_E1 s v3 v4 v5 v6 v7 v8 v9 v10 v11))
    else K (.ex 2) (lPlaces_E1 s v3 v4 v5 v6 v7 v8 v9 v10 v11)) := by kernel_rfl
noncomputable def lPlaces_E3 (s : ByteArray) (v1 : Int) (v2 : Int) (v3 : Int) : St := { env := [(vs s), vu, vu, vu, (.t (.w (.ptr 0 0))), vu, (vi v3), vu, vu, vu, vu, vu, vu, vu, vu, vu, vu, vu, vu, vu, vu, vu, vu, vu, vu, vu, vu, vu, vu, vu, vu, vu, vu, vu, vu, vu, vu, vu, vu, vu, vu, vu, vu, vu, vu, vu, vu, vu, vu, vu, vu, vu, vu, vu, vu, vu, vu, vu, vu, vu, vu, vu, vu, vu, vu, vu, vu, vu, vu, vu, vu, vu, vu, vu, vu, vu, vu, vu, vu, vu, vu, vu, vu, vu, vu, vu, vu, vu, vu, vu, vu, vu, vu, vu, vu, vu, vu, vu, vu, vu, vu, vu, vu, vu, vu, vu, vu, vu, vu, vu, vu, vu, vu, vu, vu, vu, vu, vu, vu, vu, vu, vu, vu, vu, vu], bx := [(some (.cells ⟨[(.int .i64 v1), (.int .i64 v2)], [], 2⟩))], np := 0 }
theorem lPlaces_c3 {R : Type} (m : Int) (k : V → Bx → Option R) (F : Nat) (s : ByteArray) (v1 : Int) (v2 : Int) (v3 : Int) : lPlaces_K0 m k F (.ex 0) (lPlaces_E3 s v1 v2 v3) =
    (bif decide ((0 : Int) ≤ v3 ∧ v3 ≤ (↑s.size : Int) ∧ (↑s.size : Int) ≤ (↑s.size : Int)) then
      (bif decide ((s.extract v3.toNat (↑s.size : Int).toNat).size < (1000000 : Nat)) then
        (bif (lexP (s.extract v3.toNat (↑s.size : Int).toNat)).snd.snd.snd == (0 : Int) then
          (bif (↑(lexP (s.extract v3.toNat (↑s.size : Int).toNat)).fst.length : Int) == (0 : Int) then
            k (vb (v1 == (behindP (1 : Int) (1 : Int) s).fst && (v2 == (behindP (1 : Int) (1 : Int) s).snd && true))) []
          else k (vb false) [])
        else k (vb false) [])
      else none)
    else none) := by kernel_rfl
theorem lPlaces_r0 {R : Type} (m : Int) (K : X → St → Option R) (F n : Nat) (s : ByteArray) (v1 : Int) (v2 : Int) (v3 : Int) (v4 : Int) : lPlaces_L0 m K F (n + 1) s v1 v2 v3 v4 =
    (bif decide (v4 < (↑(lexP s).fst.length : Int)) then
      (bif decide ((0 : Int) ≤ v4) then
        (getT ((lexP s).fst) v4.toNat fun z1 =>
          (bif (List.take (4 : Nat) z1).length == (4 : Nat) then
            (bif shOk [Sh.int IntKind.i64, Sh.str, Sh.int IntKind.i64, Sh.int IntKind.i64] (List.take (4 : Nat) z1) then
              lPlaces_L1 m (lPlaces_K1 m K F n) F F s v3 v4 (((List.take (4 : Nat) z1).getD (0 : Nat) C.nf).toInt) (((List.take (4 : Nat) z1).getD (1 : Nat) C.nf).toStr) (((List.take (4 : Nat) z1).getD (2 : Nat) C.nf).toInt) (((List.take (4 : Nat) z1).getD (3 : Nat) C.nf).toInt) v1 v2 (-1) v3
            else none)
          else none))
      else none)
    else K (.ex 0) (lPlaces_E3 s v1 v2 v3)) := by kernel_rfl
theorem lPlaces_start {R : Type} (m : Int) (k : V → Bx → Option R) (F : Nat) (s : ByteArray) : runFn (lPlaces_cf m) F Tryd.f6 (bd Tryd.f6) [vs s] [] k =
    (bif decide ((↑s.size : Int) > (4000 : Int)) then
      k (vb true) []
    else (bif decide (s.size < (1000000 : Nat)) then
        (bif (lexP s).snd.snd.snd != (0 : Int) then
          k (vb true) []
        else lPlaces_L0 m (lPlaces_K0 m k F) F F s ((lexP s).snd.fst) ((lexP s).snd.snd.fst) 0 0)
      else none)) := by kernel_rfl
end Go.Proofs.YtniiimpcakmkbaaDoor
