/- YtniiimpcakmkbaaDoorSgR -/
import Derived.Test.YtniiimpcakmkbaaDoorSgC
import Derived.Test.YtniiimpcakmkbaaDoorSgPb
set_option linter.unusedVariables false
namespace Go.Proofs.YtniiimpcakmkbaaDoor
open Go Vm
noncomputable def r_runes_cf (m : Int) : Cfg := mkCfG (globT m) vti orcR1 false [] [(3, 49), (999, 12), (1000, 16)]
def r_runes_m0 : List Bool := [true, false, false, false, true, true, false, false, false, false, false, false, false, false, false, false, false, false, false, false, false, false, false, false, false, false, false, false]
noncomputable def r_runes_b0 : Code := (cA (cA (cB (cA (cB (cB (bd Tryd.f17)))))))
def r_runes_S0 (s : ByteArray) (v1 : List (List C)) (v2 : Int) : St := { env := [(vs s), vu, vu, vu, (.t (.w (.arr 0))), (vi v2), vu, vu, vu, vu, vu, vu, vu, vu, vu, vu, vu, vu, vu, vu, vu, vu, vu, vu, vu, vu, vu, vu], bx := [(some (.arr true (some 3) 1 v1))], np := 0 }
noncomputable def r_runes_L0 {R : Type} (m : Int) (K : X → St → Option R) (F n : Nat) (s : ByteArray) (v1 : List (List C)) (v2 : Int) : Option R := loopV (headM r_runes_m0) (exec (r_runes_cf m) F r_runes_b0) (exitK (r_runes_cf m) K) n (r_runes_S0 s v1 v2)
noncomputable def r_runes_K0 {R : Type} (m : Int) (k : V → Bx → Option R) (F : Nat) : X → St → Option R := (blockK 0 (seqK (r_runes_cf m) F (cB (cB (cB (bd Tryd.f17)))) (finK (r_runes_cf m) Tryd.f17 k)))
def r_runes_E1 : St := { env := [vu, vu, (.t (.w (.arr 0))), (vb false), vu, vu, vu, vu, vu, vu, vu, vu, vu, vu, vu, vu, vu, vu, vu, vu, vu, vu, vu, vu, vu, vu, vu, vu], bx := [(some (.arr true (some 3) 1 []))], np := 0 }
theorem r_runes_c1 {R : Type} (m : Int) (k : V → Bx → Option R) (F : Nat) : r_runes_K0 m k F .rt (r_runes_E1) =
    k (.tup [(.w (.d (.sl 1 []))), (.w (.d (.bool false)))]) [] := by kernel_rfl
def r_runes_E2 (v1 : List (List C)) : St := { env := [vu, vu, vu, vu, (.t (.w (.arr 0))), vu, vu, vu, vu, vu, vu, vu, vu, vu, vu, vu, vu, vu, vu, vu, vu, vu, vu, vu, vu, vu, vu, vu], bx := [(some (.arr true (some 3) 1 v1))], np := 0 }
theorem r_runes_c2 {R : Type} (m : Int) (k : V → Bx → Option R) (F : Nat) (v1 : List (List C)) : r_runes_K0 m k F (.ex 0) (r_runes_E2 v1) =
    k (.tup [(.w (.d (.sl 1 v1))), (.w (.d (.bool true)))]) [] := by kernel_rfl
theorem r_runes_r0 {R : Type} (m : Int) (K : X → St → Option R) (F n : Nat) (s : ByteArray) (v1 : List (List C)) (v2 : Int) : r_runes_L0 m K F (n + 1) s v1 v2 =
    (bif decide (v2 < (↑s.size : Int)) then
      (bif decide ((0 : Int) ≤ v2) && decide (v2 < (↑s.size : Int)) && decide (s.size < (1000000000 : Nat)) then
        (bif (runeP s v2.toNat).snd == (0 : Int) then
          K .rt (r_runes_E1)
        else (bif decide ((v1.length + (1 : Nat)) * (8 : Nat) ≤ (140737488355328 : Nat) ∧ v1.length + (1 : Nat) ≤ (9223372036854775807 : Nat)) then
            r_runes_L0 m K F n s (v1 ++ [[C.int IntKind.i64 (runeP s v2.toNat).fst]]) (IntKind.i64.wrap (v2 + (runeP s v2.toNat).snd))
          else none))
      else none)
    else K (.ex 0) (r_runes_E2 v1)) := by kernel_rfl
theorem r_runes_start {R : Type} (m : Int) (k : V → Bx → Option R) (F : Nat) (s : ByteArray) : runFn (r_runes_cf m) F Tryd.f17 (bd Tryd.f17) [vs s] [] k =
    r_runes_L0 m (r_runes_K0 m k F) F F s [] 0 := by kernel_rfl
noncomputable def r_lex_cf (m : Int) : Cfg := mkCfG (globT m) vti orcR false [] [(8, 832), (12, 832), (16, 8000), (999, 60), (1000, 320), (1001, 832), (1002, 832), (1004, 8000)]
def r_lex_m0 : List Bool := [false, false, false, false, false, false, true, false, true, true, false, false, false, false, false, false, false, false, false, false, false, false, false, false, false, false, false, false, false, false, false, false, false, false, false, false, false, false, false, false, false, false, false, false, false, false, false, false, false, false, false, false, false, false, false, false, false, false, false, false, false, false, false, false, false, false, false, false, false, false, false, false, false, false, false, false, false, false, false, false, false, false, false, false, false, false, false, false, false, false, false, false, false, false, false, false, false, false, false, false, false, false, false, false, false, false, false, false, false, false, false, false, false, false, false, false, false, false, false, false, false, false, false, false, false, false, false, false, false, false, false, false, false, false, false, false, false, false, false, false, false, false, false, false, false, false, false, false, false, false, false, false, false, false, false, false, false, false, false, false, false, false, false, false, false, false, false, false, false, false, false, false, false, false, false, false, false, false, false, false, false, false, false, false, false, false, false, false]
noncomputable def r_lex_b0 : Code := (cA (cA (cB (cA (cB (cB (cB (cB (cB (bd Tryd.f15))))))))))
def r_lex_S0 (s : ByteArray) (v1 : List (List C)) (v2 : Int) : St := { env := [vu, vu, vu, vu, vu, vu, (vc (.sl 1 ((runesP s).getD []))), vu, (.t (.w (.arr 0))), (vi v2), vu, vu, vu, vu, vu, vu, vu, vu, vu, vu, vu, vu, vu, vu, vu, vu, vu, vu, vu, vu, vu, vu, vu, vu, vu, vu, vu, vu, vu, vu, vu, vu, vu, vu, vu, vu, vu, vu, vu, vu, vu, vu, vu, vu, vu, vu, vu, vu, vu, vu, vu, vu, vu, vu, vu, vu, vu, vu, vu, vu, vu, vu, vu, vu, vu, vu, vu, vu, vu, vu, vu, vu, vu, vu, vu, vu, vu, vu, vu, vu, vu, vu, vu, vu, vu, vu, vu, vu, vu, vu, vu, vu, vu, vu, vu, vu, vu, vu, vu, vu, vu, vu, vu, vu, vu, vu, vu, vu, vu, vu, vu, vu, vu, vu, vu, vu, vu, vu, vu, vu, vu, vu, vu, vu, vu, vu, vu, vu, vu, vu, vu, vu, vu, vu, vu, vu, vu, vu, vu, vu, vu, vu, vu, vu, vu, vu, vu, vu, vu, vu, vu, vu, vu, vu, vu, vu, vu, vu, vu, vu, vu, vu, vu, vu, vu, vu, vu, vu, vu, vu, vu, vu, vu, vu, vu, vu, vu, vu], bx := [(some (.arr true (some 35) 4 v1))], np := 0 }
noncomputable def r_lex_L0 {R : Type} (m : Int) (K : X → St → Option R) (F n : Nat) (s : ByteArray) (v1 : List (List C)) (v2 : Int) : Option R := loopV (headM r_lex_m0) (exec (r_lex_cf m) F r_lex_b0) (exitK (r_lex_cf m) K) n (r_lex_S0 s v1 v2)
noncomputable def r_lex_K0 {R : Type} (m : Int) (k : V → Bx → Option R) (F : Nat) : X → St → Option R := (blockK 0 (seqK (r_lex_cf m) F (cB (cB (cB (cB (cB (cB (bd Tryd.f15))))))) (finK (r_lex_cf m) Tryd.f15 k)))
def r_lex_m1 : List Bool := [false, false, false, false, false, false, true, false, true, true, false, false, false, false, false, false, false, false, false, false, false, false, false, false, false, false, false, false, false, false, false, false, false, false, false, false, false, false, false, false, false, false, false, false, false, false, false, false, false, false, false, false, false, false, false, false, false, false, false, false, false, false, false, false, false, false, false, false, false, false, false, false, false, false, false, false, false, false, false, false, false, false, false, false, false, false, false, false, false, false, false, false, false, false, false, false, false, false, false, false, false, false, false, false, false, false, false, false, false, false, false, false, false, false, false, false, false, false, false, false, false, false, false, false, false, false, false, false, false, false, false, false, false, false, false, false, false, false, false, false, false, false, false, false, false, false, false, false, false, false, false, false, false, false, false, false, false, false, false, false, false, false, false, false, false, false, false, false, false, false, false, false, false, false, false, false, false, false, false, false, false, false, false, false, false, false, false, false]
noncomputable def r_lex_b1 : Code := (cA (cA (cA (cA (cB (cA (cB (cA (cB (cA (cA (cB (cA (cB (cB (cB (cB (cB (bd Tryd.f15)))))))))))))))))))
def r_lex_S1 (s : ByteArray) (v3 : List (List C)) (v4 : Int) : St := { env := [vu, vu, vu, vu, vu, vu, (vc (.sl 1 ((runesP s).getD []))), vu, (.t (.w (.arr 0))), (vi v4), vu, vu, vu, vu, vu, vu, vu, vu, vu, vu, vu, vu, vu, vu, vu, vu, vu, vu, vu, vu, vu, vu, vu, vu, vu, vu, vu, vu, vu, vu, vu, vu, vu, vu, vu, vu, vu, vu, vu, vu, vu, vu, vu, vu, vu, vu, vu, vu, vu, vu, vu, vu, vu, vu, vu, vu, vu, vu, vu, vu, vu, vu, vu, vu, vu, vu, vu, vu, vu, vu, vu, vu, vu, vu, vu, vu, vu, vu, vu, vu, vu, vu, vu, vu, vu, vu, vu, vu, vu, vu, vu, vu, vu, vu, vu, vu, vu, vu, vu, vu, vu, vu, vu, vu, vu, vu, vu, vu, vu, vu, vu, vu, vu, vu, vu, vu, vu, vu, vu, vu, vu, vu, vu, vu, vu, vu, vu, vu, vu, vu, vu, vu, vu, vu, vu, vu, vu, vu, vu, vu, vu, vu, vu, vu, vu, vu, vu, vu, vu, vu, vu, vu, vu, vu, vu, vu, vu, vu, vu, vu, vu, vu, vu, vu, vu, vu, vu, vu, vu, vu, vu, vu, vu, vu, vu, vu, vu, vu], bx := [(some (.arr true (some 35) 4 v3))], np := 0 }
noncomputable def r_lex_L1 {R : Type} (m : Int) (K : X → St → Option R) (F n : Nat) (s : ByteArray) (v3 : List (List C)) (v4 : Int) : Option R := loopV (headM r_lex_m1) (exec (r_lex_cf m) F r_lex_b1) (exitK (r_lex_cf m) K) n (r_lex_S1 s v3 v4)
noncomputable def r_lex_K1 {R : Type} (m : Int) (K : X → St → Option R) (F n : Nat) : X → St → Option R := (blockK 2 (seqK (r_lex_cf m) F (cB (cA (cB (cA (cB (cA (cB (cA (cA (cB (cA (cB (cB (cB (cB (cB (bd Tryd.f15))))))))))))))))) (seqK (r_lex_cf m) F (cB (cB (cA (cB (cA (cA (cB (cA (cB (cB (cB (cB (cB (bd Tryd.f15)))))))))))))) (blockK 1 (loopK (headM r_lex_m0) (exec (r_lex_cf m) F r_lex_b0) (exitK (r_lex_cf m) K) n)))))
def r_lex_E1 (s : ByteArray) (v3 : List (List C)) (v4 : Int) : St := { env := [vu, vu, vu, vu, vu, vu, (vc (.sl 1 ((runesP s).getD []))), vu, (.t (.w (.arr 0))), (vi v4), vu, vu, vu, vu, vu, vu, vu, vu, vu, vu, vu, vu, vu, vu, vu, vu, vu, vu, vu, vu, vu, vu, vu, vu, vu, vu, vu, vu, vu, vu, vu, vu, vu, vu, vu, vu, vu, vu, vu, vu, vu, vu, vu, vu, vu, vu, vu, vu, vu, vu, vu, vu, vu, vu, vu, vu, vu, vu, vu, vu, vu, vu, vu, vu, vu, vu, vu, vu, vu, vu, vu, vu, vu, vu, vu, vu, vu, vu, vu, vu, vu, vu, vu, vu, vu, vu, vu, vu, vu, vu, vu, vu, vu, vu, vu, vu, vu, vu, vu, vu, vu, vu, vu, vu, vu, vu, vu, vu, vu, vu, vu, vu, vu, vu, vu, vu, vu, vu, vu, vu, vu, vu, vu, vu, vu, vu, vu, vu, vu, vu, vu, vu, vu, vu, vu, vu, vu, vu, vu, vu, vu, vu, vu, vu, vu, vu, vu, vu, vu, vu, vu, vu, vu, vu, vu, vu, vu, vu, vu, vu, vu, vu, vu, vu, vu, vu, vu, vu, vu, vu, vu, vu, vu, vu, vu, vu, vu, vu], bx := [(some (.arr true (some 35) 4 v3))], np := 0 }
theorem r_lex_c1 {R : Type} (m : Int) (K : X → St → Option R) (F n : Nat) (s : ByteArray) (v3 : List (List C)) (v4 : Int) : r_lex_K1 m K F n (.ex 2) (r_lex_E1 s v3 v4) =
    r_lex_L0 m K F n s v3 v4 := by kernel_rfl
theorem r_lex_r1 {R : Type} (m : Int) (K : X → St → Option R) (F n : Nat) (s : ByteArray) (v3 : List (List C)) (v4 : Int) : r_lex_L1 m K F (n + 1) s v3 v4 =
    (bif decide (v4 < (↑((runesP s).getD []).length : Int)) then
      (bif decide ((0 : Int) ≤ v4) then
        (getT ((runesP s).getD []) v4.toNat fun z7 =>
          (getT z7 0 fun z8 =>
            (bif shOk [Sh.int IntKind.i64] [z8] then
              (bif ([z8].getD (0 : Nat) C.nf).toInt != (10 : Int) then
                r_lex_L1 m K F n s v3 (IntKind.i64.wrap (v4 + (1 : Int)))
              else K (.ex 2) (r_lex_E1 s v3 v4))
            else none)))
      else none)
    else K (.ex 2) (r_lex_E1 s v3 v4)) := by kernel_rfl
def r_lex_m2 : List Bool := [false, false, false, false, false, false, true, false, true, true, true, true, true, false, false, false, false, false, false, false, false, false, false, false, false, false, false, false, false, false, false, false, false, false, false, false, false, false, false, false, false, false, false, false, false, false, false, false, false, false, false, false, false, false, false, false, false, false, false, false, false, false, false, false, false, false, false, false, false, false, false, false, false, false, false, false, false, false, false, false, false, false, false, false, false, false, false, false, false, false, false, false, false, false, false, false, false, false, false, false, false, false, false, false, false, false, false, false, false, false, false, false, false, false, false, false, false, false, false, false, false, false, false, false, false, false, false, false, false, false, false, false, false, false, false, false, false, false, false, false, false, false, false, false, false, false, false, false, false, false, false, false, false, false, false, false, false, false, false, false, false, false, false, false, false, false, false, false, false, false, false, false, false, false, false, false, false, false, false, false, false, false, false, false, false, false, false, false]
noncomputable def r_lex_b2 : Code := (cA (cA (cA (cB (cB (cB (cB (cA (cB (cA (cA (cB (cA (cB (cB (cB (cB (cB (bd Tryd.f15)))))))))))))))))))
def r_lex_S2 (s : ByteArray) (v2 : Int) (v5 : Int) (v6 : Int) (v7 : List (List C)) (v8 : Int) : St := { env := [vu, vu, vu, vu, vu, vu, (vc (.sl 1 ((runesP s).getD []))), vu, (.t (.w (.arr 0))), (vi v2), (vi v5), (vi v6), (vi v8), vu, vu, vu, vu, vu, vu, vu, vu, vu, vu, vu, vu, vu, vu, vu, vu, vu, vu, vu, vu, vu, vu, vu, vu, vu, vu, vu, vu, vu, vu, vu, vu, vu, vu, vu, vu, vu, vu, vu, vu, vu, vu, vu, vu, vu, vu, vu, vu, vu, vu, vu, vu, vu, vu, vu, vu, vu, vu, vu, vu, vu, vu, vu, vu, vu, vu, vu, vu, vu, vu, vu, vu, vu, vu, vu, vu, vu, vu, vu, vu, vu, vu, vu, vu, vu, vu, vu, vu, vu, vu, vu, vu, vu, vu, vu, vu, vu, vu, vu, vu, vu, vu, vu, vu, vu, vu, vu, vu, vu, vu, vu, vu, vu, vu, vu, vu, vu, vu, vu, vu, vu, vu, vu, vu, vu, vu, vu, vu, vu, vu, vu, vu, vu, vu, vu, vu, vu, vu, vu, vu, vu, vu, vu, vu, vu, vu, vu, vu, vu, vu, vu, vu, vu, vu, vu, vu, vu, vu, vu, vu, vu, vu, vu, vu, vu, vu, vu, vu, vu, vu, vu, vu, vu, vu, vu], bx := [(some (.arr true (some 35) 4 v7))], np := 0 }
noncomputable def r_lex_L2 {R : Type} (m : Int) (K : X → St → Option R) (F n : Nat) (s : ByteArray) (v2 : Int) (v5 : Int) (v6 : Int) (v7 : List (List C)) (v8 : Int) : Option R := loopV (headM r_lex_m2) (exec (r_lex_cf m) F r_lex_b2) (exitK (r_lex_cf m) K) n (r_lex_S2 s v2 v5 v6 v7 v8)
noncomputable def r_lex_K2 {R : Type} (m : Int) (K : X → St → Option R) (F n : Nat) : X → St → Option R := (blockK 4 (seqK (r_lex_cf m) F (cB (cB (cB (cB (cB (cA (cB (cA (cA (cB (cA (cB (cB (cB (cB (cB (bd Tryd.f15))))))))))))))))) (blockK 1 (loopK (headM r_lex_m0) (exec (r_lex_cf m) F r_lex_b0) (exitK (r_lex_cf m) K) n))))
def r_lex_E2 (s : ByteArray) (v2 : Int) (v5 : Int) (v6 : Int) (v7 : List (List C)) (v8 : Int) : St := { env := [vu, vu, vu, vu, vu, vu, (vc (.sl 1 ((runesP s).getD []))), vu, (.t (.w (.arr 0))), (vi v2), (vi v5), (vi v6), (vi v8), vu, vu, vu, vu, vu, vu, vu, vu, vu, vu, vu, vu, vu, vu, vu, vu, vu, vu, vu, vu, vu, vu, vu, vu, vu, vu, vu, vu, vu, vu, vu, vu, vu, vu, vu, vu, vu, vu, vu, vu, vu, vu, vu, vu, vu, vu, vu, vu, vu, vu, vu, vu, vu, vu, vu, vu, vu, vu, vu, vu, vu, vu, vu, vu, vu, vu, vu, vu, vu, vu, vu, vu, vu, vu, vu, vu, vu, vu, vu, vu, vu, vu, vu, vu, vu, vu, vu, vu, vu, vu, vu, vu, vu, vu, vu, vu, vu, vu, vu, vu, vu, vu, vu, vu, vu, vu, vu, vu, vu, vu, vu, vu, vu, vu, vu, vu, vu, vu, vu, vu, vu, vu, vu, vu, vu, vu, vu, vu, vu, vu, vu, vu, vu, vu, vu, vu, vu, vu, vu, vu, vu, vu, vu, vu, vu, vu, vu, vu, vu, vu, vu, vu, vu, vu, vu, vu, vu, vu, vu, vu, vu, vu, vu, vu, vu, vu, vu, vu, vu, vu, vu, vu, vu, vu, vu], bx := [(some (.arr true (some 35) 4 v7))], np := 0 }
def r_lex_E3 (v5 : Int) (v6 : Int) : St := { env := [vu, vu, (.t (.w (.arr 0))), (vi v5), (vi v6), (vi 10), vu, vu, vu, vu, vu, vu, vu, vu, vu, vu, vu, vu, vu, vu, vu, vu, vu, vu, vu, vu, vu, vu, vu, vu, vu, vu, vu, vu, vu, vu, vu, vu, vu, vu, vu, vu, vu, vu, vu, vu, vu, vu, vu, vu, vu, vu, vu, vu, vu, vu, vu, vu, vu, vu, vu, vu, vu, vu, vu, vu, vu, vu, vu, vu, vu, vu, vu, vu, vu, vu, vu, vu, vu, vu, vu, vu, vu, vu, vu, vu, vu, vu, vu, vu, vu, vu, vu, vu, vu, vu, vu, vu, vu, vu, vu, vu, vu, vu, vu, vu, vu, vu, vu, vu, vu, vu, vu, vu, vu, vu, vu, vu, vu, vu, vu, vu, vu, vu, vu, vu, vu, vu, vu, vu, vu, vu, vu, vu, vu, vu, vu, vu, vu, vu, vu, vu, vu, vu, vu, vu, vu, vu, vu, vu, vu, vu, vu, vu, vu, vu, vu, vu, vu, vu, vu, vu, vu, vu, vu, vu, vu, vu, vu, vu, vu, vu, vu, vu, vu, vu, vu, vu, vu, vu, vu, vu, vu, vu, vu, vu, vu, vu], bx := [(some (.arr true (some 35) 4 []))], np := 0 }
theorem r_lex_c3 {R : Type} (m : Int) (k : V → Bx → Option R) (F : Nat) (v5 : Int) (v6 : Int) : r_lex_K0 m k F .rt (r_lex_E3 v5 v6) =
    k (.tup [(.w (.d (.sl 4 []))), (.w (.d (.int .i64 v5))), (.w (.d (.int .i64 v6))), (.w (.d (.int .i64 10)))]) [] := by kernel_rfl
theorem r_lex_c2 {R : Type} (m : Int) (K : X → St → Option R) (F n : Nat) (s : ByteArray) (v2 : Int) (v5 : Int) (v6 : Int) (v7 : List (List C)) (v8 : Int) : r_lex_K2 m K F n (.ex 4) (r_lex_E2 s v2 v5 v6 v7 v8) =
    (bif decide (v8 > v2) then
      (bif decide ((0 : Int) ≤ v2 ∧ v2 ≤ v8 ∧ v8 ≤ (↑((runesP s).getD []).length : Int)) then
        (bif (List.take (v8.toNat - v2.toNat) (List.drop v2.toNat ((runesP s).getD []))).all isI && decide ((List.take (v8.toNat - v2.toNat) (List.drop v2.toNat ((runesP s).getD []))).length < (1000000 : Nat)) then
          (bif decide ((↑(bytesOf (List.map u8E (List.take (v8.toNat - v2.toNat) (List.drop v2.toNat ((runesP s).getD []))))).size : Int) > (16 : Int)) then
            K .rt (r_lex_E3 v5 v6)
          else (bif (bytesOf (List.map u8E (List.take (v8.toNat - v2.toNat) (List.drop v2.toNat ((runesP s).getD []))))).toList == (ByteArray.mk #[(116 : UInt8), (121 : UInt8), (112 : UInt8), (101 : UInt8)]).toList then
              (bif (bytesOf (List.map u8E (List.take (v8.toNat - v2.toNat) (List.drop v2.toNat ((runesP s).getD []))))).toList == (ByteArray.mk #[(114 : UInt8), (101 : UInt8), (108 : UInt8)]).toList then
                (bif (bytesOf (List.map u8E (List.take (v8.toNat - v2.toNat) (List.drop v2.toNat ((runesP s).getD []))))).toList == (ByteArray.mk #[(116 : UInt8), (104 : UInt8), (105 : UInt8), (115 : UInt8)]).toList then
                  (bif decide ((v7.length + (1 : Nat)) * (40 : Nat) ≤ (140737488355328 : Nat) ∧ v7.length + (1 : Nat) ≤ (9223372036854775807 : Nat)) then
                    r_lex_L0 m K F n s (v7 ++ [[C.int IntKind.i64 (4 : Int), C.str (bytesOf (List.map u8E (List.take (v8.toNat - v2.toNat) (List.drop v2.toNat ((runesP s).getD []))))), C.int IntKind.i64 v5, C.int IntKind.i64 v6]]) v8
                  else none)
                else (bif decide ((v7.length + (1 : Nat)) * (40 : Nat) ≤ (140737488355328 : Nat) ∧ v7.length + (1 : Nat) ≤ (9223372036854775807 : Nat)) then
                    r_lex_L0 m K F n s (v7 ++ [[C.int IntKind.i64 (3 : Int), C.str (bytesOf (List.map u8E (List.take (v8.toNat - v2.toNat) (List.drop v2.toNat ((runesP s).getD []))))), C.int IntKind.i64 v5, C.int IntKind.i64 v6]]) v8
                  else none))
              else (bif (bytesOf (List.map u8E (List.take (v8.toNat - v2.toNat) (List.drop v2.toNat ((runesP s).getD []))))).toList == (ByteArray.mk #[(116 : UInt8), (104 : UInt8), (105 : UInt8), (115 : UInt8)]).toList then
                  (bif decide ((v7.length + (1 : Nat)) * (40 : Nat) ≤ (140737488355328 : Nat) ∧ v7.length + (1 : Nat) ≤ (9223372036854775807 : Nat)) then
                    r_lex_L0 m K F n s (v7 ++ [[C.int IntKind.i64 (4 : Int), C.str (bytesOf (List.map u8E (List.take (v8.toNat - v2.toNat) (List.drop v2.toNat ((runesP s).getD []))))), C.int IntKind.i64 v5, C.int IntKind.i64 v6]]) v8
                  else none)
                else (bif decide ((v7.length + (1 : Nat)) * (40 : Nat) ≤ (140737488355328 : Nat) ∧ v7.length + (1 : Nat) ≤ (9223372036854775807 : Nat)) then
                    r_lex_L0 m K F n s (v7 ++ [[C.int IntKind.i64 (2 : Int), C.str (bytesOf (List.map u8E (List.take (v8.toNat - v2.toNat) (List.drop v2.toNat ((runesP s).getD []))))), C.int IntKind.i64 v5, C.int IntKind.i64 v6]]) v8
                  else none)))
            else (bif (bytesOf (List.map u8E (List.take (v8.toNat - v2.toNat) (List.drop v2.toNat ((runesP s).getD []))))).toList == (ByteArray.mk #[(114 : UInt8), (101 : UInt8), (108 : UInt8)]).toList then
                (bif (bytesOf (List.map u8E (List.take (v8.toNat - v2.toNat) (List.drop v2.toNat ((runesP s).getD []))))).toList == (ByteArray.mk #[(116 : UInt8), (104 : UInt8), (105 : UInt8), (115 : UInt8)]).toList then
                  (bif decide ((v7.length + (1 : Nat)) * (40 : Nat) ≤ (140737488355328 : Nat) ∧ v7.length + (1 : Nat) ≤ (9223372036854775807 : Nat)) then
                    r_lex_L0 m K F n s (v7 ++ [[C.int IntKind.i64 (4 : Int), C.str (bytesOf (List.map u8E (List.take (v8.toNat - v2.toNat) (List.drop v2.toNat ((runesP s).getD []))))), C.int IntKind.i64 v5, C.int IntKind.i64 v6]]) v8
                  else none)
                else (bif decide ((v7.length + (1 : Nat)) * (40 : Nat) ≤ (140737488355328 : Nat) ∧ v7.length + (1 : Nat) ≤ (9223372036854775807 : Nat)) then
                    r_lex_L0 m K F n s (v7 ++ [[C.int IntKind.i64 (3 : Int), C.str (bytesOf (List.map u8E (List.take (v8.toNat - v2.toNat) (List.drop v2.toNat ((runesP s).getD []))))), C.int IntKind.i64 v5, C.int IntKind.i64 v6]]) v8
                  else none))
              else (bif (bytesOf (List.map u8E (List.take (v8.toNat - v2.toNat) (List.drop v2.toNat ((runesP s).getD []))))).toList == (ByteArray.mk #[(116 : UInt8), (104 : UInt8), (105 : UInt8), (115 : UInt8)]).toList then
                  (bif decide ((v7.length + (1 : Nat)) * (40 : Nat) ≤ (140737488355328 : Nat) ∧ v7.length + (1 : Nat) ≤ (9223372036854775807 : Nat)) then
                    r_lex_L0 m K F n s (v7 ++ [[C.int IntKind.i64 (4 : Int), C.str (bytesOf (List.map u8E (List.take (v8.toNat - v2.toNat) (List.drop v2.toNat ((runesP s).getD []))))), C.int IntKind.i64 v5, C.int IntKind.i64 v6]]) v8
                  else none)
                else (bif decide ((v7.length + (1 : Nat)) * (40 : Nat) ≤ (140737488355328 : Nat) ∧ v7.length + (1 : Nat) ≤ (9223372036854775807 : Nat)) then
                    r_lex_L0 m K F n s (v7 ++ [[C.int IntKind.i64 (1 : Int), C.str (bytesOf (List.map u8E (List.take (v8.toNat - v2.toNat) (List.drop v2.toNat ((runesP s).getD []))))), C.int IntKind.i64 v5, C.int IntKind.i64 v6]]) v8
                  else none)))))
        else none)
      else none)
    else (bif decide ((0 : Int) ≤ v2) then
        (getT ((runesP s).getD []) v2.toNat fun z11 =>
          (getT z11 0 fun z12 =>
            (bif shOk [Sh.int IntKind.i64] [z12] then
              (bif ([z12].getD (0 : Nat) C.nf).toInt == (45 : Int) then
                (bif decide (v2 < IntKind.i64.wrap ((↑((runesP s).getD []).length : Int) - (1 : Int))) then
                  (bif decide ((0 : Int) ≤ IntKind.i64.wrap (v2 + (1 : Int))) then
                    (getT ((runesP s).getD []) ((IntKind.i64.wrap (v2 + (1 : Int))).toNat) fun z13 =>
                      (getT z13 0 fun z14 =>
                        (bif shOk [Sh.int IntKind.i64] [z14] then
                          (bif ([z14].getD (0 : Nat) C.nf).toInt == (62 : Int) then
                            (bif decide ((v7.length + (1 : Nat)) * (40 : Nat) ≤ (140737488355328 : Nat) ∧ v7.length + (1 : Nat) ≤ (9223372036854775807 : Nat)) then
                              r_lex_L0 m K F n s (v7 ++ [[C.int IntKind.i64 (5 : Int), C.str (ByteArray.mk #[(45 : UInt8), (62 : UInt8)]), C.int IntKind.i64 v5, C.int IntKind.i64 v6]]) (IntKind.i64.wrap (v2 + (2 : Int)))
                            else none)
                          else (bif decide ((0 : Int) ≤ v2) then
                              (getT ((runesP s).getD []) v2.toNat fun z15 =>
                                (getT z15 0 fun z16 =>
                                  (bif shOk [Sh.int IntKind.i64] [z16] then
                                    (bif amongP ([z16].getD (0 : Nat) C.nf).toInt [[C.int IntKind.i64 (123 : Int)], [C.int IntKind.i64 (125 : Int)], [C.int IntKind.i64 (91 : Int)], [C.int IntKind.i64 (93 : Int)], [C.int IntKind.i64 (40 : Int)], [C.int IntKind.i64 (41 : Int)], [C.int IntKind.i64 (61 : Int)], [C.int IntKind.i64 (59 : Int)], [C.int IntKind.i64 (44 : Int)], [C.int IntKind.i64 (58 : Int)], [C.int IntKind.i64 (35 : Int)], [C.int IntKind.i64 (42 : Int)], [C.int IntKind.i64 (124 : Int)], [C.int IntKind.i64 (38 : Int)], [C.int IntKind.i64 (45 : Int)]] then
                                      (bif decide ((0 : Int) ≤ v2) then
                                        (getT ((runesP s).getD []) v2.toNat fun z17 =>
                                          (getT z17 0 fun z18 =>
                                            (bif shOk [Sh.int IntKind.i64] [z18] then
                                              (bif decide ((0 : Int) ≤ v2 ∧ v2 ≤ IntKind.i64.wrap (v2 + (1 : Int)) ∧ IntKind.i64.wrap (v2 + (1 : Int)) ≤ (↑((runesP s).getD []).length : Int)) then
                                                (bif (List.take ((IntKind.i64.wrap (v2 + (1 : Int))).toNat - v2.toNat) (List.drop v2.toNat ((runesP s).getD []))).all isI && decide ((List.take ((IntKind.i64.wrap (v2 + (1 : Int))).toNat - v2.toNat) (List.drop v2.toNat ((runesP s).getD []))).length < (1000000 : Nat)) then
                                                  (bif decide ((v7.length + (1 : Nat)) * (40 : Nat) ≤ (140737488355328 : Nat) ∧ v7.length + (1 : Nat) ≤ (9223372036854775807 : Nat)) then
                                                    r_lex_L0 m K F n s (v7 ++ [[C.int IntKind.i64 ([z18].getD (0 : Nat) C.nf).toInt, C.str (bytesOf (List.map u8E (List.take ((IntKind.i64.wrap (v2 + (1 : Int))).toNat - v2.toNat) (List.drop v2.toNat ((runesP s).getD []))))), C.int IntKind.i64 v5, C.int IntKind.i64 v6]]) (IntKind.i64.wrap (v2 + (1 : Int)))
                                                  else none)
                                                else none)
                                              else none)
                                            else none)))
                                      else none)
                                    else K .rt (r_lex_E3 v5 v6))
                                  else none)))
                            else none))
                        else none)))
                  else none)
                else (bif decide ((0 : Int) ≤ v2) then
                    (getT ((runesP s).getD []) v2.toNat fun z19 =>
                      (getT z19 0 fun z20 =>
                        (bif shOk [Sh.int IntKind.i64] [z20] then
                          (bif amongP ([z20].getD (0 : Nat) C.nf).toInt [[C.int IntKind.i64 (123 : Int)], [C.int IntKind.i64 (125 : Int)], [C.int IntKind.i64 (91 : Int)], [C.int IntKind.i64 (93 : Int)], [C.int IntKind.i64 (40 : Int)], [C.int IntKind.i64 (41 : Int)], [C.int IntKind.i64 (61 : Int)], [C.int IntKind.i64 (59 : Int)], [C.int IntKind.i64 (44 : Int)], [C.int IntKind.i64 (58 : Int)], [C.int IntKind.i64 (35 : Int)], [C.int IntKind.i64 (42 : Int)], [C.int IntKind.i64 (124 : Int)], [C.int IntKind.i64 (38 : Int)], [C.int IntKind.i64 (45 : Int)]] then
                            (bif decide ((0 : Int) ≤ v2) then
                              (getT ((runesP s).getD []) v2.toNat fun z21 =>
                                (getT z21 0 fun z22 =>
                                  (bif shOk [Sh.int IntKind.i64] [z22] then
                                    (bif decide ((0 : Int) ≤ v2 ∧ v2 ≤ IntKind.i64.wrap (v2 + (1 : Int)) ∧ IntKind.i64.wrap (v2 + (1 : Int)) ≤ (↑((runesP s).getD []).length : Int)) then
                                      (bif (List.take ((IntKind.i64.wrap (v2 + (1 : Int))).toNat - v2.toNat) (List.drop v2.toNat ((runesP s).getD []))).all isI && decide ((List.take ((IntKind.i64.wrap (v2 + (1 : Int))).toNat - v2.toNat) (List.drop v2.toNat ((runesP s).getD []))).length < (1000000 : Nat)) then
                                        (bif decide ((v7.length + (1 : Nat)) * (40 : Nat) ≤ (140737488355328 : Nat) ∧ v7.length + (1 : Nat) ≤ (9223372036854775807 : Nat)) then
                                          r_lex_L0 m K F n s (v7 ++ [[C.int IntKind.i64 ([z22].getD (0 : Nat) C.nf).toInt, C.str (bytesOf (List.map u8E (List.take ((IntKind.i64.wrap (v2 + (1 : Int))).toNat - v2.toNat) (List.drop v2.toNat ((runesP s).getD []))))), C.int IntKind.i64 v5, C.int IntKind.i64 v6]]) (IntKind.i64.wrap (v2 + (1 : Int)))
                                        else none)
                                      else none)
                                    else none)
                                  else none)))
                            else none)
                          else K .rt (r_lex_E3 v5 v6))
                        else none)))
                  else none))
              else (bif decide ((0 : Int) ≤ v2) then
                  (getT ((runesP s).getD []) v2.toNat fun z23 =>
                    (getT z23 0 fun z24 =>
                      (bif shOk [Sh.int IntKind.i64] [z24] then
                        (bif amongP ([z24].getD (0 : Nat) C.nf).toInt [[C.int IntKind.i64 (123 : Int)], [C.int IntKind.i64 (125 : Int)], [C.int IntKind.i64 (91 : Int)], [C.int IntKind.i64 (93 : Int)], [C.int IntKind.i64 (40 : Int)], [C.int IntKind.i64 (41 : Int)], [C.int IntKind.i64 (61 : Int)], [C.int IntKind.i64 (59 : Int)], [C.int IntKind.i64 (44 : Int)], [C.int IntKind.i64 (58 : Int)], [C.int IntKind.i64 (35 : Int)], [C.int IntKind.i64 (42 : Int)], [C.int IntKind.i64 (124 : Int)], [C.int IntKind.i64 (38 : Int)], [C.int IntKind.i64 (45 : Int)]] then
                          (bif decide ((0 : Int) ≤ v2) then
                            (getT ((runesP s).getD []) v2.toNat fun z25 =>
                              (getT z25 0 fun z26 =>
                                (bif shOk [Sh.int IntKind.i64] [z26] then
                                  (bif decide ((0 : Int) ≤ v2 ∧ v2 ≤ IntKind.i64.wrap (v2 + (1 : Int)) ∧ IntKind.i64.wrap (v2 + (1 : Int)) ≤ (↑((runesP s).getD []).length : Int)) then
                                    (bif (List.take ((IntKind.i64.wrap (v2 + (1 : Int))).toNat - v2.toNat) (List.drop v2.toNat ((runesP s).getD []))).all isI && decide ((List.take ((IntKind.i64.wrap (v2 + (1 : Int))).toNat - v2.toNat) (List.drop v2.toNat ((runesP s).getD []))).length < (1000000 : Nat)) then
                                      (bif decide ((v7.length + (1 : Nat)) * (40 : Nat) ≤ (140737488355328 : Nat) ∧ v7.length + (1 : Nat) ≤ (9223372036854775807 : Nat)) then
                                        r_lex_L0 m K F n s (v7 ++ [[C.int IntKind.i64 ([z26].getD (0 : Nat) C.nf).toInt, C.str (bytesOf (List.map u8E (List.take ((IntKind.i64.wrap (v2 + (1 : Int))).toNat - v2.toNat) (List.drop v2.toNat ((runesP s).getD []))))), C.int IntKind.i64 v5, C.int IntKind.i64 v6]]) (IntKind.i64.wrap (v2 + (1 : Int)))
                                      else none)
                                    else none)
                                  else none)
                                else none)))
                          else none)
                        else K .rt (r_lex_E3 v5 v6))
                      else none)))
                else none))
            else none)))
      else none)) := by kernel_rfl
theorem r_lex_r2 {R : Type} (m : Int) (K : X → St → Option R) (F n : Nat) (s : ByteArray) (v2 : Int) (v5 : Int) (v6 : Int) (v7 : List (List C)) (v8 : Int) : r_lex_L2 m K F (n + 1) s v2 v5 v6 v7 v8 =
    (bif decide (v8 < (↑((runesP s).getD []).length : Int)) then
      (bif decide ((0 : Int) ≤ v8) then
        (getT ((runesP s).getD []) v8.toNat fun z9 =>
          (getT z9 0 fun z10 =>
            (bif shOk [Sh.int IntKind.i64] [z10] then
              (bif letterP ([z10].getD (0 : Nat) C.nf).toInt (v8 == v2) then
                r_lex_L2 m K F n s v2 v5 v6 v7 (IntKind.i64.wrap (v8 + (1 : Int)))
              else K (.ex 4) (r_lex_E2 s v2 v5 v6 v7 v8))
            else none)))
      else none)
    else K (.ex 4) (r_lex_E2 s v2 v5 v6 v7 v8)) := by kernel_rfl
def r_lex_E4 (s : ByteArray) (v1 : List (List C)) : St := { env := [vu, vu, vu, vu, vu, vu, (vc (.sl 1 ((runesP s).getD []))), vu, (.t (.w (.arr 0))), vu, vu, vu, vu, vu, vu, vu, vu, vu, vu, vu, vu, vu, vu, vu, vu, vu, vu, vu, vu, vu, vu, vu, vu, vu, vu, vu, vu, vu, vu, vu, vu, vu, vu, vu, vu, vu, vu, vu, vu, vu, vu, vu, vu, vu, vu, vu, vu, vu, vu, vu, vu, vu, vu, vu, vu, vu, vu, vu, vu, vu, vu, vu, vu, vu, vu, vu, vu, vu, vu, vu, vu, vu, vu, vu, vu, vu, vu, vu, vu, vu, vu, vu, vu, vu, vu, vu, vu, vu, vu, vu, vu, vu, vu, vu, vu, vu, vu, vu, vu, vu, vu, vu, vu, vu, vu, vu, vu, vu, vu, vu, vu, vu, vu, vu, vu, vu, vu, vu, vu, vu, vu, vu, vu, vu, vu, vu, vu, vu, vu, vu, vu, vu, vu, vu, vu, vu, vu, vu, vu, vu, vu, vu, vu, vu, vu, vu, vu, vu, vu, vu, vu, vu, vu, vu, vu, vu, vu, vu, vu, vu, vu, vu, vu, vu, vu, vu, vu, vu, vu, vu, vu, vu, vu, vu, vu, vu, vu, vu], bx := [(some (.arr true (some 35) 4 v1))], np := 0 }
theorem r_lex_c4 {R : Type} (m : Int) (k : V → Bx → Option R) (F : Nat) (s : ByteArray) (v1 : List (List C)) : r_lex_K0 m k F (.ex 0) (r_lex_E4 s v1) =
    (bif ((runesP s).getD []).all isI && decide (((runesP s).getD []).length < (1000000 : Nat)) && true && decide ((↑((runesP s).getD []).length : Int) ≤ (↑((runesP s).getD []).length : Int)) then
      k (.tup [(.w (.d (.sl 4 v1))), (.w (.d (.int .i64 ((placeP (List.take (↑((runesP s).getD []).length : Int).toNat ((runesP s).getD [])) (1 : Int) (1 : Int)).fst)))), (.w (.d (.int .i64 ((placeP (List.take (↑((runesP s).getD []).length : Int).toNat ((runesP s).getD [])) (1 : Int) (1 : Int)).snd)))), (.w (.d (.int .i64 0)))]) []
    else none) := by kernel_rfl
theorem r_lex_r0 {R : Type} (m : Int) (K : X → St → Option R) (F n : Nat) (s : ByteArray) (v1 : List (List C)) (v2 : Int) : r_lex_L0 m K F (n + 1) s v1 v2 =
    (bif decide (v2 < (↑((runesP s).getD []).length : Int)) then
      (bif decide ((0 : Int) ≤ v2) then
        (getT ((runesP s).getD []) v2.toNat fun z1 =>
          (getT z1 0 fun z2 =>
            (bif shOk [Sh.int IntKind.i64] [z2] then
              (bif amongP ([z2].getD (0 : Nat) C.nf).toInt [[C.int IntKind.i64 (9 : Int)], [C.int IntKind.i64 (10 : Int)], [C.int IntKind.i64 (13 : Int)], [C.int IntKind.i64 (32 : Int)], [C.int IntKind.i64 (12288 : Int)]] then
                r_lex_L0 m K F n s v1 (IntKind.i64.wrap (v2 + (1 : Int)))
              else (bif decide ((0 : Int) ≤ v2) then
                  (getT ((runesP s).getD []) v2.toNat fun z3 =>
                    (getT z3 0 fun z4 =>
                      (bif shOk [Sh.int IntKind.i64] [z4] then
                        (bif ([z4].getD (0 : Nat) C.nf).toInt == (47 : Int) then
                          (bif decide (v2 < IntKind.i64.wrap ((↑((runesP s).getD []).length : Int) - (1 : Int))) then
                            (bif decide ((0 : Int) ≤ IntKind.i64.wrap (v2 + (1 : Int))) then
                              (getT ((runesP s).getD []) ((IntKind.i64.wrap (v2 + (1 : Int))).toNat) fun z5 =>
                                (getT z5 0 fun z6 =>
                                  (bif shOk [Sh.int IntKind.i64] [z6] then
                                    (bif ([z6].getD (0 : Nat) C.nf).toInt == (47 : Int) then
                                      r_lex_L1 m (r_lex_K1 m K F n) F F s v1 v2
                                    else (bif ((runesP s).getD []).all isI && decide (((runesP s).getD []).length < (1000000 : Nat)) && decide ((0 : Int) ≤ v2) && decide (v2 ≤ (↑((runesP s).getD []).length : Int)) then
                                        r_lex_L2 m (r_lex_K2 m K F n) F F s v2 ((placeP (List.take v2.toNat ((runesP s).getD [])) (1 : Int) (1 : Int)).fst) ((placeP (List.take v2.toNat ((runesP s).getD [])) (1 : Int) (1 : Int)).snd) v1 v2
                                      else none))
                                  else none)))
                            else none)
                          else (bif ((runesP s).getD []).all isI && decide (((runesP s).getD []).length < (1000000 : Nat)) && decide ((0 : Int) ≤ v2) && decide (v2 ≤ (↑((runesP s).getD []).length : Int)) then
                              r_lex_L2 m (r_lex_K2 m K F n) F F s v2 ((placeP (List.take v2.toNat ((runesP s).getD [])) (1 : Int) (1 : Int)).fst) ((placeP (List.take v2.toNat ((runesP s).getD [])) (1 : Int) (1 : Int)).snd) v1 v2
                            else none))
                        else (bif ((runesP s).getD []).all isI && decide (((runesP s).getD []).length < (1000000 : Nat)) && decide ((0 : Int) ≤ v2) && decide (v2 ≤ (↑((runesP s).getD []).length : Int)) then
                            r_lex_L2 m (r_lex_K2 m K F n) F F s v2 ((placeP (List.take v2.toNat ((runesP s).getD [])) (1 : Int) (1 : Int)).fst) ((placeP (List.take v2.toNat ((runesP s).getD [])) (1 : Int) (1 : Int)).snd) v1 v2
                          else none))
                      else none)))
                else none))
            else none)))
      else none)
    else K (.ex 0) (r_lex_E4 s v1)) := by kernel_rfl
theorem r_lex_start {R : Type} (m : Int) (k : V → Bx → Option R) (F : Nat) (s : ByteArray) : runFn (r_lex_cf m) F Tryd.f15 (bd Tryd.f15) [vs s] [] k =
    (bif decide (s.size < (1000000 : Nat)) then
      (bif !(runesP s).isSome then
        k (.tup [(.w (.d (.sl 4 []))), (.w (.d (.int .i64 0))), (.w (.d (.int .i64 0))), (.w (.d (.int .i64 4)))]) []
      else (bif decide ((↑((runesP s).getD []).length : Int) > (3000 : Int)) then
          k (.tup [(.w (.d (.sl 4 []))), (.w (.d (.int .i64 0))), (.w (.d (.int .i64 0))), (.w (.d (.int .i64 3)))]) []
        else r_lex_L0 m (r_lex_K0 m k F) F F s [] 0))
    else none) := by kernel_rfl
end Go.Proofs.YtniiimpcakmkbaaDoor

/- the reference's Runes answers by its tree -/
set_option linter.unusedVariables false
namespace Go.Proofs.YtniiimpcakmkbaaDoor
open Go Vm Go.RowKit
theorem tabR1_ok (m : Int) : TabS Tryd.prog (globT m) tabR1 := .cons (rune_ok m) .nil
theorem multiR_cases (s : ByteArray) (i size : Nat) (r0 least : Int) : (multiR s i size r0 least).2 = 0 ∨ ((multiR s i size r0 least).2 = size ∧ i + size ≤ s.size) := by
  unfold multiR
  by_cases h : s.size < i + size
  · rw [decide_eq_true h]; exact .inl rfl
  · rw [decide_eq_false h, cond_false]
    cases accR s i 1 (size - 1) r0 with
    | none => exact .inl rfl
    | some r =>
      simp only
      unfold finR
      cases (decide (r < least) || decide (r > 1114111) || (decide (r ≥ 55296) && decide (r ≤ 57343))) with
      | true => exact .inl rfl
      | false => exact .inr ⟨rfl, by omega⟩
theorem runeP_size (s : ByteArray) (i : Nat) (hi : i < s.size) : (runeP s i).2 = 0 ∨ ∃ k : Nat, (runeP s i).2 = k ∧ 1 ≤ k ∧ i + k ≤ s.size := by
  unfold runeP
  have mk : ∀ (size : Nat) (r0 least : Int), 1 ≤ size → (multiR s i size r0 least).2 = 0 ∨ ∃ k : Nat, (multiR s i size r0 least).2 = k ∧ 1 ≤ k ∧ i + k ≤ s.size := by
    intro size r0 least h1
    rcases multiR_cases s i size r0 least with h | ⟨h, h2⟩
    · exact .inl h
    · exact .inr ⟨size, h, h1, h2⟩
  cases decide (byteN s i < 128) with
  | true => exact .inr ⟨1, rfl, by omega, by omega⟩
  | false =>
    rw [cond_false]
    cases (decide (192 ≤ byteN s i) && decide (byteN s i < 224)) with
    | true => exact mk 2 _ _ (by omega)
    | false =>
      rw [cond_false]
      cases (decide (224 ≤ byteN s i) && decide (byteN s i < 240)) with
      | true => exact mk 3 _ _ (by omega)
      | false =>
        rw [cond_false]
        cases (decide (240 ≤ byteN s i) && decide (byteN s i < 248)) with
        | true => exact mk 4 _ _ (by omega)
        | false => exact .inl rfl
theorem r_runes_loop {R : Type} (m : Int) (k : V → Bx → Option R) (F : Nat) (s : ByteArray) (hs : s.size < 1000000) : ∀ (n i : Nat) (out : List (List C)), i ≤ s.size → s.size - i < n → out.length ≤ i →
    r_runes_L0 m (r_runes_K0 m k F) F n s out i = k (.tup [.w (.d (.sl 1 ((runesAt s n i out).getD []))), .w (.d (.bool (runesAt s n i out).isSome))]) [] := by
  intro n
  induction n with
  | zero => intro i out _ h; omega
  | succ n ih =>
    intro i out hi h ho
    rw [r_runes_r0]
    simp only [runesAt]
    by_cases hlt : i < s.size
    · have d1 : decide ((i : Int) < (s.size : Int)) = true := by simpa using hlt
      have d2 : (decide ((0 : Int) ≤ (i : Int)) && decide ((i : Int) < (s.size : Int)) && decide (s.size < 1000000000)) = true := by
        simp only [Bool.and_eq_true, decide_eq_true_eq]; omega
      have d3 : decide ((out.length + 1) * 8 ≤ 140737488355328 ∧ out.length + 1 ≤ 9223372036854775807) = true := by simp only [decide_eq_true_eq]; omega
      have hsz := runeP_size s i hlt
      rw [d2, d1, cond_true, cond_true, Int.toNat_natCast, decide_eq_true hlt, cond_true]
      generalize runeP s i = p at hsz
      cases hz : p.2 == 0 with
      | true => rw [cond_true, cond_true, r_runes_c1]; rfl
      | false =>
        have hz0 : p.2 ≠ 0 := by simpa using hz
        rcases hsz with h0 | ⟨w, hw, hw1, hw2⟩
        · exact absurd h0 hz0
        · rw [cond_false, cond_false, d3, cond_true, hw, Int.toNat_natCast, w64 ((i : Int) + (w : Int)) (by omega) (by omega)]
          have := ih (i + w) (out ++ [[C.int .i64 p.1]]) hw2 (by omega) (by simp; omega)
          rw [show ((i + w : Nat) : Int) = (i : Int) + (w : Int) by omega] at this
          exact this
    · have : i = s.size := by omega
      subst this
      have d1 : decide ((s.size : Int) < (s.size : Int)) = false := by simp
      have d2 : decide (s.size < s.size) = false := by simp
      rw [d1, cond_false, d2, cond_false, r_runes_c2]; rfl
theorem runes_ok (m : Int) : SpecOk Tryd.prog (globT m) 17 runesS := by
  intro a b v b' h
  unfold runesS at h
  split at h
  · rename_i s
    rcases run_ite h with ⟨hl, h⟩ | ⟨_, h⟩
    · simp only [decide_eq_true_eq] at hl
      obtain ⟨rfl, rfl⟩ := run_ret h
      refine specAtG mix vti_ok Tryd.func17 rfl (by kernel_rfl) (tabR1_ok m) (s.size + 1) ((r_runes_start m fin2 _ s).trans ?_)
      rw [show (0 : Int) = ((0 : Nat) : Int) from rfl, r_runes_loop m _ _ s hl _ 0 [] (by omega) (by omega) (by simp)]
      rfl
    · exact (run_no h).elim
  · cases h
theorem tabR_ok (m : Int) : TabS Tryd.prog (globT m) tabR := .cons (runes_ok m) (.cons (among_ok m) (.cons (place_ok m) (.cons (part_ok m) (.cons (text_ok m) .nil))))
end Go.Proofs.YtniiimpcakmkbaaDoor

/- the reference's Lex is the relation too -/
set_option linter.unusedVariables false
namespace Go.Proofs.YtniiimpcakmkbaaDoor
open Go Vm Go.Lib Go.RowKit
/-! ### runes as numbers -/
def cI (c : Nat) : List C := [.int .i64 (c : Int)]
theorem runesAt_encs {s : ByteArray} : ∀ (ns pre : List Nat) (n : Nat) (out : List (List C)), s.data.toList = encs (pre ++ ns) → SC ns → ns.length < n → runesAt s n (encs pre).length out = some (out ++ ns.map cI) := by
  intro ns
  induction ns with
  | nil =>
    intro pre n out h hs hn
    have hz : s.size = (encs pre).length := by rw [size_data, h]; simp
    cases n with
    | zero => omega
    | succ n => unfold runesAt; rw [decide_eq_false (by omega), cond_false]; simp
  | cons c r ih =>
    intro pre n out h hs hn
    have hlt : (encs pre).length < s.size := by rw [size_data, h, encs_app, encs_cons]; have := (encN_len c).1; simp; omega
    have hd := dec_at s pre c r h hs.head
    have hw := (encN_len c).1
    cases n with
    | zero => omega
    | succ n =>
      unfold runesAt
      rw [decide_eq_true hlt, cond_true]
      rcases rune_dec s (encs pre).length hlt with ⟨hb, _⟩ | ⟨_, hr⟩
      · exfalso
        rw [hd] at hb
        have h1 : c = 65533 := congrArg Prod.fst hb
        have h2 : (encN c).length = 1 := congrArg Prod.snd hb
        subst h1
        rw [encN_65533] at h2; omega
      · rw [hr, hd]
        simp only
        have e0 : (((encN c).length : Int) == 0) = false := by rw [beq_eq_false_iff_ne]; omega
        have e : (encs pre).length + (encN c).length = (encs (pre ++ [c])).length := by rw [encs_app, encs_cons, encs_nil]; simp
        rw [e0, cond_false, Int.toNat_natCast, e, ih (pre ++ [c]) n _ (by rw [h]; simp) hs.tail (by simp at hn; omega)]
        simp [cI]
theorem runesP_encs {ns : List Nat} (hs : SC ns) : runesP (bsN ns) = some (ns.map cI) := by
  have := runesAt_encs (s := bsN ns) ns [] ((bsN ns).size + 1) [] (bsN_data ns) hs (by have := encs_len ns; rw [bsN_size]; omega)
  simpa [runesP, encs_nil] using this
theorem runesAt_valid (s : ByteArray) : ∀ (n i : Nat) (out : List (List C)), s.size - i < n → i ≤ s.size → (runesAt s n i out).isSome = true → firstAt s (fun i r => brokenP s i r) n i = s.size := by
  intro n
  induction n with
  | zero => intro i out h; omega
  | succ n ih =>
    intro i out h hi hr
    unfold runesAt at hr
    unfold firstAt
    by_cases hlt : i < s.size
    · rw [decide_eq_true hlt, cond_true] at hr ⊢
      rcases rune_dec s i hlt with ⟨hb, h0⟩ | ⟨hb, h0⟩
      · rw [h0] at hr; simp at hr
      · have hbf : brokenP s (i : Int) ((Utf8.decode s i).1 : Int) = false := by
          rw [← Bool.not_eq_true]; exact fun hx => hb ((broken_dec s i hlt).1 hx)
        rw [hbf, cond_false]
        rw [h0] at hr
        simp only [Int.toNat_natCast] at hr
        have hw := dec_pos hlt
        have e0 : (((Utf8.decode s i).2 : Int) == 0) = false := by rw [beq_eq_false_iff_ne]; omega
        rw [e0, cond_false] at hr
        have hle : i + (Utf8.decode s i).2 ≤ s.size := by
          have hne : s.data.toList.drop i ≠ [] := by
            intro h0
            have := congrArg List.length h0
            rw [List.length_drop, ← size_data] at this
            simp at this; omega
          obtain ⟨h1, h2, h3⟩ := enc_dec (s.data.toList.drop i) hne (by rw [decodeL_drop]; exact hb)
          rw [decodeL_drop] at h1 h2 h3
          have := congrArg List.length h3
          rw [List.length_append, List.length_drop, List.length_drop, List.length_drop, ← size_data] at this
          omega
        exact ih _ _ (by omega) hle hr
    · rw [decide_eq_false hlt, cond_false]
theorem runesP_bad {s : ByteArray} (h : validP s = false) : (runesP s).isSome = false := by
  rw [← Bool.not_eq_true]
  intro hr
  have := runesAt_valid s (s.size + 1) 0 [] (by omega) (by omega) hr
  unfold validP first at h
  rw [this] at h; simp at h
/-! ### small facts -/
theorem all_cI (ns : List Nat) : (ns.map cI).all isI = true := by
  rw [List.all_eq_true]
  intro x hx
  obtain ⟨c, _, rfl⟩ := List.mem_map.1 hx
  rfl
theorem place_advs : ∀ (ns : List Nat) (l c : Int), placeP (ns.map cI) l c = advs (l, c) ns := by
  intro ns
  induction ns with
  | nil => intro l c; rfl
  | cons d r ih => intro l c; exact ih _ _
theorem among_blank (c : Nat) : amongP (c : Int) [[C.int IntKind.i64 (9 : Int)], [C.int IntKind.i64 (10 : Int)], [C.int IntKind.i64 (13 : Int)], [C.int IntKind.i64 (32 : Int)], [C.int IntKind.i64 (12288 : Int)]] = blankN c := by
  apply bool_eq
  unfold blankN
  simp only [amongP, numE, List.getD_cons_zero, C.toInt, Bool.or_eq_true, beq_iff_eq, Bool.false_eq_true, or_false]
  omega
theorem among_sign (c : Nat) : amongP (c : Int) [[C.int IntKind.i64 (123 : Int)], [C.int IntKind.i64 (125 : Int)], [C.int IntKind.i64 (91 : Int)], [C.int IntKind.i64 (93 : Int)], [C.int IntKind.i64 (40 : Int)], [C.int IntKind.i64 (41 : Int)], [C.int IntKind.i64 (61 : Int)], [C.int IntKind.i64 (59 : Int)], [C.int IntKind.i64 (44 : Int)], [C.int IntKind.i64 (58 : Int)], [C.int IntKind.i64 (35 : Int)], [C.int IntKind.i64 (42 : Int)], [C.int IntKind.i64 (124 : Int)], [C.int IntKind.i64 (38 : Int)], [C.int IntKind.i64 (45 : Int)]] = decide (c ∈ signsN) := by
  apply bool_eq
  rw [decide_eq_true_eq]
  simp only [signsN, List.mem_cons, List.mem_nil_iff, or_false, amongP, numE, List.getD_cons_zero, C.toInt, Bool.or_eq_true, beq_iff_eq, Bool.false_eq_true]
  omega
theorem text_encs {w : List Nat} (h : ∀ c ∈ w, c < 128) : bytesOf ((w.map cI).map u8E) = bsN w := by
  apply ba_ext
  rw [bsN_data, encs_ascii w h]
  unfold bytesOf
  simp only [List.map_map]
  apply List.map_congr_left
  intro c hc
  have := h c hc
  simp only [Function.comp, cI, u8E, numE, List.getD_cons_zero, C.toInt]
  have e : IntKind.u8.wrap (c : Int) = c := by
    have : IntKind.u8.wrap (c : Int) = (c : Int) % 256 := by simp [IntKind.wrap, IntKind.bits, IntKind.signed]
    omega
  rw [e, Int.toNat_natCast]
theorem take_drop_mid {α : Type} (a b c : List α) : (List.drop a.length (a ++ (b ++ c))).take ((a.length + b.length) - a.length) = b := by
  rw [List.drop_left, Nat.add_sub_cancel_left, List.take_left']; rfl
/-! ### the inner loops -/
section
variable {R : Type} (m : Int) (F : Nat)
theorem nat_wrap1 {x : Nat} (h : x < 1000000000) : IntKind.i64.wrap ((x : Int) + 1) = ((x + 1 : Nat) : Int) := by rw [w64 _ (by omega) (by omega)]; push_cast; rfl
theorem sh_int (x : Int) : shOk [Sh.int IntKind.i64] [C.int .i64 x] = true := rfl
theorem r_remark (K : X → St → Option R) (all : List Nat) (hsc : SC all) (hl : all.length < 1000000) (out : List (List C)) : ∀ (ns pre : List Nat) (n : Nat), all = pre ++ ns → ns.length < n →
    r_lex_L1 m K F n (bsN all) out (pre.length : Int) = K (.ex 2) (r_lex_E1 (bsN all) out ((pre.length + (ns.takeWhile ne10).length : Nat) : Int)) := by
  have hN : (runesP (bsN all)).getD [] = all.map cI := by rw [runesP_encs hsc]; rfl
  intro ns
  induction ns with
  | nil =>
    intro pre n h hn
    cases n with
    | zero => omega
    | succ n =>
      rw [List.append_nil] at h
      subst h
      rw [r_lex_r1, hN]
      have d1 : decide ((all.length : Int) < ((all.map cI).length : Int)) = false := by simp
      rw [d1, cond_false]; rfl
  | cons c r ih =>
    intro pre n h hn
    cases n with
    | zero => omega
    | succ n =>
      have hlen : all.length = pre.length + (r.length + 1) := by rw [h]; simp
      rw [r_lex_r1, hN]
      have d1 : decide ((pre.length : Int) < ((all.map cI).length : Int)) = true := by rw [List.length_map]; simp; omega
      have d2 : decide ((0 : Int) ≤ (pre.length : Int)) = true := by simp
      have hg : (all.map cI)[pre.length]? = some (cI c) := by rw [h]; simp
      have hg0 : (cI c)[0]? = some (C.int .i64 (c : Int)) := rfl
      rw [d1, cond_true, d2, cond_true, getT_at rfl hg, getT_some hg0, sh_int, cond_true]
      have e1 : (([C.int .i64 (c : Int)].getD 0 C.nf).toInt != 10) = ne10 c := by
        show ((c : Int) != 10) = (c != 10)
        apply bool_eq; simp only [bne_iff_ne, ne_eq]; omega
      rw [e1, List.takeWhile_cons]
      cases hc : ne10 c with
      | true =>
        rw [cond_true, if_pos rfl, nat_wrap1 (by omega)]
        have := ih (pre ++ [c]) n (by rw [h]; simp) (by simp at hn; omega)
        rw [List.length_append] at this
        rw [List.length_cons, show pre.length + ((r.takeWhile ne10).length + 1) = pre.length + [c].length + (r.takeWhile ne10).length by simp; omega]
        exact this
      | false => rw [cond_false, if_neg (by simp)]; rfl
theorem r_wordT (K : X → St → Option R) (all : List Nat) (hsc : SC all) (hl : all.length < 1000000) (a v5 v6 : Int) (out : List (List C)) : ∀ (ns pre : List Nat) (n : Nat), all = pre ++ ns → a < (pre.length : Int) → ns.length < n →
    r_lex_L2 m K F n (bsN all) a v5 v6 out (pre.length : Int) = K (.ex 4) (r_lex_E2 (bsN all) a v5 v6 out ((pre.length + (ns.takeWhile partN).length : Nat) : Int)) := by
  have hN : (runesP (bsN all)).getD [] = all.map cI := by rw [runesP_encs hsc]; rfl
  intro ns
  induction ns with
  | nil =>
    intro pre n h ha hn
    cases n with
    | zero => omega
    | succ n =>
      rw [List.append_nil] at h
      subst h
      rw [r_lex_r2, hN]
      have d1 : decide ((all.length : Int) < ((all.map cI).length : Int)) = false := by simp
      rw [d1, cond_false]; rfl
  | cons c r ih =>
    intro pre n h ha hn
    cases n with
    | zero => omega
    | succ n =>
      have hlen : all.length = pre.length + (r.length + 1) := by rw [h]; simp
      rw [r_lex_r2, hN]
      have d1 : decide ((pre.length : Int) < ((all.map cI).length : Int)) = true := by rw [List.length_map]; simp; omega
      have d2 : decide ((0 : Int) ≤ (pre.length : Int)) = true := by simp
      have hg : (all.map cI)[pre.length]? = some (cI c) := by rw [h]; simp
      have hg0 : (cI c)[0]? = some (C.int .i64 (c : Int)) := rfl
      rw [d1, cond_true, d2, cond_true, getT_at rfl hg, getT_some hg0, sh_int, cond_true]
      have e0 : (((pre.length : Nat) : Int) == a) = false := by rw [beq_eq_false_iff_ne]; omega
      have e1 : letterP ([C.int .i64 (c : Int)].getD 0 C.nf).toInt false = partN c := letter_part c
      rw [e0, e1, List.takeWhile_cons]
      cases hc : partN c with
      | true =>
        rw [cond_true, if_pos rfl, nat_wrap1 (by omega)]
        have := ih (pre ++ [c]) n (by rw [h]; simp) (by simp; omega) (by simp at hn; omega)
        rw [List.length_append] at this
        rw [List.length_cons, show pre.length + ((r.takeWhile partN).length + 1) = pre.length + [c].length + (r.takeWhile partN).length by simp; omega]
        exact this
      | false => rw [cond_false, if_neg (by simp)]; rfl
theorem r_word (K : X → St → Option R) (all pre : List Nat) (c : Nat) (r : List Nat) (h : all = pre ++ c :: r) (hsc : SC all) (hl : all.length < 1000000) (v5 v6 : Int) (out : List (List C)) (n : Nat) (hn : r.length + 1 < n) :
    r_lex_L2 m K F n (bsN all) (pre.length : Int) v5 v6 out (pre.length : Int) = K (.ex 4) (r_lex_E2 (bsN all) (pre.length : Int) v5 v6 out ((pre.length + (wordN (c :: r)).length : Nat) : Int)) := by
  have hN : (runesP (bsN all)).getD [] = all.map cI := by rw [runesP_encs hsc]; rfl
  cases n with
  | zero => omega
  | succ n =>
    have hlen : all.length = pre.length + (r.length + 1) := by rw [h]; simp
    rw [r_lex_r2, hN]
    have d1 : decide ((pre.length : Int) < ((all.map cI).length : Int)) = true := by rw [List.length_map]; simp; omega
    have d2 : decide ((0 : Int) ≤ (pre.length : Int)) = true := by simp
    have hg : (all.map cI)[pre.length]? = some (cI c) := by rw [h]; simp
    have hg0 : (cI c)[0]? = some (C.int .i64 (c : Int)) := rfl
    rw [d1, cond_true, d2, cond_true, getT_at rfl hg, getT_some hg0, sh_int, cond_true, beq_self_eq_true]
    have e1 : letterP ([C.int .i64 (c : Int)].getD 0 C.nf).toInt true = lowN c := letter_N c
    rw [e1, wordN_cons]
    cases hc : lowN c with
    | true =>
      rw [cond_true, if_pos rfl, nat_wrap1 (by omega)]
      have := r_wordT m F K all hsc hl (pre.length : Int) v5 v6 out r (pre ++ [c]) n (by rw [h]; simp) (by simp only [List.length_append, List.length_cons, List.length_nil]; omega) (by omega)
      rw [List.length_append] at this
      rw [List.length_cons, show pre.length + ((r.takeWhile partN).length + 1) = pre.length + [c].length + (r.takeWhile partN).length by simp; omega]
      exact this
    | false => rw [cond_false, if_neg (by simp)]; rfl
/-! ### a token -/
theorem r_tokWord (K : X → St → Option R) (all pre w r : List Nat) (h : all = pre ++ (w ++ r)) (hsc : SC all) (hl : all.length < 1000000) (hw : w ≠ []) (hwa : ∀ c ∈ w, c < 128) (v5 v6 : Int) (out : List (List C)) (ho : out.length < 1000000) (n : Nat) :
    r_lex_K2 m K F n (.ex 4) (r_lex_E2 (bsN all) (pre.length : Int) v5 v6 out ((pre.length + w.length : Nat) : Int)) =
      if w.length ≤ 16 then r_lex_L0 m K F n (bsN all) (out ++ [tokC (kindN w, w, (v5, v6))]) ((pre.length + w.length : Nat) : Int) else K .rt (r_lex_E3 v5 v6) := by
  have hN : (runesP (bsN all)).getD [] = all.map cI := by rw [runesP_encs hsc]; rfl
  have hlen : all.length = pre.length + (w.length + r.length) := by rw [h]; simp
  have hwl : 0 < w.length := List.length_pos_iff.2 hw
  have hmid : List.take ((((pre.length + w.length : Nat) : Int)).toNat - ((pre.length : Nat) : Int).toNat) (List.drop ((pre.length : Nat) : Int).toNat (all.map cI)) = w.map cI := by
    rw [Int.toNat_natCast, Int.toNat_natCast, h, List.map_append, List.map_append]
    simp
  rw [r_lex_c2, hN, hmid, text_encs hwa]
  have d1 : decide (((pre.length + w.length : Nat) : Int) > (pre.length : Int)) = true := by simp; omega
  have d2 : decide ((0 : Int) ≤ (pre.length : Int) ∧ (pre.length : Int) ≤ ((pre.length + w.length : Nat) : Int) ∧ ((pre.length + w.length : Nat) : Int) ≤ ((all.map cI).length : Int)) = true := by
    rw [List.length_map]; simp only [decide_eq_true_eq]; omega
  have d3 : ((w.map cI).all isI && decide ((w.map cI).length < 1000000)) = true := by
    rw [all_cI, List.length_map]; simp; omega
  have d5 : decide ((out.length + 1) * 40 ≤ 140737488355328 ∧ out.length + 1 ≤ 9223372036854775807) = true := by simp only [decide_eq_true_eq]; omega
  have hsz : (bsN w).size = w.length := by rw [bsN_size, encs_ascii w hwa]; simp
  rw [d1, cond_true, d2, cond_true, d3, cond_true, d5, hsz]
  simp only [cond_true]
  by_cases h16 : w.length ≤ 16
  · have d4 : decide ((w.length : Int) > 16) = false := by simp; omega
    rw [d4, cond_false, if_pos h16]
    have sw := SC_low hwa
    have q1 : ((bsN w).toList == (ByteArray.mk #[(116 : UInt8), (121 : UInt8), (112 : UInt8), (101 : UInt8)]).toList) = decide (w = [116, 121, 112, 101]) := eqb_encs (b := [116, 121, 112, 101]) sw (SC_low (by decide))
    have q2 : ((bsN w).toList == (ByteArray.mk #[(114 : UInt8), (101 : UInt8), (108 : UInt8)]).toList) = decide (w = [114, 101, 108]) := eqb_encs (b := [114, 101, 108]) sw (SC_low (by decide))
    have q3 : ((bsN w).toList == (ByteArray.mk #[(116 : UInt8), (104 : UInt8), (105 : UInt8), (115 : UInt8)]).toList) = decide (w = [116, 104, 105, 115]) := eqb_encs (b := [116, 104, 105, 115]) sw (SC_low (by decide))
    rw [q1, q2, q3]
    have hk : ∀ k : Int, kindN w = k → tokC (kindN w, w, (v5, v6)) = [C.int .i64 k, C.str (bsN w), C.int .i64 v5, C.int .i64 v6] := by intro k hk; subst hk; rfl
    by_cases c1 : w = [116, 121, 112, 101]
    · have n2 : ¬ w = [114, 101, 108] := by rw [c1]; decide
      have n3 : ¬ w = [116, 104, 105, 115] := by rw [c1]; decide
      rw [decide_eq_true c1, decide_eq_false n2, decide_eq_false n3, hk 2 (by unfold kindN; rw [if_pos c1])]; rfl
    · by_cases c2 : w = [114, 101, 108]
      · have n3 : ¬ w = [116, 104, 105, 115] := by rw [c2]; decide
        rw [decide_eq_false c1, decide_eq_true c2, decide_eq_false n3, hk 3 (by unfold kindN; rw [if_neg c1, if_pos c2])]; rfl
      · by_cases c3 : w = [116, 104, 105, 115]
        · rw [decide_eq_false c1, decide_eq_false c2, decide_eq_true c3, hk 4 (by unfold kindN; rw [if_neg c1, if_neg c2, if_pos c3])]; rfl
        · rw [decide_eq_false c1, decide_eq_false c2, decide_eq_false c3, hk 1 (by unfold kindN; rw [if_neg c1, if_neg c2, if_neg c3])]; rfl
  · have d4 : decide ((w.length : Int) > 16) = true := by simp; omega
    rw [d4, cond_true, if_neg h16]
theorem r_tokSign (K : X → St → Option R) (all pre : List Nat) (c : Nat) (r : List Nat) (h : all = pre ++ c :: r) (hsc : SC all) (hl : all.length < 1000000) (v5 v6 : Int) (out : List (List C)) (ho : out.length < 1000000) (n : Nat) :
    r_lex_K2 m K F n (.ex 4) (r_lex_E2 (bsN all) (pre.length : Int) v5 v6 out (pre.length : Int)) =
      if isTo (c :: r) then r_lex_L0 m K F n (bsN all) (out ++ [tokC (5, [45, 62], (v5, v6))]) ((pre.length + 2 : Nat) : Int)
      else if c ∈ signsN then r_lex_L0 m K F n (bsN all) (out ++ [tokC ((c : Int), [c], (v5, v6))]) ((pre.length + 1 : Nat) : Int)
      else K .rt (r_lex_E3 v5 v6) := by
  have hN : (runesP (bsN all)).getD [] = all.map cI := by rw [runesP_encs hsc]; rfl
  have hlen : all.length = pre.length + (r.length + 1) := by rw [h]; simp
  have d1 : decide (((pre.length : Nat) : Int) > (pre.length : Int)) = false := by simp
  have d2 : decide ((0 : Int) ≤ (pre.length : Int)) = true := by simp
  have hg : (all.map cI)[pre.length]? = some (cI c) := by rw [h]; simp
  have hg0 : ∀ c : Nat, (cI c)[0]? = some (C.int .i64 (c : Int)) := fun _ => rfl
  have d5 : decide ((out.length + 1) * 40 ≤ 140737488355328 ∧ out.length + 1 ≤ 9223372036854775807) = true := by simp only [decide_eq_true_eq]; omega
  have e1 : ∀ c : Nat, ([C.int .i64 (c : Int)].getD 0 C.nf).toInt = (c : Int) := fun _ => rfl
  have w1 : IntKind.i64.wrap ((pre.length : Int) + 1) = ((pre.length + 1 : Nat) : Int) := nat_wrap1 (by omega)
  have w2 : IntKind.i64.wrap ((pre.length : Int) + 2) = ((pre.length + 2 : Nat) : Int) := by rw [w64 _ (by omega) (by omega)]; push_cast; rfl
  have w3 : IntKind.i64.wrap (((all.map cI).length : Int) - 1) = ((pre.length + r.length : Nat) : Int) := by rw [List.length_map, w64 _ (by omega) (by omega)]; omega
  have hmid : List.take ((((pre.length + 1 : Nat) : Int)).toNat - ((pre.length : Nat) : Int).toNat) (List.drop ((pre.length : Nat) : Int).toNat (all.map cI)) = [c].map cI := by
    rw [Int.toNat_natCast, Int.toNat_natCast, h, show pre ++ c :: r = pre ++ ([c] ++ r) from rfl, List.map_append, List.map_append]
    simp
  have d6 : decide ((0 : Int) ≤ (pre.length : Int) ∧ (pre.length : Int) ≤ ((pre.length + 1 : Nat) : Int) ∧ ((pre.length + 1 : Nat) : Int) ≤ ((all.map cI).length : Int)) = true := by
    rw [List.length_map]; simp only [decide_eq_true_eq]; omega
  have d7 : (([c].map cI).all isI && decide (([c].map cI).length < 1000000)) = true := by rw [all_cI]; rfl
  have htx : ∀ x : List (List C), c ∈ signsN → x ++ [[C.int IntKind.i64 (c : Int), C.str (bytesOf (List.map u8E ([c].map cI))), C.int IntKind.i64 v5, C.int IntKind.i64 v6]] = x ++ [tokC ((c : Int), [c], (v5, v6))] := by
    intro x hc
    rw [text_encs (w := [c]) (by
      intro y hy
      simp only [List.mem_cons, List.mem_nil_iff, or_false] at hy
      subst hy
      have : ∀ x ∈ signsN, x < 128 := by decide
      exact this _ hc)]
    rfl
  rw [r_lex_c2, hN, d1, cond_false, d2, cond_true, getT_at rfl hg, getT_some (hg0 c), sh_int, cond_true, e1, w1, w2, w3]
  simp only [cond_true]
  rw [getT_at rfl hg, getT_some (hg0 c), sh_int, cond_true, e1, among_sign]
  simp only [getT_at rfl hg, getT_some (hg0 c), sh_int, cond_true, e1, d5, d6, d7, hmid]
  have fin : (bif decide (c ∈ signsN) then r_lex_L0 m K F n (bsN all) (out ++ [[C.int IntKind.i64 (c : Int), C.str (bytesOf (List.map u8E ([c].map cI))), C.int IntKind.i64 v5, C.int IntKind.i64 v6]]) ((pre.length + 1 : Nat) : Int) else K .rt (r_lex_E3 v5 v6)) =
      if c ∈ signsN then r_lex_L0 m K F n (bsN all) (out ++ [tokC ((c : Int), [c], (v5, v6))]) ((pre.length + 1 : Nat) : Int) else K .rt (r_lex_E3 v5 v6) := by
    rw [cond_dec]
    by_cases hc : c ∈ signsN
    · rw [if_pos hc, if_pos hc, htx out hc]
    · rw [if_neg hc, if_neg hc]
  by_cases h45 : c = 45
  · have b1 : ((c : Int) == 45) = true := by rw [h45]; rfl
    rw [b1, cond_true]
    cases r with
    | nil =>
      have d8 : decide ((pre.length : Int) < ((pre.length + ([] : List Nat).length : Nat) : Int)) = false := by simp
      have hto : isTo [c] = false := by rw [h45]; rfl
      rw [d8, cond_false, hto, if_neg (by simp)]; exact fin
    | cons d r =>
      have d8 : decide ((pre.length : Int) < ((pre.length + (d :: r).length : Nat) : Int)) = true := by simp; omega
      have hg2 : (all.map cI)[pre.length + 1]? = some (cI d) := by rw [h]; simp
      have d9 : decide ((0 : Int) ≤ ((pre.length + 1 : Nat) : Int)) = true := by simp only [decide_eq_true_eq]; omega
      rw [d8, cond_true, d9, cond_true, getT_at rfl hg2, getT_some (hg0 d), sh_int, cond_true, e1]
      by_cases h62 : d = 62
      · have b2 : ((d : Int) == 62) = true := by rw [h62]; rfl
        have hto : isTo (c :: d :: r) = true := by rw [h45, h62]; rfl
        rw [b2, cond_true, hto, if_pos rfl]; rfl
      · have b2 : ((d : Int) == 62) = false := by rw [beq_eq_false_iff_ne]; omega
        have hto : isTo (c :: d :: r) = false := by
          rw [← Bool.not_eq_true]; intro hx; obtain ⟨y, hy⟩ := isTo_eq hx; cases hy; exact h62 rfl
        rw [b2, cond_false, hto, if_neg (by simp)]; exact fin
  · have b1 : ((c : Int) == 45) = false := by rw [beq_eq_false_iff_ne]; omega
    have hto : isTo (c :: r) = false := by
      rw [← Bool.not_eq_true]; intro hx; obtain ⟨y, hy⟩ := isTo_eq hx; cases hy; exact h45 rfl
    rw [b1, cond_false, hto, if_neg (by simp)]; exact fin
end
/-! ### all tokens -/
theorem r_lex_loop {R : Type} (m : Int) (k : V → Bx → Option R) (F : Nat) (all : List Nat) (hsc : SC all) (hl : all.length < 1000000) (hF : all.length + 2 ≤ F) {p ns o q e} (h : Lx p ns o q e) :
    ∀ (pre : List Nat) (n : Nat) (out : List (List C)), all = pre ++ ns → p = advs (1, 1) pre → ns.length < n → out.length ≤ pre.length →
    r_lex_L0 m (r_lex_K0 m k F) F n (bsN all) out (pre.length : Int) =
      if e = 0 then k (.tup [.w (.d (.sl 4 (out ++ o.map tokC))), .w (.d (.int .i64 q.1)), .w (.d (.int .i64 q.2)), .w (.d (.int .i64 0))]) []
      else k (.tup [.w (.d (.sl 4 [])), .w (.d (.int .i64 q.1)), .w (.d (.int .i64 q.2)), .w (.d (.int .i64 10))]) [] := by
  have hN : (runesP (bsN all)).getD [] = all.map cI := by rw [runesP_encs hsc]; rfl
  have hg0 : ∀ c : Nat, (cI c)[0]? = some (C.int .i64 (c : Int)) := fun _ => rfl
  have e1 : ∀ c : Nat, ([C.int .i64 (c : Int)].getD 0 C.nf).toInt = (c : Int) := fun _ => rfl
  -- a round at a rune that is neither blank nor a remark's: to the word
  have step : ∀ (pre : List Nat) (c : Nat) (r : List Nat) (n : Nat) (out : List (List C)), all = pre ++ c :: r → blankN c = false → isRem (c :: r) = false →
      r_lex_L0 m (r_lex_K0 m k F) F (n + 1) (bsN all) out (pre.length : Int) = r_lex_L2 m (r_lex_K2 m (r_lex_K0 m k F) F n) F F (bsN all) (pre.length : Int) (advs (1, 1) pre).1 (advs (1, 1) pre).2 out (pre.length : Int) := by
    intro pre c r n out h hb hr
    have hlen : all.length = pre.length + (r.length + 1) := by rw [h]; simp
    have d1 : decide ((pre.length : Int) < ((all.map cI).length : Int)) = true := by rw [List.length_map]; simp; omega
    have d2 : decide ((0 : Int) ≤ (pre.length : Int)) = true := by simp
    have hg : (all.map cI)[pre.length]? = some (cI c) := by rw [h]; simp
    have w1 : IntKind.i64.wrap ((pre.length : Int) + 1) = ((pre.length + 1 : Nat) : Int) := nat_wrap1 (by omega)
    have w3 : IntKind.i64.wrap (((all.map cI).length : Int) - 1) = ((pre.length + r.length : Nat) : Int) := by rw [List.length_map, w64 _ (by omega) (by omega)]; omega
    have hpl : List.take ((pre.length : Nat) : Int).toNat (all.map cI) = pre.map cI := by
      rw [Int.toNat_natCast, h, List.map_append]
      have := List.take_left' (l₁ := pre.map cI) (l₂ := (c :: r).map cI) (i := pre.length) (by simp)
      exact this
    have d4 : ((all.map cI).all isI && decide ((all.map cI).length < 1000000) && true && decide ((pre.length : Int) ≤ ((all.map cI).length : Int))) = true := by
      rw [all_cI, List.length_map]; simp; omega
    rw [r_lex_r0, hN, d1, cond_true, d2, cond_true, getT_at rfl hg, getT_some (hg0 c), sh_int, cond_true, e1, among_blank, hb, cond_false, cond_true, getT_at rfl hg, getT_some (hg0 c), sh_int, cond_true, e1, w1, w3, d4, hpl, place_advs]
    simp only [cond_true]
    by_cases h47 : c = 47
    · have b1 : ((c : Int) == 47) = true := by rw [h47]; rfl
      rw [b1, cond_true]
      cases r with
      | nil =>
        have d8 : decide ((pre.length : Int) < ((pre.length + ([] : List Nat).length : Nat) : Int)) = false := by simp
        rw [d8, cond_false]
      | cons d r =>
        have d8 : decide ((pre.length : Int) < ((pre.length + (d :: r).length : Nat) : Int)) = true := by simp; omega
        have hg2 : (all.map cI)[pre.length + 1]? = some (cI d) := by rw [h]; simp
        have d9 : decide ((0 : Int) ≤ ((pre.length + 1 : Nat) : Int)) = true := by simp only [decide_eq_true_eq]; omega
        rw [d8, cond_true, d9, cond_true, getT_at rfl hg2, getT_some (hg0 d), sh_int, cond_true, e1]
        have hd : d ≠ 47 := by rintro rfl; rw [h47] at hr; cases hr
        have b2 : ((d : Int) == 47) = false := by rw [beq_eq_false_iff_ne]; omega
        rw [b2, cond_false]
    · have b1 : ((c : Int) == 47) = false := by rw [beq_eq_false_iff_ne]; omega
      rw [b1, cond_false]
  induction h with
  | nil p =>
    intro pre n out h hp hn ho
    cases n with
    | zero => omega
    | succ n =>
      rw [List.append_nil] at h
      subst h
      have d1 : decide ((all.length : Int) < ((all.map cI).length : Int)) = false := by simp
      have d2 : ((all.map cI).all isI && decide ((all.map cI).length < 1000000) && true && decide (((all.map cI).length : Int) ≤ ((all.map cI).length : Int))) = true := by rw [all_cI, List.length_map]; simp; omega
      have hpl : List.take (((all.map cI).length : Nat) : Int).toNat (all.map cI) = all.map cI := by rw [Int.toNat_natCast, List.take_length]
      rw [r_lex_r0, hN, d1, cond_false, r_lex_c4, hN, d2, cond_true, hpl, place_advs, if_pos rfl, hp, List.map_nil, List.append_nil]
  | @blank p c r o q e hb _ ih =>
    intro pre n out h hp hn ho
    cases n with
    | zero => omega
    | succ n =>
      have hlen : all.length = pre.length + (r.length + 1) := by rw [h]; simp
      have d1 : decide ((pre.length : Int) < ((all.map cI).length : Int)) = true := by rw [List.length_map]; simp; omega
      have d2 : decide ((0 : Int) ≤ (pre.length : Int)) = true := by simp
      have hg : (all.map cI)[pre.length]? = some (cI c) := by rw [h]; simp
      have w1 : IntKind.i64.wrap ((pre.length : Int) + 1) = ((pre ++ [c]).length : Int) := by rw [nat_wrap1 (by omega)]; simp
      rw [r_lex_r0, hN, d1, cond_true, d2, cond_true, getT_at rfl hg, getT_some (hg0 c), sh_int, cond_true, e1, among_blank, hb, cond_true, w1]
      exact ih (pre ++ [c]) n out (by rw [h]; simp) (by rw [advs_app, ← hp]; rfl) (by simp at hn; omega) (by simp; omega)
  | @rem p ns o q e hr _ ih =>
    intro pre n out h hp hn ho
    cases n with
    | zero => omega
    | succ n =>
      have hrt := rem_take hr
      have hsp := takeDrop ne10 ns
      have hlen : all.length = pre.length + ns.length := by rw [h]; simp
      obtain ⟨r, hns⟩ := isRem_eq hr
      have hl2 : ns.length = r.length + 2 := by rw [hns]; simp
      have hg : (all.map cI)[pre.length]? = some (cI 47) := by rw [h, hns]; simp
      have hg2 : (all.map cI)[pre.length + 1]? = some (cI 47) := by rw [h, hns]; simp
      have d1 : decide ((pre.length : Int) < ((all.map cI).length : Int)) = true := by rw [List.length_map]; simp; omega
      have d2 : decide ((0 : Int) ≤ (pre.length : Int)) = true := by simp
      have w1 : IntKind.i64.wrap ((pre.length : Int) + 1) = ((pre.length + 1 : Nat) : Int) := nat_wrap1 (by omega)
      have w3 : IntKind.i64.wrap (((all.map cI).length : Int) - 1) = ((pre.length + (r.length + 1) : Nat) : Int) := by rw [List.length_map, w64 _ (by omega) (by omega)]; omega
      have d8 : decide ((pre.length : Int) < ((pre.length + (r.length + 1) : Nat) : Int)) = true := by simp only [decide_eq_true_eq]; omega
      have d9 : decide ((0 : Int) ≤ ((pre.length + 1 : Nat) : Int)) = true := by simp only [decide_eq_true_eq]; omega
      have b0 : blankN 47 = false := rfl
      have b1 : (((47 : Nat) : Int) == 47) = true := rfl
      rw [r_lex_r0, hN, d1, cond_true, d2, cond_true, getT_at rfl hg, getT_some (hg0 47), sh_int, cond_true, e1, among_blank, b0, cond_false, cond_true, getT_at rfl hg, getT_some (hg0 47), sh_int, cond_true, e1, b1, cond_true, w1, w3, d8, cond_true, d9, cond_true, getT_at rfl hg2, getT_some (hg0 47), sh_int, cond_true, e1, b1, cond_true,
        r_remark m F _ all hsc hl out ns pre F h (by omega), r_lex_c1]
      have hpl : pre.length + (ns.takeWhile ne10).length = (pre ++ ns.takeWhile ne10).length := by simp
      rw [hpl]
      exact ih (pre ++ ns.takeWhile ne10) n out (by rw [h, List.append_assoc, ← hsp]) (by rw [advs_app, ← hp]) (by omega) (by rw [List.length_append]; omega)
  | @tok p c r o q e kd t r' hb hr ht hsp _ ih =>
    intro pre n out h hp hn ho
    cases n with
    | zero => omega
    | succ n =>
      have hlen : all.length = pre.length + (r.length + 1) := by rw [h]; simp
      have htn := (tokN_split ht).1
      have htl : 0 < t.length := List.length_pos_iff.2 htn
      have hh : all = pre ++ (t ++ r') := by rw [h, hsp]
      have hl2 := congrArg List.length hsp
      rw [List.length_append, List.length_cons] at hl2
      rw [step pre c r n out h hb hr, ← hp, r_word m F _ all pre c r h hsc hl p.1 p.2 out F (by omega)]
      have hgo := ih (pre ++ t) n (out ++ [tokC (kd, t, p)]) (by rw [hh]; simp) (by rw [advs_app, ← hp]) (by simp at hn; omega) (by simp; omega)
      have efin : out ++ [tokC (kd, t, p)] ++ o.map tokC = out ++ ((kd, t, p) :: o).map tokC := by simp
      rw [efin, List.length_append] at hgo
      rw [← hgo]
      unfold tokN at ht
      by_cases hw : wordN (c :: r) ≠ []
      · rw [if_pos hw] at ht
        split at ht
        · rename_i h16
          cases ht
          rw [r_tokWord m F _ all pre _ r' hh hsc hl hw (word_ascii _) p.1 p.2 out (by omega) n, if_pos h16]
        · cases ht
      · rw [if_neg hw] at ht
        have hw0 : wordN (c :: r) = [] := by simpa using hw
        rw [hw0]
        have := r_tokSign m F (r_lex_K0 m k F) all pre c r h hsc hl p.1 p.2 out (by omega) n
        simp only [List.length_nil, Nat.add_zero]
        rw [this]
        split at ht
        · rename_i h2
          cases ht
          rw [if_pos h2]; rfl
        · rename_i h2
          simp only at ht
          split at ht
          · rename_i hc
            cases ht
            rw [if_neg h2, if_pos hc]; rfl
          · cases ht
  | @bad p c r hb hr ht =>
    intro pre n out h hp hn ho
    cases n with
    | zero => omega
    | succ n =>
      have hlen : all.length = pre.length + (r.length + 1) := by rw [h]; simp
      rw [step pre c r n out h hb hr, ← hp, r_word m F _ all pre c r h hsc hl p.1 p.2 out F (by omega), if_neg (by decide)]
      unfold tokN at ht
      by_cases hw : wordN (c :: r) ≠ []
      · rw [if_pos hw] at ht
        split at ht
        · cases ht
        · rename_i h16
          obtain ⟨r', hr'⟩ := wordN_prefix (c :: r)
          rw [r_tokWord m F _ all pre _ r' (by rw [h, ← hr']) hsc hl hw (word_ascii _) p.1 p.2 out (by omega) n, if_neg h16, r_lex_c3]
      · rw [if_neg hw] at ht
        have hw0 : wordN (c :: r) = [] := by simpa using hw
        rw [hw0]
        have := r_tokSign m F (r_lex_K0 m k F) all pre c r h hsc hl p.1 p.2 out (by omega) n
        simp only [List.length_nil, Nat.add_zero]
        rw [this]
        split at ht
        · cases ht
        · rename_i h2
          simp only at ht
          split at ht
          · cases ht
          · rename_i hc
            rw [if_neg h2, if_neg hc, r_lex_c3]
noncomputable def rlexS : List V → Bx → Tr
  | [.t (.w (.d (.str s)))], [] => .ite (decide (s.size < 1000000))
      (.ret (.tup [.w (.d (.sl 4 (lexP s).1)), .w (.d (.int .i64 (lexP s).2.1)), .w (.d (.int .i64 (lexP s).2.2.1)), .w (.d (.int .i64 (lexP s).2.2.2))]) []) .no
  | _, _ => .no
theorem rlex_ok (m : Int) : SpecOk Tryd.prog (globT m) 15 rlexS := by
  intro a b v b' h
  unfold rlexS at h
  split at h
  · rename_i s
    rcases run_ite h with ⟨hl, h⟩ | ⟨_, h⟩
    · simp only [decide_eq_true_eq] at hl
      obtain ⟨rfl, rfl⟩ := run_ret h
      refine specAtG mix vti_ok Tryd.func15 rfl (by kernel_rfl) (tabR_ok m) (s.size + 3) ((r_lex_start m fin2 _ s).trans ?_)
      rw [decide_eq_true hl, cond_true]
      cases hv : validP s with
      | false =>
        rw [runesP_bad hv, lexP_bad hv]; rfl
      | true =>
        obtain ⟨ns, hs, rfl⟩ := valid_bsN hv
        have hel := encs_len ns
        have hbs := bsN_size ns
        have hr := runesP_encs hs
        have h1 : (runesP (bsN ns)).isSome = true := by rw [hr]; rfl
        have h2 : ((runesP (bsN ns)).getD []).length = ns.length := by rw [hr]; simp
        rw [h1, h2, Bool.not_true, cond_false]
        by_cases h3 : ns.length ≤ 3000
        · have d1 : decide ((ns.length : Int) > 3000) = false := by simp; omega
          obtain ⟨o, q, e, hx⟩ := Lx.total _ ns (1, 1) (Nat.lt_succ_self _)
          rw [d1, cond_false]
          refine (r_lex_loop m fin2 _ ns hs (by omega) (by omega) hx [] _ [] rfl rfl (by omega) (by simp)).trans ?_
          rw [lexP_encs hs h3 hx]
          unfold lexRes
          rcases hx.err with he | he
          · subst he; rfl
          · subst he; rfl
        · have d1 : decide ((ns.length : Int) > 3000) = true := by simp; omega
          rw [d1, cond_true, lexP_big hs (by omega) (by omega)]
    · exact (run_no h).elim
  · cases h
end Go.Proofs.YtniiimpcakmkbaaDoor
