/- YtniiimpcakmkbaaDoorSgR -/
import Derived.Test.YtniiimpcakmkbaaDoorSgQ
set_option linter.unusedVariables false
namespace Go.Proofs.YtniiimpcakmkbaaDoor
open Go Vm
noncomputable def r_runes_cf (m : Int) : Cfg := mkCfG (globT m) vti orcR1 false [] [(3, 49), (999, 12), (1000, 16)]
def r_runes_m0 : List Bool := [true, false, false, false, true, true, false, false, false, false, false, false, false, false, false, false, false, false, false, false, false, false, false, false, false, false, false, false]
noncomputable def r_runes_b0 : Code := (cA (cA (cB (cA (cB (cB (bd Tryd.f17)))))))
def r_runes_S0 (s : ByteArray) (v1 : List (List C)) (v2 : Int) : St := { env := [(vs s), vu, vu, vu, (.t (.w (.arr 0))), (vi v2), vu, vu, vu, vu, vu, vu, vu, vu, vu, vu, vu, vu, vu, vu, vu, vu, vu, vu, vu, vu, vu, vu], bx := [(some (.arr true (some 3) 1 v1))], np := 0 }
noncomputable def r_runes_L0 {R : Type} (m : Int) (K : X → St → Option R) (F n : Nat) (s : ByteArray) (v1 : List (List C)) (v2 : Int) : Option R := loopV (headM r_runes_m0) (exec (r_runes_cf m) F r_runes_b0) (exitK (r_runes_cf m) K) n (r_runes_S0 s v1 v2)
noncomputable def r_runes_K0 {R : Type} (m : Int) (k : V → Bx → Option R) (F : Nat) : X → St → Option R := (blockK 0 (seqK (r_runes_cf m) F (cB (cB (cB (bd Tryd.f17)))) (finK (r_runes_cf m) Tryd.f17 k)))
def r_runes_E1 : St := { env := [vu, vu, (.t (.w (.arr 0))), (vb false), vu, vu, vu, vu, vu, vu, vu, vu, vu, vu, vu, vu, vu, vu, vu, vu, vu, vu, vu, vu, vu, vu, vu, vu], bx := [(some (.arr true (some 3) 1 []))], np := 0 }
theorem r_runes_c1 {R : Type} (m : Int) (k : V → Bx → Option R) (F : Nat) : r_runes_K0 m k F .rt (r_runes_E1) =
    k (.tup [(.w (.d (.sl 1 []))), (.w (.d (.bool false)))]) [] := by kernel_rfl
def r_runes_E2 (v1 : List (List C)) : St := { env := [vu, vu, vu, vu, (.t (.w (.arr 0))), vu, vu, vu, vu, vu, vu, vu, vu, vu, vu, vu, vu, vu, vu, vu, vu, vu, vu, vu, vu, vu, vu, vu], bx := [(some (.arr true (some 3) 1 v1))], np := 0 }
theorem r_runes_c2 {R : Type} (m : Int) (k : V → Bx → Option R) (F : Nat) (v1 : List (List C)) : r_runes_K0 m k F (.ex 0) (r_runes_E2 v1) =
    k (.tup [(.w (.d (.sl 1 v1))), (.w (.d (.bool true)))]) [] := by kernel_rfl
theorem r_runes_r0 {R : Type} (m : Int) (K : X → St → Option R) (F n : Nat) (s : ByteArray) (v1 : List (List C)) (v2 : Int) : r_runes_L0 m K F (n + 1) s v1 v2 =
    (bif decide (v2 < (↑s.size : Int)) then
      (bif decide ((0 : Int) ≤ v2) && decide (v2 < (↑s.size : Int)) && decide (s.size < (1000000000 : Nat)) then
        (bif (runeP s v2.toNat).snd == (0 : Int) then
          K .rt (r_runes_E1)
        else (bif decide ((v1.length + (1 : Nat)) * (8 : Nat) ≤ (140737488355328 : Nat) ∧ v1.length + (1 : Nat) ≤ (9223372036854775807 : Nat)) then
            r_runes_L0 m K F n s (v1 ++ [[C.int IntKind.i64 (runeP s v2.toNat).fst]]) (IntKind.i64.wrap (v2 + (runeP s v2.toNat).snd))
          else none))
      else none)
    else K (.ex 0) (r_runes_E2 v1)) := by kernel_rfl
theorem r_runes_start {R : Type} (m : Int) (k : V → Bx → Option R) (F : Nat) (s : ByteArray) : runFn (r_runes_cf m) F Tryd.f17 (bd Tryd.f17) [vs s] [] k =
    r_runes_L0 m (r_runes_K0 m k F) F F s [] 0 := by kernel_rfl
noncomputable def r_lex_cf (m : Int) : Cfg := mkCfG (globT m) vti orcR false [] [(8, 832), (12, 832), (16, 8000), (999, 60), (1000, 320), (1001, 832), (1002, 832), (1004, 8000)]
def r_lex_m0 : List Bool := [false, false, false, false, false, false, true, false, true, true, false, false, false, false, false, false, false, false, false, false, false, false, false, false, false, false, false, false, false, false, false, false, false, false, false, false, false, false, false, false, false, false, false, false, false, false, false, false, false, false, false, false, false, false, false, false, false, false, false, false, false, false, false, false, false, false, false, false, false, false, false, false, false, false, false, false, false, false, false, false, false, false, false, false, false, false, false, false, false, false, false, false, false, false, false, false, false, false, false, false, false, false, false, false, false, false, false, false, false, false, false, false, false, false, false, false, false, false, false, false, false, false, false, false, false, false, false, false, false, false, false, false, false, false, false, false, false, false, false, false, false, false, false, false, false, false, false, false, false, false, false, false, false, false, false, false, false, false, false, false, false, false, false, false, false, false, false, false, false, false, false, false, false, false, false, false, false, false, false, false, false, false, false, false, false, false, false, false]
noncomputable def r_lex_b0 : Code := (cA (cA (cB (cA (cB (cB (cB (cB (cB (bd Tryd.f15))))))))))
def r_lex_S0 (s : ByteArray) (v1 : List (List C)) (v2 : Int) : St := { env := [vu, vu, vu, vu, vu, vu, (vc (.sl 1 ((runesP s).getD []))), vu, (.t (.w (.arr 0))), (vi v2), vu, vu, vu, vu, vu, vu, vu, vu, vu, vu, vu, vu, vu, vu, vu, vu, vu, vu, vu, vu, vu, vu, vu, vu, vu, vu, vu, vu, vu, vu, vu, vu, vu, vu, vu, vu, vu, vu, vu, vu, vu, vu, vu, vu, vu, vu, vu, vu, vu, vu, vu, vu, vu, vu, vu, vu, vu, vu, vu, vu, vu, vu, vu, vu, vu, vu, vu, vu, vu, vu, vu, vu, vu, vu, vu, vu, vu, vu, vu, vu, vu, vu, vu, vu, vu, vu, vu, vu, vu, vu, vu, vu, vu, vu, vu, vu, vu, vu, vu, vu, vu, vu, vu, vu, vu, vu, vu, vu, vu, vu, vu, vu, vu, vu, vu, vu, vu, vu, vu, vu, vu, vu, vu, vu, vu, vu, vu, vu, vu, vu, vu, vu, vu, vu, vu, vu, vu, vu, vu, vu, vu, vu, vu, vu, vu, vu, vu, vu, vu, vu, vu, vu, vu, vu, vu, vu, vu, vu, vu, vu, vu, vu, vu, vu, vu, vu, vu, vu, vu, vu, vu, vu, vu, vu, vu, vu, vu, vu], bx := [(some (.arr true (some 35) 4 v1))], np := 0 }
noncomputable def r_lex_L0 {R : Type} (m : Int) (K : X → St → Option R) (F n : Nat) (s : ByteArray) (v1 : List (List C)) (v2 : Int) : Option R := loopV (headM r_lex_m0) (exec (r_lex_cf m) F r_lex_b0) (exitK (r_lex_cf m) K) n (r_lex_S0 s v1 v2)
noncomputable def r_lex_K0 {R : Type} (m : Int) (k : V → Bx → Option R) (F : Nat) : X → St → Option R := (blockK 0 (seqK (r_lex_cf m) F (cB (cB (cB (cB (cB (cB (bd Tryd.f15))))))) (finK (r_lex_cf m) Tryd.f15 k)))
def r_lex_m1 : List Bool := [false, false, false, false, false, false, true, false, true, true, false, false, false, false, false, false, false, false, false, false, false, false, false, false, false, false, false, false, false, false, false, false, false, false, false, false, false, false, false, false, false, false, false, false, false, false, false, false, false, false, false, false, false, false, false, false, false, false, false, false, false, false, false, false, false, false, false, false, false, false, false, false, false, false, false, false, false, false, false, false, false, false, false, false, false, false, false, false, false, false, false, false, false, false, false, false, false, false, false, false, false, false, false, false, false, false, false, false, false, false, false, false, false, false, false, false, false, false, false, false, false, false, false, false, false, false, false, false, false, false, false, false, false, false, false, false, false, false, false, false, false, false, false, false, false, false, false, false, false, false, false, false, false, false, false, false, false, false, false, false, false, false, false, false, false, false, false, false, false, false, false, false, false, false, false, false, false, false, false, false, false, false, false, false, false, false, false, false]
noncomputable def r_lex_b1 : Code := (cA (cA (cA (cA (cB (cA (cB (cA (cB (cA (cA (cB (cA (cB (cB (cB (cB (cB (bd Tryd.f15)))))))))))))))))))
def r_lex_S1 (s : ByteArray) (v3 : List (List C)) (v4 : Int) : St := { env := [vu, vu, vu, vu, vu, vu, (vc (.sl 1 ((runesP s).getD []))), vu, (.t (.w (.arr 0))), (vi v4), vu, vu, vu, vu, vu, vu, vu, vu, vu, vu, vu, vu, vu, vu, vu, vu, vu, vu, vu, vu, vu, vu, vu, vu, vu, vu, vu, vu, vu, vu, vu, vu, vu, vu, vu, vu, vu, vu, vu, vu, vu, vu, vu, vu, vu, vu, vu, vu, vu, vu, vu, vu, vu, vu, vu, vu, vu, vu, vu, vu, vu, vu, vu, vu, vu, vu, vu, vu, vu, vu, vu, vu, vu, vu, vu, vu, vu, vu, vu, vu, vu, vu, vu, vu, vu, vu, vu, vu, vu, vu, vu, vu, vu, vu, vu, vu, vu, vu, vu, vu, vu, vu, vu, vu, vu, vu, vu, vu, vu, vu, vu, vu, vu, vu, vu, vu, vu, vu, vu, vu, vu, vu, vu, vu, vu, vu, vu, vu, vu, vu, vu, vu, vu, vu, vu, vu, vu, vu, vu, vu, vu, vu, vu, vu, vu, vu, vu, vu, vu, vu, vu, vu, vu, vu, vu, vu, vu, vu, vu, vu, vu, vu, vu, vu, vu, vu, vu, vu, vu, vu, vu, vu, vu, vu, vu, vu, vu, vu], bx := [(some (.arr true (some 35) 4 v3))], np := 0 }
noncomputable def r_lex_L1 {R : Type} (m : Int) (K : X → St → Option R) (F n : Nat) (s : ByteArray) (v3 : List (List C)) (v4 : Int) : Option R := loopV (headM r_lex_m1) (exec (r_lex_cf m) F r_lex_b1) (exitK (r_lex_cf m) K) n (r_lex_S1 s v3 v4)
noncomputable def r_lex_K1 {R : Type} (m : Int) (K : X → St → Option R) (F n : Nat) : X → St → Option R := (blockK 2 (seqK (r_lex_cf m) F (cB (cA (cB (cA (cB (cA (cB (cA (cA (cB (cA (cB (cB (cB (cB (cB (bd Tryd.f15))))))))))))))))) (seqK (r_lex_cf m) F (cB (cB (cA (cB (cA (cA (cB (cA (cB (cB (cB (cB (cB (bd Tryd.f15)))))))))))))) (blockK 1 (loopK (headM r_lex_m0) (exec (r_lex_cf m) F r_lex_b0) (exitK (r_lex_cf m) K) n)))))
def r_lex_E1 (s : ByteArray) (v3 : List (List C)) (v4 : Int) : St := { env := [vu, vu, vu, vu, vu, vu, (vc (.sl 1 ((runesP s).getD []))), vu, (.t (.w (.arr 0))), (vi v4), vu, vu, vu, vu, vu, vu, vu, vu, vu, vu, vu, vu, vu, vu, vu, vu, vu, vu, vu, vu, vu, vu, vu, vu, vu, vu, vu, vu, vu, vu, vu, vu, vu, vu, vu, vu, vu, vu, vu, vu, vu, vu, vu, vu, vu, vu, vu, vu, vu, vu, vu, vu, vu, vu, vu, vu, vu, vu, vu, vu, vu, vu, vu, vu, vu, vu, vu, vu, vu, vu, vu, vu, vu, vu, vu, vu, vu, vu, vu, vu, vu, vu, vu, vu, vu, vu, vu, vu, vu, vu, vu, vu, vu, vu, vu, vu, vu, vu, vu, vu, vu, vu, vu, vu, vu, vu, vu, vu, vu, vu, vu, vu, vu, vu, vu, vu, vu, vu, vu, vu, vu, vu, vu, vu, vu, vu, vu, vu, vu, vu, vu, vu, vu, vu, vu, vu, vu, vu, vu, vu, vu, vu, vu, vu, vu, vu, vu, vu, vu, vu, vu, vu, vu, vu, vu, vu, vu, vu, vu, vu, vu, vu, vu, vu, vu, vu, vu, vu, vu, vu, vu, vu, vu, vu, vu, vu, vu, vu], bx := [(some (.arr true (some 35) 4 v3))], np := 0 }
theorem r_lex_c1 {R : Type} (m : Int) (K : X → St → Option R) (F n : Nat) (s : ByteArray) (v3 : List (List C)) (v4 : Int) : r_lex_K1 m K F n (.ex 2) (r_lex_E1 s v3 v4) =
    r_lex_L0 m K F n s v3 v4 := by kernel_rfl
theorem r_lex_r1 {R : Type} (m : Int) (K : X → St → Option R) (F n : Nat) (s : ByteArray) (v3 : List (List C)) (v4 : Int) : r_lex_L1 m K F (n + 1) s v3 v4 =
    (bif decide (v4 < (↑((runesP s).getD []).length : Int)) then
      (bif decide ((0 : Int) ≤ v4) then
        (getT ((runesP s).getD []) v4.toNat fun z7 =>
          (getT z7 0 fun z8 =>
            (bif shOk [Sh.int IntKind.i64] [z8] then
              (bif ([z8].getD (0 : Nat) C.nf).toInt != (10 : Int) then
                r_lex_L1 m K F n s v3 (IntKind.i64.wrap (v4 + (1 : Int)))
              else K (.ex 2) (r_lex_E1 s v3 v4))
            else none)))
      else none)
    else K (.ex 2) (r_lex_E1 s v3 v4)) := by kernel_rfl
def r_lex_m2 : List Bool := [false, false, false, false, false, false, true, false, true, true, true, true, true, false, false, false, false, false, false, false, false, false, false, false, false, false, false, false, false, false, false, false, false, false, false, false, false, false, false, false, false, false, false, false, false, false, false, false, false, false, false, false, false, false, false, false, false, false, false, false, false, false, false, false, false, false, false, false, false, false, false, false, false, false, false, false, false, false, false, false, false, false, false, false, false, false, false, false, false, false, false, false, false, false, false, false, false, false, false, false, false, false, false, false, false, false, false, false, false, false, false, false, false, false, false, false, false, false, false, false, false, false, false, false, false, false, false, false, false, false, false, false, false, false, false, false, false, false, false, false, false, false, false, false, false, false, false, false, false, false, false, false, false, false, false, false, false, false, false, false, false, false, false, false, false, false, false, false, false, false, false, false, false, false, false, false, false, false, false, false, false, false, false, false, false, false, false, false]
noncomputable def r_lex_b2 : Code := (cA (cA (cA (cB (cB (cB (cB (cA (cB (cA (cA (cB (cA (cB (cB (cB (cB (cB (bd Tryd.f15)))))))))))))))))))
def r_lex_S2 (s : ByteArray) (v2 : Int) (v5 : Int) (v6 : Int) (v7 : List (List C)) (v8 : Int) : St := { env := [vu, vu, vu, vu, vu, vu, (vc (.sl 1 ((runesP s).getD []))), vu, (.t (.w (.arr 0))), (vi v2), (vi v5), (vi v6), (vi v8), vu, vu, vu, vu, vu, vu, vu, vu, vu, vu, vu, vu, vu, vu, vu, vu, vu, vu, vu, vu, vu, vu, vu, vu, vu, vu, vu, vu, vu, vu, vu, vu, vu, vu, vu, vu, vu, vu, vu, vu, vu, vu, vu, vu, vu, vu, vu, vu, vu, vu, vu, vu, vu, vu, vu, vu, vu, vu, vu, vu, vu, vu, vu, vu, vu, vu, vu, vu, vu, vu, vu, vu, vu, vu, vu, vu, vu, vu, vu, vu, vu, vu, vu, vu, vu, vu, vu, vu, vu, vu, vu, vu, vu, vu, vu, vu, vu, vu, vu, vu, vu, vu, vu, vu, vu, vu, vu, vu, vu, vu, vu, vu, vu, vu, vu, vu, vu, vu, vu, vu, vu, vu, vu, vu, vu, vu, vu, vu, vu, vu, vu, vu, vu, vu, vu, vu, vu, vu, vu, vu, vu, vu, vu, vu, vu, vu, vu, vu, vu, vu, vu, vu, vu, vu, vu, vu, vu, vu, vu, vu, vu, vu, vu, vu, vu, vu, vu, vu, vu, vu, vu, vu, vu, vu, vu], bx := [(some (.arr true (some 35) 4 v7))], np := 0 }
noncomputable def r_lex_L2 {R : Type} (m : Int) (K : X → St → Option R) (F n : Nat) (s : ByteArray) (v2 : Int) (v5 : Int) (v6 : Int) (v7 : List (List C)) (v8 : Int) : Option R := loopV (headM r_lex_m2) (exec (r_lex_cf m) F r_lex_b2) (exitK (r_lex_cf m) K) n (r_lex_S2 s v2 v5 v6 v7 v8)
noncomputable def r_lex_K2 {R : Type} (m : Int) (K : X → St → Option R) (F n : Nat) : X → St → Option R := (blockK 4 (seqK (r_lex_cf m) F (cB (cB (cB (cB (cB (cA (cB (cA (cA (cB (cA (cB (cB (cB (cB (cB (bd Tryd.f15))))))))))))))))) (blockK 1 (loopK (headM r_lex_m0) (exec (r_lex_cf m) F r_lex_b0) (exitK (r_lex_cf m) K) n))))
def r_lex_E2 (s : ByteArray) (v2 : Int) (v5 : Int) (v6 : Int) (v7 : List (List C)) (v8 : Int) : St := { env := [vu, vu, vu, vu, vu, vu, (vc (.sl 1 ((runesP s).getD []))), vu, (.t (.w (.arr 0))), (vi v2), (vi v5), (vi v6), (vi v8), vu, vu, vu, vu, vu, vu, vu, vu, vu, vu, vu, vu, vu, vu, vu, vu, vu, vu, vu, vu, vu, vu, vu, vu, vu, vu, vu, vu, vu, vu, vu, vu, vu, vu, vu, vu, vu, vu, vu, vu, vu, vu, vu, vu, vu, vu, vu, vu, vu, vu, vu, vu, vu, vu, vu, vu, vu, vu, vu, vu, vu, vu, vu, vu, vu, vu, vu, vu, vu, vu, vu, vu, vu, vu, vu, vu, vu, vu, vu, vu, vu, vu, vu, vu, vu, vu, vu, vu, vu, vu, vu, vu, vu, vu, vu, vu, vu, vu, vu, vu, vu, vu, vu, vu, vu, vu, vu, vu, vu, vu, vu, vu, vu, vu, vu, vu, vu, vu, vu, vu, vu, vu, vu, vu, vu, vu, vu, vu, vu, vu, vu, vu, vu, vu, vu, vu, vu, vu, vu, vu, vu, vu, vu, vu, vu, vu, vu, vu, vu, vu, vu, vu, vu, vu, vu, vu, vu, vu, vu, vu, vu, vu, vu, vu, vu, vu, vu, vu, vu, vu, vu, vu, vu, vu, vu], bx := [(some (.arr true (some 35) 4 v7))], np := 0 }
def r_lex_E3 (v5 : Int) (v6 : Int) : St := { env := [vu, vu, (.t (.w (.arr 0))), (vi v5), (vi v6), (vi 10), vu, vu, vu, vu, vu, vu, vu, vu, vu, vu, vu, vu, vu, vu, vu, vu, vu, vu, vu, vu, vu, vu, vu, vu, vu, vu, vu, vu, vu, vu, vu, vu, vu, vu, vu, vu, vu, vu, vu, vu, vu, vu, vu, vu, vu, vu, vu, vu, vu, vu, vu, vu, vu, vu, vu, vu, vu, vu, vu, vu, vu, vu, vu, vu, vu, vu, vu, vu, vu, vu, vu, vu, vu, vu, vu, vu, vu, vu, vu, vu, vu, vu, vu, vu, vu, vu, vu, vu, vu, vu, vu, vu, vu, vu, vu, vu, vu, vu, vu, vu, vu, vu, vu, vu, vu, vu, vu, vu, vu, vu, vu, vu, vu, vu, vu, vu, vu, vu, vu, vu, vu, vu, vu, vu, vu, vu, vu, vu, vu, vu, vu, vu, vu, vu, vu, vu, vu, vu, vu, vu, vu, vu, vu, vu, vu, vu, vu, vu, vu, vu, vu, vu, vu, vu, vu, vu, vu, vu, vu, vu, vu, vu, vu, vu, vu, vu, vu, vu, vu, vu, vu, vu, vu, vu, vu, vu, vu, vu, vu, vu, vu, vu], bx := [(some (.arr true (some 35) 4 []))], np := 0 }
theorem r_lex_c3 {R : Type} (m : Int) (k : V → Bx → Option R) (F : Nat) (v5 : Int) (v6 : Int) : r_lex_K0 m k F .rt (r_lex_E3 v5 v6) =
    k (.tup [(.w (.d (.sl 4 []))), (.w (.d (.int .i64 v5))), (.w (.d (.int .i64 v6))), (.w (.d (.int .i64 10)))]) [] := by kernel_rfl
theorem r_lex_c2 {R : Type} (m : Int) (K : X → St → Option R) (F n : Nat) (s : ByteArray) (v2 : Int) (v5 : Int) (v6 : Int) (v7 : List (List C)) (v8 : Int) : r_lex_K2 m K F n (.ex 4) (r_lex_E2 s v2 v5 v6 v7 v8) =
    (bif decide (v8 > v2) then
      (bif decide ((0 : Int) ≤ v2 ∧ v2 ≤ v8 ∧ v8 ≤ (↑((runesP s).getD []).length : Int)) then
        (bif (List.take (v8.toNat - v2.toNat) (List.drop v2.toNat ((runesP s).getD []))).all isI && decide ((List.take (v8.toNat - v2.toNat) (List.drop v2.toNat ((runesP s).getD []))).length < (1000000 : Nat)) then
          (bif decide ((↑(bytesOf (List.map u8E (List.take (v8.toNat - v2.toNat) (List.drop v2.toNat ((runesP s).getD []))))).size : Int) > (16 : Int)) then
            K .rt (r_lex_E3 v5 v6)
          else (bif (bytesOf (List.map u8E (List.take (v8.toNat - v2.toNat) (List.drop v2.toNat ((runesP s).getD []))))).toList == (ByteArray.mk #[(116 : UInt8), (121 : UInt8), (112 : UInt8), (101 : UInt8)]).toList then
              (bif (bytesOf (List.map u8E (List.take (v8.toNat - v2.toNat) (List.drop v2.toNat ((runesP s).getD []))))).toList == (ByteArray.mk #[(114 : UInt8), (101 : UInt8), (108 : UInt8)]).toList then
                (bif (bytesOf (List.map u8E (List.take (v8.toNat - v2.toNat) (List.drop v2.toNat ((runesP s).getD []))))).toList == (ByteArray.mk #[(116 : UInt8), (104 : UInt8), (105 : UInt8), (115 : UInt8)]).toList then
                  (bif decide ((v7.length + (1 : Nat)) * (40 : Nat) ≤ (140737488355328 : Nat) ∧ v7.length + (1 : Nat) ≤ (9223372036854775807 : Nat)) then
                    r_lex_L0 m K F n s (v7 ++ [[C.int IntKind.i64 (4 : Int), C.str (bytesOf (List.map u8E (List.take (v8.toNat - v2.toNat) (List.drop v2.toNat ((runesP s).getD []))))), C.int IntKind.i64 v5, C.int IntKind.i64 v6]]) v8
                  else none)
                else (bif decide ((v7.length + (1 : Nat)) * (40 : Nat) ≤ (140737488355328 : Nat) ∧ v7.length + (1 : Nat) ≤ (9223372036854775807 : Nat)) then
                    r_lex_L0 m K F n s (v7 ++ [[C.int IntKind.i64 (3 : Int), C.str (bytesOf (List.map u8E (List.take (v8.toNat - v2.toNat) (List.drop v2.toNat ((runesP s).getD []))))), C.int IntKind.i64 v5, C.int IntKind.i64 v6]]) v8
                  else none))
              else (bif (bytesOf (List.map u8E (List.take (v8.toNat - v2.toNat) (List.drop v2.toNat ((runesP s).getD []))))).toList == (ByteArray.mk #[(116 : UInt8), (104 : UInt8), (105 : UInt8), (115 : UInt8)]).toList then
                  (bif decide ((v7.length + (1 : Nat)) * (40 : Nat) ≤ (140737488355328 : Nat) ∧ v7.length + (1 : Nat) ≤ (9223372036854775807 : Nat)) then
                    r_lex_L0 m K F n s (v7 ++ [[C.int IntKind.i64 (4 : Int), C.str (bytesOf (List.map u8E (List.take (v8.toNat - v2.toNat) (List.drop v2.toNat ((runesP s).getD []))))), C.int IntKind.i64 v5, C.int IntKind.i64 v6]]) v8
                  else none)
                else (bif decide ((v7.length + (1 : Nat)) * (40 : Nat) ≤ (140737488355328 : Nat) ∧ v7.length + (1 : Nat) ≤ (9223372036854775807 : Nat)) then
                    r_lex_L0 m K F n s (v7 ++ [[C.int IntKind.i64 (2 : Int), C.str (bytesOf (List.map u8E (List.take (v8.toNat - v2.toNat) (List.drop v2.toNat ((runesP s).getD []))))), C.int IntKind.i64 v5, C.int IntKind.i64 v6]]) v8
                  else none)))
            else (bif (bytesOf (List.map u8E (List.take (v8.toNat - v2.toNat) (List.drop v2.toNat ((runesP s).getD []))))).toList == (ByteArray.mk #[(114 : UInt8), (101 : UInt8), (108 : UInt8)]).toList then
                (bif (bytesOf (List.map u8E (List.take (v8.toNat - v2.toNat) (List.drop v2.toNat ((runesP s).getD []))))).toList == (ByteArray.mk #[(116 : UInt8), (104 : UInt8), (105 : UInt8), (115 : UInt8)]).toList then
                  (bif decide ((v7.length + (1 : Nat)) * (40 : Nat) ≤ (140737488355328 : Nat) ∧ v7.length + (1 : Nat) ≤ (9223372036854775807 : Nat)) then
                    r_lex_L0 m K F n s (v7 ++ [[C.int IntKind.i64 (4 : Int), C.str (bytesOf (List.map u8E (List.take (v8.toNat - v2.toNat) (List.drop v2.toNat ((runesP s).getD []))))), C.int IntKind.i64 v5, C.int IntKind.i64 v6]]) v8
                  else none)
                else (bif decide ((v7.length + (1 : Nat)) * (40 : Nat) ≤ (140737488355328 : Nat) ∧ v7.length + (1 : Nat) ≤ (9223372036854775807 : Nat)) then
                    r_lex_L0 m K F n s (v7 ++ [[C.int IntKind.i64 (3 : Int), C.str (bytesOf (List.map u8E (List.take (v8.toNat - v2.toNat) (List.drop v2.toNat ((runesP s).getD []))))), C.int IntKind.i64 v5, C.int IntKind.i64 v6]]) v8
                  else none))
              else (bif (bytesOf (List.map u8E (List.take (v8.toNat - v2.toNat) (List.drop v2.toNat ((runesP s).getD []))))).toList == (ByteArray.mk #[(116 : UInt8), (104 : UInt8), (105 : UInt8), (115 : UInt8)]).toList then
                  (bif decide ((v7.length + (1 : Nat)) * (40 : Nat) ≤ (140737488355328 : Nat) ∧ v7.length + (1 : Nat) ≤ (9223372036854775807 : Nat)) then
                    r_lex_L0 m K F n s (v7 ++ [[C.int IntKind.i64 (4 : Int), C.str (bytesOf (List.map u8E (List.take (v8.toNat - v2.toNat) (List.drop v2.toNat ((runesP s).getD []))))), C.int IntKind.i64 v5, C.int IntKind.i64 v6]]) v8
                  else none)
                else (bif decide ((v7.length + (1 : Nat)) * (40 : Nat) ≤ (140737488355328 : Nat) ∧ v7.length + (1 : Nat) ≤ (9223372036854775807 : Nat)) then
                    r_lex_L0 m K F n s (v7 ++ [[C.int IntKind.i64 (1 : Int), C.str (bytesOf (List.map u8E (List.take (v8.toNat - v2.toNat) (List.drop v2.toNat ((runesP s).getD []))))), C.int IntKind.i64 v5, C.int IntKind.i64 v6]]) v8
                  else none)))))
        else none)
      else none)
    else (bif decide ((0 : Int) ≤ v2) then
        (getT ((runesP s).getD []) v2.toNat fun z11 =>
          (getT z11 0 fun z12 =>
            (bif shOk [Sh.int IntKind.i64] [z12] then
              (bif ([z12].getD (0 : Nat) C.nf).toInt == (45 : Int) then
                (bif decide (v2 < IntKind.i64.wrap ((↑((runesP s).getD []).length : Int) - (1 : Int))) then
                  (bif decide ((0 : Int) ≤ IntKind.i64.wrap (v2 + (1 : Int))) then
                    (getT ((runesP s).getD []) ((IntKind.i64.wrap (v2 + (1 : Int))).toNat) fun z13 =>
                      (getT z13 0 fun z14 =>
                        (bif shOk [Sh.int IntKind.i64] [z14] then
                          (bif ([z14].getD (0 : Nat) C.nf).toInt == (62 : Int) then
                            (bif decide ((v7.length + (1 : Nat)) * (40 : Nat) ≤ (140737488355328 : Nat) ∧ v7.length + (1 : Nat) ≤ (9223372036854775807 : Nat)) then
                              r_lex_L0 m K F n s (v7 ++ [[C.int IntKind.i64 (5 : Int), C.str (ByteArray.mk #[(45 : UInt8), (62 : UInt8)]), C.int IntKind.i64 v5, C.int IntKind.i64 v6]]) (IntKind.i64.wrap (v2 + (2 : Int)))
                            else none)
                          else (bif decide ((0 : Int) ≤ v2) then
                              (getT ((runesP s).getD []) v2.toNat fun z15 =>
                                (getT z15 0 fun z16 =>
                                  (bif shOk [Sh.int IntKind.i64] [z16] then
                                    (bif amongP ([z16].getD (0 : Nat) C.nf).toInt [[C.int IntKind.i64 (123 : Int)], [C.int IntKind.i64 (125 : Int)], [C.int IntKind.i64 (91 : Int)], [C.int IntKind.i64 (93 : Int)], [C.int IntKind.i64 (40 : Int)], [C.int IntKind.i64 (41 : Int)], [C.int IntKind.i64 (61 : Int)], [C.int IntKind.i64 (59 : Int)], [C.int IntKind.i64 (44 : Int)], [C.int IntKind.i64 (58 : Int)], [C.int IntKind.i64 (35 : Int)], [C.int IntKind.i64 (42 : Int)], [C.int IntKind.i64 (124 : Int)], [C.int IntKind.i64 (38 : Int)], [C.int IntKind.i64 (45 : Int)]] then
                                      (bif decide ((0 : Int) ≤ v2) then
                                        (getT ((runesP s).getD []) v2.toNat fun z17 =>
                                          (getT z17 0 fun z18 =>
                                            (bif shOk [Sh.int IntKind.i64] [z18] then
                                              (bif decide ((0 : Int) ≤ v2 ∧ v2 ≤ IntKind.i64.wrap (v2 + (1 : Int)) ∧ IntKind.i64.wrap (v2 + (1 : Int)) ≤ (↑((runesP s).getD []).length : Int)) then
                                                (bif (List.take ((IntKind.i64.wrap (v2 + (1 : Int))).toNat - v2.toNat) (List.drop v2.toNat ((runesP s).getD []))).all isI && decide ((List.take ((IntKind.i64.wrap (v2 + (1 : Int))).toNat - v2.toNat) (List.drop v2.toNat ((runesP s).getD []))).length < (1000000 : Nat)) then
                                                  (bif decide ((v7.length + (1 : Nat)) * (40 : Nat) ≤ (140737488355328 : Nat) ∧ v7.length + (1 : Nat) ≤ (9223372036854775807 : Nat)) then
                                                    r_lex_L0 m K F n s (v7 ++ [[C.int IntKind.i64 ([z18].getD (0 : Nat) C.nf).toInt, C.str (bytesOf (List.map u8E (List.take ((IntKind.i64.wrap (v2 + (1 : Int))).toNat - v2.toNat) (List.drop v2.toNat ((runesP s).getD []))))), C.int IntKind.i64 v5, C.int IntKind.i64 v6]]) (IntKind.i64.wrap (v2 + (1 : Int)))
                                                  else none)
                                                else none)
                                              else none)
                                            else none)))
                                      else none)
                                    else K .rt (r_lex_E3 v5 v6))
                                  else none)))
                            else none))
                        else none)))
                  else none)
                else (bif decide ((0 : Int) ≤ v2) then
                    (getT ((runesP s).getD []) v2.toNat fun z19 =>
                      (getT z19 0 fun z20 =>
                        (bif shOk [Sh.int IntKind.i64] [z20] then
                          (bif amongP ([z20].getD (0 : Nat) C.nf).toInt [[C.int IntKind.i64 (123 : Int)], [C.int IntKind.i64 (125 : Int)], [C.int IntKind.i64 (91 : Int)], [C.int IntKind.i64 (93 : Int)], [C.int IntKind.i64 (40 : Int)], [C.int IntKind.i64 (41 : Int)], [C.int IntKind.i64 (61 : Int)], [C.int IntKind.i64 (59 : Int)], [C.int IntKind.i64 (44 : Int)], [C.int IntKind.i64 (58 : Int)], [C.int IntKind.i64 (35 : Int)], [C.int IntKind.i64 (42 : Int)], [C.int IntKind.i64 (124 : Int)], [C.int IntKind.i64 (38 : Int)], [C.int IntKind.i64 (45 : Int)]] then
                            (bif decide ((0 : Int) ≤ v2) then
                              (getT ((runesP s).getD []) v2.toNat fun z21 =>
                                (getT z21 0 fun z22 =>
                                  (bif shOk [Sh.int IntKind.i64] [z22] then
                                    (bif decide ((0 : Int) ≤ v2 ∧ v2 ≤ IntKind.i64.wrap (v2 + (1 : Int)) ∧ IntKind.i64.wrap (v2 + (1 : Int)) ≤ (↑((runesP s).getD []).length : Int)) then
                                      (bif (List.take ((IntKind.i64.wrap (v2 + (1 : Int))).toNat - v2.toNat) (List.drop v2.toNat ((runesP s).getD []))).all isI && decide ((List.take ((IntKind.i64.wrap (v2 + (1 : Int))).toNat - v2.toNat) (List.drop v2.toNat ((runesP s).getD []))).length < (1000000 : Nat)) then
                                        (bif decide ((v7.length + (1 : Nat)) * (40 : Nat) ≤ (140737488355328 : Nat) ∧ v7.length + (1 : Nat) ≤ (9223372036854775807 : Nat)) then
                                          r_lex_L0 m K F n s (v7 ++ [[C.int IntKind.i64 ([z22].getD (0 : Nat) C.nf).toInt, C.str (bytesOf (List.map u8E (List.take ((IntKind.i64.wrap (v2 + (1 : Int))).toNat - v2.toNat) (List.drop v2.toNat ((runesP s).getD []))))), C.int IntKind.i64 v5, C.int IntKind.i64 v6]]) (IntKind.i64.wrap (v2 + (1 : Int)))
                                        else none)
                                      else none)
                                    else none)
                                  else none)))
                            else none)
                          else K .rt (r_lex_E3 v5 v6))
                        else none)))
                  else none))
              else (bif decide ((0 : Int) ≤ v2) then
                  (getT ((runesP s).getD []) v2.toNat fun z23 =>
                    (getT z23 0 fun z24 =>
                      (bif shOk [Sh.int IntKind.i64] [z24] then
                        (bif amongP ([z24].getD (0 : Nat) C.nf).toInt [[C.int IntKind.i64 (123 : Int)], [C.int IntKind.i64 (125 : Int)], [C.int IntKind.i64 (91 : Int)], [C.int IntKind.i64 (93 : Int)], [C.int IntKind.i64 (40 : Int)], [C.int IntKind.i64 (41 : Int)], [C.int IntKind.i64 (61 : Int)], [C.int IntKind.i64 (59 : Int)], [C.int IntKind.i64 (44 : Int)], [C.int IntKind.i64 (58 : Int)], [C.int IntKind.i64 (35 : Int)], [C.int IntKind.i64 (42 : Int)], [C.int IntKind.i64 (124 : Int)], [C.int IntKind.i64 (38 : Int)], [C.int IntKind.i64 (45 : Int)]] then
                          (bif decide ((0 : Int) ≤ v2) then
                            (getT ((runesP s).getD []) v2.toNat fun z25 =>
                              (getT z25 0 fun z26 =>
                                (bif shOk [Sh.int IntKind.i64] [z26] then
                                  (bif decide ((0 : Int) ≤ v2 ∧ v2 ≤ IntKind.i64.wrap (v2 + (1 : Int)) ∧ IntKind.i64.wrap (v2 + (1 : Int)) ≤ (↑((runesP s).getD []).length : Int)) then
                                    (bif (List.take ((IntKind.i64.wrap (v2 + (1 : Int))).toNat - v2.toNat) (List.drop v2.toNat ((runesP s).getD []))).all isI && decide ((List.take ((IntKind.i64.wrap (v2 + (1 : Int))).toNat - v2.toNat) (List.drop v2.toNat ((runesP s).getD []))).length < (1000000 : Nat)) then
                                      (bif decide ((v7.length + (1 : Nat)) * (40 : Nat) ≤ (140737488355328 : Nat) ∧ v7.length + (1 : Nat) ≤ (9223372036854775807 : Nat)) then
                                        r_lex_L0 m K F n s (v7 ++ [[C.int IntKind.i64 ([z26].getD (0 : Nat) C.nf).toInt, C.str (bytesOf (List.map u8E (List.take ((IntKind.i64.wrap (v2 + (1 : Int))).toNat - v2.toNat) (List.drop v2.toNat ((runesP s).getD []))))), C.int IntKind.i64 v5, C.int IntKind.i64 v6]]) (IntKind.i64.wrap (v2 + (1 : Int)))
                                      else none)
                                    else none)
                                  else none)
                                else none)))
                          else none)
                        else K .rt (r_lex_E3 v5 v6))
                      else none)))
                else none))
            else none)))
      else none)) := by kernel_rfl
theorem r_lex_r2 {R : Type} (m : Int) (K : X → St → Option R) (F n : Nat) (s : ByteArray) (v2 : Int) (v5 : Int) (v6 : Int) (v7 : List (List C)) (v8 : Int) : r_lex_L2 m K F (n + 1) s v2 v5 v6 v7 v8 =
    (bif decide (v8 < (↑((runesP s).getD []).length : Int)) then
      (bif decide ((0 : Int) ≤ v8) then
        (getT ((runesP s).getD []) v8.toNat fun z9 =>
          (getT z9 0 fun z10 =>
            (bif shOk [Sh.int IntKind.i64] [z10] then
              (bif letterP ([z10].getD (0 : Nat) C.nf).toInt (v8 == v2) then
                r_lex_L2 m K F n s v2 v5 v6 v7 (IntKind.i64.wrap (v8 + (1 : Int)))
              else K (.ex 4) (r_lex_E2 s v2 v5 v6 v7 v8))
            else none)))
      else none)
    else K (.ex 4) (r_lex_E2 s v2 v5 v6 v7 v8)) := by kernel_rfl
def r_lex_E4 (s : ByteArray) (v1 : List (List C)) : St := { env := [vu, vu, vu, vu, vu, vu, (vc (.sl 1 ((runesP s).getD []))), vu, (.t (.w (.arr 0))), vu, vu, vu, vu, vu, vu, vu, vu, vu, vu, vu, vu, vu, vu, vu, vu, vu, vu, vu, vu, vu, vu, vu, vu, vu, vu, vu, vu, vu, vu, vu, vu, vu, vu, vu, vu, vu, vu, vu, vu, vu, vu, vu, vu, vu, vu, vu, vu, vu, vu, vu, vu, vu, vu, vu, vu, vu, vu, vu, vu, vu, vu, vu, vu, vu, vu, vu, vu, vu, vu, vu, vu, vu, vu, vu, vu, vu, vu, vu, vu, vu, vu, vu, vu, vu, vu, vu, vu, vu, vu, vu, vu, vu, vu, vu, vu, vu, vu, vu, vu, vu, vu, vu, vu, vu, vu, vu, vu, vu, vu, vu, vu, vu, vu, vu, vu, vu, vu, vu, vu, vu, vu, vu, vu, vu, vu, vu, vu, vu, vu, vu, vu, vu, vu, vu, vu, vu, vu, vu, vu, vu, vu, vu, vu, vu, vu, vu, vu, vu, vu, vu, vu, vu, vu, vu, vu, vu, vu, vu, vu, vu, vu, vu, vu, vu, vu, vu, vu, vu, vu, vu, vu, vu, vu, vu, vu, vu, vu, vu], bx := [(some (.arr true (some 35) 4 v1))], np := 0 }
theorem r_lex_c4 {R : Type} (m : Int) (k : V → Bx → Option R) (F : Nat) (s : ByteArray) (v1 : List (List C)) : r_lex_K0 m k F (.ex 0) (r_lex_E4 s v1) =
    (bif ((runesP s).getD []).all isI && decide (((runesP s).getD []).length < (1000000 : Nat)) && true && decide ((↑((runesP s).getD []).length : Int) ≤ (↑((runesP s).getD []).length : Int)) then
      k (.tup [(.w (.d (.sl 4 v1))), (.w (.d (.int .i64 ((placeP (List.take (↑((runesP s).getD []).length : Int).toNat ((runesP s).getD [])) (1 : Int) (1 : Int)).fst)))), (.w (.d (.int .i64 ((placeP (List.take (↑((runesP s).getD []).length : Int).toNat ((runesP s).getD [])) (1 : Int) (1 : Int)).snd)))), (.w (.d (.int .i64 0)))]) []
    else none) := by kernel_rfl
theorem r_lex_r0 {R : Type} (m : Int) (K : X → St → Option R) (F n : Nat) (s : ByteArray) (v1 : List (List C)) (v2 : Int) : r_lex_L0 m K F (n + 1) s v1 v2 =
    (bif decide (v2 < (↑((runesP s).getD []).length : Int)) then
      (bif decide ((0 : Int) ≤ v2) then
        (getT ((runesP s).getD []) v2.toNat fun z1 =>
          (getT z1 0 fun z2 =>
            (bif shOk [Sh.int IntKind.i64] [z2] then
              (bif amongP ([z2].getD (0 : Nat) C.nf).toInt [[C.int IntKind.i64 (9 : Int)], [C.int IntKind.i64 (10 : Int)], [C.int IntKind.i64 (13 : Int)], [C.int IntKind.i64 (32 : Int)], [C.int IntKind.i64 (12288 : Int)]] then
                r_lex_L0 m K F n s v1 (IntKind.i64.wrap (v2 + (1 : Int)))
              else (bif decide ((0 : Int) ≤ v2) then
                  (getT ((runesP s).getD []) v2.toNat fun z3 =>
                    (getT z3 0 fun z4 =>
                      (bif shOk [Sh.int IntKind.i64] [z4] then
                        (bif ([z4].getD (0 : Nat) C.nf).toInt == (47 : Int) then
                          (bif decide (v2 < IntKind.i64.wrap ((↑((runesP s).getD []).length : Int) - (1 : Int))) then
                            (bif decide ((0 : Int) ≤ IntKind.i64.wrap (v2 + (1 : Int))) then
                              (getT ((runesP s).getD []) ((IntKind.i64.wrap (v2 + (1 : Int))).toNat) fun z5 =>
                                (getT z5 0 fun z6 =>
                                  (bif shOk [Sh.int IntKind.i64] [z6] then
                                    (bif ([z6].getD (0 : Nat) C.nf).toInt == (47 : Int) then
                                      r_lex_L1 m (r_lex_K1 m K F n) F F s v1 v2
                                    else (bif ((runesP s).getD []).all isI && decide (((runesP s).getD []).length < (1000000 : Nat)) && decide ((0 : Int) ≤ v2) && decide (v2 ≤ (↑((runesP s).getD []).length : Int)) then
                                        r_lex_L2 m (r_lex_K2 m K F n) F F s v2 ((placeP (List.take v2.toNat ((runesP s).getD [])) (1 : Int) (1 : Int)).fst) ((placeP (List.take v2.toNat ((runesP s).getD [])) (1 : Int) (1 : Int)).snd) v1 v2
                                      else none))
                                  else none)))
                            else none)
                          else (bif ((runesP s).getD []).all isI && decide (((runesP s).getD []).length < (1000000 : Nat)) && decide ((0 : Int) ≤ v2) && decide (v2 ≤ (↑((runesP s).getD []).length : Int)) then
                              r_lex_L2 m (r_lex_K2 m K F n) F F s v2 ((placeP (List.take v2.toNat ((runesP s).getD [])) (1 : Int) (1 : Int)).fst) ((placeP (List.take v2.toNat ((runesP s).getD [])) (1 : Int) (1 : Int)).snd) v1 v2
                            else none))
                        else (bif ((runesP s).getD []).all isI && decide (((runesP s).getD []).length < (1000000 : Nat)) && decide ((0 : Int) ≤ v2) && decide (v2 ≤ (↑((runesP s).getD []).length : Int)) then
                            r_lex_L2 m (r_lex_K2 m K F n) F F s v2 ((placeP (List.take v2.toNat ((runesP s).getD [])) (1 : Int) (1 : Int)).fst) ((placeP (List.take v2.toNat ((runesP s).getD [])) (1 : Int) (1 : Int)).snd) v1 v2
                          else none))
                      else none)))
                else none))
            else none)))
      else none)
    else K (.ex 0) (r_lex_E4 s v1)) := by kernel_rfl
theorem r_lex_start {R : Type} (m : Int) (k : V → Bx → Option R) (F : Nat) (s : ByteArray) : runFn (r_lex_cf m) F Tryd.f15 (bd Tryd.f15) [vs s] [] k =
    (bif decide (s.size < (1000000 : Nat)) then
      (bif !(runesP s).isSome then
        k (.tup [(.w (.d (.sl 4 []))), (.w (.d (.int .i64 0))), (.w (.d (.int .i64 0))), (.w (.d (.int .i64 4)))]) []
      else (bif decide ((↑((runesP s).getD []).length : Int) > (3000 : Int)) then
          k (.tup [(.w (.d (.sl 4 []))), (.w (.d (.int .i64 0))), (.w (.d (.int .i64 0))), (.w (.d (.int .i64 3)))]) []
        else r_lex_L0 m (r_lex_K0 m k F) F F s [] 0))
    else none) := by kernel_rfl
end Go.Proofs.YtniiimpcakmkbaaDoor
