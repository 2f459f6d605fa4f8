/- YtniiimpcakmkbaaDoorSgN -/
import Derived.Test.YtniiimpcakmkbaaDoorSgM
set_option linter.unusedVariables false
namespace Go.Proofs.YtniiimpcakmkbaaDoor
open Go Vm
noncomputable def r_rune_cf (m : Int) : Cfg := mkCfG (globT m) vti orc0 false [] [(15, 1923), (999, 48), (1001, 896)]
def r_rune_m0 : List Bool := [true, true, false, false, false, false, false, true, true, true, true, false, false, false, false, false, false, false, false, false, false, false, false, false, false, false, false, false, false, false, false, false, false, false, false, false, false, false, false, false, false, false, false, false, false, false, false, false, false, false, false, false, false, false, false, false, false, false, false, false, false, false, false, false, false, false, false, false, false, false, false, false, false, false, false, false, false, false, false, false, false, false, false, false, false, false, false, false, false, false, false, false, false]
noncomputable def r_rune_b0 : Code := (cA (cA (cB (cA (cB (cB (cB (cB (cB (bd Tryd.f38))))))))))
def r_rune_S0 (s : ByteArray) (i : Int) (v1 : Int) (v2 : Int) (v3 : Int) (v4 : Int) : St := { env := [(vs s), (vi i), vu, vu, vu, vu, vu, (vi v2), (vi v1), (vi v3), (vi v4), vu, vu, vu, vu, vu, vu, vu, vu, vu, vu, vu, vu, vu, vu, vu, vu, vu, vu, vu, vu, vu, vu, vu, vu, vu, vu, vu, vu, vu, vu, vu, vu, vu, vu, vu, vu, vu, vu, vu, vu, vu, vu, vu, vu, vu, vu, vu, vu, vu, vu, vu, vu, vu, vu, vu, vu, vu, vu, vu, vu, vu, vu, vu, vu, vu, vu, vu, vu, vu, vu, vu, vu, vu, vu, vu, vu, vu, vu, vu, vu, vu, vu], bx := [], np := 0 }
noncomputable def r_rune_L0 {R : Type} (m : Int) (K : X → St → Option R) (F n : Nat) (s : ByteArray) (i : Int) (v1 : Int) (v2 : Int) (v3 : Int) (v4 : Int) : Option R := loopV (headM r_rune_m0) (exec (r_rune_cf m) F r_rune_b0) (exitK (r_rune_cf m) K) n (r_rune_S0 s i v1 v2 v3 v4)
noncomputable def r_rune_K0 {R : Type} (m : Int) (k : V → Bx → Option R) (F : Nat) : X → St → Option R := (blockK 1 (seqK (r_rune_cf m) F (cB (cB (cB (cB (cB (cB (bd Tryd.f38))))))) (finK (r_rune_cf m) Tryd.f38 k)))
def r_rune_E1 : St := { env := [vu, vu, vu, vu, (vi 0), (vi 0), vu, vu, vu, vu, vu, vu, vu, vu, vu, vu, vu, vu, vu, vu, vu, vu, vu, vu, vu, vu, vu, vu, vu, vu, vu, vu, vu, vu, vu, vu, vu, vu, vu, vu, vu, vu, vu, vu, vu, vu, vu, vu, vu, vu, vu, vu, vu, vu, vu, vu, vu, vu, vu, vu, vu, vu, vu, vu, vu, vu, vu, vu, vu, vu, vu, vu, vu, vu, vu, vu, vu, vu, vu, vu, vu, vu, vu, vu, vu, vu, vu, vu, vu, vu, vu, vu, vu], bx := [], np := 0 }
theorem r_rune_c1 {R : Type} (m : Int) (k : V → Bx → Option R) (F : Nat) : r_rune_K0 m k F .rt (r_rune_E1) =
    k (.tup [(.w (.d (.int .i64 0))), (.w (.d (.int .i64 0)))]) [] := by kernel_rfl
def r_rune_E2 (v1 : Int) (v2 : Int) (v3 : Int) : St := { env := [vu, vu, vu, vu, vu, vu, vu, (vi v2), (vi v1), (vi v3), vu, vu, vu, vu, vu, vu, vu, vu, vu, vu, vu, vu, vu, vu, vu, vu, vu, vu, vu, vu, vu, vu, vu, vu, vu, vu, vu, vu, vu, vu, vu, vu, vu, vu, vu, vu, vu, vu, vu, vu, vu, vu, vu, vu, vu, vu, vu, vu, vu, vu, vu, vu, vu, vu, vu, vu, vu, vu, vu, vu, vu, vu, vu, vu, vu, vu, vu, vu, vu, vu, vu, vu, vu, vu, vu, vu, vu, vu, vu, vu, vu, vu, vu], bx := [], np := 0 }
theorem r_rune_c2 {R : Type} (m : Int) (k : V → Bx → Option R) (F : Nat) (v1 : Int) (v2 : Int) (v3 : Int) : r_rune_K0 m k F (.ex 1) (r_rune_E2 v1 v2 v3) =
    (bif decide (v1 < v3) then
      k (.tup [(.w (.d (.int .i64 0))), (.w (.d (.int .i64 0)))]) []
    else (bif decide (v1 > (1114111 : Int)) then
        k (.tup [(.w (.d (.int .i64 0))), (.w (.d (.int .i64 0)))]) []
      else (bif decide (v1 ≥ (55296 : Int)) then
          (bif decide (v1 ≤ (57343 : Int)) then
            k (.tup [(.w (.d (.int .i64 0))), (.w (.d (.int .i64 0)))]) []
          else k (.tup [(.w (.d (.int .i64 v1))), (.w (.d (.int .i64 v2)))]) [])
        else k (.tup [(.w (.d (.int .i64 v1))), (.w (.d (.int .i64 v2)))]) []))) := by kernel_rfl
theorem r_rune_r0 {R : Type} (m : Int) (K : X → St → Option R) (F n : Nat) (s : ByteArray) (i : Int) (v1 : Int) (v2 : Int) (v3 : Int) (v4 : Int) : r_rune_L0 m K F (n + 1) s i v1 v2 v3 v4 =
    (bif decide (v4 < v2) then
      (bif decide ((0 : Int) ≤ IntKind.i64.wrap (i + v4)) then
        (getT s.data.toList ((IntKind.i64.wrap (i + v4)).toNat) fun z2 =>
          (bif decide (IntKind.i64.wrap (↑z2.toNat : Int) < (128 : Int)) then
            K .rt (r_rune_E1)
          else (bif decide (IntKind.i64.wrap (↑z2.toNat : Int) > (191 : Int)) then
              K .rt (r_rune_E1)
            else r_rune_L0 m K F n s i (IntKind.i64.wrap (IntKind.i64.wrap (IntKind.i64.wrap (v1 * (64 : Int)) + IntKind.i64.wrap (↑z2.toNat : Int)) - (128 : Int))) v2 v3 (IntKind.i64.wrap (v4 + (1 : Int))))))
      else none)
    else K (.ex 1) (r_rune_E2 v1 v2 v3)) := by kernel_rfl
theorem r_rune_start {R : Type} (m : Int) (k : V → Bx → Option R) (F : Nat) (s : ByteArray) (i : Int) : runFn (r_rune_cf m) F Tryd.f38 (bd Tryd.f38) [vs s, vi i] [] k =
    (bif decide ((0 : Int) ≤ i) then
      (getT s.data.toList i.toNat fun z1 =>
        (bif decide (IntKind.i64.wrap (↑z1.toNat : Int) < (128 : Int)) then
          k (.tup [(.w (.d (.int .i64 (IntKind.i64.wrap (↑z1.toNat : Int))))), (.w (.d (.int .i64 1)))]) []
        else (bif decide (IntKind.i64.wrap (↑z1.toNat : Int) ≥ (192 : Int)) then
            (bif decide (IntKind.i64.wrap (↑z1.toNat : Int) < (224 : Int)) then
              (bif decide ((2 : Int) > IntKind.i64.wrap ((↑s.size : Int) - i)) then
                k (.tup [(.w (.d (.int .i64 0))), (.w (.d (.int .i64 0)))]) []
              else r_rune_L0 m (r_rune_K0 m k F) F F s i (IntKind.i64.wrap (IntKind.i64.wrap (↑z1.toNat : Int) - (192 : Int))) 2 128 1)
            else (bif decide (IntKind.i64.wrap (↑z1.toNat : Int) ≥ (224 : Int)) then
                (bif decide (IntKind.i64.wrap (↑z1.toNat : Int) < (240 : Int)) then
                  (bif decide ((3 : Int) > IntKind.i64.wrap ((↑s.size : Int) - i)) then
                    k (.tup [(.w (.d (.int .i64 0))), (.w (.d (.int .i64 0)))]) []
                  else r_rune_L0 m (r_rune_K0 m k F) F F s i (IntKind.i64.wrap (IntKind.i64.wrap (↑z1.toNat : Int) - (224 : Int))) 3 2048 1)
                else (bif decide (IntKind.i64.wrap (↑z1.toNat : Int) ≥ (240 : Int)) then
                    (bif decide (IntKind.i64.wrap (↑z1.toNat : Int) < (248 : Int)) then
                      (bif decide ((4 : Int) > IntKind.i64.wrap ((↑s.size : Int) - i)) then
                        k (.tup [(.w (.d (.int .i64 0))), (.w (.d (.int .i64 0)))]) []
                      else r_rune_L0 m (r_rune_K0 m k F) F F s i (IntKind.i64.wrap (IntKind.i64.wrap (↑z1.toNat : Int) - (240 : Int))) 4 65536 1)
                    else k (.tup [(.w (.d (.int .i64 0))), (.w (.d (.int .i64 0)))]) [])
                  else k (.tup [(.w (.d (.int .i64 0))), (.w (.d (.int .i64 0)))]) []))
              else (bif decide (IntKind.i64.wrap (↑z1.toNat : Int) ≥ (240 : Int)) then
                  (bif decide (IntKind.i64.wrap (↑z1.toNat : Int) < (248 : Int)) then
                    (bif decide ((4 : Int) > IntKind.i64.wrap ((↑s.size : Int) - i)) then
                      k (.tup [(.w (.d (.int .i64 0))), (.w (.d (.int .i64 0)))]) []
                    else r_rune_L0 m (r_rune_K0 m k F) F F s i (IntKind.i64.wrap (IntKind.i64.wrap (↑z1.toNat : Int) - (240 : Int))) 4 65536 1)
                  else k (.tup [(.w (.d (.int .i64 0))), (.w (.d (.int .i64 0)))]) [])
                else k (.tup [(.w (.d (.int .i64 0))), (.w (.d (.int .i64 0)))]) [])))
          else (bif decide (IntKind.i64.wrap (↑z1.toNat : Int) ≥ (224 : Int)) then
              (bif decide (IntKind.i64.wrap (↑z1.toNat : Int) < (240 : Int)) then
                (bif decide ((3 : Int) > IntKind.i64.wrap ((↑s.size : Int) - i)) then
                  k (.tup [(.w (.d (.int .i64 0))), (.w (.d (.int .i64 0)))]) []
                else r_rune_L0 m (r_rune_K0 m k F) F F s i (IntKind.i64.wrap (IntKind.i64.wrap (↑z1.toNat : Int) - (224 : Int))) 3 2048 1)
              else (bif decide (IntKind.i64.wrap (↑z1.toNat : Int) ≥ (240 : Int)) then
                  (bif decide (IntKind.i64.wrap (↑z1.toNat : Int) < (248 : Int)) then
                    (bif decide ((4 : Int) > IntKind.i64.wrap ((↑s.size : Int) - i)) then
                      k (.tup [(.w (.d (.int .i64 0))), (.w (.d (.int .i64 0)))]) []
                    else r_rune_L0 m (r_rune_K0 m k F) F F s i (IntKind.i64.wrap (IntKind.i64.wrap (↑z1.toNat : Int) - (240 : Int))) 4 65536 1)
                  else k (.tup [(.w (.d (.int .i64 0))), (.w (.d (.int .i64 0)))]) [])
                else k (.tup [(.w (.d (.int .i64 0))), (.w (.d (.int .i64 0)))]) []))
            else (bif decide (IntKind.i64.wrap (↑z1.toNat : Int) ≥ (240 : Int)) then
                (bif decide (IntKind.i64.wrap (↑z1.toNat : Int) < (248 : Int)) then
                  (bif decide ((4 : Int) > IntKind.i64.wrap ((↑s.size : Int) - i)) then
                    k (.tup [(.w (.d (.int .i64 0))), (.w (.d (.int .i64 0)))]) []
                  else r_rune_L0 m (r_rune_K0 m k F) F F s i (IntKind.i64.wrap (IntKind.i64.wrap (↑z1.toNat : Int) - (240 : Int))) 4 65536 1)
                else k (.tup [(.w (.d (.int .i64 0))), (.w (.d (.int .i64 0)))]) [])
              else k (.tup [(.w (.d (.int .i64 0))), (.w (.d (.int .i64 0)))]) [])))))
    else none) := by kernel_rfl
noncomputable def r_among_cf (m : Int) : Cfg := mkCfG (globT m) vti orc0 false [] [(2, 387), (999, 16), (1000, 0)]
def r_among_m0 : List Bool := [true, true, false, false, false, false, false, true, true, false, false, false, false, false, false, false, false, false]
noncomputable def r_among_b0 : Code := (cA (cA (cB (cA (cB (bd Tryd.f33))))))
def r_among_S0 (v : Int) (l : List (List C)) (v1 : Int) : St := { env := [(vi v), (vc (.sl 1 l)), vu, vu, vu, vu, vu, (vi ((↑l.length : Int))), (vi v1), vu, vu, vu, vu, vu, vu, vu, vu, vu], bx := [], np := 0 }
noncomputable def r_among_L0 {R : Type} (m : Int) (K : X → St → Option R) (F n : Nat) (v : Int) (l : List (List C)) (v1 : Int) : Option R := loopV (headM r_among_m0) (exec (r_among_cf m) F r_among_b0) (exitK (r_among_cf m) K) n (r_among_S0 v l v1)
noncomputable def r_among_K0 {R : Type} (m : Int) (k : V → Bx → Option R) (F : Nat) : X → St → Option R := (blockK 0 (seqK (r_among_cf m) F (cB (cB (bd Tryd.f33))) (finK (r_among_cf m) Tryd.f33 k)))
def r_among_E1 : St := { env := [vu, vu, vu, vu, (vb true), vu, vu, vu, vu, vu, vu, vu, vu, vu, vu, vu, vu, vu], bx := [], np := 0 }
theorem r_among_c1 {R : Type} (m : Int) (k : V → Bx → Option R) (F : Nat) : r_among_K0 m k F .rt (r_among_E1) =
    k (vb true) [] := by kernel_rfl
def r_among_E2 : St := { env := (List.replicate 18 vu), bx := [], np := 0 }
theorem r_among_c2 {R : Type} (m : Int) (k : V → Bx → Option R) (F : Nat) : r_among_K0 m k F (.ex 0) (r_among_E2) =
    k (vb false) [] := by kernel_rfl
theorem r_among_r0 {R : Type} (m : Int) (K : X → St → Option R) (F n : Nat) (v : Int) (l : List (List C)) (v1 : Int) : r_among_L0 m K F (n + 1) v l v1 =
    (bif decide (v1 < (↑l.length : Int)) then
      (bif decide ((0 : Int) ≤ v1) then
        (getT l v1.toNat fun z1 =>
          (getT z1 0 fun z2 =>
            (bif shOk [Sh.int IntKind.i64] [z2] then
              (bif ([z2].getD (0 : Nat) C.nf).toInt == v then
                K .rt (r_among_E1)
              else r_among_L0 m K F n v l (IntKind.i64.wrap (v1 + (1 : Int))))
            else none)))
      else none)
    else K (.ex 0) (r_among_E2)) := by kernel_rfl
theorem r_among_start {R : Type} (m : Int) (k : V → Bx → Option R) (F : Nat) (v : Int) (l : List (List C)) : runFn (r_among_cf m) F Tryd.f33 (bd Tryd.f33) [vi v, vc (C.sl (1 : Nat) l)] [] k =
    r_among_L0 m (r_among_K0 m k F) F F v l 0 := by kernel_rfl
noncomputable def r_place_cf (m : Int) : Cfg := mkCfG (globT m) vti orc0 false [] [(3, 451), (999, 48), (1000, 192)]
def r_place_m0 : List Bool := [true, true, false, false, false, false, true, true, true, false, false, false, false, false, false, false, false, false, false, false, false, false, false, false, false]
noncomputable def r_place_b0 : Code := (cA (cA (cB (cA (cB (cB (bd Tryd.f34)))))))
def r_place_S0 (l : List (List C)) (at_ : Int) (v1 : Int) (v2 : Int) (v3 : Int) : St := { env := [(vc (.sl 1 l)), (vi at_), vu, vu, vu, vu, (vi v1), (vi v2), (vi v3), vu, vu, vu, vu, vu, vu, vu, vu, vu, vu, vu, vu, vu, vu, vu, vu], bx := [], np := 0 }
noncomputable def r_place_L0 {R : Type} (m : Int) (K : X → St → Option R) (F n : Nat) (l : List (List C)) (at_ : Int) (v1 : Int) (v2 : Int) (v3 : Int) : Option R := loopV (headM r_place_m0) (exec (r_place_cf m) F r_place_b0) (exitK (r_place_cf m) K) n (r_place_S0 l at_ v1 v2 v3)
noncomputable def r_place_K0 {R : Type} (m : Int) (k : V → Bx → Option R) (F : Nat) : X → St → Option R := (blockK 0 (seqK (r_place_cf m) F (cB (cB (cB (bd Tryd.f34)))) (finK (r_place_cf m) Tryd.f34 k)))
def r_place_E1 (v1 : Int) (v2 : Int) : St := { env := [vu, vu, vu, vu, vu, vu, (vi v1), (vi v2), vu, vu, vu, vu, vu, vu, vu, vu, vu, vu, vu, vu, vu, vu, vu, vu, vu], bx := [], np := 0 }
theorem r_place_c1 {R : Type} (m : Int) (k : V → Bx → Option R) (F : Nat) (v1 : Int) (v2 : Int) : r_place_K0 m k F (.ex 0) (r_place_E1 v1 v2) =
    k (.tup [(.w (.d (.int .i64 v1))), (.w (.d (.int .i64 v2)))]) [] := by kernel_rfl
theorem r_place_r0 {R : Type} (m : Int) (K : X → St → Option R) (F n : Nat) (l : List (List C)) (at_ : Int) (v1 : Int) (v2 : Int) (v3 : Int) : r_place_L0 m K F (n + 1) l at_ v1 v2 v3 =
    (bif decide (v3 < at_) then
      (bif decide ((0 : Int) ≤ v3) then
        (getT l v3.toNat fun z1 =>
          (getT z1 0 fun z2 =>
            (bif shOk [Sh.int IntKind.i64] [z2] then
              (bif ([z2].getD (0 : Nat) C.nf).toInt == (10 : Int) then
                r_place_L0 m K F n l at_ (IntKind.i64.wrap (v1 + (1 : Int))) 1 (IntKind.i64.wrap (v3 + (1 : Int)))
              else r_place_L0 m K F n l at_ v1 (IntKind.i64.wrap (v2 + (1 : Int))) (IntKind.i64.wrap (v3 + (1 : Int))))
            else none)))
      else none)
    else K (.ex 0) (r_place_E1 v1 v2)) := by kernel_rfl
theorem r_place_start {R : Type} (m : Int) (k : V → Bx → Option R) (F : Nat) (l : List (List C)) (at_ : Int) : runFn (r_place_cf m) F Tryd.f34 (bd Tryd.f34) [vc (C.sl (1 : Nat) l), vi at_] [] k =
    r_place_L0 m (r_place_K0 m k F) F F l at_ 1 1 0 := by kernel_rfl
noncomputable def r_part_cf (m : Int) : Cfg := mkCfG (globT m) vti orc0 false [] []
theorem r_part_start {R : Type} (m : Int) (k : V → Bx → Option R) (F : Nat) (r : Int) (f : Bool) : runFn (r_part_cf m) F Tryd.f35 (bd Tryd.f35) [vi r, vb f] [] k =
    (bif decide (r ≥ (97 : Int)) then
      (bif decide (r ≤ (122 : Int)) then
        k (vb true) []
      else (bif !f then
          (bif decide (r ≥ (48 : Int)) then
            (bif decide (r ≤ (57 : Int)) then
              k (vb true) []
            else k (vb (r == (95 : Int))) [])
          else k (vb (r == (95 : Int))) [])
        else k (vb false) []))
    else (bif !f then
        (bif decide (r ≥ (48 : Int)) then
          (bif decide (r ≤ (57 : Int)) then
            k (vb true) []
          else k (vb (r == (95 : Int))) [])
        else k (vb (r == (95 : Int))) [])
      else k (vb false) [])) := by kernel_rfl
noncomputable def r_text_cf (m : Int) : Cfg := mkCfG (globT m) vti orc0 false [] [(3, 201), (999, 4), (1000, 8)]
def r_text_m0 : List Bool := [true, false, false, true, false, false, true, true, false, false, false, false, false, false, false, false, false, false, false, false, false]
noncomputable def r_text_b0 : Code := (cA (cA (cB (cA (cB (cB (bd Tryd.f36)))))))
def r_text_S0 (l : List (List C)) (v1 : List (List C)) (v2 : Int) : St := { env := [(vc (.sl 1 l)), vu, vu, (.t (.w (.arr 0))), vu, vu, (vi ((↑l.length : Int))), (vi v2), vu, vu, vu, vu, vu, vu, vu, vu, vu, vu, vu, vu, vu], bx := [(some (.arr true (some 5) 1 v1))], np := 0 }
noncomputable def r_text_L0 {R : Type} (m : Int) (K : X → St → Option R) (F n : Nat) (l : List (List C)) (v1 : List (List C)) (v2 : Int) : Option R := loopV (headM r_text_m0) (exec (r_text_cf m) F r_text_b0) (exitK (r_text_cf m) K) n (r_text_S0 l v1 v2)
noncomputable def r_text_K0 {R : Type} (m : Int) (k : V → Bx → Option R) (F : Nat) : X → St → Option R := (blockK 0 (seqK (r_text_cf m) F (cB (cB (cB (bd Tryd.f36)))) (finK (r_text_cf m) Tryd.f36 k)))
def r_text_E1 (v1 : List (List C)) : St := { env := [vu, vu, vu, (.t (.w (.arr 0))), vu, vu, vu, vu, vu, vu, vu, vu, vu, vu, vu, vu, vu, vu, vu, vu, vu], bx := [(some (.arr true (some 5) 1 v1))], np := 0 }
theorem r_text_c1 {R : Type} (m : Int) (k : V → Bx → Option R) (F : Nat) (v1 : List (List C)) : r_text_K0 m k F (.ex 0) (r_text_E1 v1) =
    (bif okBytes v1 then
      k (vs (bytesOf v1)) []
    else none) := by kernel_rfl
theorem r_text_r0 {R : Type} (m : Int) (K : X → St → Option R) (F n : Nat) (l : List (List C)) (v1 : List (List C)) (v2 : Int) : r_text_L0 m K F (n + 1) l v1 v2 =
    (bif decide (v2 < (↑l.length : Int)) then
      (bif decide ((0 : Int) ≤ v2) then
        (getT l v2.toNat fun z1 =>
          (getT z1 0 fun z2 =>
            (bif shOk [Sh.int IntKind.i64] [z2] then
              (bif decide ((v1.length + (1 : Nat)) * (1 : Nat) ≤ (140737488355328 : Nat) ∧ v1.length + (1 : Nat) ≤ (9223372036854775807 : Nat)) then
                r_text_L0 m K F n l (v1 ++ [[C.int IntKind.u8 (IntKind.u8.wrap ([z2].getD (0 : Nat) C.nf).toInt)]]) (IntKind.i64.wrap (v2 + (1 : Int)))
              else none)
            else none)))
      else none)
    else K (.ex 0) (r_text_E1 v1)) := by kernel_rfl
theorem r_text_start {R : Type} (m : Int) (k : V → Bx → Option R) (F : Nat) (l : List (List C)) : runFn (r_text_cf m) F Tryd.f36 (bd Tryd.f36) [vc (C.sl (1 : Nat) l)] [] k =
    r_text_L0 m (r_text_K0 m k F) F F l [] 0 := by kernel_rfl
end Go.Proofs.YtniiimpcakmkbaaDoor
