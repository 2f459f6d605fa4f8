/- YthfjmmhigapkpaaMx -/
import Derived.Test.YthfjmmhigapkpaaMb
set_option linter.unusedVariables false
namespace Go.Proofs.Ythfjmmhigapkpaa
open Go Vm
noncomputable def r_find_cf : Cfg := mkCfD vti orcM0 false [] [(2, 387), (999, 16), (1000, 0)]
noncomputable def r_find_m0 : List Bool := [true, true, false, false, false, false, false, true, true, false, false, false, false, false, false, false, false, false, false, false]
noncomputable def r_find_b0 : Code := (cA (cA (cB (cA (cB (bd Try.f16))))))
noncomputable def r_find_S0 (l : List (List C)) (key : ByteArray) (v1 : Int) : St := { env := [(vc (.sl 2 l)), (vs key), vu, vu, vu, vu, vu, (vi ((↑l.length : Int))), (vi v1), vu, vu, vu, vu, vu, vu, vu, vu, vu, vu, vu], bx := [], np := 0 }
noncomputable def r_find_L0 {R : Type} (K : X → St → Option R) (F n : Nat) (l : List (List C)) (key : ByteArray) (v1 : Int) : Option R := loopV (headM r_find_m0) (exec r_find_cf F r_find_b0) (exitK r_find_cf K) n (r_find_S0 l key v1)
noncomputable def r_find_K0 {R : Type} (k : V → Bx → Option R) (F : Nat) : X → St → Option R := (blockK 0 (seqK r_find_cf F (cB (cB (bd Try.f16))) (finK r_find_cf Try.f16 k)))
noncomputable def r_find_E1 (v1 : Int) : St := { env := [vu, vu, vu, vu, (vi v1), vu, vu, vu, vu, vu, vu, vu, vu, vu, vu, vu, vu, vu, vu, vu], bx := [], np := 0 }
theorem r_find_c1 {R : Type} (k : V → Bx → Option R) (F : Nat) (v1 : Int) : r_find_K0 k F .rt (r_find_E1 v1) =
    k (vi v1) [] := by kernel_rfl
noncomputable def r_find_E2 : St := { env := (List.replicate 20 vu), bx := [], np := 0 }
theorem r_find_c2 {R : Type} (k : V → Bx → Option R) (F : Nat) : r_find_K0 k F (.ex 0) (r_find_E2) =
    k (vi (-1)) [] := by kernel_rfl
theorem r_find_r0 {R : Type} (K : X → St → Option R) (F n : Nat) (l : List (List C)) (key : ByteArray) (v1 : Int) : r_find_L0 K F (n + 1) l key v1 =
    (bif decide (v1 < (↑l.length : Int)) then
      (bif decide ((0 : Int) ≤ v1) then
        (getT l v1.toNat fun z1 =>
          (getT z1 0 fun z2 =>
            (bif shOk [Sh.str] [z2] then
              (bif ([z2].getD (0 : Nat) C.nf).toStr.toList == key.toList then
                K .rt (r_find_E1 v1)
              else r_find_L0 K F n l key (IntKind.i64.wrap (v1 + (1 : Int))))
            else none)))
      else none)
    else K (.ex 0) (r_find_E2)) := by kernel_rfl
theorem r_find_start {R : Type} (k : V → Bx → Option R) (F : Nat) (l : List (List C)) (key : ByteArray) : runFn r_find_cf F Try.f16 (bd Try.f16) [vc (C.sl (2 : Nat) l), vs key] [] k =
    r_find_L0 (r_find_K0 k F) F F l key 0 := by kernel_rfl
noncomputable def r_without_cf : Cfg := mkCfD vti orcM0 false [] []
theorem r_without_start {R : Type} (k : V → Bx → Option R) (F : Nat) (l : List (List C)) (i : Int) : runFn r_without_cf F Try.f14 (bd Try.f14) [vc (C.sl (2 : Nat) l), vi i] [] k =
    bothL [(bif decide ((0 : Int) ≤ (0 : Int) ∧ (0 : Int) ≤ i ∧ i ≤ (↑l.length : Int)) then
      (bif decide ((List.take (i.toNat - (0 : Nat)) l).length * (24 : Nat) ≤ (140737488355328 : Nat) ∧ (List.take (i.toNat - (0 : Nat)) l).length ≤ (9223372036854775807 : Nat)) then
        (bif (List.take (i.toNat - (0 : Nat)) l).isEmpty then
          (bif decide ((0 : Int) ≤ IntKind.i64.wrap (i + (1 : Int)) ∧ IntKind.i64.wrap (i + (1 : Int)) ≤ (↑l.length : Int) ∧ (↑l.length : Int) ≤ (↑l.length : Int)) then
            (bif decide ((List.take ((↑l.length : Int).toNat - (IntKind.i64.wrap (i + (1 : Int))).toNat) (List.drop (IntKind.i64.wrap (i + (1 : Int))).toNat l)).length * (24 : Nat) ≤ (140737488355328 : Nat) ∧ (List.take ((↑l.length : Int).toNat - (IntKind.i64.wrap (i + (1 : Int))).toNat) (List.drop (IntKind.i64.wrap (i + (1 : Int))).toNat l)).length ≤ (9223372036854775807 : Nat)) then
              (bif (List.take ((↑l.length : Int).toNat - (IntKind.i64.wrap (i + (1 : Int))).toNat) (List.drop (IntKind.i64.wrap (i + (1 : Int))).toNat l)).isEmpty then
                k (vc (.sl 2 [])) []
              else k (vc (.sl 2 (List.take ((↑l.length : Int).toNat - (IntKind.i64.wrap (i + (1 : Int))).toNat) (List.drop (IntKind.i64.wrap (i + (1 : Int))).toNat l)))) [])
            else none)
          else none)
        else (bif decide ((0 : Int) ≤ IntKind.i64.wrap (i + (1 : Int)) ∧ IntKind.i64.wrap (i + (1 : Int)) ≤ (↑l.length : Int) ∧ (↑l.length : Int) ≤ (↑l.length : Int)) then
            (bif decide (((List.take (i.toNat - (0 : Nat)) l).length + (List.take ((↑l.length : Int).toNat - (IntKind.i64.wrap (i + (1 : Int))).toNat) (List.drop (IntKind.i64.wrap (i + (1 : Int))).toNat l)).length) * (24 : Nat) ≤ (140737488355328 : Nat) ∧ (List.take (i.toNat - (0 : Nat)) l).length + (List.take ((↑l.length : Int).toNat - (IntKind.i64.wrap (i + (1 : Int))).toNat) (List.drop (IntKind.i64.wrap (i + (1 : Int))).toNat l)).length ≤ (9223372036854775807 : Nat)) then
              k (vc (.sl 2 (List.take (i.toNat - (0 : Nat)) l ++ List.take ((↑l.length : Int).toNat - (IntKind.i64.wrap (i + (1 : Int))).toNat) (List.drop (IntKind.i64.wrap (i + (1 : Int))).toNat l)))) []
            else none)
          else none))
      else none)
    else none), (bif decide ((0 : Int) ≤ (0 : Int) ∧ (0 : Int) ≤ i ∧ i ≤ (↑l.length : Int)) then
      (bif decide ((0 : Int) ≤ IntKind.i64.wrap (i + (1 : Int)) ∧ IntKind.i64.wrap (i + (1 : Int)) ≤ (↑l.length : Int) ∧ (↑l.length : Int) ≤ (↑l.length : Int)) then
        (bif decide ((List.take (i.toNat - (0 : Nat)) l).length * (24 : Nat) ≤ (140737488355328 : Nat) ∧ (List.take (i.toNat - (0 : Nat)) l).length ≤ (9223372036854775807 : Nat)) then
          (bif (List.take (i.toNat - (0 : Nat)) l).isEmpty then
            (bif decide ((List.take ((↑l.length : Int).toNat - (IntKind.i64.wrap (i + (1 : Int))).toNat) (List.drop (IntKind.i64.wrap (i + (1 : Int))).toNat l)).length * (24 : Nat) ≤ (140737488355328 : Nat) ∧ (List.take ((↑l.length : Int).toNat - (IntKind.i64.wrap (i + (1 : Int))).toNat) (List.drop (IntKind.i64.wrap (i + (1 : Int))).toNat l)).length ≤ (9223372036854775807 : Nat)) then
              (bif (List.take ((↑l.length : Int).toNat - (IntKind.i64.wrap (i + (1 : Int))).toNat) (List.drop (IntKind.i64.wrap (i + (1 : Int))).toNat l)).isEmpty then
                k (vc (.sl 2 [])) []
              else k (vc (.sl 2 (List.take ((↑l.length : Int).toNat - (IntKind.i64.wrap (i + (1 : Int))).toNat) (List.drop (IntKind.i64.wrap (i + (1 : Int))).toNat l)))) [])
            else none)
          else (bif decide (((List.take (i.toNat - (0 : Nat)) l).length + (List.take ((↑l.length : Int).toNat - (IntKind.i64.wrap (i + (1 : Int))).toNat) (List.drop (IntKind.i64.wrap (i + (1 : Int))).toNat l)).length) * (24 : Nat) ≤ (140737488355328 : Nat) ∧ (List.take (i.toNat - (0 : Nat)) l).length + (List.take ((↑l.length : Int).toNat - (IntKind.i64.wrap (i + (1 : Int))).toNat) (List.drop (IntKind.i64.wrap (i + (1 : Int))).toNat l)).length ≤ (9223372036854775807 : Nat)) then
              k (vc (.sl 2 (List.take (i.toNat - (0 : Nat)) l ++ List.take ((↑l.length : Int).toNat - (IntKind.i64.wrap (i + (1 : Int))).toNat) (List.drop (IntKind.i64.wrap (i + (1 : Int))).toNat l)))) []
            else none))
        else none)
      else none)
    else none)] := by kernel_rfl
noncomputable def r_put_cf (N : MF) : Cfg := mkCfD vti (orcMR N) false [] []
theorem r_put_start (N : MF) {R : Type} (k : V → Bx → Option R) (F : Nat) (l : List (List C)) (room : Int) (key : ByteArray) (yes : Bool) : runFn (r_put_cf N) F Try.f13 (bd Try.f13) [vc (C.sl (2 : Nat) l), vi room, vs key, vb yes] [] k =
    (bif okL l then
      (bif decide (N.fi l key ≥ (0 : Int)) then
        (bif decide ((0 : Int) ≤ N.fi l key ∧ N.fi l key < (↑l.length : Int)) && okL l then
          (bif decide (((0 : Nat) + (l.eraseIdx (N.fi l key).toNat).length) * (24 : Nat) ≤ (140737488355328 : Nat) ∧ (0 : Nat) + (l.eraseIdx (N.fi l key).toNat).length ≤ (9223372036854775807 : Nat)) then
            (bif decide (((l.eraseIdx (N.fi l key).toNat).length + (1 : Nat)) * (24 : Nat) ≤ (140737488355328 : Nat) ∧ (l.eraseIdx (N.fi l key).toNat).length + (1 : Nat) ≤ (9223372036854775807 : Nat)) then
              (bif decide ((↑((l.eraseIdx (N.fi l key).toNat).append [[C.str key, C.bool yes]]).length : Int) > room) then
                (bif decide ((0 : Int) ≤ (1 : Int) ∧ (1 : Int) ≤ (↑((l.eraseIdx (N.fi l key).toNat).append [[C.str key, C.bool yes]]).length : Int) ∧ (↑((l.eraseIdx (N.fi l key).toNat).append [[C.str key, C.bool yes]]).length : Int) ≤ (↑((l.eraseIdx (N.fi l key).toNat).append [[C.str key, C.bool yes]]).length : Int)) then
                  k (vc (.sl 2 (List.take ((↑((l.eraseIdx (N.fi l key).toNat).append [[C.str key, C.bool yes]]).length : Int).toNat - (1 : Nat)) (List.drop (1 : Nat) ((l.eraseIdx (N.fi l key).toNat).append [[C.str key, C.bool yes]]))))) []
                else none)
              else k (vc (.sl 2 ((l.eraseIdx (N.fi l key).toNat).append [[C.str key, C.bool yes]]))) [])
            else none)
          else none)
        else none)
      else (bif decide (((0 : Nat) + l.length) * (24 : Nat) ≤ (140737488355328 : Nat) ∧ (0 : Nat) + l.length ≤ (9223372036854775807 : Nat)) then
          (bif decide ((l.length + (1 : Nat)) * (24 : Nat) ≤ (140737488355328 : Nat) ∧ l.length + (1 : Nat) ≤ (9223372036854775807 : Nat)) then
            (bif decide ((↑(l.append [[C.str key, C.bool yes]]).length : Int) > room) then
              (bif decide ((0 : Int) ≤ (1 : Int) ∧ (1 : Int) ≤ (↑(l.append [[C.str key, C.bool yes]]).length : Int) ∧ (↑(l.append [[C.str key, C.bool yes]]).length : Int) ≤ (↑(l.append [[C.str key, C.bool yes]]).length : Int)) then
                k (vc (.sl 2 (List.take ((↑(l.append [[C.str key, C.bool yes]]).length : Int).toNat - (1 : Nat)) (List.drop (1 : Nat) (l.append [[C.str key, C.bool yes]]))))) []
              else none)
            else k (vc (.sl 2 (l.append [[C.str key, C.bool yes]]))) [])
          else none)
        else none))
    else none) := by kernel_rfl
end Go.Proofs.Ythfjmmhigapkpaa
