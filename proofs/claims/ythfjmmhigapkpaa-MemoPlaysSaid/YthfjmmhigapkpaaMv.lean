/- YthfjmmhigapkpaaMv -/
import Derived.Test.YthfjmmhigapkpaaMb
set_option linter.unusedVariables false
namespace Go.Proofs.Ythfjmmhigapkpaa
open Go Vm
noncomputable def m_put_cf : Cfg := mkCfD vti orcM5 true [67] [(4, 1), (999, 0), (1000, 0)]
noncomputable def m_put_m0 : List Bool := [true, false, false, false, false, false, false, false, false, false, false, false, false, false, false, false, false, false, false, false, false, false, false, false, false, false, false, false, false, false, false, false, false, false, false, false, false, false, false, false, false, false, false, false, false, false, false, false, false, false, false, false, false, false, false, false, false, false, false, false, false, false, false, false, false, false, false, false, false, false]
noncomputable def m_put_b0 : Code := (cA (cA (cB (cB (cB (cB (bd Try.f7)))))))
noncomputable def m_put_S0 (v1 : Int) (v2 : List (List C × List C)) (v3 : List (List C)) (room4 : Int) : St := { env := [(.t (.w (.ptr 0 0))), vu, vu, vu, vu, vu, vu, vu, vu, vu, vu, vu, vu, vu, vu, vu, vu, vu, vu, vu, vu, vu, vu, vu, vu, vu, vu, vu, vu, vu, vu, vu, vu, vu, vu, vu, vu, vu, vu, vu, vu, vu, vu, vu, vu, vu, vu, vu, vu, vu, vu, vu, vu, vu, vu, vu, vu, vu, vu, vu, vu, vu, vu, vu, vu, vu, vu, vu, vu, vu], bx := [(some (.cells ⟨[(.int .i64 room4), (.int .i64 v1), .nf, .nf], [(2, (.mp 1)), (3, (.arr 3))], 4⟩)), (some (.map [Sh.str] false true 2 v2)), none, (some (.arr true (some 57) 2 v3))], np := 3 }
noncomputable def m_put_L0 {R : Type} (K : X → St → Option R) (F n : Nat) (v1 : Int) (v2 : List (List C × List C)) (v3 : List (List C)) (room4 : Int) : Option R := loopV (headM m_put_m0) (exec m_put_cf F m_put_b0) (exitK m_put_cf K) n (m_put_S0 v1 v2 v3 room4)
noncomputable def m_put_K0 {R : Type} (k : V → Bx → Option R) (_F : Nat) : X → St → Option R := (blockK 0 (finK m_put_cf Try.f7 k))
noncomputable def m_put_E1 (v1 : Int) (v2 : List (List C × List C)) (v3 : List (List C)) (room4 : Int) : St := { env := (List.replicate 70 vu), bx := [(some (.cells ⟨[(.int .i64 room4), (.int .i64 v1), .nf, .nf], [(2, (.mp 1)), (3, (.arr 3))], 4⟩)), (some (.map [Sh.str] false true 2 v2)), none, (some (.arr true (some 57) 2 v3))], np := 3 }
theorem m_put_c1 {R : Type} (k : V → Bx → Option R) (F : Nat) (v1 : Int) (v2 : List (List C × List C)) (v3 : List (List C)) (room4 : Int) : m_put_K0 k F (.ex 0) (m_put_E1 v1 v2 v3 room4) =
    k (.tup []) [(some (.cells ⟨[(.int .i64 room4), (.int .i64 v1), .nf, .nf], [(2, (.mp 1)), (3, (.arr 3))], 4⟩)), (some (.map [Sh.str] false true 2 v2)), none, (some (.arr true (some 57) 2 v3))] := by kernel_rfl
theorem m_put_r0 {R : Type} (K : X → St → Option R) (F n : Nat) (v1 : Int) (v2 : List (List C × List C)) (v3 : List (List C)) (room4 : Int) : m_put_L0 K F (n + 1) v1 v2 v3 room4 =
    (bif decide ((↑v2.length : Int) > room4) then
      (getT v3 0 fun _ =>
        (getT v3 0 fun z2 =>
          (getT z2 0 fun z3 =>
            (bif shOk [Sh.str] [z3] then
              (bif decide ((0 : Int) ≤ (1 : Int) ∧ (1 : Int) ≤ (↑(v3.length - (0 : Nat)) : Int) ∧ (↑(v3.length - (0 : Nat)) : Int) ≤ (↑(v3.length - (0 : Nat)) : Int) ∧ (↑(v3.length - (0 : Nat)) : Int) ≤ (↑(v3.length - (0 : Nat)) : Int)) then
                m_put_L0 K F n v1 (mapDel [Sh.str.canon ([z3].getD (0 : Nat) C.nf)] v2) (List.take ((0 : Nat) + (↑(v3.length - (0 : Nat)) : Int).toNat - (1 : Nat)) (List.drop (1 : Nat) v3)) room4
              else none)
            else none))))
    else K (.ex 0) (m_put_E1 v1 v2 v3 room4)) := by kernel_rfl
theorem m_put_start {R : Type} (k : V → Bx → Option R) (F : Nat) (room : Int) (clock : Int) (es : List (List C × List C)) (ord : List (List C)) (key : ByteArray) (yes : Bool) : runFn m_put_cf F Try.f7 (bd Try.f7) [p0, vs key, vb yes] (memoB room clock es ord) k =
    (bif decide ((ord.length + (1 : Nat)) * (24 : Nat) ≤ (140737488355328 : Nat) ∧ ord.length + (1 : Nat) ≤ (9223372036854775807 : Nat)) then
      (bif okM (mapPut [C.str key] [C.bool yes, C.int IntKind.i64 (IntKind.i64.wrap (clock + (1 : Int)))] es) (ord ++ [[C.str key, C.int IntKind.i64 (IntKind.i64.wrap (clock + (1 : Int)))]]) then
        (bif (ord ++ [[C.str key, C.int IntKind.i64 (IntKind.i64.wrap (clock + (1 : Int)))]]).all (cntE (mapPut [C.str key] [C.bool yes, C.int IntKind.i64 (IntKind.i64.wrap (clock + (1 : Int)))] es)) then
          m_put_L0 (m_put_K0 k F) F F (IntKind.i64.wrap (clock + (1 : Int))) (mapPut [C.str key] [C.bool yes, C.int IntKind.i64 (IntKind.i64.wrap (clock + (1 : Int)))] es) (ord ++ [[C.str key, C.int IntKind.i64 (IntKind.i64.wrap (clock + (1 : Int)))]]) room
        else m_put_L0 (m_put_K0 k F) F F (IntKind.i64.wrap (clock + (1 : Int))) (mapPut [C.str key] [C.bool yes, C.int IntKind.i64 (IntKind.i64.wrap (clock + (1 : Int)))] es) (List.filter (cntE (mapPut [C.str key] [C.bool yes, C.int IntKind.i64 (IntKind.i64.wrap (clock + (1 : Int)))] es)) (ord ++ [[C.str key, C.int IntKind.i64 (IntKind.i64.wrap (clock + (1 : Int)))]])) room)
      else none)
    else none) := by kernel_rfl
noncomputable def m_drop_cf : Cfg := mkCfD vti orcM5 true [40] []
theorem m_drop_start {R : Type} (k : V → Bx → Option R) (F : Nat) (room : Int) (clock : Int) (es : List (List C × List C)) (ord : List (List C)) (i : Int) : runFn m_drop_cf F Try.f8 (bd Try.f8) [p0, vi i] (memoB room clock es ord) k =
    (bif (↑ord.length : Int) == (0 : Int) then
      k (vi 19) [(some (.cells ⟨[(.int .i64 room), (.int .i64 clock), .nf, .nf], [(2, (.mp 1)), (3, (.arr 2))], 4⟩)), (some (.map [Sh.str] false true 2 es)), (some (.arr true (some 57) 2 ord))]
    else (bif IntKind.u64.wrap (↑ord.length : Int) == (0 : Int) then
        none
      else (bif decide ((0 : Int) ≤ IntKind.i64.wrap ((IntKind.u64.wrap i).tmod (IntKind.u64.wrap (↑ord.length : Int)))) then
          (getT ord ((IntKind.i64.wrap ((IntKind.u64.wrap i).tmod (IntKind.u64.wrap (↑ord.length : Int)))).toNat) fun _ =>
            (getT ord ((IntKind.i64.wrap ((IntKind.u64.wrap i).tmod (IntKind.u64.wrap (↑ord.length : Int)))).toNat) fun z2 =>
              (getT z2 0 fun z3 =>
                (bif shOk [Sh.str] [z3] then
                  (bif decide ((0 : Int) ≤ IntKind.i64.wrap ((IntKind.u64.wrap i).tmod (IntKind.u64.wrap (↑ord.length : Int))) ∧ IntKind.i64.wrap (IntKind.i64.wrap ((IntKind.u64.wrap i).tmod (IntKind.u64.wrap (↑ord.length : Int))) + (1 : Int)) = IntKind.i64.wrap ((IntKind.u64.wrap i).tmod (IntKind.u64.wrap (↑ord.length : Int))) + (1 : Int) ∧ IntKind.i64.wrap (IntKind.i64.wrap ((IntKind.u64.wrap i).tmod (IntKind.u64.wrap (↑ord.length : Int))) + (1 : Int)) ≤ (↑ord.length : Int)) && decide (ord.length < (1000000 : Nat)) then
                    k (vi 0) [(some (.cells ⟨[(.int .i64 room), (.int .i64 clock), .nf, .nf], [(2, (.mp 1)), (3, (.arr 3))], 4⟩)), (some (.map [Sh.str] false true 2 (mapDel [Sh.str.canon ([z3].getD (0 : Nat) C.nf)] es))), none, (some (.arr true (some 57) 2 (ord.eraseIdx (IntKind.i64.wrap ((IntKind.u64.wrap i).tmod (IntKind.u64.wrap (↑ord.length : Int)))).toNat)))]
                  else none)
                else none))))
        else none))) := by kernel_rfl
noncomputable def m_last_cf : Cfg := mkCfD vti orcM0 false [] [(3, 7362), (999, 48), (1000, 192)]
noncomputable def m_last_m0 : List Bool := [false, true, false, false, false, false, true, true, false, false, true, true, true, false, false, false, false, false, false, false, false, false, false, false, false, false, false, false, false, false]
noncomputable def m_last_b0 : Code := (cA (cA (cB (cA (cB (cB (bd Try.f12)))))))
noncomputable def m_last_S0 (acts : List (List C)) (key : ByteArray) (v1 : Bool) (v2 : Bool) (v3 : Int) : St := { env := [vu, (vs key), vu, vu, vu, vu, (vb v1), (vb v2), vu, vu, (vc (.sl 4 acts)), (vi ((↑acts.length : Int))), (vi v3), vu, vu, vu, vu, vu, vu, vu, vu, vu, vu, vu, vu, vu, vu, vu, vu, vu], bx := [], np := 0 }
noncomputable def m_last_L0 {R : Type} (K : X → St → Option R) (F n : Nat) (acts : List (List C)) (key : ByteArray) (v1 : Bool) (v2 : Bool) (v3 : Int) : Option R := loopV (headM m_last_m0) (exec m_last_cf F m_last_b0) (exitK m_last_cf K) n (m_last_S0 acts key v1 v2 v3)
noncomputable def m_last_K0 {R : Type} (k : V → Bx → Option R) (F : Nat) : X → St → Option R := (blockK 0 (seqK m_last_cf F (cB (cB (cB (bd Try.f12)))) (finK m_last_cf Try.f12 k)))
noncomputable def m_last_E1 (v1 : Bool) (v2 : Bool) : St := { env := [vu, vu, vu, vu, vu, vu, (vb v1), (vb v2), vu, vu, vu, vu, vu, vu, vu, vu, vu, vu, vu, vu, vu, vu, vu, vu, vu, vu, vu, vu, vu, vu], bx := [], np := 0 }
theorem m_last_c1 {R : Type} (k : V → Bx → Option R) (F : Nat) (v1 : Bool) (v2 : Bool) : m_last_K0 k F (.ex 0) (m_last_E1 v1 v2) =
    k (.tup [(.w (.d (.bool v1))), (.w (.d (.bool v2)))]) [] := by kernel_rfl
theorem m_last_r0 {R : Type} (K : X → St → Option R) (F n : Nat) (acts : List (List C)) (key : ByteArray) (v1 : Bool) (v2 : Bool) (v3 : Int) : m_last_L0 K F (n + 1) acts key v1 v2 v3 =
    (bif decide (v3 < (↑acts.length : Int)) then
      (bif decide ((0 : Int) ≤ v3) then
        (getT acts v3.toNat fun z1 =>
          (bif (List.take (4 : Nat) z1).length == (4 : Nat) then
            (bif shOk [Sh.int IntKind.i64, Sh.int IntKind.i64, Sh.str, Sh.bool] (List.take (4 : Nat) z1) then
              (bif ((List.take (4 : Nat) z1).getD (0 : Nat) C.nf).toInt == (1 : Int) then
                (bif ((List.take (4 : Nat) z1).getD (2 : Nat) C.nf).toStr.toList == key.toList then
                  m_last_L0 K F n acts key (((List.take (4 : Nat) z1).getD (3 : Nat) C.nf).toBool) true (IntKind.i64.wrap (v3 + (1 : Int)))
                else m_last_L0 K F n acts key v1 v2 (IntKind.i64.wrap (v3 + (1 : Int))))
              else m_last_L0 K F n acts key v1 v2 (IntKind.i64.wrap (v3 + (1 : Int))))
            else none)
          else none))
      else none)
    else K (.ex 0) (m_last_E1 v1 v2)) := by kernel_rfl
theorem m_last_start {R : Type} (k : V → Bx → Option R) (F : Nat) (acts : List (List C)) (key : ByteArray) : runFn m_last_cf F Try.f12 (bd Try.f12) [vc (C.sl (4 : Nat) acts), vs key] [] k =
    m_last_L0 (m_last_K0 k F) F F acts key false false 0 := by kernel_rfl
noncomputable def m_equal_cf : Cfg := mkCfD vti orcM0 false [] [(4, 12291), (999, 16), (1000, 0)]
noncomputable def m_equal_m0 : List Bool := [true, true, false, false, false, false, false, false, false, false, false, false, true, true, false, false, false, false, false, false, false, false, false, false, false, false]
noncomputable def m_equal_b0 : Code := (cA (cA (cB (cA (cB (cB (bd Try.f17)))))))
noncomputable def m_equal_S0 (a : List (List C)) (b : List (List C)) (v1 : Int) : St := { env := [(vc (.sl 1 a)), (vc (.sl 1 b)), vu, vu, vu, vu, vu, vu, vu, vu, vu, vu, (vi ((↑a.length : Int))), (vi v1), vu, vu, vu, vu, vu, vu, vu, vu, vu, vu, vu, vu], bx := [], np := 0 }
noncomputable def m_equal_L0 {R : Type} (K : X → St → Option R) (F n : Nat) (a : List (List C)) (b : List (List C)) (v1 : Int) : Option R := loopV (headM m_equal_m0) (exec m_equal_cf F m_equal_b0) (exitK m_equal_cf K) n (m_equal_S0 a b v1)
noncomputable def m_equal_K0 {R : Type} (k : V → Bx → Option R) (F : Nat) : X → St → Option R := (blockK 0 (seqK m_equal_cf F (cB (cB (cB (bd Try.f17)))) (finK m_equal_cf Try.f17 k)))
noncomputable def m_equal_E1 : St := { env := [vu, vu, vu, vu, (vb false), vu, vu, vu, vu, vu, vu, vu, vu, vu, vu, vu, vu, vu, vu, vu, vu, vu, vu, vu, vu, vu], bx := [], np := 0 }
theorem m_equal_c1 {R : Type} (k : V → Bx → Option R) (F : Nat) : m_equal_K0 k F .rt (m_equal_E1) =
    k (vb false) [] := by kernel_rfl
noncomputable def m_equal_E2 : St := { env := (List.replicate 26 vu), bx := [], np := 0 }
theorem m_equal_c2 {R : Type} (k : V → Bx → Option R) (F : Nat) : m_equal_K0 k F (.ex 0) (m_equal_E2) =
    k (vb true) [] := by kernel_rfl
theorem m_equal_r0 {R : Type} (K : X → St → Option R) (F n : Nat) (a : List (List C)) (b : List (List C)) (v1 : Int) : m_equal_L0 K F (n + 1) a b v1 =
    (bif decide (v1 < (↑a.length : Int)) then
      (bif decide ((0 : Int) ≤ v1) then
        (getT a v1.toNat fun z1 =>
          (getT z1 0 fun z2 =>
            (bif shOk [Sh.str] [z2] then
              (bif decide ((0 : Int) ≤ v1) then
                (getT b v1.toNat fun z3 =>
                  (getT z3 0 fun z4 =>
                    (bif shOk [Sh.str] [z4] then
                      (bif !([z2].getD (0 : Nat) C.nf).toStr.toList == ([z4].getD (0 : Nat) C.nf).toStr.toList then
                        K .rt (m_equal_E1)
                      else m_equal_L0 K F n a b (IntKind.i64.wrap (v1 + (1 : Int))))
                    else none)))
              else none)
            else none)))
      else none)
    else K (.ex 0) (m_equal_E2)) := by kernel_rfl
theorem m_equal_start {R : Type} (k : V → Bx → Option R) (F : Nat) (a : List (List C)) (b : List (List C)) : runFn m_equal_cf F Try.f17 (bd Try.f17) [vc (C.sl (1 : Nat) a), vc (C.sl (1 : Nat) b)] [] k =
    (bif (↑a.length : Int) != (↑b.length : Int) then
      k (vb false) []
    else m_equal_L0 (m_equal_K0 k F) F F a b 0) := by kernel_rfl
end Go.Proofs.Ythfjmmhigapkpaa
