/- YthfjmmhigapkpaaMw -/
import Derived.Test.YthfjmmhigapkpaaMa
set_option linter.unusedVariables false
namespace Go.Proofs.Ythfjmmhigapkpaa
open Go Vm
noncomputable def m_new_cf : Cfg := mkCfD vti orcM0 true [] []
theorem m_new_start {R : Type} (k : V → Bx → Option R) (F : Nat) (room : Int) : runFn m_new_cf F Try.f5 (bd Try.f5) [vi room] [] k =
    (bif decide (room < (0 : Int)) then
      k (.tup [(.w (.d .np)), (.w (.d (.int .i64 1)))]) []
    else (bif decide (room > (1000 : Int)) then
        k (.tup [(.w (.d .np)), (.w (.d (.int .i64 1)))]) []
      else k (.tup [(.w (.ptr 0 0)), (.w (.d (.int .i64 0)))]) [(some (.cells ⟨[(.int .i64 room), (.int .i64 0), .nf, .nf], [(2, (.mp 1)), (3, (.arr 2))], 4⟩)), (some (.map [Sh.str] false true 2 [])), (some (.arr true (some 57) 2 []))])) := by kernel_rfl
noncomputable def m_len_cf : Cfg := mkCfD vti orcM0 false [] []
theorem m_len_start {R : Type} (k : V → Bx → Option R) (F : Nat) (room : Int) (clock : Int) (es : List (List C × List C)) (ord : List (List C)) : runFn m_len_cf F Try.f9 (bd Try.f9) [p0] (memoB room clock es ord) k =
    k (vi ((↑es.length : Int))) [(some (.cells ⟨[(.int .i64 room), (.int .i64 clock), .nf, .nf], [(2, (.mp 1)), (3, (.arr 2))], 4⟩)), (some (.map [Sh.str] false true 2 es)), (some (.arr true (some 57) 2 ord))] := by kernel_rfl
noncomputable def m_get_cf : Cfg := mkCfD vti orcM0 false [] []
theorem m_get_start {R : Type} (k : V → Bx → Option R) (F : Nat) (room : Int) (clock : Int) (es : List (List C × List C)) (ord : List (List C)) (key : ByteArray) : runFn m_get_cf F Try.f11 (bd Try.f11) [p0, vs key] (memoB room clock es ord) k =
    (bif (List.take (2 : Nat) ((mapGet [C.str key] es).getD [C.bool false, C.int IntKind.i64 (0 : Int)])).length == (2 : Nat) then
      (bif shOk [Sh.bool, Sh.int IntKind.i64] (List.take (2 : Nat) ((mapGet [C.str key] es).getD [C.bool false, C.int IntKind.i64 (0 : Int)])) then
        (bif !(mapGet [C.str key] es).isSome then
          k (.tup [(.w (.d (.bool false))), (.w (.d (.int .i64 19)))]) [(some (.cells ⟨[(.int .i64 room), (.int .i64 clock), .nf, .nf], [(2, (.mp 1)), (3, (.arr 2))], 4⟩)), (some (.map [Sh.str] false true 2 es)), (some (.arr true (some 57) 2 ord))]
        else k (.tup [(.w (.d (.bool (((List.take (2 : Nat) ((mapGet [C.str key] es).getD [C.bool false, C.int IntKind.i64 (0 : Int)])).getD (0 : Nat) C.nf).toBool)))), (.w (.d (.int .i64 0)))]) [(some (.cells ⟨[(.int .i64 room), (.int .i64 clock), .nf, .nf], [(2, (.mp 1)), (3, (.arr 2))], 4⟩)), (some (.map [Sh.str] false true 2 es)), (some (.arr true (some 57) 2 ord))])
      else none)
    else none) := by kernel_rfl
noncomputable def m_counts_cf : Cfg := mkCfD vti orcM0 false [] []
theorem m_counts_start {R : Type} (k : V → Bx → Option R) (F : Nat) (room : Int) (clock : Int) (es : List (List C × List C)) (ord : List (List C)) (key : ByteArray) (wh : Int) : runFn m_counts_cf F Try.f22 (bd Try.f22) [p0, va [C.str key, C.int IntKind.i64 wh]] (memoB room clock es ord) k =
    (bif (List.take (2 : Nat) ((mapGet [C.str key] es).getD [C.bool false, C.int IntKind.i64 (0 : Int)])).length == (2 : Nat) then
      (bif shOk [Sh.bool, Sh.int IntKind.i64] (List.take (2 : Nat) ((mapGet [C.str key] es).getD [C.bool false, C.int IntKind.i64 (0 : Int)])) then
        (bif (mapGet [C.str key] es).isSome then
          k (vb (((List.take (2 : Nat) ((mapGet [C.str key] es).getD [C.bool false, C.int IntKind.i64 (0 : Int)])).getD (1 : Nat) C.nf).toInt == wh)) [(some (.cells ⟨[(.int .i64 room), (.int .i64 clock), .nf, .nf], [(2, (.mp 1)), (3, (.arr 2))], 4⟩)), (some (.map [Sh.str] false true 2 es)), (some (.arr true (some 57) 2 ord))]
        else k (vb false) [(some (.cells ⟨[(.int .i64 room), (.int .i64 clock), .nf, .nf], [(2, (.mp 1)), (3, (.arr 2))], 4⟩)), (some (.map [Sh.str] false true 2 es)), (some (.arr true (some 57) 2 ord))])
      else none)
    else none) := by kernel_rfl
noncomputable def m_clear_cf : Cfg := mkCfD vti orcM0 false [] []
theorem m_clear_start {R : Type} (k : V → Bx → Option R) (F : Nat) (room : Int) (clock : Int) (es : List (List C × List C)) (ord : List (List C)) : runFn m_clear_cf F Try.f15 (bd Try.f15) [p0] (memoB room clock es ord) k =
    k (.tup []) [(some (.cells ⟨[(.int .i64 room), (.int .i64 clock), .nf, .nf], [(2, (.mp 1)), (3, (.arr 3))], 4⟩)), (some (.map [Sh.str] false true 2 [])), (some (.arr true (some 57) 2 ord)), (some (.arr true (some 57) 2 []))] := by kernel_rfl
noncomputable def m_keys_cf : Cfg := mkCfD vti orcM0 true [] [(3, 3592), (999, 4), (1000, 8)]
noncomputable def m_keys_m0 : List Bool := [false, false, false, true, false, false, false, false, false, true, true, true, false, false, false, false, false, false, false, false, false, false]
noncomputable def m_keys_b0 : Code := (cA (cA (cB (cA (cB (cB (bd Try.f10)))))))
noncomputable def m_keys_S0 (es : List (List C × List C)) (ord : List (List C)) (room1 : Int) (clock2 : Int) (ord3 : List (List C)) (v4 : List (List C)) (v5 : Int) : St := { env := [vu, vu, vu, (.t (.w (.arr 3))), vu, vu, vu, vu, vu, (.t (.w (.arr 2))), (vi ((↑ord.length : Int))), (vi v5), vu, vu, vu, vu, vu, vu, vu, vu, vu, vu], bx := [(some (.cells ⟨[(.int .i64 room1), (.int .i64 clock2), .nf, .nf], [(2, (.mp 1)), (3, (.arr 2))], 4⟩)), (some (.map [Sh.str] false true 2 es)), (some (.arr true (some 57) 2 ord3)), (some (.arr true (some 9) 1 v4))], np := 3 }
noncomputable def m_keys_L0 {R : Type} (K : X → St → Option R) (F n : Nat) (es : List (List C × List C)) (ord : List (List C)) (room1 : Int) (clock2 : Int) (ord3 : List (List C)) (v4 : List (List C)) (v5 : Int) : Option R := loopV (headM m_keys_m0) (exec m_keys_cf F m_keys_b0) (exitK m_keys_cf K) n (m_keys_S0 es ord room1 clock2 ord3 v4 v5)
noncomputable def m_keys_K0 {R : Type} (k : V → Bx → Option R) (F : Nat) : X → St → Option R := (blockK 0 (seqK m_keys_cf F (cB (cB (cB (bd Try.f10)))) (finK m_keys_cf Try.f10 k)))
noncomputable def m_keys_E1 (es : List (List C × List C)) (room1 : Int) (clock2 : Int) (ord3 : List (List C)) (v4 : List (List C)) : St := { env := [vu, vu, vu, (.t (.w (.arr 3))), vu, vu, vu, vu, vu, vu, vu, vu, vu, vu, vu, vu, vu, vu, vu, vu, vu, vu], bx := [(some (.cells ⟨[(.int .i64 room1), (.int .i64 clock2), .nf, .nf], [(2, (.mp 1)), (3, (.arr 2))], 4⟩)), (some (.map [Sh.str] false true 2 es)), (some (.arr true (some 57) 2 ord3)), (some (.arr true (some 9) 1 v4))], np := 3 }
theorem m_keys_c1 {R : Type} (k : V → Bx → Option R) (F : Nat) (es : List (List C × List C)) (room1 : Int) (clock2 : Int) (ord3 : List (List C)) (v4 : List (List C)) : m_keys_K0 k F (.ex 0) (m_keys_E1 es room1 clock2 ord3 v4) =
    k (.t (.w (.arr 3))) [(some (.cells ⟨[(.int .i64 room1), (.int .i64 clock2), .nf, .nf], [(2, (.mp 1)), (3, (.arr 2))], 4⟩)), (some (.map [Sh.str] false true 2 es)), (some (.arr true (some 57) 2 ord3)), (some (.arr true (some 9) 1 v4))] := by kernel_rfl
theorem m_keys_r0 {R : Type} (K : X → St → Option R) (F n : Nat) (es : List (List C × List C)) (ord : List (List C)) (room1 : Int) (clock2 : Int) (ord3 : List (List C)) (v4 : List (List C)) (v5 : Int) : m_keys_L0 K F (n + 1) es ord room1 clock2 ord3 v4 v5 =
    (bif decide (v5 < (↑ord.length : Int)) then
      (bif decide ((0 : Int) ≤ v5) then
        (getT ord3 v5.toNat fun _ =>
          (getT ord3 v5.toNat fun z2 =>
            (bif (List.take (2 : Nat) z2).length == (2 : Nat) then
              (bif shOk [Sh.str, Sh.int IntKind.i64] (List.take (2 : Nat) z2) then
                (bif decide ((v4.length + (1 : Nat)) * (16 : Nat) ≤ (140737488355328 : Nat) ∧ v4.length + (1 : Nat) ≤ (9223372036854775807 : Nat)) then
                  m_keys_L0 K F n es ord room1 clock2 ord3 (v4 ++ [[C.str ((List.take (2 : Nat) z2).getD (0 : Nat) C.nf).toStr]]) (IntKind.i64.wrap (v5 + (1 : Int)))
                else none)
              else none)
            else none)))
      else none)
    else K (.ex 0) (m_keys_E1 es room1 clock2 ord3 v4)) := by kernel_rfl
theorem m_keys_start {R : Type} (k : V → Bx → Option R) (F : Nat) (room : Int) (clock : Int) (es : List (List C × List C)) (ord : List (List C)) : runFn m_keys_cf F Try.f10 (bd Try.f10) [p0] (memoB room clock es ord) k =
    m_keys_L0 (m_keys_K0 k F) F F es ord room clock ord [] 0 := by kernel_rfl
noncomputable def m_tid1_cf : Cfg := mkCfD vti orcM1 false [] []
theorem m_tid1_start {R : Type} (k : V → Bx → Option R) (F : Nat) (room : Int) (clock : Int) (es : List (List C × List C)) (ord : List (List C)) (key : ByteArray) (wh : Int) : runFn m_tid1_cf F Try.f21 (bd Try.f21) [va [C.str key, C.int IntKind.i64 wh], p0] (cellB room clock es ord) k =
    (bif okM es ord then
      k (vb (!cntB es key wh)) [(some (.cells ⟨[.nf], [(0, (.ptr 1 0))], 1⟩)), (some (.cells ⟨[(.int .i64 room), (.int .i64 clock), .nf, .nf], [(2, (.mp 2)), (3, (.arr 3))], 4⟩)), (some (.map [Sh.str] false true 2 es)), (some (.arr true (some 57) 2 ord))]
    else none) := by kernel_rfl
noncomputable def m_index_cf : Cfg := mkCfD vti orcM2 false [] [(2, 387), (999, 16), (1000, 0)]
noncomputable def m_index_m0 : List Bool := [true, true, false, false, false, false, false, true, true, false, false, false, false, false, false, false, false, false, false]
noncomputable def m_index_b0 : Code := (cA (cA (cB (cA (cB (bd Try.f23))))))
noncomputable def m_index_S0 (es : List (List C × List C)) (ord : List (List C)) (ord1 : List (List C)) (room2 : Int) (clock3 : Int) (v4 : Int) : St := { env := [(.t (.w (.arr 0))), (.t (.w (.clo 21 [1]))), vu, vu, vu, vu, vu, (vi ((↑ord.length : Int))), (vi v4), vu, vu, vu, vu, vu, vu, vu, vu, vu, vu], bx := [(some (.arr true (some 57) 2 ord1)), (some (.cells ⟨[.nf], [(0, (.ptr 2 0))], 1⟩)), (some (.cells ⟨[(.int .i64 room2), (.int .i64 clock3), .nf, .nf], [(2, (.mp 3)), (3, (.arr 0))], 4⟩)), (some (.map [Sh.str] false true 2 es))], np := 4 }
noncomputable def m_index_L0 {R : Type} (K : X → St → Option R) (F n : Nat) (es : List (List C × List C)) (ord : List (List C)) (ord1 : List (List C)) (room2 : Int) (clock3 : Int) (v4 : Int) : Option R := loopV (headM m_index_m0) (exec m_index_cf F m_index_b0) (exitK m_index_cf K) n (m_index_S0 es ord ord1 room2 clock3 v4)
noncomputable def m_index_K0 {R : Type} (k : V → Bx → Option R) (F : Nat) : X → St → Option R := (blockK 0 (seqK m_index_cf F (cB (cB (bd Try.f23))) (finK m_index_cf Try.f23 k)))
noncomputable def m_index_E1 (es : List (List C × List C)) (ord1 : List (List C)) (room2 : Int) (clock3 : Int) (v4 : Int) : St := { env := [vu, vu, vu, vu, (vi v4), vu, vu, vu, vu, vu, vu, vu, vu, vu, vu, vu, vu, vu, vu], bx := [(some (.arr true (some 57) 2 ord1)), (some (.cells ⟨[.nf], [(0, (.ptr 2 0))], 1⟩)), (some (.cells ⟨[(.int .i64 room2), (.int .i64 clock3), .nf, .nf], [(2, (.mp 3)), (3, (.arr 0))], 4⟩)), (some (.map [Sh.str] false true 2 es))], np := 4 }
theorem m_index_c1 {R : Type} (k : V → Bx → Option R) (F : Nat) (es : List (List C × List C)) (ord1 : List (List C)) (room2 : Int) (clock3 : Int) (v4 : Int) : m_index_K0 k F .rt (m_index_E1 es ord1 room2 clock3 v4) =
    k (vi v4) [(some (.arr true (some 57) 2 ord1)), (some (.cells ⟨[.nf], [(0, (.ptr 2 0))], 1⟩)), (some (.cells ⟨[(.int .i64 room2), (.int .i64 clock3), .nf, .nf], [(2, (.mp 3)), (3, (.arr 0))], 4⟩)), (some (.map [Sh.str] false true 2 es))] := by kernel_rfl
noncomputable def m_index_E2 (es : List (List C × List C)) (ord1 : List (List C)) (room2 : Int) (clock3 : Int) : St := { env := (List.replicate 19 vu), bx := [(some (.arr true (some 57) 2 ord1)), (some (.cells ⟨[.nf], [(0, (.ptr 2 0))], 1⟩)), (some (.cells ⟨[(.int .i64 room2), (.int .i64 clock3), .nf, .nf], [(2, (.mp 3)), (3, (.arr 0))], 4⟩)), (some (.map [Sh.str] false true 2 es))], np := 4 }
theorem m_index_c2 {R : Type} (k : V → Bx → Option R) (F : Nat) (es : List (List C × List C)) (ord1 : List (List C)) (room2 : Int) (clock3 : Int) : m_index_K0 k F (.ex 0) (m_index_E2 es ord1 room2 clock3) =
    k (vi (-1)) [(some (.arr true (some 57) 2 ord1)), (some (.cells ⟨[.nf], [(0, (.ptr 2 0))], 1⟩)), (some (.cells ⟨[(.int .i64 room2), (.int .i64 clock3), .nf, .nf], [(2, (.mp 3)), (3, (.arr 0))], 4⟩)), (some (.map [Sh.str] false true 2 es))] := by kernel_rfl
theorem m_index_r0 {R : Type} (K : X → St → Option R) (F n : Nat) (es : List (List C × List C)) (ord : List (List C)) (ord1 : List (List C)) (room2 : Int) (clock3 : Int) (v4 : Int) : m_index_L0 K F (n + 1) es ord ord1 room2 clock3 v4 =
    (bif decide (v4 < (↑ord.length : Int)) then
      (bif decide ((0 : Int) ≤ v4) then
        (getT ord1 v4.toNat fun _ =>
          (getT ord1 v4.toNat fun z2 =>
            (bif (List.take (2 : Nat) z2).length == (2 : Nat) then
              (bif shOk [Sh.str, Sh.int IntKind.i64] (List.take (2 : Nat) z2) then
                (bif okM es ord1 then
                  (bif !cntB es ((List.take (2 : Nat) z2).getD (0 : Nat) C.nf).toStr ((List.take (2 : Nat) z2).getD (1 : Nat) C.nf).toInt then
                    K .rt (m_index_E1 es ord1 room2 clock3 v4)
                  else m_index_L0 K F n es ord ord1 room2 clock3 (IntKind.i64.wrap (v4 + (1 : Int))))
                else none)
              else none)
            else none)))
      else none)
    else K (.ex 0) (m_index_E2 es ord1 room2 clock3)) := by kernel_rfl
theorem m_index_start {R : Type} (k : V → Bx → Option R) (F : Nat) (room : Int) (clock : Int) (es : List (List C × List C)) (ord : List (List C)) : runFn m_index_cf F Try.f23 (bd Try.f23) [V.t (T.w (W.arr (0 : Nat))), V.t (T.w (W.clo (21 : FuncId) [(1 : Nat)]))] (rowB room clock es ord) k =
    m_index_L0 (m_index_K0 k F) F F es ord ord room clock 0 := by kernel_rfl
noncomputable def m_delF_cf : Cfg := mkCfD vti orcM3 true [10, 38, 41] [(5, 99), (999, 16), (1000, 33)]
noncomputable def m_delF_m0 : List Bool := [true, true, false, false, false, true, true, false, false, false, false, false, false, false, false, false, false, false, false, false, false, false, false, false, false, false, false, false, false, false, false, false, false, false, false, false, false, false, false, false, false, false]
noncomputable def m_delF_b0 : Code := (cA (cA (cB (cA (cB (cB (cB (bd Try.f20))))))))
noncomputable def m_delF_S0 (es : List (List C × List C)) (v1 : Int) (ord2 : List (List C)) (room3 : Int) (clock4 : Int) (v5 : Int) : St := { env := [(.t (.w (.arr 0))), (.t (.w (.clo 21 [1]))), vu, vu, vu, (vi v5), (vi v1), vu, vu, vu, vu, vu, vu, vu, vu, vu, vu, vu, vu, vu, vu, vu, vu, vu, vu, vu, vu, vu, vu, vu, vu, vu, vu, vu, vu, vu, vu, vu, vu, vu, vu, vu], bx := [(some (.arr true (some 57) 2 ord2)), (some (.cells ⟨[.nf], [(0, (.ptr 2 0))], 1⟩)), (some (.cells ⟨[(.int .i64 room3), (.int .i64 clock4), .nf, .nf], [(2, (.mp 3)), (3, (.arr 0))], 4⟩)), (some (.map [Sh.str] false true 2 es))], np := 4 }
noncomputable def m_delF_L0 {R : Type} (K : X → St → Option R) (F n : Nat) (es : List (List C × List C)) (v1 : Int) (ord2 : List (List C)) (room3 : Int) (clock4 : Int) (v5 : Int) : Option R := loopV (headM m_delF_m0) (exec m_delF_cf F m_delF_b0) (exitK m_delF_cf K) n (m_delF_S0 es v1 ord2 room3 clock4 v5)
noncomputable def m_delF_K0 {R : Type} (k : V → Bx → Option R) (F : Nat) : X → St → Option R := (blockK 0 (seqK m_delF_cf F (cB (cB (cB (cB (bd Try.f20))))) (finK m_delF_cf Try.f20 k)))
noncomputable def m_delF_E1 (es : List (List C × List C)) (ord2 : List (List C)) (room3 : Int) (clock4 : Int) (v5 : Int) : St := { env := [(.t (.w (.arr 0))), vu, vu, vu, vu, (vi v5), vu, vu, vu, vu, vu, vu, vu, vu, vu, vu, vu, vu, vu, vu, vu, vu, vu, vu, vu, vu, vu, vu, vu, vu, vu, vu, vu, vu, vu, vu, vu, vu, vu, vu, vu, vu], bx := [(some (.arr true (some 57) 2 ord2)), (some (.cells ⟨[.nf], [(0, (.ptr 2 0))], 1⟩)), (some (.cells ⟨[(.int .i64 room3), (.int .i64 clock4), .nf, .nf], [(2, (.mp 3)), (3, (.arr 0))], 4⟩)), (some (.map [Sh.str] false true 2 es))], np := 4 }
theorem m_delF_c1 {R : Type} (k : V → Bx → Option R) (F : Nat) (es : List (List C × List C)) (ord2 : List (List C)) (room3 : Int) (clock4 : Int) (v5 : Int) : m_delF_K0 k F (.ex 0) (m_delF_E1 es ord2 room3 clock4 v5) =
    (bif decide ((0 : Int) ≤ v5 ∧ v5 ≤ (↑(ord2.length - (0 : Nat)) : Int) ∧ (↑(ord2.length - (0 : Nat)) : Int) ≤ (↑(ord2.length - (0 : Nat)) : Int) ∧ (↑(ord2.length - (0 : Nat)) : Int) ≤ (↑(ord2.length - (0 : Nat)) : Int)) then
      (bif decide ((0 : Nat) + v5.toNat ≤ (0 : Nat) + (↑(ord2.length - (0 : Nat)) : Int).toNat ∧ (0 : Nat) + (↑(ord2.length - (0 : Nat)) : Int).toNat ≤ (0 : Nat) + (↑(ord2.length - (0 : Nat)) : Int).toNat ∧ (0 : Nat) + (↑(ord2.length - (0 : Nat)) : Int).toNat ≤ ord2.length ∧ (0 : Nat) < ord2.length) then
        (bif decide ((0 : Int) ≤ (0 : Int) ∧ (0 : Int) ≤ v5 ∧ v5 ≤ (↑((List.take ((0 : Nat) + v5.toNat) ord2 ++ List.replicate ((0 : Nat) + (↑(ord2.length - (0 : Nat)) : Int).toNat - ((0 : Nat) + v5.toNat)) [C.str ByteArray.empty, C.int IntKind.i64 (0 : Int)] ++ List.drop ((0 : Nat) + (↑(ord2.length - (0 : Nat)) : Int).toNat) ord2).length - (0 : Nat)) : Int) ∧ (↑((List.take ((0 : Nat) + v5.toNat) ord2 ++ List.replicate ((0 : Nat) + (↑(ord2.length - (0 : Nat)) : Int).toNat - ((0 : Nat) + v5.toNat)) [C.str ByteArray.empty, C.int IntKind.i64 (0 : Int)] ++ List.drop ((0 : Nat) + (↑(ord2.length - (0 : Nat)) : Int).toNat) ord2).length - (0 : Nat)) : Int) ≤ (↑((List.take ((0 : Nat) + v5.toNat) ord2 ++ List.replicate ((0 : Nat) + (↑(ord2.length - (0 : Nat)) : Int).toNat - ((0 : Nat) + v5.toNat)) [C.str ByteArray.empty, C.int IntKind.i64 (0 : Int)] ++ List.drop ((0 : Nat) + (↑(ord2.length - (0 : Nat)) : Int).toNat) ord2).length - (0 : Nat)) : Int)) then
          k (.t (.w (.arr 4))) [none, (some (.cells ⟨[.nf], [(0, (.ptr 2 0))], 1⟩)), (some (.cells ⟨[(.int .i64 room3), (.int .i64 clock4), .nf, .nf], [(2, (.mp 3)), (3, (.arr 0))], 4⟩)), (some (.map [Sh.str] false true 2 es)), (some (.arr true (some 57) 2 (List.take ((0 : Nat) + v5.toNat - (0 : Nat)) (List.take ((0 : Nat) + v5.toNat) ord2 ++ List.replicate ((0 : Nat) + (↑(ord2.length - (0 : Nat)) : Int).toNat - ((0 : Nat) + v5.toNat)) [C.str ByteArray.empty, C.int IntKind.i64 (0 : Int)] ++ List.drop ((0 : Nat) + (↑(ord2.length - (0 : Nat)) : Int).toNat) ord2))))]
        else none)
      else none)
    else none) := by kernel_rfl
theorem m_delF_r0 {R : Type} (K : X → St → Option R) (F n : Nat) (es : List (List C × List C)) (v1 : Int) (ord2 : List (List C)) (room3 : Int) (clock4 : Int) (v5 : Int) : m_delF_L0 K F (n + 1) es v1 ord2 room3 clock4 v5 =
    (bif decide (v1 < (↑ord2.length : Int)) then
      (bif decide ((0 : Int) ≤ v1) then
        (getT ord2 v1.toNat fun _ =>
          (getT ord2 v1.toNat fun z2 =>
            (bif (List.take (2 : Nat) z2).length == (2 : Nat) then
              (bif shOk [Sh.str, Sh.int IntKind.i64] (List.take (2 : Nat) z2) then
                (bif okM es ord2 then
                  (bif !!cntB es ((List.take (2 : Nat) z2).getD (0 : Nat) C.nf).toStr ((List.take (2 : Nat) z2).getD (1 : Nat) C.nf).toInt then
                    (bif decide ((0 : Int) ≤ v5) then
                      (getT ord2 v5.toNat fun _ =>
                        (getT ord2 v5.toNat fun z4 =>
                          m_delF_L0 K F n es (IntKind.i64.wrap (v1 + (1 : Int))) (ord2.set v5.toNat (C.str ((List.take (2 : Nat) z2).getD (0 : Nat) C.nf).toStr :: C.int IntKind.i64 ((List.take (2 : Nat) z2).getD (1 : Nat) C.nf).toInt :: List.drop (2 : Nat) z4)) room3 clock4 (IntKind.i64.wrap (v5 + (1 : Int)))))
                    else none)
                  else m_delF_L0 K F n es (IntKind.i64.wrap (v1 + (1 : Int))) ord2 room3 clock4 v5)
                else none)
              else none)
            else none)))
      else none)
    else K (.ex 0) (m_delF_E1 es ord2 room3 clock4 v5)) := by kernel_rfl
theorem m_delF_start {R : Type} (k : V → Bx → Option R) (F : Nat) (room : Int) (clock : Int) (es : List (List C × List C)) (ord : List (List C)) : runFn m_delF_cf F Try.f20 (bd Try.f20) [V.t (T.w (W.arr (0 : Nat))), V.t (T.w (W.clo (21 : FuncId) [(1 : Nat)]))] (rowB room clock es ord) k =
    (bif okM es ord then
      (bif badAt es ord (0 : Nat) == (-1 : Int) then
        k (.t (.w (.arr 0))) [(some (.arr true (some 57) 2 ord)), (some (.cells ⟨[.nf], [(0, (.ptr 2 0))], 1⟩)), (some (.cells ⟨[(.int .i64 room), (.int .i64 clock), .nf, .nf], [(2, (.mp 3)), (3, (.arr 0))], 4⟩)), (some (.map [Sh.str] false true 2 es))]
      else m_delF_L0 (m_delF_K0 k F) F F es (IntKind.i64.wrap (badAt es ord (0 : Nat) + (1 : Int))) ord room clock (badAt es ord (0 : Nat)))
    else none) := by kernel_rfl
noncomputable def m_tidy_cf : Cfg := mkCfD vti orcM4 true [7, 8] []
theorem m_tidy_start {R : Type} (k : V → Bx → Option R) (F : Nat) (room : Int) (clock : Int) (es : List (List C × List C)) (ord : List (List C)) : runFn m_tidy_cf F Try.f18 (bd Try.f18) [p0] (memoB room clock es ord) k =
    dup 2 ((bif okM es ord then
      (bif ord.all (cntE es) then
        k (.tup []) [(some (.cells ⟨[(.int .i64 room), (.int .i64 clock), .nf, .nf], [(2, (.mp 1)), (3, (.arr 2))], 4⟩)), (some (.map [Sh.str] false true 2 es)), (some (.arr true (some 57) 2 ord))]
      else k (.tup []) [(some (.cells ⟨[(.int .i64 room), (.int .i64 clock), .nf, .nf], [(2, (.mp 1)), (3, (.arr 3))], 4⟩)), (some (.map [Sh.str] false true 2 es)), none, (some (.arr true (some 57) 2 (List.filter (cntE es) ord)))])
    else none)) := by kernel_rfl
noncomputable def m_delete_cf : Cfg := mkCfD vti orcM0 true [13, 22, 25, 31] []
theorem m_delete_start {R : Type} (k : V → Bx → Option R) (F : Nat) (ord : List (List C)) (i : Int) (j : Int) : runFn m_delete_cf F Try.f19 (bd Try.f19) [V.t (T.w (W.arr (0 : Nat))), vi i, vi j] [some (ordB ord)] k =
    (bif decide ((0 : Int) ≤ i ∧ i ≤ j ∧ j ≤ (↑ord.length : Int) ∧ (↑ord.length : Int) ≤ (↑(ord.length - (0 : Nat)) : Int)) then
      (bif i == j then
        k (.t (.w (.arr 0))) [(some (.arr true (some 57) 2 ord))]
      else (bif decide ((0 : Int) ≤ (0 : Int) ∧ (0 : Int) ≤ i ∧ i ≤ (↑(ord.length - (0 : Nat)) : Int) ∧ (↑(ord.length - (0 : Nat)) : Int) ≤ (↑(ord.length - (0 : Nat)) : Int)) then
          (bif decide ((0 : Int) ≤ j ∧ j ≤ (↑(ord.length - (0 : Nat)) : Int) ∧ (↑(ord.length - (0 : Nat)) : Int) ≤ (↑(ord.length - (0 : Nat)) : Int) ∧ (↑(ord.length - (0 : Nat)) : Int) ≤ (↑(ord.length - (0 : Nat)) : Int)) then
            (bif decide ((0 : Nat) ≤ (0 : Nat) + i.toNat ∧ (0 : Nat) + i.toNat + (List.take ((0 : Nat) + (↑(ord.length - (0 : Nat)) : Int).toNat - ((0 : Nat) + j.toNat)) (List.drop ((0 : Nat) + j.toNat) ord)).length ≤ (0 : Nat) + (↑(ord.length - (0 : Nat)) : Int).toNat ∧ (0 : Nat) + (↑(ord.length - (0 : Nat)) : Int).toNat ≤ ord.length ∧ (0 : Nat) < ord.length) then
              (bif decide ((0 : Int) ≤ (↑((0 : Nat) + i.toNat + (List.take ((0 : Nat) + (↑(ord.length - (0 : Nat)) : Int).toNat - ((0 : Nat) + j.toNat)) (List.drop ((0 : Nat) + j.toNat) ord)).length - (0 : Nat)) : Int) ∧ (↑((0 : Nat) + i.toNat + (List.take ((0 : Nat) + (↑(ord.length - (0 : Nat)) : Int).toNat - ((0 : Nat) + j.toNat)) (List.drop ((0 : Nat) + j.toNat) ord)).length - (0 : Nat)) : Int) ≤ (↑ord.length : Int) ∧ (↑ord.length : Int) ≤ (↑((0 : Nat) + (↑(ord.length - (0 : Nat)) : Int).toNat - (0 : Nat)) : Int) ∧ (↑((0 : Nat) + (↑(ord.length - (0 : Nat)) : Int).toNat - (0 : Nat)) : Int) ≤ (↑((0 : Nat) + (↑(ord.length - (0 : Nat)) : Int).toNat - (0 : Nat)) : Int)) then
                (bif decide ((0 : Nat) + (↑((0 : Nat) + i.toNat + (List.take ((0 : Nat) + (↑(ord.length - (0 : Nat)) : Int).toNat - ((0 : Nat) + j.toNat)) (List.drop ((0 : Nat) + j.toNat) ord)).length - (0 : Nat)) : Int).toNat ≤ (0 : Nat) + (↑ord.length : Int).toNat ∧ (0 : Nat) + (↑ord.length : Int).toNat ≤ (0 : Nat) + (↑((0 : Nat) + (↑(ord.length - (0 : Nat)) : Int).toNat - (0 : Nat)) : Int).toNat ∧ (0 : Nat) + (↑((0 : Nat) + (↑(ord.length - (0 : Nat)) : Int).toNat - (0 : Nat)) : Int).toNat ≤ (List.take ((0 : Nat) + i.toNat) ord ++ List.take ((0 : Nat) + (↑(ord.length - (0 : Nat)) : Int).toNat - ((0 : Nat) + j.toNat)) (List.drop ((0 : Nat) + j.toNat) ord) ++ List.drop ((0 : Nat) + i.toNat + (List.take ((0 : Nat) + (↑(ord.length - (0 : Nat)) : Int).toNat - ((0 : Nat) + j.toNat)) (List.drop ((0 : Nat) + j.toNat) ord)).length) ord).length ∧ (0 : Nat) < (List.take ((0 : Nat) + i.toNat) ord ++ List.take ((0 : Nat) + (↑(ord.length - (0 : Nat)) : Int).toNat - ((0 : Nat) + j.toNat)) (List.drop ((0 : Nat) + j.toNat) ord) ++ List.drop ((0 : Nat) + i.toNat + (List.take ((0 : Nat) + (↑(ord.length - (0 : Nat)) : Int).toNat - ((0 : Nat) + j.toNat)) (List.drop ((0 : Nat) + j.toNat) ord)).length) ord).length) then
                  k (.t (.w (.arr 1))) [none, (some (.arr true (some 57) 2 (List.take ((0 : Nat) + i.toNat + (List.take ((0 : Nat) + (↑(ord.length - (0 : Nat)) : Int).toNat - ((0 : Nat) + j.toNat)) (List.drop ((0 : Nat) + j.toNat) ord)).length - (0 : Nat)) (List.take ((0 : Nat) + (↑((0 : Nat) + i.toNat + (List.take ((0 : Nat) + (↑(ord.length - (0 : Nat)) : Int).toNat - ((0 : Nat) + j.toNat)) (List.drop ((0 : Nat) + j.toNat) ord)).length - (0 : Nat)) : Int).toNat) (List.take ((0 : Nat) + i.toNat) ord ++ List.take ((0 : Nat) + (↑(ord.length - (0 : Nat)) : Int).toNat - ((0 : Nat) + j.toNat)) (List.drop ((0 : Nat) + j.toNat) ord) ++ List.drop ((0 : Nat) + i.toNat + (List.take ((0 : Nat) + (↑(ord.length - (0 : Nat)) : Int).toNat - ((0 : Nat) + j.toNat)) (List.drop ((0 : Nat) + j.toNat) ord)).length) ord) ++ List.replicate ((0 : Nat) + (↑ord.length : Int).toNat - ((0 : Nat) + (↑((0 : Nat) + i.toNat + (List.take ((0 : Nat) + (↑(ord.length - (0 : Nat)) : Int).toNat - ((0 : Nat) + j.toNat)) (List.drop ((0 : Nat) + j.toNat) ord)).length - (0 : Nat)) : Int).toNat)) [C.str ByteArray.empty, C.int IntKind.i64 (0 : Int)] ++ List.drop ((0 : Nat) + (↑ord.length : Int).toNat) (List.take ((0 : Nat) + i.toNat) ord ++ List.take ((0 : Nat) + (↑(ord.length - (0 : Nat)) : Int).toNat - ((0 : Nat) + j.toNat)) (List.drop ((0 : Nat) + j.toNat) ord) ++ List.drop ((0 : Nat) + i.toNat + (List.take ((0 : Nat) + (↑(ord.length - (0 : Nat)) : Int).toNat - ((0 : Nat) + j.toNat)) (List.drop ((0 : Nat) + j.toNat) ord)).length) ord)))))]
                else none)
              else none)
            else none)
          else none)
        else none))
    else none) := by kernel_rfl
end Go.Proofs.Ythfjmmhigapkpaa
