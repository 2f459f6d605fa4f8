/- YtniiimpcakmkbaaDoorGrY -/
import Derived.Test.YtniiimpcakmkbaaDoorGrR
set_option linter.unusedVariables false
namespace Go.Proofs.YtniiimpcakmkbaaDoor
open Go Vm
noncomputable def h_kind_cf (m : Int) : Cfg := mkCfQ [25, 35] (globG m) vti orc0 false [] []
theorem h_kind_start {R : Type} (m : Int) (k : V → Bx → Option R) (F : Nat) (L : List (List C)) (a : Int) (o : Int) (c : Int) : runFn (h_kind_cf m) F Tryd.f71 (bd Tryd.f71) [V.t (T.agg { l := [C.sl (4 : Nat) L, C.int IntKind.i64 a, C.int IntKind.i64 o, C.int IntKind.i64 c], lk := [], n := (4 : Nat) })] [] k =
    (bif c != (0 : Int) then
      k (vi 0) []
    else (bif decide (a ≥ (↑L.length : Int)) then
        k (vi 0) []
      else (bif decide ((0 : Int) ≤ a) then
          (getT L a.toNat fun z1 =>
            (getT z1 0 fun z2 =>
              (bif shOk [Sh.int IntKind.i64] [z2] then
                k (vi (([z2].getD (0 : Nat) C.nf).toInt)) []
              else none)))
        else none))) := by kernel_rfl
noncomputable def h_take_cf (m : Int) : Cfg := mkCfQ [25, 35] (globG m) vti orcRA false [] []
theorem h_take_start {R : Type} (m : Int) (k : V → Bx → Option R) (F : Nat) (L : List (List C)) (a : Int) (o : Int) (c : Int) (sg : Int) : runFn (h_take_cf m) F Tryd.f75 (bd Tryd.f75) [V.t (T.agg { l := [C.sl (4 : Nat) L, C.int IntKind.i64 a, C.int IntKind.i64 o, C.int IntKind.i64 c], lk := [], n := (4 : Nat) }), vi sg] [] k =
    (bif c != (0 : Int) then
      k (.tup [(.agg ⟨[(.sl 4 L), (.int .i64 a), (.int .i64 o), (.int .i64 c)], [], 4⟩), (.w (.d (.str ((ByteArray.mk #[])))))]) []
    else (bif stOk L (rP a o c) && okC c then
        (bif kindG L (rP a o c) != sg then
          k (.tup [(.agg ⟨[(.sl 4 L), (.int .i64 a), (.int .i64 o), (.int .i64 11)], [], 4⟩), (.w (.d (.str ((ByteArray.mk #[])))))]) []
        else dup 6 ((bif decide ((0 : Int) ≤ IntKind.i64.wrap (IntKind.i64.wrap (a + (1 : Int)) - (1 : Int))) then
            (getT L ((IntKind.i64.wrap (IntKind.i64.wrap (a + (1 : Int)) - (1 : Int))).toNat) fun z1 =>
              (getT (List.drop (1 : Nat) z1) 0 fun z2 =>
                (bif shOk [Sh.str] [z2] then
                  k (.tup [(.agg ⟨[(.sl 4 L), (.int .i64 (IntKind.i64.wrap (a + (1 : Int)))), (.int .i64 o), (.int .i64 c)], [], 4⟩), (.w (.d (.str (([z2].getD (0 : Nat) C.nf).toStr))))]) []
                else none)))
          else none)))
      else none)) := by kernel_rfl
noncomputable def h_atom_cf (m : Int) (N : Nat) : Cfg := mkCfQ [25, 35] (globG m) vti (orcR_1 N) false [] []
theorem h_atom_start {R : Type} (m : Int) (N : Nat) (k : V → Bx → Option R) (F : Nat) (L : List (List C)) (a : Int) (o : Int) (c : Int) : runFn (h_atom_cf m N) F Tryd.f95 (bd Tryd.f95) [V.t (T.agg { l := [C.sl (4 : Nat) L, C.int IntKind.i64 a, C.int IntKind.i64 o, C.int IntKind.i64 c], lk := [], n := (4 : Nat) })] [] k =
    (bif stOk L (rP a o c) && okC c then
      (bif kindG L (rP a o c) == (40 : Int) then
        (bif decide (o ≥ (8 : Int)) then
          dup 2 (k (.tup [(.agg ⟨[(.sl 4 L), (.int .i64 a), (.int .i64 o), (.int .i64 12)], [], 4⟩), (.agg ⟨[(.int .i64 0), (.str ByteArray.empty), (.str ByteArray.empty), (.sl 4 [])], [], 4⟩)]) [])
        else (bif stOk L (rP (IntKind.i64.wrap (a + (1 : Int))) (IntKind.i64.wrap (o + (1 : Int))) c) && okC c && decide (lvl (rP (IntKind.i64.wrap (a + (1 : Int))) (IntKind.i64.wrap (o + (1 : Int))) c) < N) then
            (bif stOk L (rP (unionA L (rP (IntKind.i64.wrap (a + (1 : Int))) (IntKind.i64.wrap (o + (1 : Int))) c)).fst.at_ (unionA L (rP (IntKind.i64.wrap (a + (1 : Int))) (IntKind.i64.wrap (o + (1 : Int))) c)).fst.op (erC (unionA L (rP (IntKind.i64.wrap (a + (1 : Int))) (IntKind.i64.wrap (o + (1 : Int))) c)).fst.er)) && okC (erC (unionA L (rP (IntKind.i64.wrap (a + (1 : Int))) (IntKind.i64.wrap (o + (1 : Int))) c)).fst.er) && true then
              dup 2 (k (.tup [(.agg ⟨[(.sl 4 L), (.int .i64 ((takeG L (41 : Int) (rP (unionA L (rP (IntKind.i64.wrap (a + (1 : Int))) (IntKind.i64.wrap (o + (1 : Int))) c)).fst.at_ (unionA L (rP (IntKind.i64.wrap (a + (1 : Int))) (IntKind.i64.wrap (o + (1 : Int))) c)).fst.op (erC (unionA L (rP (IntKind.i64.wrap (a + (1 : Int))) (IntKind.i64.wrap (o + (1 : Int))) c)).fst.er))).fst.at_)), (.int .i64 (IntKind.i64.wrap ((takeG L (41 : Int) (rP (unionA L (rP (IntKind.i64.wrap (a + (1 : Int))) (IntKind.i64.wrap (o + (1 : Int))) c)).fst.at_ (unionA L (rP (IntKind.i64.wrap (a + (1 : Int))) (IntKind.i64.wrap (o + (1 : Int))) c)).fst.op (erC (unionA L (rP (IntKind.i64.wrap (a + (1 : Int))) (IntKind.i64.wrap (o + (1 : Int))) c)).fst.er))).fst.op - (1 : Int)))), (.int .i64 (erC (takeG L (41 : Int) (rP (unionA L (rP (IntKind.i64.wrap (a + (1 : Int))) (IntKind.i64.wrap (o + (1 : Int))) c)).fst.at_ (unionA L (rP (IntKind.i64.wrap (a + (1 : Int))) (IntKind.i64.wrap (o + (1 : Int))) c)).fst.op (erC (unionA L (rP (IntKind.i64.wrap (a + (1 : Int))) (IntKind.i64.wrap (o + (1 : Int))) c)).fst.er))).fst.er))], [], 4⟩), (.agg ⟨(List.take (4 : Nat) (List.take (4 : Nat) ((unionA L (rP (IntKind.i64.wrap (a + (1 : Int))) (IntKind.i64.wrap (o + (1 : Int))) c)).snd ++ []) ++ [])), [], 4⟩)]) [])
            else none)
          else none))
      else (bif stOk L (rP a o c) && okC c then
          (bif kindG L (rP a o c) == (4 : Int) then
            k (.tup [(.agg ⟨[(.sl 4 L), (.int .i64 (IntKind.i64.wrap (a + (1 : Int)))), (.int .i64 o), (.int .i64 c)], [], 4⟩), (.agg ⟨[(.int .i64 1), (.str ByteArray.empty), (.str ByteArray.empty), (.sl 4 [])], [], 4⟩)]) []
          else (bif stOk L (rP a o c) && okC c && true then
              (bif stOk L (rP (takeG L (1 : Int) (rP a o c)).fst.at_ (takeG L (1 : Int) (rP a o c)).fst.op (erC (takeG L (1 : Int) (rP a o c)).fst.er)) && okC (erC (takeG L (1 : Int) (rP a o c)).fst.er) then
                (bif kindG L (rP (takeG L (1 : Int) (rP a o c)).fst.at_ (takeG L (1 : Int) (rP a o c)).fst.op (erC (takeG L (1 : Int) (rP a o c)).fst.er)) == (5 : Int) then
                  (bif stOk L (rP (IntKind.i64.wrap ((takeG L (1 : Int) (rP a o c)).fst.at_ + (1 : Int))) (takeG L (1 : Int) (rP a o c)).fst.op (erC (takeG L (1 : Int) (rP a o c)).fst.er)) && okC (erC (takeG L (1 : Int) (rP a o c)).fst.er) && true then
                    k (.tup [(.agg ⟨[(.sl 4 L), (.int .i64 ((takeG L (1 : Int) (rP (IntKind.i64.wrap ((takeG L (1 : Int) (rP a o c)).fst.at_ + (1 : Int))) (takeG L (1 : Int) (rP a o c)).fst.op (erC (takeG L (1 : Int) (rP a o c)).fst.er))).fst.at_)), (.int .i64 ((takeG L (1 : Int) (rP (IntKind.i64.wrap ((takeG L (1 : Int) (rP a o c)).fst.at_ + (1 : Int))) (takeG L (1 : Int) (rP a o c)).fst.op (erC (takeG L (1 : Int) (rP a o c)).fst.er))).fst.op)), (.int .i64 (erC (takeG L (1 : Int) (rP (IntKind.i64.wrap ((takeG L (1 : Int) (rP a o c)).fst.at_ + (1 : Int))) (takeG L (1 : Int) (rP a o c)).fst.op (erC (takeG L (1 : Int) (rP a o c)).fst.er))).fst.er))], [], 4⟩), (.agg ⟨[(.int .i64 3), (.str ((takeG L (1 : Int) (rP a o c)).snd)), (.str ((takeG L (1 : Int) (rP (IntKind.i64.wrap ((takeG L (1 : Int) (rP a o c)).fst.at_ + (1 : Int))) (takeG L (1 : Int) (rP a o c)).fst.op (erC (takeG L (1 : Int) (rP a o c)).fst.er))).snd)), (.sl 4 [])], [], 4⟩)]) []
                  else none)
                else k (.tup [(.agg ⟨[(.sl 4 L), (.int .i64 ((takeG L (1 : Int) (rP a o c)).fst.at_)), (.int .i64 ((takeG L (1 : Int) (rP a o c)).fst.op)), (.int .i64 (erC (takeG L (1 : Int) (rP a o c)).fst.er))], [], 4⟩), (.agg ⟨[(.int .i64 2), (.str ((takeG L (1 : Int) (rP a o c)).snd)), (.str ByteArray.empty), (.sl 4 [])], [], 4⟩)]) [])
              else none)
            else none))
        else none))
    else none) := by kernel_rfl
noncomputable def h_less_cf (m : Int) (N : Nat) : Cfg := mkCfQ [25, 35] (globG m) vti (orcR_2 N) false [] []
theorem h_less_start {R : Type} (m : Int) (N : Nat) (k : V → Bx → Option R) (F : Nat) (L : List (List C)) (a : Int) (o : Int) (c : Int) : runFn (h_less_cf m N) F Tryd.f85 (bd Tryd.f85) [V.t (T.agg { l := [C.sl (4 : Nat) L, C.int IntKind.i64 a, C.int IntKind.i64 o, C.int IntKind.i64 c], lk := [], n := (4 : Nat) })] [] k =
    (bif stOk L (rP a o c) && okC c && decide (lvl (rP a o c) < N) then
      (bif stOk L (rP (atomA L (rP a o c)).fst.at_ (atomA L (rP a o c)).fst.op (erC (atomA L (rP a o c)).fst.er)) && okC (erC (atomA L (rP a o c)).fst.er) then
        (bif kindG L (rP (atomA L (rP a o c)).fst.at_ (atomA L (rP a o c)).fst.op (erC (atomA L (rP a o c)).fst.er)) != (45 : Int) then
          dup 2 (k (.tup [(.agg ⟨[(.sl 4 L), (.int .i64 ((atomA L (rP a o c)).fst.at_)), (.int .i64 ((atomA L (rP a o c)).fst.op)), (.int .i64 (erC (atomA L (rP a o c)).fst.er))], [], 4⟩), (.agg ⟨(List.take (4 : Nat) (List.take (4 : Nat) ((atomA L (rP a o c)).snd ++ []) ++ [])), [], 4⟩)]) [])
        else (bif stOk L (rP (IntKind.i64.wrap ((atomA L (rP a o c)).fst.at_ + (1 : Int))) (atomA L (rP a o c)).fst.op (erC (atomA L (rP a o c)).fst.er)) && okC (erC (atomA L (rP a o c)).fst.er) && decide (lvl (rP (IntKind.i64.wrap ((atomA L (rP a o c)).fst.at_ + (1 : Int))) (atomA L (rP a o c)).fst.op (erC (atomA L (rP a o c)).fst.er)) < N) then
            dup 5 (k (.tup [(.agg ⟨[(.sl 4 L), (.int .i64 ((atomA L (rP (IntKind.i64.wrap ((atomA L (rP a o c)).fst.at_ + (1 : Int))) (atomA L (rP a o c)).fst.op (erC (atomA L (rP a o c)).fst.er))).fst.at_)), (.int .i64 ((atomA L (rP (IntKind.i64.wrap ((atomA L (rP a o c)).fst.at_ + (1 : Int))) (atomA L (rP a o c)).fst.op (erC (atomA L (rP a o c)).fst.er))).fst.op)), (.int .i64 (erC (atomA L (rP (IntKind.i64.wrap ((atomA L (rP a o c)).fst.at_ + (1 : Int))) (atomA L (rP a o c)).fst.op (erC (atomA L (rP a o c)).fst.er))).fst.er))], [], 4⟩), (.agg ⟨[(.int .i64 6), (.str ByteArray.empty), (.str ByteArray.empty), (.sl 4 [(List.take (4 : Nat) ((atomA L (rP a o c)).snd ++ [])), (List.take (4 : Nat) ((atomA L (rP (IntKind.i64.wrap ((atomA L (rP a o c)).fst.at_ + (1 : Int))) (atomA L (rP a o c)).fst.op (erC (atomA L (rP a o c)).fst.er))).snd ++ []))])], [], 4⟩)]) [])
          else none))
      else none)
    else none) := by kernel_rfl
noncomputable def h_meet_cf (m : Int) (N : Nat) : Cfg := mkCfQ [25, 35] (globG m) vti (orcR_3 N) false [] [(3, 62), (999, 12), (1000, 62)]
noncomputable def h_meet_m0 : List Bool := [false, true, true, true, true, true, false, false, false, false, false, false, false, false, false, false, false, false, false, false, false, false, false, false, false, false, false, false, false, false, false, false, false, false, false, false, false]
noncomputable def h_meet_b0 : Code := (cA (cA (cA (cB (cB (cB (bd Tryd.f70)))))))
noncomputable def h_meet_S0 (v1 : Int) (L2 : List (List C)) (v3 : Int) (v4 : Int) (v5 : Int) (v6 : Int) (v7 : Int) (v8 : Int) (v9 : ByteArray) (v10 : ByteArray) (v11 : List (List C)) (v12 : List (List C)) (v13 : List (List C)) (v14 : List C) : St := { env := [vu, (.t (.w (.ptr 0 0))), (.t (.w (.ptr 1 0))), (.t (.w (.ptr 2 0))), (.t (.w (.ptr 3 0))), (.t (.w (.arr 4))), vu, vu, vu, vu, vu, vu, vu, vu, vu, vu, vu, vu, vu, vu, vu, vu, vu, vu, vu, vu, vu, vu, vu, vu, vu, vu, vu, vu, vu, vu, vu], bx := [(some (.cells ⟨[(.sl 4 L2), (.int .i64 v3), (.int .i64 v4), (.int .i64 v1)], [], 4⟩)), (some (.cells ⟨[.nf, (.int .i64 v5), (.int .i64 v6), (.int .i64 v7)], [(0, (.arr 5))], 4⟩)), (some (.cells ⟨[(.int .i64 v8), (.str v9), (.str v10), .nf], [(3, (.arr 6))], 4⟩)), (some (.cells ⟨v14, [], 4⟩)), (some (.arr true (some 47) 4 v11)), (some (.arr true (some 35) 4 v12)), (some (.arr true (some 47) 4 v13))], np := 0 }
noncomputable def h_meet_L0 {R : Type} (m : Int) (N : Nat) (K : X → St → Option R) (F n : Nat) (v1 : Int) (L2 : List (List C)) (v3 : Int) (v4 : Int) (v5 : Int) (v6 : Int) (v7 : Int) (v8 : Int) (v9 : ByteArray) (v10 : ByteArray) (v11 : List (List C)) (v12 : List (List C)) (v13 : List (List C)) (v14 : List C) : Option R := loopV (headM h_meet_m0) (exec (h_meet_cf m N) F h_meet_b0) (exitK (h_meet_cf m N) K) n (h_meet_S0 v1 L2 v3 v4 v5 v6 v7 v8 v9 v10 v11 v12 v13 v14)
noncomputable def h_meet_K0 {R : Type} (m : Int) (N : Nat) (k : V → Bx → Option R) (F : Nat) : X → St → Option R := (blockK 0 (seqK (h_meet_cf m N) F (cB (cB (cB (cB (bd Tryd.f70))))) (finK (h_meet_cf m N) Tryd.f70 k)))
noncomputable def h_meet_E1 (v1 : Int) (L2 : List (List C)) (v3 : Int) (v4 : Int) (v5 : Int) (v6 : Int) (v7 : Int) (v8 : Int) (v9 : ByteArray) (v10 : ByteArray) (v11 : List (List C)) (v12 : List (List C)) (v13 : List (List C)) (v14 : List C) : St := { env := [vu, (.t (.w (.ptr 0 0))), (.t (.w (.ptr 1 0))), (.t (.w (.ptr 2 0))), (.t (.w (.ptr 3 0))), (.t (.w (.arr 4))), vu, vu, vu, vu, vu, vu, vu, vu, vu, vu, vu, vu, vu, vu, vu, vu, vu, vu, vu, vu, vu, vu, vu, vu, vu, vu, vu, vu, vu, vu, vu], bx := [(some (.cells ⟨[(.sl 4 L2), (.int .i64 v3), (.int .i64 v4), (.int .i64 v1)], [], 4⟩)), (some (.cells ⟨[.nf, (.int .i64 v5), (.int .i64 v6), (.int .i64 v7)], [(0, (.arr 5))], 4⟩)), (some (.cells ⟨[(.int .i64 v8), (.str v9), (.str v10), .nf], [(3, (.arr 6))], 4⟩)), (some (.cells ⟨v14, [], 4⟩)), (some (.arr true (some 47) 4 v11)), (some (.arr true (some 35) 4 v12)), (some (.arr true (some 47) 4 v13))], np := 0 }
theorem h_meet_c1 {R : Type} (m : Int) (N : Nat) (k : V → Bx → Option R) (F : Nat) (v1 : Int) (L2 : List (List C)) (v3 : Int) (v4 : Int) (v5 : Int) (v6 : Int) (v7 : Int) (v8 : Int) (v9 : ByteArray) (v10 : ByteArray) (v11 : List (List C)) (v12 : List (List C)) (v13 : List (List C)) (v14 : List C) : h_meet_K0 m N k F (.ex 0) (h_meet_E1 v1 L2 v3 v4 v5 v6 v7 v8 v9 v10 v11 v12 v13 v14) =
    (bif (↑v11.length : Int) == (1 : Int) then
      dup 2 (k (.tup [(.agg ⟨[(.sl 4 L2), (.int .i64 v3), (.int .i64 v4), (.int .i64 v1)], [], 4⟩), (.agg ⟨(List.take (4 : Nat) (List.take (4 : Nat) v14 ++ [])), [], 4⟩)]) [])
    else k (.tup [(.agg ⟨[(.sl 4 L2), (.int .i64 v3), (.int .i64 v4), (.int .i64 v1)], [], 4⟩), (.agg ⟨[(.int .i64 5), (.str ByteArray.empty), (.str ByteArray.empty), (.sl 4 v11)], [], 4⟩)]) []) := by kernel_rfl
theorem h_meet_r0 {R : Type} (m : Int) (N : Nat) (K : X → St → Option R) (F n : Nat) (v1 : Int) (L2 : List (List C)) (v3 : Int) (v4 : Int) (v5 : Int) (v6 : Int) (v7 : Int) (v8 : Int) (v9 : ByteArray) (v10 : ByteArray) (v11 : List (List C)) (v12 : List (List C)) (v13 : List (List C)) (v14 : List C) : h_meet_L0 m N K F (n + 1) v1 L2 v3 v4 v5 v6 v7 v8 v9 v10 v11 v12 v13 v14 =
    (bif stOk L2 (rP v3 v4 v1) && okC v1 then
      (bif kindG L2 (rP v3 v4 v1) == (38 : Int) then
        (bif stOk L2 (rP (IntKind.i64.wrap (v3 + (1 : Int))) v4 v1) && okC v1 && decide (lvl (rP (IntKind.i64.wrap (v3 + (1 : Int))) v4 v1) < N) then
          (bif decide ((v11.length + (1 : Nat)) * (64 : Nat) ≤ (140737488355328 : Nat) ∧ v11.length + (1 : Nat) ≤ (9223372036854775807 : Nat)) then
            h_meet_L0 m N K F n (erC (lessA L2 (rP (IntKind.i64.wrap (v3 + (1 : Int))) v4 v1)).fst.er) L2 ((lessA L2 (rP (IntKind.i64.wrap (v3 + (1 : Int))) v4 v1)).fst.at_) ((lessA L2 (rP (IntKind.i64.wrap (v3 + (1 : Int))) v4 v1)).fst.op) v5 v6 v7 v8 v9 v10 (v11 ++ [List.take (4 : Nat) ((lessA L2 (rP (IntKind.i64.wrap (v3 + (1 : Int))) v4 v1)).snd ++ List.drop (4 : Nat) v14)]) v12 v13 ((lessA L2 (rP (IntKind.i64.wrap (v3 + (1 : Int))) v4 v1)).snd ++ List.drop (4 : Nat) v14)
          else none)
        else none)
      else K (.ex 0) (h_meet_E1 v1 L2 v3 v4 v5 v6 v7 v8 v9 v10 v11 v12 v13 v14))
    else none) := by kernel_rfl
theorem h_meet_start {R : Type} (m : Int) (N : Nat) (k : V → Bx → Option R) (F : Nat) (L : List (List C)) (a : Int) (o : Int) (c : Int) : runFn (h_meet_cf m N) F Tryd.f70 (bd Tryd.f70) [V.t (T.agg { l := [C.sl (4 : Nat) L, C.int IntKind.i64 a, C.int IntKind.i64 o, C.int IntKind.i64 c], lk := [], n := (4 : Nat) })] [] k =
    (bif stOk L (rP a o c) && okC c && decide (lvl (rP a o c) < N) then
      h_meet_L0 m N (h_meet_K0 m N k F) F F (erC (lessA L (rP a o c)).fst.er) L ((lessA L (rP a o c)).fst.at_) ((lessA L (rP a o c)).fst.op) 0 0 0 0 ByteArray.empty ByteArray.empty [(List.take (4 : Nat) ((lessA L (rP a o c)).snd ++ []))] [] [] ((lessA L (rP a o c)).snd ++ [])
    else none) := by kernel_rfl
noncomputable def h_union_cf (m : Int) (N : Nat) : Cfg := mkCfQ [25, 35] (globG m) vti (orcR_4 N) false [] [(3, 62), (999, 12), (1000, 62)]
noncomputable def h_union_m0 : List Bool := [false, true, true, true, true, true, false, false, false, false, false, false, false, false, false, false, false, false, false, false, false, false, false, false, false, false, false, false, false, false, false, false, false, false, false, false, false]
noncomputable def h_union_b0 : Code := (cA (cA (cA (cB (cB (cB (bd Tryd.f47)))))))
noncomputable def h_union_S0 (v1 : Int) (L2 : List (List C)) (v3 : Int) (v4 : Int) (v5 : Int) (v6 : Int) (v7 : Int) (v8 : Int) (v9 : ByteArray) (v10 : ByteArray) (v11 : List (List C)) (v12 : List (List C)) (v13 : List (List C)) (v14 : List C) : St := { env := [vu, (.t (.w (.ptr 0 0))), (.t (.w (.ptr 1 0))), (.t (.w (.ptr 2 0))), (.t (.w (.ptr 3 0))), (.t (.w (.arr 4))), vu, vu, vu, vu, vu, vu, vu, vu, vu, vu, vu, vu, vu, vu, vu, vu, vu, vu, vu, vu, vu, vu, vu, vu, vu, vu, vu, vu, vu, vu, vu], bx := [(some (.cells ⟨[(.sl 4 L2), (.int .i64 v3), (.int .i64 v4), (.int .i64 v1)], [], 4⟩)), (some (.cells ⟨[.nf, (.int .i64 v5), (.int .i64 v6), (.int .i64 v7)], [(0, (.arr 5))], 4⟩)), (some (.cells ⟨[(.int .i64 v8), (.str v9), (.str v10), .nf], [(3, (.arr 6))], 4⟩)), (some (.cells ⟨v14, [], 4⟩)), (some (.arr true (some 47) 4 v11)), (some (.arr true (some 35) 4 v12)), (some (.arr true (some 47) 4 v13))], np := 0 }
noncomputable def h_union_L0 {R : Type} (m : Int) (N : Nat) (K : X → St → Option R) (F n : Nat) (v1 : Int) (L2 : List (List C)) (v3 : Int) (v4 : Int) (v5 : Int) (v6 : Int) (v7 : Int) (v8 : Int) (v9 : ByteArray) (v10 : ByteArray) (v11 : List (List C)) (v12 : List (List C)) (v13 : List (List C)) (v14 : List C) : Option R := loopV (headM h_union_m0) (exec (h_union_cf m N) F h_union_b0) (exitK (h_union_cf m N) K) n (h_union_S0 v1 L2 v3 v4 v5 v6 v7 v8 v9 v10 v11 v12 v13 v14)
noncomputable def h_union_K0 {R : Type} (m : Int) (N : Nat) (k : V → Bx → Option R) (F : Nat) : X → St → Option R := (blockK 0 (seqK (h_union_cf m N) F (cB (cB (cB (cB (bd Tryd.f47))))) (finK (h_union_cf m N) Tryd.f47 k)))
noncomputable def h_union_E1 (v1 : Int) (L2 : List (List C)) (v3 : Int) (v4 : Int) (v5 : Int) (v6 : Int) (v7 : Int) (v8 : Int) (v9 : ByteArray) (v10 : ByteArray) (v11 : List (List C)) (v12 : List (List C)) (v13 : List (List C)) (v14 : List C) : St := { env := [vu, (.t (.w (.ptr 0 0))), (.t (.w (.ptr 1 0))), (.t (.w (.ptr 2 0))), (.t (.w (.ptr 3 0))), (.t (.w (.arr 4))), vu, vu, vu, vu, vu, vu, vu, vu, vu, vu, vu, vu, vu, vu, vu, vu, vu, vu, vu, vu, vu, vu, vu, vu, vu, vu, vu, vu, vu, vu, vu], bx := [(some (.cells ⟨[(.sl 4 L2), (.int .i64 v3), (.int .i64 v4), (.int .i64 v1)], [], 4⟩)), (some (.cells ⟨[.nf, (.int .i64 v5), (.int .i64 v6), (.int .i64 v7)], [(0, (.arr 5))], 4⟩)), (some (.cells ⟨[(.int .i64 v8), (.str v9), (.str v10), .nf], [(3, (.arr 6))], 4⟩)), (some (.cells ⟨v14, [], 4⟩)), (some (.arr true (some 47) 4 v11)), (some (.arr true (some 35) 4 v12)), (some (.arr true (some 47) 4 v13))], np := 0 }
theorem h_union_c1 {R : Type} (m : Int) (N : Nat) (k : V → Bx → Option R) (F : Nat) (v1 : Int) (L2 : List (List C)) (v3 : Int) (v4 : Int) (v5 : Int) (v6 : Int) (v7 : Int) (v8 : Int) (v9 : ByteArray) (v10 : ByteArray) (v11 : List (List C)) (v12 : List (List C)) (v13 : List (List C)) (v14 : List C) : h_union_K0 m N k F (.ex 0) (h_union_E1 v1 L2 v3 v4 v5 v6 v7 v8 v9 v10 v11 v12 v13 v14) =
    (bif (↑v11.length : Int) == (1 : Int) then
      dup 2 (k (.tup [(.agg ⟨[(.sl 4 L2), (.int .i64 v3), (.int .i64 v4), (.int .i64 v1)], [], 4⟩), (.agg ⟨(List.take (4 : Nat) (List.take (4 : Nat) v14 ++ [])), [], 4⟩)]) [])
    else k (.tup [(.agg ⟨[(.sl 4 L2), (.int .i64 v3), (.int .i64 v4), (.int .i64 v1)], [], 4⟩), (.agg ⟨[(.int .i64 4), (.str ByteArray.empty), (.str ByteArray.empty), (.sl 4 v11)], [], 4⟩)]) []) := by kernel_rfl
theorem h_union_r0 {R : Type} (m : Int) (N : Nat) (K : X → St → Option R) (F n : Nat) (v1 : Int) (L2 : List (List C)) (v3 : Int) (v4 : Int) (v5 : Int) (v6 : Int) (v7 : Int) (v8 : Int) (v9 : ByteArray) (v10 : ByteArray) (v11 : List (List C)) (v12 : List (List C)) (v13 : List (List C)) (v14 : List C) : h_union_L0 m N K F (n + 1) v1 L2 v3 v4 v5 v6 v7 v8 v9 v10 v11 v12 v13 v14 =
    (bif stOk L2 (rP v3 v4 v1) && okC v1 then
      (bif kindG L2 (rP v3 v4 v1) == (124 : Int) then
        (bif stOk L2 (rP (IntKind.i64.wrap (v3 + (1 : Int))) v4 v1) && okC v1 && decide (lvl (rP (IntKind.i64.wrap (v3 + (1 : Int))) v4 v1) < N) then
          (bif decide ((v11.length + (1 : Nat)) * (64 : Nat) ≤ (140737488355328 : Nat) ∧ v11.length + (1 : Nat) ≤ (9223372036854775807 : Nat)) then
            h_union_L0 m N K F n (erC (meetA L2 (rP (IntKind.i64.wrap (v3 + (1 : Int))) v4 v1)).fst.er) L2 ((meetA L2 (rP (IntKind.i64.wrap (v3 + (1 : Int))) v4 v1)).fst.at_) ((meetA L2 (rP (IntKind.i64.wrap (v3 + (1 : Int))) v4 v1)).fst.op) v5 v6 v7 v8 v9 v10 (v11 ++ [List.take (4 : Nat) ((meetA L2 (rP (IntKind.i64.wrap (v3 + (1 : Int))) v4 v1)).snd ++ List.drop (4 : Nat) v14)]) v12 v13 ((meetA L2 (rP (IntKind.i64.wrap (v3 + (1 : Int))) v4 v1)).snd ++ List.drop (4 : Nat) v14)
          else none)
        else none)
      else K (.ex 0) (h_union_E1 v1 L2 v3 v4 v5 v6 v7 v8 v9 v10 v11 v12 v13 v14))
    else none) := by kernel_rfl
theorem h_union_start {R : Type} (m : Int) (N : Nat) (k : V → Bx → Option R) (F : Nat) (L : List (List C)) (a : Int) (o : Int) (c : Int) : runFn (h_union_cf m N) F Tryd.f47 (bd Tryd.f47) [V.t (T.agg { l := [C.sl (4 : Nat) L, C.int IntKind.i64 a, C.int IntKind.i64 o, C.int IntKind.i64 c], lk := [], n := (4 : Nat) })] [] k =
    (bif stOk L (rP a o c) && okC c && decide (lvl (rP a o c) < N) then
      h_union_L0 m N (h_union_K0 m N k F) F F (erC (meetA L (rP a o c)).fst.er) L ((meetA L (rP a o c)).fst.at_) ((meetA L (rP a o c)).fst.op) 0 0 0 0 ByteArray.empty ByteArray.empty [(List.take (4 : Nat) ((meetA L (rP a o c)).snd ++ []))] [] [] ((meetA L (rP a o c)).snd ++ [])
    else none) := by kernel_rfl
end Go.Proofs.YtniiimpcakmkbaaDoor
