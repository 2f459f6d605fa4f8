/- grammar: the reference's specs of a configuration's reading -/
import Derived.Test.YtniiimpcakmkbaaDoorGrCa
import Derived.Test.YtniiimpcakmkbaaDoorGrE
set_option linter.unusedVariables false
namespace Go.Proofs.YtniiimpcakmkbaaDoor
open Go Vm
/-- the reference's state -/
structure RPS where
  at_ : Int
  op : Int
  c : Int
def toP (r : RPS) : PS := ⟨r.at_, r.op, erN r.c⟩
def ofP (s : PS) : RPS := ⟨s.at_, s.op, erC s.er⟩
def okR (L : List (List C)) (r : RPS) : Bool := stOk L (toP r) && okC r.c
abbrev rM (L : List (List C)) (r : RPS) : M := ⟨[.sl 4 L, .int .i64 r.at_, .int .i64 r.op, .int .i64 r.c], [], 4⟩
def kindR (L : List (List C)) (r : RPS) : Int := kindG L (toP r)
theorem rtEx (x : RPS × ByteArray) : ∃ y : RPS × ByteArray, y = x := ⟨_, rfl⟩
theorem rnEx (x : RPS × Nde) : ∃ y : RPS × Nde, y = x := ⟨_, rfl⟩
noncomputable def takeR (L : List (List C)) (k : Int) (r : RPS) : RPS × ByteArray := Classical.choose (rtEx (ofP (takeG L k (toP r)).1, (takeG L k (toP r)).2))
theorem takeR_eq (L : List (List C)) (k : Int) (r : RPS) : takeR L k r = (ofP (takeG L k (toP r)).1, (takeG L k (toP r)).2) := Classical.choose_spec (rtEx _)
noncomputable def readR (f : List (List C) → PS → PS × Nde) (L : List (List C)) (r : RPS) : RPS × Nde := Classical.choose (rnEx (ofP (f L (toP r)).1, (f L (toP r)).2))
theorem readR_eq (f : List (List C) → PS → PS × Nde) (L : List (List C)) (r : RPS) : readR f L r = (ofP (f L (toP r)).1, (f L (toP r)).2) := Classical.choose_spec (rnEx _)
noncomputable def rKindS2 : List V → Bx → Tr
  | [.t (.agg ⟨[.sl 4 L, .int .i64 a, .int .i64 o, .int .i64 c], [], 4⟩)], [] => .ite (okR L ⟨a, o, c⟩) (.ret (vi (kindR L ⟨a, o, c⟩)) []) .no
  | _, _ => .no
noncomputable def rTakeS2 : List V → Bx → Tr
  | [.t (.agg ⟨[.sl 4 L, .int .i64 a, .int .i64 o, .int .i64 c], [], 4⟩), .t (.w (.d (.int .i64 k)))], [] =>
    .ite (okR L ⟨a, o, c⟩ && decide (k ≠ 0)) (.ret (.tup [.agg (rM L (takeR L k ⟨a, o, c⟩).1), .w (.d (.str (takeR L k ⟨a, o, c⟩).2))]) []) .no
  | _, _ => .no
noncomputable def rRdC (w : Nat) (f : List (List C) → PS → PS × Nde) : List V → Bx → Tr
  | [.t (.agg ⟨[.sl 4 L, .int .i64 a, .int .i64 o, .int .i64 c], [], 4⟩)], [] =>
    .ite (okR L ⟨a, o, c⟩) (.ret (.tup [.agg (rM L (readR f L ⟨a, o, c⟩).1), .agg ⟨(readR f L ⟨a, o, c⟩).2, [], w⟩]) []) .no
  | _, _ => .no
noncomputable def tabRC : List (FuncId × (List V → Bx → Tr)) := [(71, rKindS2), (75, rTakeS2)]
noncomputable def orcRC1 : FuncId → List V → Bx → Tr := orcOf tabRC
noncomputable def orcRC2 : FuncId → List V → Bx → Tr := orcOf ((92, rRdC 3 alA) :: (47, rRdC 4 unionA) :: tabRC)
noncomputable def orcRC3 : FuncId → List V → Bx → Tr := orcOf ((76, rRdC 6 relA) :: tabRC)
end Go.Proofs.YtniiimpcakmkbaaDoor

set_option linter.unusedVariables false
namespace Go.Proofs.YtniiimpcakmkbaaDoor
open Go Vm
noncomputable def d_allow_cf (m : Int) : Cfg := mkCfQ [25, 35] (globG m) vti orcRC1 false [] []
theorem d_allow_start {R : Type} (m : Int) (k : V → Bx → Option R) (F : Nat) (L : List (List C)) (a : Int) (o : Int) (c : Int) : runFn (d_allow_cf m) F Tryd.f92 (bd Tryd.f92) [V.t (T.agg { l := [C.sl (4 : Nat) L, C.int IntKind.i64 a, C.int IntKind.i64 o, C.int IntKind.i64 c], lk := [], n := (4 : Nat) })] [] k =
    (bif okR L { at_ := a, op := o, c := c } && true then
      (bif okR L (takeR L (1 : Int) { at_ := a, op := o, c := c }).fst then
        (bif kindR L (takeR L (1 : Int) { at_ := a, op := o, c := c }).fst == (35 : Int) then
          (bif okR L { at_ := IntKind.i64.wrap ((takeR L (1 : Int) { at_ := a, op := o, c := c }).fst.at_ + (1 : Int)), op := (takeR L (1 : Int) { at_ := a, op := o, c := c }).fst.op, c := (takeR L (1 : Int) { at_ := a, op := o, c := c }).fst.c } && true then
            dup 2 (k (.tup [(.agg ⟨[(.sl 4 L), (.int .i64 ((takeR L (1 : Int) { at_ := IntKind.i64.wrap ((takeR L (1 : Int) { at_ := a, op := o, c := c }).fst.at_ + (1 : Int)), op := (takeR L (1 : Int) { at_ := a, op := o, c := c }).fst.op, c := (takeR L (1 : Int) { at_ := a, op := o, c := c }).fst.c }).fst.at_)), (.int .i64 ((takeR L (1 : Int) { at_ := IntKind.i64.wrap ((takeR L (1 : Int) { at_ := a, op := o, c := c }).fst.at_ + (1 : Int)), op := (takeR L (1 : Int) { at_ := a, op := o, c := c }).fst.op, c := (takeR L (1 : Int) { at_ := a, op := o, c := c }).fst.c }).fst.op)), (.int .i64 ((takeR L (1 : Int) { at_ := IntKind.i64.wrap ((takeR L (1 : Int) { at_ := a, op := o, c := c }).fst.at_ + (1 : Int)), op := (takeR L (1 : Int) { at_ := a, op := o, c := c }).fst.op, c := (takeR L (1 : Int) { at_ := a, op := o, c := c }).fst.c }).fst.c))], [], 4⟩), (.agg ⟨[(.str ((takeR L (1 : Int) { at_ := a, op := o, c := c }).snd)), (.str ((takeR L (1 : Int) { at_ := IntKind.i64.wrap ((takeR L (1 : Int) { at_ := a, op := o, c := c }).fst.at_ + (1 : Int)), op := (takeR L (1 : Int) { at_ := a, op := o, c := c }).fst.op, c := (takeR L (1 : Int) { at_ := a, op := o, c := c }).fst.c }).snd)), (.bool false)], [], 3⟩)]) [])
          else none)
        else (bif okR L (takeR L (1 : Int) { at_ := a, op := o, c := c }).fst then
            (bif kindR L (takeR L (1 : Int) { at_ := a, op := o, c := c }).fst == (58 : Int) then
              (bif okR L { at_ := IntKind.i64.wrap ((takeR L (1 : Int) { at_ := a, op := o, c := c }).fst.at_ + (1 : Int)), op := (takeR L (1 : Int) { at_ := a, op := o, c := c }).fst.op, c := (takeR L (1 : Int) { at_ := a, op := o, c := c }).fst.c } && true then
                dup 2 (k (.tup [(.agg ⟨[(.sl 4 L), (.int .i64 ((takeR L (42 : Int) { at_ := IntKind.i64.wrap ((takeR L (1 : Int) { at_ := a, op := o, c := c }).fst.at_ + (1 : Int)), op := (takeR L (1 : Int) { at_ := a, op := o, c := c }).fst.op, c := (takeR L (1 : Int) { at_ := a, op := o, c := c }).fst.c }).fst.at_)), (.int .i64 ((takeR L (42 : Int) { at_ := IntKind.i64.wrap ((takeR L (1 : Int) { at_ := a, op := o, c := c }).fst.at_ + (1 : Int)), op := (takeR L (1 : Int) { at_ := a, op := o, c := c }).fst.op, c := (takeR L (1 : Int) { at_ := a, op := o, c := c }).fst.c }).fst.op)), (.int .i64 ((takeR L (42 : Int) { at_ := IntKind.i64.wrap ((takeR L (1 : Int) { at_ := a, op := o, c := c }).fst.at_ + (1 : Int)), op := (takeR L (1 : Int) { at_ := a, op := o, c := c }).fst.op, c := (takeR L (1 : Int) { at_ := a, op := o, c := c }).fst.c }).fst.c))], [], 4⟩), (.agg ⟨[(.str ((takeR L (1 : Int) { at_ := a, op := o, c := c }).snd)), (.str ByteArray.empty), (.bool true)], [], 3⟩)]) [])
              else none)
            else dup 2 (k (.tup [(.agg ⟨[(.sl 4 L), (.int .i64 ((takeR L (1 : Int) { at_ := a, op := o, c := c }).fst.at_)), (.int .i64 ((takeR L (1 : Int) { at_ := a, op := o, c := c }).fst.op)), (.int .i64 ((takeR L (1 : Int) { at_ := a, op := o, c := c }).fst.c))], [], 4⟩), (.agg ⟨[(.str ((takeR L (1 : Int) { at_ := a, op := o, c := c }).snd)), (.str ByteArray.empty), (.bool false)], [], 3⟩)]) []))
          else none))
      else none)
    else none) := by kernel_rfl
noncomputable def d_rel_cf (m : Int) : Cfg := mkCfQ [25, 35] (globG m) vti orcRC2 false [] [(6, 62), (999, 12), (1000, 30)]
noncomputable def d_rel_m0 : List Bool := [false, true, true, true, true, true, false, false, false, false, false, false, false, false, false, false, false, false, false, false, false, false, false, false, false, false, false, false, false, false, false, false, false, false, false, false, false, false, false, false, false, false, false, false, false, false, false, false, false, false, false, false, false, false, false, false, false, false, false, false, false, false, false, false, false]
noncomputable def d_rel_b0 : Code := (cA (cA (cA (cB (cA (cB (cA (cB (cB (cB (cB (bd Tryd.f76))))))))))))
noncomputable def d_rel_S0 (v1 : Int) (v2 : Int) (v3 : Int) (v4 : ByteArray) (L5 : List (List C)) (v6 : Int) (v7 : Int) (v8 : Int) (v9 : ByteArray) (v10 : Int) (v11 : ByteArray) (v12 : ByteArray) (v13 : Int) (v14 : ByteArray) (v15 : ByteArray) (v16 : List (List C)) (v17 : List (List C)) (v18 : List (List C)) (v19 : List (List C)) (v20 : List (List C)) (v21 : Bool) : St := { env := [vu, (.t (.w (.ptr 0 0))), (.t (.w (.ptr 1 0))), (.t (.w (.ptr 2 0))), (.t (.w (.ptr 3 0))), (vb v21), vu, vu, vu, vu, vu, vu, vu, vu, vu, vu, vu, vu, vu, vu, vu, vu, vu, vu, vu, vu, vu, vu, vu, vu, vu, vu, vu, vu, vu, vu, vu, vu, vu, vu, vu, vu, vu, vu, vu, vu, vu, vu, vu, vu, vu, vu, vu, vu, vu, vu, vu, vu, vu, vu, vu, vu, vu, vu, vu], bx := [(some (.cells ⟨[(.sl 4 L5), (.int .i64 v1), (.int .i64 v2), (.int .i64 v3)], [], 4⟩)), (some (.cells ⟨[.nf, (.int .i64 v6), (.int .i64 v7), (.int .i64 v8)], [(0, (.arr 4))], 4⟩)), (some (.cells ⟨[(.str v9), .nf, (.int .i64 v10), (.str v11), (.str v12), .nf], [(1, (.arr 5)), (5, (.arr 6))], 6⟩)), (some (.cells ⟨[(.str v4), .nf, (.int .i64 v13), (.str v14), (.str v15), .nf], [(1, (.arr 7)), (5, (.arr 8))], 6⟩)), (some (.arr true (some 35) 4 v16)), (some (.arr true (some 72) 3 v17)), (some (.arr true (some 47) 4 v18)), (some (.arr true (some 72) 3 v19)), (some (.arr true (some 47) 4 v20))], np := 0 }
noncomputable def d_rel_L0 {R : Type} (m : Int) (K : X → St → Option R) (F n : Nat) (v1 : Int) (v2 : Int) (v3 : Int) (v4 : ByteArray) (L5 : List (List C)) (v6 : Int) (v7 : Int) (v8 : Int) (v9 : ByteArray) (v10 : Int) (v11 : ByteArray) (v12 : ByteArray) (v13 : Int) (v14 : ByteArray) (v15 : ByteArray) (v16 : List (List C)) (v17 : List (List C)) (v18 : List (List C)) (v19 : List (List C)) (v20 : List (List C)) (v21 : Bool) : Option R := loopV (headM d_rel_m0) (exec (d_rel_cf m) F d_rel_b0) (exitK (d_rel_cf m) K) n (d_rel_S0 v1 v2 v3 v4 L5 v6 v7 v8 v9 v10 v11 v12 v13 v14 v15 v16 v17 v18 v19 v20 v21)
noncomputable def d_rel_K0 {R : Type} (m : Int) (k : V → Bx → Option R) (F : Nat) : X → St → Option R := (blockK 0 (seqK (d_rel_cf m) F (cB (cB (cA (cB (cA (cB (cB (cB (cB (bd Tryd.f76)))))))))) (seqK (d_rel_cf m) F (cB (cB (cB (cB (cB (bd Tryd.f76)))))) (finK (d_rel_cf m) Tryd.f76 k))))
noncomputable def d_rel_E1 (v1 : Int) (v2 : Int) (v3 : Int) (v4 : ByteArray) (L5 : List (List C)) (v6 : Int) (v7 : Int) (v8 : Int) (v9 : ByteArray) (v10 : Int) (v11 : ByteArray) (v12 : ByteArray) (v13 : Int) (v14 : ByteArray) (v15 : ByteArray) (v16 : List (List C)) (v17 : List (List C)) (v18 : List (List C)) (v19 : List (List C)) (v20 : List (List C)) : St := { env := [vu, (.t (.w (.ptr 0 0))), (.t (.w (.ptr 1 0))), (.t (.w (.ptr 2 0))), (.t (.w (.ptr 3 0))), vu, vu, vu, vu, vu, vu, vu, vu, vu, vu, vu, vu, vu, vu, vu, vu, vu, vu, vu, vu, vu, vu, vu, vu, vu, vu, vu, vu, vu, vu, vu, vu, vu, vu, vu, vu, vu, vu, vu, vu, vu, vu, vu, vu, vu, vu, vu, vu, vu, vu, vu, vu, vu, vu, vu, vu, vu, vu, vu, vu], bx := [(some (.cells ⟨[(.sl 4 L5), (.int .i64 v1), (.int .i64 v2), (.int .i64 v3)], [], 4⟩)), (some (.cells ⟨[.nf, (.int .i64 v6), (.int .i64 v7), (.int .i64 v8)], [(0, (.arr 4))], 4⟩)), (some (.cells ⟨[(.str v9), .nf, (.int .i64 v10), (.str v11), (.str v12), .nf], [(1, (.arr 5)), (5, (.arr 6))], 6⟩)), (some (.cells ⟨[(.str v4), .nf, (.int .i64 v13), (.str v14), (.str v15), .nf], [(1, (.arr 7)), (5, (.arr 8))], 6⟩)), (some (.arr true (some 35) 4 v16)), (some (.arr true (some 72) 3 v17)), (some (.arr true (some 47) 4 v18)), (some (.arr true (some 72) 3 v19)), (some (.arr true (some 47) 4 v20))], np := 0 }
theorem d_rel_c1 {R : Type} (m : Int) (k : V → Bx → Option R) (F : Nat) (v1 : Int) (v2 : Int) (v3 : Int) (v4 : ByteArray) (L5 : List (List C)) (v6 : Int) (v7 : Int) (v8 : Int) (v9 : ByteArray) (v10 : Int) (v11 : ByteArray) (v12 : ByteArray) (v13 : Int) (v14 : ByteArray) (v15 : ByteArray) (v16 : List (List C)) (v17 : List (List C)) (v18 : List (List C)) (v19 : List (List C)) (v20 : List (List C)) : d_rel_K0 m k F (.ex 0) (d_rel_E1 v1 v2 v3 v4 L5 v6 v7 v8 v9 v10 v11 v12 v13 v14 v15 v16 v17 v18 v19 v20) =
    (bif okR L5 { at_ := v1, op := v2, c := v3 } && true then
      (bif okR L5 (takeR L5 (93 : Int) { at_ := v1, op := v2, c := v3 }).fst && true then
        (bif okR L5 (takeR L5 (61 : Int) (takeR L5 (93 : Int) { at_ := v1, op := v2, c := v3 }).fst).fst then
          (bif okR L5 (readR unionA L5 (takeR L5 (61 : Int) (takeR L5 (93 : Int) { at_ := v1, op := v2, c := v3 }).fst).fst).fst && true then
            dup 2 (k (.tup [(.agg ⟨[(.sl 4 L5), (.int .i64 ((takeR L5 (59 : Int) (readR unionA L5 (takeR L5 (61 : Int) (takeR L5 (93 : Int) { at_ := v1, op := v2, c := v3 }).fst).fst).fst).fst.at_)), (.int .i64 ((takeR L5 (59 : Int) (readR unionA L5 (takeR L5 (61 : Int) (takeR L5 (93 : Int) { at_ := v1, op := v2, c := v3 }).fst).fst).fst).fst.op)), (.int .i64 ((takeR L5 (59 : Int) (readR unionA L5 (takeR L5 (61 : Int) (takeR L5 (93 : Int) { at_ := v1, op := v2, c := v3 }).fst).fst).fst).fst.c))], [], 4⟩), (.agg ⟨((.str v4) :: (.sl 3 v19) :: (List.take (4 : Nat) (List.take (4 : Nat) ((readR unionA L5 (takeR L5 (61 : Int) (takeR L5 (93 : Int) { at_ := v1, op := v2, c := v3 }).fst).fst).snd ++ []) ++ []))), [], 6⟩)]) [])
          else none)
        else none)
      else none)
    else none) := by kernel_rfl
theorem d_rel_r0 {R : Type} (m : Int) (K : X → St → Option R) (F n : Nat) (v1 : Int) (v2 : Int) (v3 : Int) (v4 : ByteArray) (L5 : List (List C)) (v6 : Int) (v7 : Int) (v8 : Int) (v9 : ByteArray) (v10 : Int) (v11 : ByteArray) (v12 : ByteArray) (v13 : Int) (v14 : ByteArray) (v15 : ByteArray) (v16 : List (List C)) (v17 : List (List C)) (v18 : List (List C)) (v19 : List (List C)) (v20 : List (List C)) (v21 : Bool) : d_rel_L0 m K F (n + 1) v1 v2 v3 v4 L5 v6 v7 v8 v9 v10 v11 v12 v13 v14 v15 v16 v17 v18 v19 v20 v21 =
    (bif v21 then
      (bif okR L5 { at_ := IntKind.i64.wrap (v1 + (1 : Int)), op := v2, c := v3 } then
        (bif decide ((v19.length + (1 : Nat)) * (40 : Nat) ≤ (140737488355328 : Nat) ∧ v19.length + (1 : Nat) ≤ (9223372036854775807 : Nat)) then
          (bif okR L5 (readR alA L5 { at_ := IntKind.i64.wrap (v1 + (1 : Int)), op := v2, c := v3 }).fst then
            d_rel_L0 m K F n ((readR alA L5 { at_ := IntKind.i64.wrap (v1 + (1 : Int)), op := v2, c := v3 }).fst.at_) ((readR alA L5 { at_ := IntKind.i64.wrap (v1 + (1 : Int)), op := v2, c := v3 }).fst.op) ((readR alA L5 { at_ := IntKind.i64.wrap (v1 + (1 : Int)), op := v2, c := v3 }).fst.c) v4 L5 v6 v7 v8 v9 v10 v11 v12 v13 v14 v15 v16 v17 v18 (v19 ++ [List.take (3 : Nat) ((readR alA L5 { at_ := IntKind.i64.wrap (v1 + (1 : Int)), op := v2, c := v3 }).snd ++ [])]) v20 (kindR L5 (readR alA L5 { at_ := IntKind.i64.wrap (v1 + (1 : Int)), op := v2, c := v3 }).fst == (44 : Int))
          else none)
        else none)
      else none)
    else K (.ex 0) (d_rel_E1 v1 v2 v3 v4 L5 v6 v7 v8 v9 v10 v11 v12 v13 v14 v15 v16 v17 v18 v19 v20)) := by kernel_rfl
theorem d_rel_start {R : Type} (m : Int) (k : V → Bx → Option R) (F : Nat) (L : List (List C)) (a : Int) (o : Int) (c : Int) : runFn (d_rel_cf m) F Tryd.f76 (bd Tryd.f76) [V.t (T.agg { l := [C.sl (4 : Nat) L, C.int IntKind.i64 a, C.int IntKind.i64 o, C.int IntKind.i64 c], lk := [], n := (4 : Nat) })] [] k =
    (bif okR L { at_ := a, op := o, c := c } && true then
      (bif okR L (takeR L (3 : Int) { at_ := a, op := o, c := c }).fst && true then
        (bif okR L (takeR L (1 : Int) (takeR L (3 : Int) { at_ := a, op := o, c := c }).fst).fst then
          (bif kindR L (takeR L (1 : Int) (takeR L (3 : Int) { at_ := a, op := o, c := c }).fst).fst == (91 : Int) then
            d_rel_L0 m (d_rel_K0 m k F) F F ((takeR L (1 : Int) (takeR L (3 : Int) { at_ := a, op := o, c := c }).fst).fst.at_) ((takeR L (1 : Int) (takeR L (3 : Int) { at_ := a, op := o, c := c }).fst).fst.op) ((takeR L (1 : Int) (takeR L (3 : Int) { at_ := a, op := o, c := c }).fst).fst.c) ((takeR L (1 : Int) (takeR L (3 : Int) { at_ := a, op := o, c := c }).fst).snd) L 0 0 0 ByteArray.empty 0 ByteArray.empty ByteArray.empty 0 ByteArray.empty ByteArray.empty [] [] [] [] [] true
          else (bif okR L (takeR L (1 : Int) (takeR L (3 : Int) { at_ := a, op := o, c := c }).fst).fst && true then
              (bif okR L (takeR L (61 : Int) (takeR L (1 : Int) (takeR L (3 : Int) { at_ := a, op := o, c := c }).fst).fst).fst then
                (bif okR L (readR unionA L (takeR L (61 : Int) (takeR L (1 : Int) (takeR L (3 : Int) { at_ := a, op := o, c := c }).fst).fst).fst).fst && true then
                  dup 2 (k (.tup [(.agg ⟨[(.sl 4 L), (.int .i64 ((takeR L (59 : Int) (readR unionA L (takeR L (61 : Int) (takeR L (1 : Int) (takeR L (3 : Int) { at_ := a, op := o, c := c }).fst).fst).fst).fst).fst.at_)), (.int .i64 ((takeR L (59 : Int) (readR unionA L (takeR L (61 : Int) (takeR L (1 : Int) (takeR L (3 : Int) { at_ := a, op := o, c := c }).fst).fst).fst).fst).fst.op)), (.int .i64 ((takeR L (59 : Int) (readR unionA L (takeR L (61 : Int) (takeR L (1 : Int) (takeR L (3 : Int) { at_ := a, op := o, c := c }).fst).fst).fst).fst).fst.c))], [], 4⟩), (.agg ⟨((.str ((takeR L (1 : Int) (takeR L (3 : Int) { at_ := a, op := o, c := c }).fst).snd)) :: (.sl 3 []) :: (List.take (4 : Nat) (List.take (4 : Nat) ((readR unionA L (takeR L (61 : Int) (takeR L (1 : Int) (takeR L (3 : Int) { at_ := a, op := o, c := c }).fst).fst).fst).snd ++ []) ++ []))), [], 6⟩)]) [])
                else none)
              else none)
            else none))
        else none)
      else none)
    else none) := by kernel_rfl
noncomputable def d_config_cf (m : Int) : Cfg := mkCfQ [25, 35] (globG m) vti orcRC3 false [] [(2, 30), (7, 62), (999, 12), (1000, 30), (1001, 30), (1002, 62)]
noncomputable def d_config_m0 : List Bool := [false, true, true, true, true, false, false, false, false, false, false, false, false, false, false, false, false, false, false, false, false, false, false, false, false, false, false, false, false, false, false, false, false, false, false, false, false, false, false, false, false, false, false, false, false, false, false, false, false, false, false, false, false, false, false]
noncomputable def d_config_b0 : Code := (cA (cA (cA (cB (cB (bd Tryd.f52))))))
noncomputable def d_config_S0 (L1 : List (List C)) (a2 : Int) (o3 : Int) (c4 : Int) (v5 : Int) (v6 : Int) (v7 : Int) (v8 : List (List C)) (v9 : List (List C)) (v10 : List (List C)) : St := { env := [vu, (.t (.w (.ptr 0 0))), (.t (.w (.ptr 1 0))), (.t (.w (.ptr 2 0))), (.t (.w (.ptr 3 0))), vu, vu, vu, vu, vu, vu, vu, vu, vu, vu, vu, vu, vu, vu, vu, vu, vu, vu, vu, vu, vu, vu, vu, vu, vu, vu, vu, vu, vu, vu, vu, vu, vu, vu, vu, vu, vu, vu, vu, vu, vu, vu, vu, vu, vu, vu, vu, vu, vu, vu], bx := [(some (.cells ⟨[(.sl 4 L1), (.int .i64 a2), (.int .i64 o3), (.int .i64 c4)], [], 4⟩)), (some (.cells ⟨[.nf, (.int .i64 v5), (.int .i64 v6), (.int .i64 v7)], [(0, (.arr 4))], 4⟩)), (some (.cells ⟨[.nf], [(0, (.arr 5))], 1⟩)), (some (.cells ⟨[.nf], [(0, (.arr 6))], 1⟩)), (some (.arr true (some 35) 4 v8)), (some (.arr true (some 67) 2 v9)), (some (.arr true (some 67) 2 v10))], np := 0 }
noncomputable def d_config_L0 {R : Type} (m : Int) (K : X → St → Option R) (F n : Nat) (L1 : List (List C)) (a2 : Int) (o3 : Int) (c4 : Int) (v5 : Int) (v6 : Int) (v7 : Int) (v8 : List (List C)) (v9 : List (List C)) (v10 : List (List C)) : Option R := loopV (headM d_config_m0) (exec (d_config_cf m) F d_config_b0) (exitK (d_config_cf m) K) n (d_config_S0 L1 a2 o3 c4 v5 v6 v7 v8 v9 v10)
noncomputable def d_config_K0 {R : Type} (m : Int) (k : V → Bx → Option R) (F : Nat) : X → St → Option R := (blockK 0 (seqK (d_config_cf m) F (cB (cB (cB (bd Tryd.f52)))) (finK (d_config_cf m) Tryd.f52 k)))
noncomputable def d_config_m1 : List Bool := [false, true, true, true, true, true, false, false, false, false, false, false, false, false, false, false, false, false, false, false, false, false, false, false, false, false, false, false, false, false, false, false, false, false, false, false, false, false, false, false, false, false, false, false, false, false, false, false, false, false, false, false, false, false, false]
noncomputable def d_config_b1 : Code := (cA (cA (cA (cB (cB (cB (cB (cA (cB (cA (cA (cA (cB (cB (bd Tryd.f52)))))))))))))))
noncomputable def d_config_S1 (v11 : Int) (v12 : Int) (v13 : Int) (v14 : ByteArray) (L15 : List (List C)) (v16 : Int) (v17 : Int) (v18 : Int) (v19 : List (List C)) (v20 : List (List C)) (v21 : List (List C)) (v22 : List (List C)) : St := { env := [vu, (.t (.w (.ptr 0 0))), (.t (.w (.ptr 1 0))), (.t (.w (.ptr 2 0))), (.t (.w (.ptr 3 0))), (.t (.w (.ptr 4 0))), vu, vu, vu, vu, vu, vu, vu, vu, vu, vu, vu, vu, vu, vu, vu, vu, vu, vu, vu, vu, vu, vu, vu, vu, vu, vu, vu, vu, vu, vu, vu, vu, vu, vu, vu, vu, vu, vu, vu, vu, vu, vu, vu, vu, vu, vu, vu, vu, vu], bx := [(some (.cells ⟨[(.sl 4 L15), (.int .i64 v11), (.int .i64 v12), (.int .i64 v13)], [], 4⟩)), (some (.cells ⟨[.nf, (.int .i64 v16), (.int .i64 v17), (.int .i64 v18)], [(0, (.arr 5))], 4⟩)), (some (.cells ⟨[.nf], [(0, (.arr 6))], 1⟩)), (some (.cells ⟨[.nf], [(0, (.arr 7))], 1⟩)), (some (.cells ⟨[(.str v14), .nf], [(1, (.arr 8))], 2⟩)), (some (.arr true (some 35) 4 v19)), (some (.arr true (some 67) 2 v20)), (some (.arr true (some 67) 2 v21)), (some (.arr true (some 70) 6 v22))], np := 0 }
noncomputable def d_config_L1 {R : Type} (m : Int) (K : X → St → Option R) (F n : Nat) (v11 : Int) (v12 : Int) (v13 : Int) (v14 : ByteArray) (L15 : List (List C)) (v16 : Int) (v17 : Int) (v18 : Int) (v19 : List (List C)) (v20 : List (List C)) (v21 : List (List C)) (v22 : List (List C)) : Option R := loopV (headM d_config_m1) (exec (d_config_cf m) F d_config_b1) (exitK (d_config_cf m) K) n (d_config_S1 v11 v12 v13 v14 L15 v16 v17 v18 v19 v20 v21 v22)
noncomputable def d_config_K1 {R : Type} (m : Int) (K : X → St → Option R) (F n : Nat) : X → St → Option R := (blockK 2 (seqK (d_config_cf m) F (cB (cB (cB (cB (cB (cA (cB (cA (cA (cA (cB (cB (bd Tryd.f52))))))))))))) (blockK 1 (loopK (headM d_config_m0) (exec (d_config_cf m) F d_config_b0) (exitK (d_config_cf m) K) n))))
noncomputable def d_config_E1 (v11 : Int) (v12 : Int) (v13 : Int) (v14 : ByteArray) (L15 : List (List C)) (v16 : Int) (v17 : Int) (v18 : Int) (v19 : List (List C)) (v20 : List (List C)) (v21 : List (List C)) (v22 : List (List C)) : St := { env := [vu, (.t (.w (.ptr 0 0))), (.t (.w (.ptr 1 0))), (.t (.w (.ptr 2 0))), (.t (.w (.ptr 3 0))), (.t (.w (.ptr 4 0))), vu, vu, vu, vu, vu, vu, vu, vu, vu, vu, vu, vu, vu, vu, vu, vu, vu, vu, vu, vu, vu, vu, vu, vu, vu, vu, vu, vu, vu, vu, vu, vu, vu, vu, vu, vu, vu, vu, vu, vu, vu, vu, vu, vu, vu, vu, vu, vu, vu], bx := [(some (.cells ⟨[(.sl 4 L15), (.int .i64 v11), (.int .i64 v12), (.int .i64 v13)], [], 4⟩)), (some (.cells ⟨[.nf, (.int .i64 v16), (.int .i64 v17), (.int .i64 v18)], [(0, (.arr 5))], 4⟩)), (some (.cells ⟨[.nf], [(0, (.arr 6))], 1⟩)), (some (.cells ⟨[.nf], [(0, (.arr 7))], 1⟩)), (some (.cells ⟨[(.str v14), .nf], [(1, (.arr 8))], 2⟩)), (some (.arr true (some 35) 4 v19)), (some (.arr true (some 67) 2 v20)), (some (.arr true (some 67) 2 v21)), (some (.arr true (some 70) 6 v22))], np := 0 }
theorem d_config_c1 {R : Type} (m : Int) (K : X → St → Option R) (F n : Nat) (v11 : Int) (v12 : Int) (v13 : Int) (v14 : ByteArray) (L15 : List (List C)) (v16 : Int) (v17 : Int) (v18 : Int) (v19 : List (List C)) (v20 : List (List C)) (v21 : List (List C)) (v22 : List (List C)) : d_config_K1 m K F n (.ex 2) (d_config_E1 v11 v12 v13 v14 L15 v16 v17 v18 v19 v20 v21 v22) =
    (bif okR L15 { at_ := v11, op := v12, c := v13 } && true then
      (bif decide ((v21.length + (1 : Nat)) * (40 : Nat) ≤ (140737488355328 : Nat) ∧ v21.length + (1 : Nat) ≤ (9223372036854775807 : Nat)) then
        d_config_L0 m K F n L15 ((takeR L15 (125 : Int) { at_ := v11, op := v12, c := v13 }).fst.at_) ((takeR L15 (125 : Int) { at_ := v11, op := v12, c := v13 }).fst.op) ((takeR L15 (125 : Int) { at_ := v11, op := v12, c := v13 }).fst.c) v16 v17 v18 v19 v20 (v21 ++ [[C.str v14, C.sl (6 : Nat) v22]])
      else none)
    else none) := by kernel_rfl
theorem d_config_r1 {R : Type} (m : Int) (K : X → St → Option R) (F n : Nat) (v11 : Int) (v12 : Int) (v13 : Int) (v14 : ByteArray) (L15 : List (List C)) (v16 : Int) (v17 : Int) (v18 : Int) (v19 : List (List C)) (v20 : List (List C)) (v21 : List (List C)) (v22 : List (List C)) : d_config_L1 m K F (n + 1) v11 v12 v13 v14 L15 v16 v17 v18 v19 v20 v21 v22 =
    (bif okR L15 { at_ := v11, op := v12, c := v13 } then
      (bif kindR L15 { at_ := v11, op := v12, c := v13 } == (3 : Int) then
        (bif okR L15 { at_ := v11, op := v12, c := v13 } then
          (bif decide ((v22.length + (1 : Nat)) * (104 : Nat) ≤ (140737488355328 : Nat) ∧ v22.length + (1 : Nat) ≤ (9223372036854775807 : Nat)) then
            d_config_L1 m K F n ((readR relA L15 { at_ := v11, op := v12, c := v13 }).fst.at_) ((readR relA L15 { at_ := v11, op := v12, c := v13 }).fst.op) ((readR relA L15 { at_ := v11, op := v12, c := v13 }).fst.c) v14 L15 v16 v17 v18 v19 v20 v21 (v22 ++ [List.take (6 : Nat) ((readR relA L15 { at_ := v11, op := v12, c := v13 }).snd ++ [])])
          else none)
        else none)
      else K (.ex 2) (d_config_E1 v11 v12 v13 v14 L15 v16 v17 v18 v19 v20 v21 v22))
    else none) := by kernel_rfl
noncomputable def d_config_E2 (L1 : List (List C)) (a2 : Int) (o3 : Int) (c4 : Int) (v5 : Int) (v6 : Int) (v7 : Int) (v8 : List (List C)) (v9 : List (List C)) (v10 : List (List C)) : St := { env := [vu, (.t (.w (.ptr 0 0))), (.t (.w (.ptr 1 0))), (.t (.w (.ptr 2 0))), (.t (.w (.ptr 3 0))), vu, vu, vu, vu, vu, vu, vu, vu, vu, vu, vu, vu, vu, vu, vu, vu, vu, vu, vu, vu, vu, vu, vu, vu, vu, vu, vu, vu, vu, vu, vu, vu, vu, vu, vu, vu, vu, vu, vu, vu, vu, vu, vu, vu, vu, vu, vu, vu, vu, vu], bx := [(some (.cells ⟨[(.sl 4 L1), (.int .i64 a2), (.int .i64 o3), (.int .i64 c4)], [], 4⟩)), (some (.cells ⟨[.nf, (.int .i64 v5), (.int .i64 v6), (.int .i64 v7)], [(0, (.arr 4))], 4⟩)), (some (.cells ⟨[.nf], [(0, (.arr 5))], 1⟩)), (some (.cells ⟨[.nf], [(0, (.arr 6))], 1⟩)), (some (.arr true (some 35) 4 v8)), (some (.arr true (some 67) 2 v9)), (some (.arr true (some 67) 2 v10))], np := 0 }
theorem d_config_c2 {R : Type} (m : Int) (k : V → Bx → Option R) (F : Nat) (L1 : List (List C)) (a2 : Int) (o3 : Int) (c4 : Int) (v5 : Int) (v6 : Int) (v7 : Int) (v8 : List (List C)) (v9 : List (List C)) (v10 : List (List C)) : d_config_K0 m k F (.ex 0) (d_config_E2 L1 a2 o3 c4 v5 v6 v7 v8 v9 v10) =
    dup 2 (k (.tup [(.agg ⟨[(.sl 4 L1), (.int .i64 a2), (.int .i64 o3), (.int .i64 c4)], [], 4⟩), (.agg ⟨[(.sl 2 v10)], [], 1⟩)]) []) := by kernel_rfl
theorem d_config_r0 {R : Type} (m : Int) (K : X → St → Option R) (F n : Nat) (L1 : List (List C)) (a2 : Int) (o3 : Int) (c4 : Int) (v5 : Int) (v6 : Int) (v7 : Int) (v8 : List (List C)) (v9 : List (List C)) (v10 : List (List C)) : d_config_L0 m K F (n + 1) L1 a2 o3 c4 v5 v6 v7 v8 v9 v10 =
    (bif okR L1 { at_ := a2, op := o3, c := c4 } then
      (bif kindR L1 { at_ := a2, op := o3, c := c4 } == (2 : Int) then
        (bif okR L1 { at_ := IntKind.i64.wrap (a2 + (1 : Int)), op := o3, c := c4 } && true then
          (bif okR L1 (takeR L1 (1 : Int) { at_ := IntKind.i64.wrap (a2 + (1 : Int)), op := o3, c := c4 }).fst && true then
            d_config_L1 m (d_config_K1 m K F n) F F ((takeR L1 (123 : Int) (takeR L1 (1 : Int) { at_ := IntKind.i64.wrap (a2 + (1 : Int)), op := o3, c := c4 }).fst).fst.at_) ((takeR L1 (123 : Int) (takeR L1 (1 : Int) { at_ := IntKind.i64.wrap (a2 + (1 : Int)), op := o3, c := c4 }).fst).fst.op) ((takeR L1 (123 : Int) (takeR L1 (1 : Int) { at_ := IntKind.i64.wrap (a2 + (1 : Int)), op := o3, c := c4 }).fst).fst.c) ((takeR L1 (1 : Int) { at_ := IntKind.i64.wrap (a2 + (1 : Int)), op := o3, c := c4 }).snd) L1 v5 v6 v7 v8 v9 v10 []
          else none)
        else none)
      else K (.ex 0) (d_config_E2 L1 a2 o3 c4 v5 v6 v7 v8 v9 v10))
    else none) := by kernel_rfl
theorem d_config_start {R : Type} (m : Int) (k : V → Bx → Option R) (F : Nat) (L : List (List C)) (a : Int) (o : Int) (c : Int) : runFn (d_config_cf m) F Tryd.f52 (bd Tryd.f52) [V.t (T.agg { l := [C.sl (4 : Nat) L, C.int IntKind.i64 a, C.int IntKind.i64 o, C.int IntKind.i64 c], lk := [], n := (4 : Nat) })] [] k =
    d_config_L0 m (d_config_K0 m k F) F F L a o c 0 0 0 [] [] [] := by kernel_rfl
end Go.Proofs.YtniiimpcakmkbaaDoor

/- grammar: the reference's reading of a configuration -/
set_option linter.unusedVariables false
namespace Go.Proofs.YtniiimpcakmkbaaDoor
open Go Vm
theorem toP_of {s : PS} (h : s.er ≤ 2) : toP (ofP s) = s := by unfold toP ofP; simp only; rw [erN_C h]
theorem ofP_to {r : RPS} (h : okC r.c = true) : ofP (toP r) = r := by unfold toP ofP; simp only; rw [(erC_N h).1]
theorem okR_s {L : List (List C)} {s : PS} (h : St8 L s) : okR L (ofP s) = true := by
  unfold okR; rw [toP_of h.e2, st_t h]; exact okC_er s.er
theorem kindR_s {L : List (List C)} {s : PS} (h : St8 L s) : kindR L (ofP s) = kindG L s := by unfold kindR; rw [toP_of h.e2]
theorem takeR_s {L : List (List C)} {s : PS} (h : St8 L s) (k : Int) : takeR L k (ofP s) = (ofP (takeG L k s).1, (takeG L k s).2) := by rw [takeR_eq, toP_of h.e2]
theorem readR_s {L : List (List C)} {s : PS} (f : List (List C) → PS → PS × Nde) (h : St8 L s) : readR f L (ofP s) = (ofP (f L s).1, (f L s).2) := by rw [readR_eq, toP_of h.e2]
theorem nextR_s {L : List (List C)} {s : PS} (h : St8 L s) : (⟨IntKind.i64.wrap ((ofP s).at_ + 1), (ofP s).op, (ofP s).c⟩ : RPS) = ofP (nextG s) := by
  have := wrap_next h
  show (⟨IntKind.i64.wrap (s.at_ + 1), s.op, erC s.er⟩ : RPS) = ⟨(nextG s).at_, s.op, erC s.er⟩
  rw [this]
theorem rrdC_ok {m : Int} {fn : FuncId} {w : Nat} {f : List (List C) → PS → PS × Nde}
    (h : ∀ (L : List (List C)) (s : PS), St8 L s → FnRes Tryd.prog (globG m) fn [.t (.agg (rM L (ofP s)))] [] (.tup [.agg (rM L (ofP (f L s).1)), .agg ⟨(f L s).2, [], w⟩]) []) : SpecOk Tryd.prog (globG m) fn (rRdC w f) := by
  intro a b v b' hr
  unfold rRdC at hr
  split at hr
  · rename_i L a o c
    rcases run_ite hr with ⟨hl, hx⟩ | ⟨_, hx⟩ <;> clear hr <;> have hr := hx <;> clear hx
    · have hl' : (stOk L (toP ⟨a, o, c⟩) && okC c) = true := hl
      rw [Bool.and_eq_true, stOk_iff] at hl'
      obtain ⟨hs, hg⟩ := hl'
      obtain ⟨rfl, rfl⟩ := run_ret hr
      have h1 := h L _ hs
      have e : ofP (toP ⟨a, o, c⟩) = ⟨a, o, c⟩ := ofP_to hg
      rw [e] at h1
      rw [readR_eq]
      exact h1
    · exact (run_no hr).elim
  · cases hr
theorem rkind2_ok (m : Int) : SpecOk Tryd.prog (globG m) 71 rKindS2 := by
  intro a b v b' hr
  refine rkind_ok m _ _ _ _ ?_
  unfold rKindS2 at hr
  split at hr
  · exact hr
  · cases hr
theorem rtake2_ok (m : Int) : SpecOk Tryd.prog (globG m) 75 rTakeS2 := by
  intro a b v b' hr
  refine rtake_ok m _ _ _ _ ?_
  unfold rTakeS2 at hr
  split at hr
  · rename_i L a o c k
    rw [takeR_eq] at hr
    exact hr
  · cases hr
theorem runion2_ok (m : Int) : SpecOk Tryd.prog (globG m) 47 (rRdC 4 unionA) := by
  intro a b v b' hr
  refine runion_all m 9 _ _ _ _ ?_
  unfold rRdC at hr
  split at hr
  · rename_i L a o c
    rw [readR_eq] at hr
    rcases run_ite hr with ⟨hl, hx⟩ | ⟨_, hx⟩
    · have hl' : (stOk L (rP a o c) && okC c) = true := hl
      have hs := stOk_iff.1 (Bool.and_eq_true .. ▸ hl').1
      show (Tr.ite (stOk L (rP a o c) && okC c && decide (lvl (rP a o c) < 9)) _ _).run fin2 = _
      rw [hl', lvl9 hs]
      exact hx
    · exact (run_no hx).elim
  · cases hr
theorem tabRC_ok (m : Int) : TabS Tryd.prog (globG m) tabRC := .cons (rkind2_ok m) (.cons (rtake2_ok m) .nil)
theorem dallow_ok (m : Int) : SpecOk Tryd.prog (globG m) 92 (rRdC 3 alA) := by
  refine rrdC_ok fun L s hs => ?_
  refine specAtQ eqs_ok mix vti_ok Tryd.func92 rfl (by kernel_rfl) (tabRC_ok m) 0 (Eq.trans (d_allow_start m fin2 0 L (ofP s).at_ (ofP s).op (ofP s).c) ?_)
  obtain ⟨h1, f1⟩ := gtake_ok hs (k := 1) (by decide)
  rw [alA_eq]
  unfold alG
  have e0 : (⟨(ofP s).at_, (ofP s).op, (ofP s).c⟩ : RPS) = ofP s := rfl
  simp only [e0, Bool.and_true, takeR_s hs, okR_s hs, okR_s h1, kindR_s h1, cond_true, dup2', nextR_s h1]
  cases h35 : kindG L (takeG L 1 s).1 == 35 with
  | true =>
    obtain ⟨h2, f2⟩ := gnext_ok h1 (kind_some (by decide) h35).2.1
    simp only [cond_true, okR_s h2, takeR_s h2]
  | false =>
    simp only [cond_false]
    cases h58 : kindG L (takeG L 1 s).1 == 58 with
    | true =>
      obtain ⟨h2, f2⟩ := gnext_ok h1 (kind_some (by decide) h58).2.1
      simp only [cond_true, okR_s h2, takeR_s h2]; rfl
    | false => rfl
end Go.Proofs.YtniiimpcakmkbaaDoor

/- grammar: the reference's relations and configurations -/
set_option linter.unusedVariables false
namespace Go.Proofs.YtniiimpcakmkbaaDoor
open Go Vm
theorem al_parts (L : List (List C)) (s : PS) : ∃ (x y : ByteArray) (b : Bool), (alA L s).2 = [.str x, .str y, .bool b] := by
  rw [alA_eq]; unfold alG
  cases kindG L (takeG L 1 s).1 == 35 with
  | true => exact ⟨_, _, _, rfl⟩
  | false =>
    cases kindG L (takeG L 1 s).1 == 58 with
    | true => exact ⟨_, _, _, rfl⟩
    | false => exact ⟨_, _, _, rfl⟩
theorem al_take (L : List (List C)) (s : PS) : List.take 3 ((alA L s).2 ++ []) = (alA L s).2 := by obtain ⟨x, y, b, h⟩ := al_parts L s; rw [h]; rfl
theorem rel_parts {L : List (List C)} {s : PS} (h : St8 L s) : ∃ (nm : ByteArray) (al : List (List C)) (k : Int) (a b : ByteArray) (l : List (List C)), (relA L s).2 = [.str nm, .sl 3 al, .int .i64 k, .str a, .str b, .sl 4 l] := by
  rw [relA_eq]; unfold relG
  obtain ⟨h1, f1⟩ := gtake_ok h (k := 3) (by decide)
  obtain ⟨h2, f2⟩ := gtake_ok h1 (k := 1) (by decide)
  cases h91 : kindG L (takeG L 1 (takeG L 3 s).1).1 == 91 with
  | true =>
    obtain ⟨h3, f3⟩ := gnext_ok h2 (kind_some (by decide) h91).2.1
    obtain ⟨h4, f4⟩ := listAl_good h3
    obtain ⟨h5, f5⟩ := gtake_ok h4 (k := 93) (by decide)
    obtain ⟨h6, f6⟩ := gtake_ok h5 (k := 61) (by decide)
    obtain ⟨h7, f7, n7⟩ := unionA_good h6
    obtain ⟨k, a, b, l, e⟩ := isNd_parts n7
    rw [cond_true]; unfold relE; rw [e]; exact ⟨_, _, _, _, _, _, rfl⟩
  | false =>
    obtain ⟨h6, f6⟩ := gtake_ok h2 (k := 61) (by decide)
    obtain ⟨h7, f7, n7⟩ := unionA_good h6
    obtain ⟨k, a, b, l, e⟩ := isNd_parts n7
    rw [cond_false]; unfold relE; rw [e]; exact ⟨_, _, _, _, _, _, rfl⟩
theorem rel_take {L : List (List C)} {s : PS} (h : St8 L s) : List.take 6 ((relA L s).2 ++ []) = (relA L s).2 := by obtain ⟨_, _, _, _, _, _, e⟩ := rel_parts h; rw [e]; rfl
theorem drel_end {R : Type} (m : Int) (k : V → Bx → Option R) (F : Nat) (L : List (List C)) (nm : ByteArray) (v6 v7 v8 : Int) (v9 : ByteArray) (v10 : Int) (v11 v12 : ByteArray) (v13 : Int) (v14 v15 : ByteArray) (v16 v17 v18 v20 : List (List C)) (s : PS) (out : List Nde) (h : St8 L s) :
    d_rel_K0 m k F (.ex 0) (d_rel_E1 (ofP s).at_ (ofP s).op (ofP s).c nm L v6 v7 v8 v9 v10 v11 v12 v13 v14 v15 v16 v17 v18 out v20) =
      k (.tup [.agg (rM L (ofP (relE L nm out (takeG L 93 s).1).1)), .agg ⟨(relE L nm out (takeG L 93 s).1).2, [], 6⟩]) [] := by
  rw [d_rel_c1]
  obtain ⟨h5, f5⟩ := gtake_ok h (k := 93) (by decide)
  obtain ⟨h6, f6⟩ := gtake_ok h5 (k := 61) (by decide)
  obtain ⟨h7, f7, n7⟩ := unionA_good h6
  have e0 : (⟨(ofP s).at_, (ofP s).op, (ofP s).c⟩ : RPS) = ofP s := rfl
  unfold relE
  have t4 : List.take 4 (List.take 4 ((unionA L (takeG L 61 (takeG L 93 s).1).1).2 ++ []) ++ []) = (unionA L (takeG L 61 (takeG L 93 s).1).1).2 := by
    rw [take4 (x := List.take 4 ((unionA L (takeG L 61 (takeG L 93 s).1).1).2 ++ [])) (by rw [take4 n7]; exact n7), take4 n7]
  simp only [e0, Bool.and_true, okR_s h, cond_true, takeR_s h, okR_s h5, takeR_s h5, okR_s h6, readR_s unionA h6, okR_s h7, takeR_s h7, dup2', t4]
  rfl
theorem drel_loop {R : Type} (m : Int) (k : V → Bx → Option R) (F : Nat) (L : List (List C)) (nm : ByteArray) (v6 v7 v8 : Int) (v9 : ByteArray) (v10 : Int) (v11 v12 : ByteArray) (v13 : Int) (v14 v15 : ByteArray) (v16 v17 v18 v20 : List (List C)) : ∀ (n n' : Nat) (s : PS) (out : List Nde), St8 L s → (L.length : Int) - s.at_ < n → (L.length : Int) - s.at_ < n' → (out.length : Int) + (L.length - s.at_) < 2000000 →
    d_rel_L0 m (d_rel_K0 m k F) F n (ofP s).at_ (ofP s).op (ofP s).c nm L v6 v7 v8 v9 v10 v11 v12 v13 v14 v15 v16 v17 v18 out v20 (kindG L s == 44) =
      k (.tup [.agg (rM L (ofP (relE L nm (moreG L (alA L) 44 n' s out).2 (takeG L 93 (moreG L (alA L) 44 n' s out).1).1).1)), .agg ⟨(relE L nm (moreG L (alA L) 44 n' s out).2 (takeG L 93 (moreG L (alA L) 44 n' s out).1).1).2, [], 6⟩]) [] := by
  intro n
  induction n with
  | zero => intro n' s out h h1; have := h.a1; omega
  | succ n ih =>
    intro n' s out h h1 h2 h3
    cases n' with
    | zero => have := h.a1; omega
    | succ n' =>
      rw [d_rel_r0]
      unfold moreG
      cases hk : kindG L s == 44 with
      | false => rw [cond_false, cond_false]; exact drel_end m k F L nm v6 v7 v8 v9 v10 v11 v12 v13 v14 v15 v16 v17 v18 v20 s out h
      | true =>
        obtain ⟨_, hlt, _⟩ := kind_some (by decide) hk
        obtain ⟨g2, f2⟩ := gnext_ok h hlt
        obtain ⟨g3, f3⟩ := al_good g2
        have e1 := f3.a
        have e2 : (nextG s).at_ = s.at_ + 1 := rfl
        have ha1 := g3.a1
        simp only [cond_true, nextR_s h, okR_s g2, readR_s alA g2, okR_s g3, kindR_s g3, al_take]
        rw [decide_eq_true ⟨by omega, by omega⟩, cond_true]
        exact ih n' _ _ g3 (by push_cast at h1; omega) (by push_cast at h2; omega) (by simp only [List.length_append, List.length_cons, List.length_nil]; push_cast; omega)
theorem drel_yes {R : Type} (m : Int) (k : V → Bx → Option R) (L : List (List C)) (s : PS) (hs : St8 L s) (nm : ByteArray) (hk : (kindG L s == 91) = true) (F : Nat) (hF : L.length + 1 ≤ F) :
    d_rel_L0 m (d_rel_K0 m k (F + 1)) (F + 1) (F + 1) (ofP s).at_ (ofP s).op (ofP s).c nm L 0 0 0 ByteArray.empty 0 ByteArray.empty ByteArray.empty 0 ByteArray.empty ByteArray.empty [] [] [] [] [] true =
      k (.tup [.agg (rM L (ofP (relE L nm (listAl L (nextG s)).2 (takeG L 93 (listAl L (nextG s)).1).1).1)), .agg ⟨(relE L nm (listAl L (nextG s)).2 (takeG L 93 (listAl L (nextG s)).1).1).2, [], 6⟩]) [] := by
  obtain ⟨h3, f3⟩ := gnext_ok hs (kind_some (by decide) hk).2.1
  obtain ⟨g3, g4⟩ := al_good h3
  have ha := g3.a0
  have hlen := hs.len
  rw [d_rel_r0]
  simp only [cond_true, nextR_s hs, okR_s h3, readR_s alA h3, okR_s g3, kindR_s g3, al_take]
  rw [decide_eq_true ⟨by simp, by simp⟩, cond_true, listAl_eq]
  unfold listG
  exact drel_loop m k (F + 1) L nm _ _ _ _ _ _ _ _ _ _ _ _ _ _ F (L.length + 1) _ [(alA L (nextG s)).2] g3 (by omega) (by push_cast; omega) (by simp only [List.length_cons, List.length_nil]; push_cast; omega)
theorem drel_run (m : Int) (L : List (List C)) (s : PS) (hs : St8 L s) (F : Nat) (hF : L.length + 1 ≤ F) :
    runFn (d_rel_cf m) (F + 1) Tryd.f76 (bd Tryd.f76) [V.t (T.agg { l := [C.sl (4 : Nat) L, C.int IntKind.i64 (ofP s).at_, C.int IntKind.i64 (ofP s).op, C.int IntKind.i64 (ofP s).c], lk := [], n := (4 : Nat) })] [] fin2 =
      some (.tup [.agg (rM L (ofP (relA L s).1)), .agg ⟨(relA L s).2, [], 6⟩], []) := by
  obtain ⟨h1, f1⟩ := gtake_ok hs (k := 3) (by decide)
  obtain ⟨h2, f2⟩ := gtake_ok h1 (k := 1) (by decide)
  have e0 : (⟨(ofP s).at_, (ofP s).op, (ofP s).c⟩ : RPS) = ofP s := rfl
  rw [d_rel_start, e0, takeR_s hs, okR_s hs, Bool.and_true, cond_true]
  simp only
  rw [okR_s h1, takeR_s h1, Bool.and_true, cond_true]
  simp only
  rw [okR_s h2, kindR_s h2, cond_true, relA_eq]
  unfold relG
  cases h91 : kindG L (takeG L 1 (takeG L 3 s).1).1 == 91 with
  | true =>
    rw [cond_true, cond_true, drel_yes m fin2 L _ h2 _ h91 F hF]
  | false =>
    obtain ⟨h6, f6⟩ := gtake_ok h2 (k := 61) (by decide)
    obtain ⟨h7, f7, n7⟩ := unionA_good h6
    have t4 : List.take 4 (List.take 4 ((unionA L (takeG L 61 (takeG L 1 (takeG L 3 s).1).1).1).2 ++ []) ++ []) = (unionA L (takeG L 61 (takeG L 1 (takeG L 3 s).1).1).1).2 := by
      rw [take4 (x := List.take 4 ((unionA L (takeG L 61 (takeG L 1 (takeG L 3 s).1).1).1).2 ++ [])) (by rw [take4 n7]; exact n7), take4 n7]
    unfold relE
    simp only [cond_false, cond_true, Bool.and_true, takeR_s h2, okR_s h6, readR_s unionA h6, okR_s h7, takeR_s h7, dup2', t4]
    rfl
theorem drel_ok (m : Int) : SpecOk Tryd.prog (globG m) 76 (rRdC 6 relA) :=
  rrdC_ok fun L s hs => specAtQ eqs_ok mix vti_ok Tryd.func76 rfl (by kernel_rfl) (.cons (dallow_ok m) (.cons (runion2_ok m) (tabRC_ok m))) (L.length + 1 + 1) (drel_run m L s hs (L.length + 1) (Nat.le_refl _))
end Go.Proofs.YtniiimpcakmkbaaDoor

/- grammar: the reference's configurations -/
set_option linter.unusedVariables false
namespace Go.Proofs.YtniiimpcakmkbaaDoor
open Go Vm
theorem dcfg_in {R : Type} (m : Int) (K : X → St → Option R) (F : Nat) (L : List (List C)) (nm : ByteArray) (v16 v17 v18 : Int) (v19 v20 v21 : List (List C)) : ∀ (n n' : Nat) (s : PS) (out : List Nde), St8 L s → (L.length : Int) - s.at_ < n → (L.length : Int) - s.at_ < n' → (out.length : Int) + (L.length - s.at_) < 2000000 →
    d_config_L1 m K F n (ofP s).at_ (ofP s).op (ofP s).c nm L v16 v17 v18 v19 v20 v21 out =
      K (.ex 2) (d_config_E1 (ofP (whG L (relA L) 3 n' s out).1).at_ (ofP (whG L (relA L) 3 n' s out).1).op (ofP (whG L (relA L) 3 n' s out).1).c nm L v16 v17 v18 v19 v20 v21 (whG L (relA L) 3 n' s out).2) := by
  intro n
  induction n with
  | zero => intro n' s out h h1; have := h.a1; omega
  | succ n ih =>
    intro n' s out h h1 h2 h3
    cases n' with
    | zero => have := h.a1; omega
    | succ n' =>
      have e0 : (⟨(ofP s).at_, (ofP s).op, (ofP s).c⟩ : RPS) = ofP s := rfl
      rw [d_config_r1, e0, okR_s h, kindR_s h, cond_true]
      unfold whG
      cases hk : kindG L s == 3 with
      | false => rw [cond_false, cond_false]
      | true =>
        obtain ⟨_, hlt, _⟩ := kind_some (by decide) hk
        obtain ⟨g3, f3⟩ := rel_good h
        rw [take_next hk] at f3
        have e1 := f3.a
        have e2 : (nextG s).at_ = s.at_ + 1 := rfl
        have ha1 := g3.a1
        rw [cond_true, cond_true, cond_true, decide_eq_true ⟨by omega, by omega⟩, cond_true, readR_s relA h]
        simp only [rel_take h]
        exact ih n' _ _ g3 (by push_cast at h1; omega) (by push_cast at h2; omega) (by simp only [List.length_append, List.length_cons, List.length_nil]; push_cast; omega)
theorem dcfg_out {R : Type} (m : Int) (k : V → Bx → Option R) (F : Nat) (L : List (List C)) (hF : L.length + 1 ≤ F) (v5 v6 v7 : Int) (v8 v9 : List (List C)) : ∀ (n n' : Nat) (s : PS) (out : List Nde), St8 L s → (L.length : Int) - s.at_ < n → (L.length : Int) - s.at_ < n' → (out.length : Int) + (L.length - s.at_) < 2000000 →
    d_config_L0 m (d_config_K0 m k F) F n L (ofP s).at_ (ofP s).op (ofP s).c v5 v6 v7 v8 v9 out =
      k (.tup [.agg (rM L (ofP (whG L (typA L) 2 n' s out).1)), .agg ⟨[.sl 2 (whG L (typA L) 2 n' s out).2], [], 1⟩]) [] := by
  intro n
  induction n with
  | zero => intro n' s out h h1; have := h.a1; omega
  | succ n ih =>
    intro n' s out h h1 h2 h3
    cases n' with
    | zero => have := h.a1; omega
    | succ n' =>
      have e0 : (⟨(ofP s).at_, (ofP s).op, (ofP s).c⟩ : RPS) = ofP s := rfl
      rw [d_config_r0, e0, okR_s h, kindR_s h, cond_true]
      unfold whG
      cases hk : kindG L s == 2 with
      | false => rw [cond_false, cond_false, d_config_c2, dup2']
      | true =>
        obtain ⟨_, hlt, _⟩ := kind_some (by decide) hk
        obtain ⟨g1, f1⟩ := gnext_ok h hlt
        obtain ⟨g2, f2⟩ := gtake_ok g1 (k := 1) (by decide)
        obtain ⟨g3, f3⟩ := gtake_ok g2 (k := 123) (by decide)
        obtain ⟨g4, f4⟩ := rels_good g3
        obtain ⟨g5, f5⟩ := gtake_ok g4 (k := 125) (by decide)
        have hlen := h.len
        have ha3 := g3.a0
        have e2 : (nextG s).at_ = s.at_ + 1 := rfl
        have e1 := (((f2.trans f3).trans f4).trans f5).a
        have ha1 := g5.a1
        rw [cond_true, cond_true, nextR_s h, okR_s g1, Bool.and_true, cond_true, takeR_s g1]
        simp only
        rw [okR_s g2, Bool.and_true, cond_true, takeR_s g2]
        simp only
        rw [dcfg_in m _ F L _ v5 v6 v7 v8 v9 out F (L.length + 1) _ [] g3 (by omega) (by push_cast; omega) (by simp only [List.length_nil]; push_cast; omega)]
        rw [← relsA_eq, d_config_c1]
        have e3 : (⟨(ofP (relsA L (takeG L 123 (takeG L 1 (nextG s)).1).1).1).at_, (ofP (relsA L (takeG L 123 (takeG L 1 (nextG s)).1).1).1).op, (ofP (relsA L (takeG L 123 (takeG L 1 (nextG s)).1).1).1).c⟩ : RPS) = ofP (relsA L (takeG L 123 (takeG L 1 (nextG s)).1).1).1 := rfl
        rw [e3, okR_s g4, Bool.and_true, cond_true, decide_eq_true ⟨by omega, by omega⟩, cond_true, takeR_s g4]
        simp only
        have et : typA L s = ((takeG L 125 (relsA L (takeG L 123 (takeG L 1 (nextG s)).1).1).1).1, [.str (takeG L 1 (nextG s)).2, .sl 6 (relsA L (takeG L 123 (takeG L 1 (nextG s)).1).1).2]) := by
          rw [typA_eq]; unfold typG; rw [take_next hk]
        rw [et]
        exact ih n' _ _ g5 (by push_cast at h1; omega) (by push_cast at h2; omega) (by simp only [List.length_append, List.length_cons, List.length_nil]; push_cast; omega)
theorem dcfg_run (m : Int) (L : List (List C)) (s : PS) (hs : St8 L s) (F : Nat) (hF : L.length + 1 ≤ F) :
    runFn (d_config_cf m) F Tryd.f52 (bd Tryd.f52) [V.t (T.agg { l := [C.sl (4 : Nat) L, C.int IntKind.i64 (ofP s).at_, C.int IntKind.i64 (ofP s).op, C.int IntKind.i64 (ofP s).c], lk := [], n := (4 : Nat) })] [] fin2 =
      some (.tup [.agg (rM L (ofP (cfgA L s).1)), .agg ⟨(cfgA L s).2, [], 1⟩], []) := by
  have ha := hs.a0
  have hlen := hs.len
  rw [d_config_start, dcfg_out m fin2 F L hF _ _ _ _ _ F (L.length + 1) s [] hs (by omega) (by push_cast; omega) (by simp only [List.length_nil]; push_cast; omega), cfgA_eq]
  rfl
theorem dcfg_ok (m : Int) : SpecOk Tryd.prog (globG m) 52 (rRdC 1 cfgA) :=
  rrdC_ok fun L s hs => specAtQ eqs_ok mix vti_ok Tryd.func52 rfl (by kernel_rfl) (.cons (drel_ok m) (tabRC_ok m)) (L.length + 1) (dcfg_run m L s hs (L.length + 1) (Nat.le_refl _))
end Go.Proofs.YtniiimpcakmkbaaDoor
