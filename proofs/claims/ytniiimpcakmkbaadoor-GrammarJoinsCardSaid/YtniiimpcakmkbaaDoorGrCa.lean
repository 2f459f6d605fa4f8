/- grammar: specs of a configuration's reading -/
import Derived.Test.YtniiimpcakmkbaaDoorGrE
import Derived.Test.YtniiimpcakmkbaaDoorGrA
set_option linter.unusedVariables false
namespace Go.Proofs.YtniiimpcakmkbaaDoor
open Go Vm
/-- one of a permission's kinds -/
def alG (L : List (List C)) : Rd := fun s =>
  bif kindG L (takeG L 1 s).1 == 35 then ((takeG L 1 (nextG (takeG L 1 s).1)).1, [.str (takeG L 1 s).2, .str (takeG L 1 (nextG (takeG L 1 s).1)).2, .bool false])
  else bif kindG L (takeG L 1 s).1 == 58 then ((takeG L 42 (nextG (takeG L 1 s).1)).1, [.str (takeG L 1 s).2, .str bE, .bool true])
  else ((takeG L 1 s).1, [.str (takeG L 1 s).2, .str bE, .bool false])
theorem rdEx (x : PS × Nde) : ∃ y : PS × Nde, y = x := ⟨_, rfl⟩
noncomputable def alA (L : List (List C)) (s : PS) : PS × Nde := Classical.choose (rdEx (alG L s))
theorem alA_eq (L : List (List C)) (s : PS) : alA L s = alG L s := Classical.choose_spec (rdEx (alG L s))
theorem rlEx (x : PS × List Nde) : ∃ y : PS × List Nde, y = x := ⟨_, rfl⟩
noncomputable def listAl (L : List (List C)) (s : PS) : PS × List Nde := Classical.choose (rlEx (listG L (alA L) 44 s))
theorem listAl_eq (L : List (List C)) (s : PS) : listAl L s = listG L (alA L) 44 s := Classical.choose_spec (rlEx (listG L (alA L) 44 s))
noncomputable def relE (L : List (List C)) (nm : ByteArray) (al : List (List C)) (s : PS) : PS × Nde :=
  ((takeG L 59 (unionA L (takeG L 61 s).1).1).1, [.str nm, .sl 3 al] ++ (unionA L (takeG L 61 s).1).2)
noncomputable def relG (L : List (List C)) : Rd := fun s =>
  bif kindG L (takeG L 1 (takeG L 3 s).1).1 == 91 then relE L (takeG L 1 (takeG L 3 s).1).2 (listAl L (nextG (takeG L 1 (takeG L 3 s).1).1)).2 (takeG L 93 (listAl L (nextG (takeG L 1 (takeG L 3 s).1).1)).1).1
  else relE L (takeG L 1 (takeG L 3 s).1).2 [] (takeG L 1 (takeG L 3 s).1).1
noncomputable def relA (L : List (List C)) (s : PS) : PS × Nde := Classical.choose (rdEx (relG L s))
theorem relA_eq (L : List (List C)) (s : PS) : relA L s = relG L s := Classical.choose_spec (rdEx (relG L s))
/-- as long as such a token stands there -/
def whG (L : List (List C)) (one : Rd) (k : Int) : Nat → PS → List Nde → PS × List Nde
  | 0, s, out => (s, out)
  | n + 1, s, out => bif kindG L s == k then whG L one k n (one s).1 (out ++ [(one s).2]) else (s, out)
noncomputable def relsA (L : List (List C)) (s : PS) : PS × List Nde := Classical.choose (rlEx (whG L (relA L) 3 (L.length + 1) s []))
theorem relsA_eq (L : List (List C)) (s : PS) : relsA L s = whG L (relA L) 3 (L.length + 1) s [] := Classical.choose_spec (rlEx (whG L (relA L) 3 (L.length + 1) s []))
noncomputable def typG (L : List (List C)) : Rd := fun s =>
  ((takeG L 125 (relsA L (takeG L 123 (takeG L 1 (takeG L 2 s).1).1).1).1).1, [.str (takeG L 1 (takeG L 2 s).1).2, .sl 6 (relsA L (takeG L 123 (takeG L 1 (takeG L 2 s).1).1).1).2])
noncomputable def typA (L : List (List C)) (s : PS) : PS × Nde := Classical.choose (rdEx (typG L s))
theorem typA_eq (L : List (List C)) (s : PS) : typA L s = typG L s := Classical.choose_spec (rdEx (typG L s))
noncomputable def cfgG (L : List (List C)) : Rd := fun s => ((whG L (typA L) 2 (L.length + 1) s []).1, [.sl 2 (whG L (typA L) 2 (L.length + 1) s []).2])
noncomputable def cfgA (L : List (List C)) (s : PS) : PS × Nde := Classical.choose (rdEx (cfgG L s))
theorem cfgA_eq (L : List (List C)) (s : PS) : cfgA L s = cfgG L s := Classical.choose_spec (rdEx (cfgG L s))
/-- a spec over the parser's state: a row of so many cells is read -/
noncomputable def rdC (w : Nat) (f : List (List C) → PS → PS × Nde) : List V → Bx → Tr
  | [.t (.w (.ptr 0 0))], [some (.cells ⟨[.sl 4 L, .int .i64 el, .int .i64 ec, .int .i64 a, .int .i64 o, .er e 172 gs], [], 6⟩)] =>
    .ite (stOk L ⟨a, o, e⟩ && gsOk gs) (.ret (.t (.agg ⟨(f L ⟨a, o, e⟩).2, [], w⟩)) [pB L el ec (f L ⟨a, o, e⟩).1]) .no
  | _, _ => .no
noncomputable def listAlS : List V → Bx → Tr
  | [.t (.w (.ptr 0 0)), .t (.w (.d (.int .i64 44))), .t (.w (.d (.fn 99 [])))], [some (.cells ⟨[.sl 4 L, .int .i64 el, .int .i64 ec, .int .i64 a, .int .i64 o, .er e 172 gs], [], 6⟩)] =>
    .ite (stOk L ⟨a, o, e⟩ && gsOk gs) (.ret (vc (.sl 3 (listAl L ⟨a, o, e⟩).2)) [pB L el ec (listAl L ⟨a, o, e⟩).1]) .no
  | _, _ => .no
noncomputable def orcC1 : FuncId → List V → Bx → Tr := orcOf tabGB
noncomputable def orcC2 : FuncId → List V → Bx → Tr := orcOf ((99, rdC 3 alA) :: tabGB)
noncomputable def orcC3 : FuncId → List V → Bx → Tr := orcOf ((98, listAlS) :: (46, rdS unionA 9) :: tabGB)
noncomputable def orcC4 : FuncId → List V → Bx → Tr := orcOf ((91, rdC 6 relA) :: tabGB)
noncomputable def orcC5 : FuncId → List V → Bx → Tr := orcOf ((74, rdC 2 typA) :: tabGB)
end Go.Proofs.YtniiimpcakmkbaaDoor

set_option linter.unusedVariables false
namespace Go.Proofs.YtniiimpcakmkbaaDoor
open Go Vm
noncomputable def c_allow_cf (m : Int) : Cfg := mkCfQ [25, 35] (globG m) vti orcC1 false [] []
theorem c_allow_start {R : Type} (m : Int) (k : V → Bx → Option R) (F : Nat) (L : List (List C)) (el : Int) (ec : Int) (a : Int) (o : Int) (e : Nat) : runFn (c_allow_cf m) F Tryd.f99 (bd Tryd.f99) [pp] [pB L el ec { at_ := a, op := o, er := e }] k =
    (bif stOk L { at_ := a, op := o, er := e } && true && true then
      (bif stOk L (takeG L (1 : Int) { at_ := a, op := o, er := e }).fst && true && true then
        (bif kindG L (takeG L (1 : Int) { at_ := a, op := o, er := e }).fst == (35 : Int) then
          (bif stOk L (mayG L (35 : Int) (takeG L (1 : Int) { at_ := a, op := o, er := e }).fst) && true && true then
            k (.t (.agg ⟨[(.str ((takeG L (1 : Int) { at_ := a, op := o, er := e }).snd)), (.str ((takeG L (1 : Int) (mayG L (35 : Int) (takeG L (1 : Int) { at_ := a, op := o, er := e }).fst)).snd)), (.bool false)], [], 3⟩)) [(some (.cells ⟨[(.sl 4 L), (.int .i64 el), (.int .i64 ec), (.int .i64 ((takeG L (1 : Int) (mayG L (35 : Int) (takeG L (1 : Int) { at_ := a, op := o, er := e }).fst)).fst.at_)), (.int .i64 ((takeG L (1 : Int) (mayG L (35 : Int) (takeG L (1 : Int) { at_ := a, op := o, er := e }).fst)).fst.op)), (.er ((takeG L (1 : Int) (mayG L (35 : Int) (takeG L (1 : Int) { at_ := a, op := o, er := e }).fst)).fst.er) 172 [0, 1])], [], 6⟩))]
          else none)
        else (bif stOk L (mayG L (35 : Int) (takeG L (1 : Int) { at_ := a, op := o, er := e }).fst) && true && true then
            (bif kindG L (mayG L (35 : Int) (takeG L (1 : Int) { at_ := a, op := o, er := e }).fst) == (58 : Int) then
              (bif stOk L (mayG L (58 : Int) (mayG L (35 : Int) (takeG L (1 : Int) { at_ := a, op := o, er := e }).fst)) && true && true then
                k (.t (.agg ⟨[(.str ((takeG L (1 : Int) { at_ := a, op := o, er := e }).snd)), (.str ByteArray.empty), (.bool true)], [], 3⟩)) [(some (.cells ⟨[(.sl 4 L), (.int .i64 el), (.int .i64 ec), (.int .i64 ((takeG L (42 : Int) (mayG L (58 : Int) (mayG L (35 : Int) (takeG L (1 : Int) { at_ := a, op := o, er := e }).fst))).fst.at_)), (.int .i64 ((takeG L (42 : Int) (mayG L (58 : Int) (mayG L (35 : Int) (takeG L (1 : Int) { at_ := a, op := o, er := e }).fst))).fst.op)), (.er ((takeG L (42 : Int) (mayG L (58 : Int) (mayG L (35 : Int) (takeG L (1 : Int) { at_ := a, op := o, er := e }).fst))).fst.er) 172 [0, 1])], [], 6⟩))]
              else none)
            else k (.t (.agg ⟨[(.str ((takeG L (1 : Int) { at_ := a, op := o, er := e }).snd)), (.str ByteArray.empty), (.bool false)], [], 3⟩)) [(some (.cells ⟨[(.sl 4 L), (.int .i64 el), (.int .i64 ec), (.int .i64 ((mayG L (58 : Int) (mayG L (35 : Int) (takeG L (1 : Int) { at_ := a, op := o, er := e }).fst)).at_)), (.int .i64 ((mayG L (58 : Int) (mayG L (35 : Int) (takeG L (1 : Int) { at_ := a, op := o, er := e }).fst)).op)), (.er ((mayG L (58 : Int) (mayG L (35 : Int) (takeG L (1 : Int) { at_ := a, op := o, er := e }).fst)).er) 172 [0, 1])], [], 6⟩))])
          else none))
      else none)
    else none) := by kernel_rfl
noncomputable def c_list_cf (m : Int) : Cfg := mkCfQ [25, 35] (globG m) vti orcC2 false [] [(2, 135), (999, 64), (1000, 128)]
noncomputable def c_list_m0 : List Bool := [true, true, true, false, false, false, false, true, false, false, false, false, false, false, false, false, false, false, false, false, false, false]
noncomputable def c_list_b0 : Code := (cA (cA (cA (cB (cB (bd Tryd.f98))))))
noncomputable def c_list_S0 (v1 : Int) (v2 : Int) (v3 : Nat) (L4 : List (List C)) (el5 : Int) (ec6 : Int) (v7 : List (List C)) (v8 : Int) : St := { env := [(.t (.w (.ptr 0 0))), (vi v8), (vc (.fn 99 [])), vu, vu, vu, vu, (.t (.w (.arr 1))), vu, vu, vu, vu, vu, vu, vu, vu, vu, vu, vu, vu, vu, vu], bx := [(some (.cells ⟨[(.sl 4 L4), (.int .i64 el5), (.int .i64 ec6), (.int .i64 v1), (.int .i64 v2), (.er v3 172 [0, 1])], [], 6⟩)), (some (.arr true (some 72) 3 v7))], np := 1 }
noncomputable def c_list_L0 {R : Type} (m : Int) (K : X → St → Option R) (F n : Nat) (v1 : Int) (v2 : Int) (v3 : Nat) (L4 : List (List C)) (el5 : Int) (ec6 : Int) (v7 : List (List C)) (v8 : Int) : Option R := loopV (headM c_list_m0) (exec (c_list_cf m) F c_list_b0) (exitK (c_list_cf m) K) n (c_list_S0 v1 v2 v3 L4 el5 ec6 v7 v8)
noncomputable def c_list_K0 {R : Type} (m : Int) (k : V → Bx → Option R) (F : Nat) : X → St → Option R := (blockK 0 (seqK (c_list_cf m) F (cB (cB (cB (bd Tryd.f98)))) (finK (c_list_cf m) Tryd.f98 k)))
noncomputable def c_list_E1 (v1 : Int) (v2 : Int) (v3 : Nat) (L4 : List (List C)) (el5 : Int) (ec6 : Int) (v7 : List (List C)) (v8 : Int) : St := { env := [vu, vu, vu, vu, vu, vu, vu, (.t (.w (.arr 1))), vu, vu, vu, vu, vu, vu, vu, vu, vu, vu, vu, vu, vu, vu], bx := [(some (.cells ⟨[(.sl 4 L4), (.int .i64 el5), (.int .i64 ec6), (.int .i64 ((mayG L4 v8 { at_ := v1, op := v2, er := v3 }).at_)), (.int .i64 ((mayG L4 v8 { at_ := v1, op := v2, er := v3 }).op)), (.er ((mayG L4 v8 { at_ := v1, op := v2, er := v3 }).er) 172 [0, 1])], [], 6⟩)), (some (.arr true (some 72) 3 v7))], np := 1 }
theorem c_list_c1 {R : Type} (m : Int) (k : V → Bx → Option R) (F : Nat) (v1 : Int) (v2 : Int) (v3 : Nat) (L4 : List (List C)) (el5 : Int) (ec6 : Int) (v7 : List (List C)) (v8 : Int) : c_list_K0 m k F (.ex 0) (c_list_E1 v1 v2 v3 L4 el5 ec6 v7 v8) =
    k (vc (.sl 3 v7)) [(some (.cells ⟨[(.sl 4 L4), (.int .i64 el5), (.int .i64 ec6), (.int .i64 ((mayG L4 v8 { at_ := v1, op := v2, er := v3 }).at_)), (.int .i64 ((mayG L4 v8 { at_ := v1, op := v2, er := v3 }).op)), (.er ((mayG L4 v8 { at_ := v1, op := v2, er := v3 }).er) 172 [0, 1])], [], 6⟩))] := by kernel_rfl
theorem c_list_r0 {R : Type} (m : Int) (K : X → St → Option R) (F n : Nat) (v1 : Int) (v2 : Int) (v3 : Nat) (L4 : List (List C)) (el5 : Int) (ec6 : Int) (v7 : List (List C)) (v8 : Int) : c_list_L0 m K F (n + 1) v1 v2 v3 L4 el5 ec6 v7 v8 =
    (bif stOk L4 { at_ := v1, op := v2, er := v3 } && true && decide (v8 ≠ (0 : Int)) then
      (bif kindG L4 { at_ := v1, op := v2, er := v3 } == v8 then
        (bif stOk L4 (mayG L4 v8 { at_ := v1, op := v2, er := v3 }) && true then
          (bif decide ((v7.length + (1 : Nat)) * (40 : Nat) ≤ (140737488355328 : Nat) ∧ v7.length + (1 : Nat) ≤ (9223372036854775807 : Nat)) then
            c_list_L0 m K F n ((alA L4 (mayG L4 v8 { at_ := v1, op := v2, er := v3 })).fst.at_) ((alA L4 (mayG L4 v8 { at_ := v1, op := v2, er := v3 })).fst.op) ((alA L4 (mayG L4 v8 { at_ := v1, op := v2, er := v3 })).fst.er) L4 el5 ec6 (v7 ++ [(alA L4 (mayG L4 v8 { at_ := v1, op := v2, er := v3 })).snd]) v8
          else none)
        else none)
      else K (.ex 0) (c_list_E1 v1 v2 v3 L4 el5 ec6 v7 v8))
    else none) := by kernel_rfl
theorem c_list_start {R : Type} (m : Int) (k : V → Bx → Option R) (F : Nat) (L : List (List C)) (el : Int) (ec : Int) (a : Int) (o : Int) (e : Nat) : runFn (c_list_cf m) F Tryd.f98 (bd Tryd.f98) [pp, vi (44 : Int), vc (C.fn (99 : FuncId) [])] [pB L el ec { at_ := a, op := o, er := e }] k =
    (bif stOk L { at_ := a, op := o, er := e } && true then
      c_list_L0 m (c_list_K0 m k F) F F ((alA L { at_ := a, op := o, er := e }).fst.at_) ((alA L { at_ := a, op := o, er := e }).fst.op) ((alA L { at_ := a, op := o, er := e }).fst.er) L el ec [((alA L { at_ := a, op := o, er := e }).snd)] 44
    else none) := by kernel_rfl
noncomputable def c_rel_cf (m : Int) : Cfg := mkCfQ [25, 35] (globG m) vti orcC3 false [] []
theorem c_rel_start {R : Type} (m : Int) (k : V → Bx → Option R) (F : Nat) (L : List (List C)) (el : Int) (ec : Int) (a : Int) (o : Int) (e : Nat) : runFn (c_rel_cf m) F Tryd.f91 (bd Tryd.f91) [pp] [pB L el ec { at_ := a, op := o, er := e }] k =
    (bif stOk L { at_ := a, op := o, er := e } && true && true then
      (bif stOk L (takeG L (3 : Int) { at_ := a, op := o, er := e }).fst && true && true then
        (bif stOk L (takeG L (1 : Int) (takeG L (3 : Int) { at_ := a, op := o, er := e }).fst).fst && true && true then
          (bif kindG L (takeG L (1 : Int) (takeG L (3 : Int) { at_ := a, op := o, er := e }).fst).fst == (91 : Int) then
            (bif stOk L (mayG L (91 : Int) (takeG L (1 : Int) (takeG L (3 : Int) { at_ := a, op := o, er := e }).fst).fst) && true then
              (bif stOk L (listAl L (mayG L (91 : Int) (takeG L (1 : Int) (takeG L (3 : Int) { at_ := a, op := o, er := e }).fst).fst)).fst && true && true then
                (bif stOk L (takeG L (93 : Int) (listAl L (mayG L (91 : Int) (takeG L (1 : Int) (takeG L (3 : Int) { at_ := a, op := o, er := e }).fst).fst)).fst).fst && true && true then
                  (bif stOk L (takeG L (61 : Int) (takeG L (93 : Int) (listAl L (mayG L (91 : Int) (takeG L (1 : Int) (takeG L (3 : Int) { at_ := a, op := o, er := e }).fst).fst)).fst).fst).fst && true && decide (lvl (takeG L (61 : Int) (takeG L (93 : Int) (listAl L (mayG L (91 : Int) (takeG L (1 : Int) (takeG L (3 : Int) { at_ := a, op := o, er := e }).fst).fst)).fst).fst).fst < (9 : Nat)) then
                    (bif stOk L (unionA L (takeG L (61 : Int) (takeG L (93 : Int) (listAl L (mayG L (91 : Int) (takeG L (1 : Int) (takeG L (3 : Int) { at_ := a, op := o, er := e }).fst).fst)).fst).fst).fst).fst && true && true then
                      k (.t (.agg ⟨((.str ((takeG L (1 : Int) (takeG L (3 : Int) { at_ := a, op := o, er := e }).fst).snd)) :: (.sl 3 ((listAl L (mayG L (91 : Int) (takeG L (1 : Int) (takeG L (3 : Int) { at_ := a, op := o, er := e }).fst).fst)).snd)) :: (List.take (4 : Nat) (List.take (4 : Nat) ((unionA L (takeG L (61 : Int) (takeG L (93 : Int) (listAl L (mayG L (91 : Int) (takeG L (1 : Int) (takeG L (3 : Int) { at_ := a, op := o, er := e }).fst).fst)).fst).fst).fst).snd ++ []) ++ []))), [], 6⟩)) [(some (.cells ⟨[(.sl 4 L), (.int .i64 el), (.int .i64 ec), (.int .i64 ((takeG L (59 : Int) (unionA L (takeG L (61 : Int) (takeG L (93 : Int) (listAl L (mayG L (91 : Int) (takeG L (1 : Int) (takeG L (3 : Int) { at_ := a, op := o, er := e }).fst).fst)).fst).fst).fst).fst).fst.at_)), (.int .i64 ((takeG L (59 : Int) (unionA L (takeG L (61 : Int) (takeG L (93 : Int) (listAl L (mayG L (91 : Int) (takeG L (1 : Int) (takeG L (3 : Int) { at_ := a, op := o, er := e }).fst).fst)).fst).fst).fst).fst).fst.op)), (.er ((takeG L (59 : Int) (unionA L (takeG L (61 : Int) (takeG L (93 : Int) (listAl L (mayG L (91 : Int) (takeG L (1 : Int) (takeG L (3 : Int) { at_ := a, op := o, er := e }).fst).fst)).fst).fst).fst).fst).fst.er) 172 [0, 1])], [], 6⟩))]
                    else none)
                  else none)
                else none)
              else none)
            else none)
          else (bif stOk L (mayG L (91 : Int) (takeG L (1 : Int) (takeG L (3 : Int) { at_ := a, op := o, er := e }).fst).fst) && true && true then
              (bif stOk L (takeG L (61 : Int) (mayG L (91 : Int) (takeG L (1 : Int) (takeG L (3 : Int) { at_ := a, op := o, er := e }).fst).fst)).fst && true && decide (lvl (takeG L (61 : Int) (mayG L (91 : Int) (takeG L (1 : Int) (takeG L (3 : Int) { at_ := a, op := o, er := e }).fst).fst)).fst < (9 : Nat)) then
                (bif stOk L (unionA L (takeG L (61 : Int) (mayG L (91 : Int) (takeG L (1 : Int) (takeG L (3 : Int) { at_ := a, op := o, er := e }).fst).fst)).fst).fst && true && true then
                  k (.t (.agg ⟨((.str ((takeG L (1 : Int) (takeG L (3 : Int) { at_ := a, op := o, er := e }).fst).snd)) :: (.sl 3 []) :: (List.take (4 : Nat) (List.take (4 : Nat) ((unionA L (takeG L (61 : Int) (mayG L (91 : Int) (takeG L (1 : Int) (takeG L (3 : Int) { at_ := a, op := o, er := e }).fst).fst)).fst).snd ++ []) ++ []))), [], 6⟩)) [(some (.cells ⟨[(.sl 4 L), (.int .i64 el), (.int .i64 ec), (.int .i64 ((takeG L (59 : Int) (unionA L (takeG L (61 : Int) (mayG L (91 : Int) (takeG L (1 : Int) (takeG L (3 : Int) { at_ := a, op := o, er := e }).fst).fst)).fst).fst).fst.at_)), (.int .i64 ((takeG L (59 : Int) (unionA L (takeG L (61 : Int) (mayG L (91 : Int) (takeG L (1 : Int) (takeG L (3 : Int) { at_ := a, op := o, er := e }).fst).fst)).fst).fst).fst.op)), (.er ((takeG L (59 : Int) (unionA L (takeG L (61 : Int) (mayG L (91 : Int) (takeG L (1 : Int) (takeG L (3 : Int) { at_ := a, op := o, er := e }).fst).fst)).fst).fst).fst.er) 172 [0, 1])], [], 6⟩))]
                else none)
              else none)
            else none))
        else none)
      else none)
    else none) := by kernel_rfl
noncomputable def c_typ_cf (m : Int) : Cfg := mkCfQ [25, 35] (globG m) vti orcC4 false [17] [(4, 13), (999, 4), (1000, 13)]
noncomputable def c_typ_m0 : List Bool := [true, false, true, true, false, false, false, false, false, false, false, false, false, false, false, false, false, false, false, false, false, false, false, false]
noncomputable def c_typ_b0 : Code := (cA (cA (cA (cB (cB (cB (cB (bd Tryd.f74))))))))
noncomputable def c_typ_S0 (v1 : Int) (v2 : Int) (v3 : Nat) (v4 : ByteArray) (L5 : List (List C)) (el6 : Int) (ec7 : Int) (v8 : ByteArray) (v9 : List (List C)) (v10 : List (List C)) : St := { env := [(.t (.w (.ptr 0 0))), vu, (.t (.w (.ptr 1 0))), (.t (.w (.ptr 2 0))), vu, vu, vu, vu, vu, vu, vu, vu, vu, vu, vu, vu, vu, vu, vu, vu, vu, vu, vu, vu], bx := [(some (.cells ⟨[(.sl 4 L5), (.int .i64 el6), (.int .i64 ec7), (.int .i64 v1), (.int .i64 v2), (.er v3 172 [0, 1])], [], 6⟩)), (some (.cells ⟨[(.str v8), .nf], [(1, (.arr 3))], 2⟩)), (some (.cells ⟨[(.str v4), .nf], [(1, (.arr 4))], 2⟩)), (some (.arr true (some 70) 6 v9)), (some (.arr true (some 70) 6 v10))], np := 1 }
noncomputable def c_typ_L0 {R : Type} (m : Int) (K : X → St → Option R) (F n : Nat) (v1 : Int) (v2 : Int) (v3 : Nat) (v4 : ByteArray) (L5 : List (List C)) (el6 : Int) (ec7 : Int) (v8 : ByteArray) (v9 : List (List C)) (v10 : List (List C)) : Option R := loopV (headM c_typ_m0) (exec (c_typ_cf m) F c_typ_b0) (exitK (c_typ_cf m) K) n (c_typ_S0 v1 v2 v3 v4 L5 el6 ec7 v8 v9 v10)
noncomputable def c_typ_K0 {R : Type} (m : Int) (k : V → Bx → Option R) (F : Nat) : X → St → Option R := (blockK 0 (seqK (c_typ_cf m) F (cB (cB (cB (cB (cB (bd Tryd.f74)))))) (finK (c_typ_cf m) Tryd.f74 k)))
noncomputable def c_typ_E1 (v1 : Int) (v2 : Int) (v3 : Nat) (v4 : ByteArray) (L5 : List (List C)) (el6 : Int) (ec7 : Int) (v8 : ByteArray) (v9 : List (List C)) (v10 : List (List C)) : St := { env := [(.t (.w (.ptr 0 0))), vu, (.t (.w (.ptr 1 0))), (.t (.w (.ptr 2 0))), vu, vu, vu, vu, vu, vu, vu, vu, vu, vu, vu, vu, vu, vu, vu, vu, vu, vu, vu, vu], bx := [(some (.cells ⟨[(.sl 4 L5), (.int .i64 el6), (.int .i64 ec7), (.int .i64 v1), (.int .i64 v2), (.er v3 172 [0, 1])], [], 6⟩)), (some (.cells ⟨[(.str v8), .nf], [(1, (.arr 3))], 2⟩)), (some (.cells ⟨[(.str v4), .nf], [(1, (.arr 4))], 2⟩)), (some (.arr true (some 70) 6 v9)), (some (.arr true (some 70) 6 v10))], np := 1 }
theorem c_typ_c1 {R : Type} (m : Int) (k : V → Bx → Option R) (F : Nat) (v1 : Int) (v2 : Int) (v3 : Nat) (v4 : ByteArray) (L5 : List (List C)) (el6 : Int) (ec7 : Int) (v8 : ByteArray) (v9 : List (List C)) (v10 : List (List C)) : c_typ_K0 m k F (.ex 0) (c_typ_E1 v1 v2 v3 v4 L5 el6 ec7 v8 v9 v10) =
    (bif stOk L5 { at_ := v1, op := v2, er := v3 } && true && true then
      k (.t (.agg ⟨[(.str v4), (.sl 6 v10)], [], 2⟩)) [(some (.cells ⟨[(.sl 4 L5), (.int .i64 el6), (.int .i64 ec7), (.int .i64 ((takeG L5 (125 : Int) { at_ := v1, op := v2, er := v3 }).fst.at_)), (.int .i64 ((takeG L5 (125 : Int) { at_ := v1, op := v2, er := v3 }).fst.op)), (.er ((takeG L5 (125 : Int) { at_ := v1, op := v2, er := v3 }).fst.er) 172 [0, 1])], [], 6⟩))]
    else none) := by kernel_rfl
theorem c_typ_r0 {R : Type} (m : Int) (K : X → St → Option R) (F n : Nat) (v1 : Int) (v2 : Int) (v3 : Nat) (v4 : ByteArray) (L5 : List (List C)) (el6 : Int) (ec7 : Int) (v8 : ByteArray) (v9 : List (List C)) (v10 : List (List C)) : c_typ_L0 m K F (n + 1) v1 v2 v3 v4 L5 el6 ec7 v8 v9 v10 =
    (bif stOk L5 { at_ := v1, op := v2, er := v3 } && true then
      (bif kindG L5 { at_ := v1, op := v2, er := v3 } == (3 : Int) then
        dup 2 ((bif stOk L5 { at_ := v1, op := v2, er := v3 } && true then
          (bif decide ((v10.length + (1 : Nat)) * (104 : Nat) ≤ (140737488355328 : Nat) ∧ v10.length + (1 : Nat) ≤ (9223372036854775807 : Nat)) then
            c_typ_L0 m K F n ((relA L5 { at_ := v1, op := v2, er := v3 }).fst.at_) ((relA L5 { at_ := v1, op := v2, er := v3 }).fst.op) ((relA L5 { at_ := v1, op := v2, er := v3 }).fst.er) v4 L5 el6 ec7 v8 v9 (v10 ++ [(relA L5 { at_ := v1, op := v2, er := v3 }).snd])
          else none)
        else none))
      else K (.ex 0) (c_typ_E1 v1 v2 v3 v4 L5 el6 ec7 v8 v9 v10))
    else none) := by kernel_rfl
theorem c_typ_start {R : Type} (m : Int) (k : V → Bx → Option R) (F : Nat) (L : List (List C)) (el : Int) (ec : Int) (a : Int) (o : Int) (e : Nat) : runFn (c_typ_cf m) F Tryd.f74 (bd Tryd.f74) [pp] [pB L el ec { at_ := a, op := o, er := e }] k =
    (bif stOk L { at_ := a, op := o, er := e } && true && true then
      (bif stOk L (takeG L (2 : Int) { at_ := a, op := o, er := e }).fst && true && true then
        (bif stOk L (takeG L (1 : Int) (takeG L (2 : Int) { at_ := a, op := o, er := e }).fst).fst && true && true then
          c_typ_L0 m (c_typ_K0 m k F) F F ((takeG L (123 : Int) (takeG L (1 : Int) (takeG L (2 : Int) { at_ := a, op := o, er := e }).fst).fst).fst.at_) ((takeG L (123 : Int) (takeG L (1 : Int) (takeG L (2 : Int) { at_ := a, op := o, er := e }).fst).fst).fst.op) ((takeG L (123 : Int) (takeG L (1 : Int) (takeG L (2 : Int) { at_ := a, op := o, er := e }).fst).fst).fst.er) ((takeG L (1 : Int) (takeG L (2 : Int) { at_ := a, op := o, er := e }).fst).snd) L el ec ByteArray.empty [] []
        else none)
      else none)
    else none) := by kernel_rfl
noncomputable def c_config_cf (m : Int) : Cfg := mkCfQ [25, 35] (globG m) vti orcC5 false [10] [(2, 13), (999, 4), (1000, 12)]
noncomputable def c_config_m0 : List Bool := [true, false, true, true, false, false, false, false, false, false, false, false, false, false, false]
noncomputable def c_config_b0 : Code := (cA (cA (cA (cB (cB (bd Tryd.f51))))))
noncomputable def c_config_S0 (L1 : List (List C)) (el2 : Int) (ec3 : Int) (a4 : Int) (o5 : Int) (v6 : List (List C)) (v7 : List (List C)) (e8 : Nat) : St := { env := [(.t (.w (.ptr 0 0))), vu, (.t (.w (.ptr 1 0))), (.t (.w (.ptr 2 0))), vu, vu, vu, vu, vu, vu, vu, vu, vu, vu, vu], bx := [(some (.cells ⟨[(.sl 4 L1), (.int .i64 el2), (.int .i64 ec3), (.int .i64 a4), (.int .i64 o5), (.er e8 172 [0, 1])], [], 6⟩)), (some (.cells ⟨[.nf], [(0, (.arr 3))], 1⟩)), (some (.cells ⟨[.nf], [(0, (.arr 4))], 1⟩)), (some (.arr true (some 67) 2 v6)), (some (.arr true (some 67) 2 v7))], np := 1 }
noncomputable def c_config_L0 {R : Type} (m : Int) (K : X → St → Option R) (F n : Nat) (L1 : List (List C)) (el2 : Int) (ec3 : Int) (a4 : Int) (o5 : Int) (v6 : List (List C)) (v7 : List (List C)) (e8 : Nat) : Option R := loopV (headM c_config_m0) (exec (c_config_cf m) F c_config_b0) (exitK (c_config_cf m) K) n (c_config_S0 L1 el2 ec3 a4 o5 v6 v7 e8)
noncomputable def c_config_K0 {R : Type} (m : Int) (k : V → Bx → Option R) (F : Nat) : X → St → Option R := (blockK 0 (seqK (c_config_cf m) F (cB (cB (cB (bd Tryd.f51)))) (finK (c_config_cf m) Tryd.f51 k)))
noncomputable def c_config_E1 (L1 : List (List C)) (el2 : Int) (ec3 : Int) (a4 : Int) (o5 : Int) (v6 : List (List C)) (v7 : List (List C)) (e8 : Nat) : St := { env := [vu, vu, (.t (.w (.ptr 1 0))), (.t (.w (.ptr 2 0))), vu, vu, vu, vu, vu, vu, vu, vu, vu, vu, vu], bx := [(some (.cells ⟨[(.sl 4 L1), (.int .i64 el2), (.int .i64 ec3), (.int .i64 a4), (.int .i64 o5), (.er e8 172 [0, 1])], [], 6⟩)), (some (.cells ⟨[.nf], [(0, (.arr 3))], 1⟩)), (some (.cells ⟨[.nf], [(0, (.arr 4))], 1⟩)), (some (.arr true (some 67) 2 v6)), (some (.arr true (some 67) 2 v7))], np := 1 }
theorem c_config_c1 {R : Type} (m : Int) (k : V → Bx → Option R) (F : Nat) (L1 : List (List C)) (el2 : Int) (ec3 : Int) (a4 : Int) (o5 : Int) (v6 : List (List C)) (v7 : List (List C)) (e8 : Nat) : c_config_K0 m k F (.ex 0) (c_config_E1 L1 el2 ec3 a4 o5 v6 v7 e8) =
    k (.t (.agg ⟨[(.sl 2 v7)], [], 1⟩)) [(some (.cells ⟨[(.sl 4 L1), (.int .i64 el2), (.int .i64 ec3), (.int .i64 a4), (.int .i64 o5), (.er e8 172 [0, 1])], [], 6⟩))] := by kernel_rfl
theorem c_config_r0 {R : Type} (m : Int) (K : X → St → Option R) (F n : Nat) (L1 : List (List C)) (el2 : Int) (ec3 : Int) (a4 : Int) (o5 : Int) (v6 : List (List C)) (v7 : List (List C)) (e8 : Nat) : c_config_L0 m K F (n + 1) L1 el2 ec3 a4 o5 v6 v7 e8 =
    (bif stOk L1 { at_ := a4, op := o5, er := e8 } && true then
      (bif kindG L1 { at_ := a4, op := o5, er := e8 } == (2 : Int) then
        dup 2 ((bif stOk L1 { at_ := a4, op := o5, er := e8 } && true then
          (bif decide ((v7.length + (1 : Nat)) * (40 : Nat) ≤ (140737488355328 : Nat) ∧ v7.length + (1 : Nat) ≤ (9223372036854775807 : Nat)) then
            c_config_L0 m K F n L1 el2 ec3 ((typA L1 { at_ := a4, op := o5, er := e8 }).fst.at_) ((typA L1 { at_ := a4, op := o5, er := e8 }).fst.op) v6 (v7 ++ [(typA L1 { at_ := a4, op := o5, er := e8 }).snd]) ((typA L1 { at_ := a4, op := o5, er := e8 }).fst.er)
          else none)
        else none))
      else K (.ex 0) (c_config_E1 L1 el2 ec3 a4 o5 v6 v7 e8))
    else none) := by kernel_rfl
theorem c_config_start {R : Type} (m : Int) (k : V → Bx → Option R) (F : Nat) (L : List (List C)) (el : Int) (ec : Int) (a : Int) (o : Int) (e : Nat) : runFn (c_config_cf m) F Tryd.f51 (bd Tryd.f51) [pp] [pB L el ec { at_ := a, op := o, er := e }] k =
    c_config_L0 m (c_config_K0 m k F) F F L el ec a o [] [] e := by kernel_rfl
end Go.Proofs.YtniiimpcakmkbaaDoor

/- grammar: a configuration's reading answers by its trees -/
set_option linter.unusedVariables false
namespace Go.Proofs.YtniiimpcakmkbaaDoor
open Go Vm
theorem rdC_ok {m : Int} {fn : FuncId} {w : Nat} {f : List (List C) → PS → PS × Nde}
    (h : ∀ (L : List (List C)) (el ec a o : Int) (e : Nat), St8 L ⟨a, o, e⟩ → FnRes Tryd.prog (globG m) fn [pp] [pB L el ec ⟨a, o, e⟩] (.t (.agg ⟨(f L ⟨a, o, e⟩).2, [], w⟩)) [pB L el ec (f L ⟨a, o, e⟩).1]) : SpecOk Tryd.prog (globG m) fn (rdC w f) := by
  intro a b v b' hr
  unfold rdC at hr
  split at hr
  · rename_i L el ec a o e gs
    rcases run_ite hr with ⟨hl, hx⟩ | ⟨_, hx⟩ <;> clear hr <;> have hr := hx <;> clear hx
    · rw [Bool.and_eq_true, stOk_iff] at hl
      obtain ⟨hs, hg⟩ := hl
      obtain rfl := gs_eq hg
      obtain ⟨rfl, rfl⟩ := run_ret hr
      exact h L el ec a o e hs
    · exact (run_no hr).elim
  · cases hr
/-- what a permission's reading is -/
theorem al_good {L : List (List C)} {s : PS} (h : St8 L s) : St8 L (alA L s).1 ∧ Fol s (alA L s).1 := by
  rw [alA_eq]
  unfold alG
  obtain ⟨h1, f1⟩ := gtake_ok h (k := 1) (by decide)
  cases h35 : kindG L (takeG L 1 s).1 == 35 with
  | true =>
    obtain ⟨h2, f2⟩ := gnext_ok h1 (kind_some (by decide) h35).2.1
    obtain ⟨h3, f3⟩ := gtake_ok h2 (k := 1) (by decide)
    exact ⟨h3, (f1.trans f2).trans f3⟩
  | false =>
    cases h58 : kindG L (takeG L 1 s).1 == 58 with
    | true =>
      obtain ⟨h2, f2⟩ := gnext_ok h1 (kind_some (by decide) h58).2.1
      obtain ⟨h3, f3⟩ := gtake_ok h2 (k := 42) (by decide)
      exact ⟨h3, (f1.trans f2).trans f3⟩
    | false => exact ⟨h1, f1⟩
theorem callow_ok (m : Int) : SpecOk Tryd.prog (globG m) 99 (rdC 3 alA) := by
  refine rdC_ok fun L el ec a o e hs => ?_
  refine specAtQ eqs_ok mix vti_ok Tryd.func99 rfl (by kernel_rfl) (tabGB_ok m) 0 (Eq.trans (c_allow_start m fin2 0 L el ec a o e) ?_)
  obtain ⟨h1, f1⟩ := gtake_ok hs (k := 1) (by decide)
  rw [alA_eq]
  unfold alG
  simp only [Bool.and_true]
  rw [st_t hs, cond_true, st_t h1, cond_true]
  cases h35 : kindG L (takeG L 1 ⟨a, o, e⟩).1 == 35 with
  | true =>
    obtain ⟨h2, f2⟩ := gnext_ok h1 (kind_some (by decide) h35).2.1
    rw [cond_true, cond_true, may_yes h35, st_t h2, cond_true]
  | false =>
    rw [cond_false, cond_false, may_no h35, st_t h1, cond_true]
    cases h58 : kindG L (takeG L 1 ⟨a, o, e⟩).1 == 58 with
    | true =>
      obtain ⟨h2, f2⟩ := gnext_ok h1 (kind_some (by decide) h58).2.1
      rw [cond_true, cond_true, may_yes h58, st_t h2, cond_true]; rfl
    | false => rw [cond_false, cond_false, may_no h58]; rfl
theorem clist_loop {R : Type} (m : Int) (k : V → Bx → Option R) (F : Nat) (L : List (List C)) (el ec : Int) : ∀ (n n' : Nat) (s : PS) (out : List Nde), St8 L s → (L.length : Int) - s.at_ < n → (L.length : Int) - s.at_ < n' → (out.length : Int) + (L.length - s.at_) < 2000000 →
    c_list_L0 m (c_list_K0 m k F) F n s.at_ s.op s.er L el ec out 44 = k (vc (.sl 3 (moreG L (alA L) 44 n' s out).2)) [pB L el ec (moreG L (alA L) 44 n' s out).1] := by
  intro n
  induction n with
  | zero => intro n' s out h h1; have := h.a1; omega
  | succ n ih =>
    intro n' s out h h1 h2 h3
    cases n' with
    | zero => have := h.a1; omega
    | succ n' =>
      rw [c_list_r0]
      simp only [PS.eta, Bool.and_true]
      unfold moreG
      have d44 : decide ((44 : Int) ≠ 0) = true := rfl
      rw [st_t h, Bool.true_and, d44, cond_true]
      cases hk : kindG L s == 44 with
      | false => rw [cond_false, cond_false, c_list_c1]; simp only [PS.eta, may_no hk]
      | true =>
        obtain ⟨_, hlt, _⟩ := kind_some (by decide) hk
        obtain ⟨g2, f2⟩ := gnext_ok h hlt
        obtain ⟨g3, f3⟩ := al_good g2
        have e1 := f3.a
        have e2 : (nextG s).at_ = s.at_ + 1 := rfl
        have ha1 := g3.a1
        rw [cond_true, cond_true, may_yes hk, st_t g2, cond_true, decide_eq_true ⟨by omega, by omega⟩, cond_true]
        exact ih n' _ _ g3 (by push_cast at h1; omega) (by push_cast at h2; omega) (by simp only [List.length_append, List.length_cons, List.length_nil]; push_cast; omega)
theorem listAl_good {L : List (List C)} {s : PS} (h : St8 L s) : St8 L (listAl L s).1 ∧ Fol s (listAl L s).1 := by
  rw [listAl_eq]
  have more : ∀ (n : Nat) (s : PS) (out : List Nde), St8 L s → St8 L (moreG L (alA L) 44 n s out).1 ∧ Fol s (moreG L (alA L) 44 n s out).1 := by
    intro n
    induction n with
    | zero => intro s out h; exact ⟨h, Fol.refl s⟩
    | succ n ih =>
      intro s out h
      unfold moreG
      cases hk : kindG L s == 44 with
      | true =>
        obtain ⟨_, hlt, _⟩ := kind_some (by decide) hk
        obtain ⟨g2, f2⟩ := gnext_ok h hlt
        obtain ⟨g3, f3⟩ := al_good g2
        obtain ⟨g4, f4⟩ := ih _ (out ++ [(alA L (nextG s)).2]) g3
        exact ⟨g4, (f2.trans f3).trans f4⟩
      | false => exact ⟨h, Fol.refl s⟩
  obtain ⟨g1, f1⟩ := al_good h
  obtain ⟨g2, f2⟩ := more (L.length + 1) (alA L s).1 [(alA L s).2] g1
  exact ⟨g2, f1.trans f2⟩
theorem clist_ok (m : Int) : SpecOk Tryd.prog (globG m) 98 listAlS := by
  intro a b v b' h
  unfold listAlS at h
  split at h
  · rename_i L el ec a o e gs
    rcases run_ite h with ⟨hl, hx⟩ | ⟨_, hx⟩ <;> clear h <;> have h := hx <;> clear hx
    · rw [Bool.and_eq_true, stOk_iff] at hl
      obtain ⟨hs, hg⟩ := hl
      obtain rfl := gs_eq hg
      obtain ⟨rfl, rfl⟩ := run_ret h
      refine specAtQ eqs_ok mix vti_ok Tryd.func98 rfl (by kernel_rfl) (.cons (callow_ok m) (tabGB_ok m)) (L.length + 1) (Eq.trans (c_list_start m fin2 _ L el ec a o e) ?_)
      obtain ⟨g1, f1⟩ := al_good hs
      have ha1 := g1.a0
      have hlen := hs.len
      simp only [Bool.and_true]
      rw [st_t hs, cond_true, clist_loop m fin2 _ L el ec (L.length + 1) (L.length + 1) _ _ g1 (by push_cast; omega) (by push_cast; omega) (by simp only [List.length_cons, List.length_nil]; push_cast; omega)]
      rw [listAl_eq]
      rfl
    · exact (run_no h).elim
  · cases h
end Go.Proofs.YtniiimpcakmkbaaDoor

/- grammar: a relation's, a type's, a configuration's reading answer by their trees -/
set_option linter.unusedVariables false
namespace Go.Proofs.YtniiimpcakmkbaaDoor
open Go Vm
theorem dup2' {R : Type} (x : Option R) : dup 2 x = x := dup_eq 1 x
theorem lvl9 {L : List (List C)} {s : PS} (h : St8 L s) : decide (lvl s < 9) = true := by
  have := h.o0
  rw [decide_eq_true_eq]; unfold lvl; omega
theorem relE_good {L : List (List C)} {nm : ByteArray} {al : List (List C)} {s : PS} (h : St8 L s) : St8 L (relE L nm al s).1 ∧ Fol s (relE L nm al s).1 := by
  unfold relE
  obtain ⟨h1, f1⟩ := gtake_ok h (k := 61) (by decide)
  obtain ⟨h2, f2, _⟩ := unionA_good h1
  obtain ⟨h3, f3⟩ := gtake_ok h2 (k := 59) (by decide)
  exact ⟨h3, (f1.trans f2).trans f3⟩
theorem rel_good {L : List (List C)} {s : PS} (h : St8 L s) : St8 L (relA L s).1 ∧ Fol (takeG L 3 s).1 (relA L s).1 := by
  rw [relA_eq]
  unfold relG
  obtain ⟨h1, f1⟩ := gtake_ok h (k := 3) (by decide)
  obtain ⟨h2, f2⟩ := gtake_ok h1 (k := 1) (by decide)
  cases h91 : kindG L (takeG L 1 (takeG L 3 s).1).1 == 91 with
  | true =>
    obtain ⟨h3, f3⟩ := gnext_ok h2 (kind_some (by decide) h91).2.1
    obtain ⟨h4, f4⟩ := listAl_good h3
    obtain ⟨h5, f5⟩ := gtake_ok h4 (k := 93) (by decide)
    obtain ⟨h6, f6⟩ := relE_good (nm := (takeG L 1 (takeG L 3 s).1).2) (al := (listAl L (nextG (takeG L 1 (takeG L 3 s).1).1)).2) h5
    exact ⟨h6, (((f2.trans f3).trans f4).trans f5).trans f6⟩
  | false =>
    obtain ⟨h6, f6⟩ := relE_good (nm := (takeG L 1 (takeG L 3 s).1).2) (al := []) h2
    exact ⟨h6, f2.trans f6⟩
theorem crel_ok (m : Int) : SpecOk Tryd.prog (globG m) 91 (rdC 6 relA) := by
  refine rdC_ok fun L el ec a o e hs => ?_
  refine specAtQ eqs_ok mix vti_ok Tryd.func91 rfl (by kernel_rfl) (.cons (clist_ok m) (.cons (gunion_all m 9) (tabGB_ok m))) 0 (Eq.trans (c_rel_start m fin2 0 L el ec a o e) ?_)
  obtain ⟨h1, f1⟩ := gtake_ok hs (k := 3) (by decide)
  obtain ⟨h2, f2⟩ := gtake_ok h1 (k := 1) (by decide)
  rw [relA_eq]
  unfold relG relE
  simp only [Bool.and_true]
  rw [st_t hs, cond_true, st_t h1, cond_true, st_t h2, cond_true]
  cases h91 : kindG L (takeG L 1 (takeG L 3 ⟨a, o, e⟩).1).1 == 91 with
  | true =>
    obtain ⟨h3, f3⟩ := gnext_ok h2 (kind_some (by decide) h91).2.1
    obtain ⟨h4, f4⟩ := listAl_good h3
    obtain ⟨h5, f5⟩ := gtake_ok h4 (k := 93) (by decide)
    obtain ⟨h6, f6⟩ := gtake_ok h5 (k := 61) (by decide)
    obtain ⟨h7, f7, n7⟩ := unionA_good h6
    rw [cond_true, cond_true, may_yes h91, st_t h3, cond_true, st_t h4, cond_true, st_t h5, cond_true, st_t h6, Bool.true_and, lvl9 h6, cond_true, st_t h7, cond_true,
      take4 (x := List.take 4 ((unionA L (takeG L 61 (takeG L 93 (listAl L (nextG (takeG L 1 (takeG L 3 ⟨a, o, e⟩).1).1)).1).1).1).2 ++ [])) (by rw [take4 n7]; exact n7), take4 n7]; rfl
  | false =>
    obtain ⟨h6, f6⟩ := gtake_ok h2 (k := 61) (by decide)
    obtain ⟨h7, f7, n7⟩ := unionA_good h6
    rw [cond_false, cond_false, may_no h91, st_t h2, cond_true, st_t h6, Bool.true_and, lvl9 h6, cond_true, st_t h7, cond_true,
      take4 (x := List.take 4 ((unionA L (takeG L 61 (takeG L 1 (takeG L 3 ⟨a, o, e⟩).1).1).1).2 ++ [])) (by rw [take4 n7]; exact n7), take4 n7]; rfl
/-- whG goes on, with as many as it read -/
theorem wh_good {L : List (List C)} {one : Rd} {k : Int} (hk0 : k ≠ 0) (ho : ∀ s, St8 L s → St8 L (one s).1 ∧ Fol (takeG L k s).1 (one s).1) : ∀ (n : Nat) (s : PS) (out : List Nde), St8 L s → St8 L (whG L one k n s out).1 ∧ Fol s (whG L one k n s out).1 := by
  intro n
  induction n with
  | zero => intro s out h; exact ⟨h, Fol.refl s⟩
  | succ n ih =>
    intro s out h
    unfold whG
    cases hk : kindG L s == k with
    | true =>
      obtain ⟨g1, f1⟩ := ho s h
      obtain ⟨_, f0⟩ := gtake_ok h hk0
      obtain ⟨g4, f4⟩ := ih _ (out ++ [(one s).2]) g1
      exact ⟨g4, (f0.trans f1).trans f4⟩
    | false => exact ⟨h, Fol.refl s⟩
theorem take_next {L : List (List C)} {s : PS} {k : Int} (hk : (kindG L s == k) = true) : (takeG L k s).1 = nextG s := by unfold takeG; rw [hk]; rfl
theorem rels_good {L : List (List C)} {s : PS} (h : St8 L s) : St8 L (relsA L s).1 ∧ Fol s (relsA L s).1 := by
  rw [relsA_eq]; exact wh_good (by decide) (fun s hs => rel_good hs) _ _ _ h
theorem typ_good {L : List (List C)} {s : PS} (h : St8 L s) : St8 L (typA L s).1 ∧ Fol (takeG L 2 s).1 (typA L s).1 := by
  rw [typA_eq]
  unfold typG
  obtain ⟨h1, f1⟩ := gtake_ok h (k := 2) (by decide)
  obtain ⟨h2, f2⟩ := gtake_ok h1 (k := 1) (by decide)
  obtain ⟨h3, f3⟩ := gtake_ok h2 (k := 123) (by decide)
  obtain ⟨h4, f4⟩ := rels_good h3
  obtain ⟨h5, f5⟩ := gtake_ok h4 (k := 125) (by decide)
  exact ⟨h5, ((f2.trans f3).trans f4).trans f5⟩
theorem cfg_good {L : List (List C)} {s : PS} (h : St8 L s) : St8 L (cfgA L s).1 ∧ Fol s (cfgA L s).1 := by
  rw [cfgA_eq]; exact wh_good (by decide) (fun s hs => typ_good hs) _ _ _ h
theorem ctyp_loop {R : Type} (m : Int) (k : V → Bx → Option R) (F : Nat) (L : List (List C)) (el ec : Int) (nm v8 : ByteArray) (v9 : List (List C)) : ∀ (n n' : Nat) (s : PS) (out : List Nde), St8 L s → (L.length : Int) - s.at_ < n → (L.length : Int) - s.at_ < n' → (out.length : Int) + (L.length - s.at_) < 2000000 →
    c_typ_L0 m (c_typ_K0 m k F) F n s.at_ s.op s.er nm L el ec v8 v9 out = k (.t (.agg ⟨[.str nm, .sl 6 (whG L (relA L) 3 n' s out).2], [], 2⟩)) [pB L el ec (takeG L 125 (whG L (relA L) 3 n' s out).1).1] := by
  intro n
  induction n with
  | zero => intro n' s out h h1; have := h.a1; omega
  | succ n ih =>
    intro n' s out h h1 h2 h3
    cases n' with
    | zero => have := h.a1; omega
    | succ n' =>
      rw [c_typ_r0]
      simp only [PS.eta, Bool.and_true]
      unfold whG
      rw [st_t h, cond_true]
      cases hk : kindG L s == 3 with
      | false =>
        rw [cond_false, cond_false, c_typ_c1]
        simp only [PS.eta, Bool.and_true]
        rw [st_t h, cond_true]
      | true =>
        obtain ⟨_, hlt, _⟩ := kind_some (by decide) hk
        obtain ⟨g3, f3⟩ := rel_good h
        rw [take_next hk] at f3
        have e1 := f3.a
        have e2 : (nextG s).at_ = s.at_ + 1 := rfl
        have ha1 := g3.a1
        rw [cond_true, cond_true, dup2', cond_true, decide_eq_true ⟨by omega, by omega⟩, cond_true]
        exact ih n' _ _ g3 (by push_cast at h1; omega) (by push_cast at h2; omega) (by simp only [List.length_append, List.length_cons, List.length_nil]; push_cast; omega)
theorem ctyp_ok (m : Int) : SpecOk Tryd.prog (globG m) 74 (rdC 2 typA) := by
  refine rdC_ok fun L el ec a o e hs => ?_
  refine specAtQ eqs_ok mix vti_ok Tryd.func74 rfl (by kernel_rfl) (.cons (crel_ok m) (tabGB_ok m)) (L.length + 1) (Eq.trans (c_typ_start m fin2 _ L el ec a o e) ?_)
  obtain ⟨h1, f1⟩ := gtake_ok hs (k := 2) (by decide)
  obtain ⟨h2, f2⟩ := gtake_ok h1 (k := 1) (by decide)
  obtain ⟨h3, f3⟩ := gtake_ok h2 (k := 123) (by decide)
  have ha0 := h3.a0
  have hlen := hs.len
  simp only [Bool.and_true]
  rw [st_t hs, cond_true, st_t h1, cond_true, st_t h2, cond_true, ctyp_loop m fin2 _ L el ec _ _ _ (L.length + 1) (L.length + 1) _ _ h3 (by push_cast; omega) (by push_cast; omega) (by simp only [List.length_nil]; push_cast; omega)]
  rw [typA_eq]
  unfold typG
  rw [relsA_eq]
theorem cconfig_loop {R : Type} (m : Int) (k : V → Bx → Option R) (F : Nat) (L : List (List C)) (el ec : Int) (v6 : List (List C)) : ∀ (n n' : Nat) (s : PS) (out : List Nde), St8 L s → (L.length : Int) - s.at_ < n → (L.length : Int) - s.at_ < n' → (out.length : Int) + (L.length - s.at_) < 2000000 →
    c_config_L0 m (c_config_K0 m k F) F n L el ec s.at_ s.op v6 out s.er = k (.t (.agg ⟨[.sl 2 (whG L (typA L) 2 n' s out).2], [], 1⟩)) [pB L el ec (whG L (typA L) 2 n' s out).1] := by
  intro n
  induction n with
  | zero => intro n' s out h h1; have := h.a1; omega
  | succ n ih =>
    intro n' s out h h1 h2 h3
    cases n' with
    | zero => have := h.a1; omega
    | succ n' =>
      rw [c_config_r0]
      simp only [PS.eta, Bool.and_true]
      unfold whG
      rw [st_t h, cond_true]
      cases hk : kindG L s == 2 with
      | false => rw [cond_false, cond_false, c_config_c1]
      | true =>
        obtain ⟨_, hlt, _⟩ := kind_some (by decide) hk
        obtain ⟨g3, f3⟩ := typ_good h
        rw [take_next hk] at f3
        have e1 := f3.a
        have e2 : (nextG s).at_ = s.at_ + 1 := rfl
        have ha1 := g3.a1
        rw [cond_true, cond_true, dup2', cond_true, decide_eq_true ⟨by omega, by omega⟩, cond_true]
        exact ih n' _ _ g3 (by push_cast at h1; omega) (by push_cast at h2; omega) (by simp only [List.length_append, List.length_cons, List.length_nil]; push_cast; omega)
theorem cconfig_ok (m : Int) : SpecOk Tryd.prog (globG m) 51 (rdC 1 cfgA) := by
  refine rdC_ok fun L el ec a o e hs => ?_
  refine specAtQ eqs_ok mix vti_ok Tryd.func51 rfl (by kernel_rfl) (.cons (ctyp_ok m) (tabGB_ok m)) (L.length + 1) (Eq.trans (c_config_start m fin2 _ L el ec a o e) ?_)
  have ha0 := hs.a0
  have hlen := hs.len
  simp only at ha0
  refine (cconfig_loop m fin2 _ L el ec [] (L.length + 1) (L.length + 1) ⟨a, o, e⟩ [] hs (by push_cast; omega) (by push_cast; omega) (by simp only [List.length_nil]; push_cast; omega)).trans ?_
  rw [cfgA_eq]; rfl
end Go.Proofs.YtniiimpcakmkbaaDoor
