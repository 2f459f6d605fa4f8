/- the reference of tray: Lose -/
import Derived.Test.YtjkiipkghkpihaaTrRB
set_option linter.unusedVariables false
namespace Go.Proofs.Ytjkiipkghkpihaa
open Go Vm
def rlose_cf : Cfg := mkCf vti orcR1 false (fun i => memN i []) (fun i => !memN i [1, 2, 4, 5, 16, 17])
def rlose_m0 : List Bool := [false, true, true, false, true, true, false, false, false, false, false, false, false, false, false, false, true, true, false, false, false, false, false, false, false, false, false, false, false, false, false, false, false, false, false, false, false, false, false, false, false, false]
noncomputable def rlose_b0 : Code := (cA (cA (cB (cA (cB (cB (bd Try.f20)))))))
def rlose_S0 (s : Int) (kept : List (List C)) (cache : List (List C)) (left : Int) (dark : Bool) (ch : List (List C)) (v1 : Int) (kept2 : List (List C)) : St := { env := [vu, (vc (.sl 1 ch)), (.t (.w (.ptr 0 0))), vu, (.t (.w (.ptr 1 0))), (.t (.w (.ptr 2 0))), vu, vu, vu, vu, vu, vu, vu, vu, vu, vu, (vi ((↑cache.length : Int))), (vi v1), vu, vu, vu, vu, vu, vu, vu, vu, vu, vu, vu, vu, vu, vu, vu, vu, vu, vu, vu, vu, vu, vu, vu, vu], bx := [(some (.cells ⟨[(.int .i64 s), (.sl 129 kept), (.sl 129 cache), (.int .i64 left), (.bool dark)], [], 5⟩)), (some (.cells ⟨[(.int .i64 0), .nf, .nf, (.int .i64 0), (.bool false)], [(1, (.arr 3)), (2, (.arr 4))], 5⟩)), (some (.cells ⟨[(.int .i64 s), .nf, (.sl 129 []), (.int .i64 (-1)), (.bool false)], [(1, (.arr 5))], 5⟩)), (some (.arr true (some 70) 129 [])), (some (.arr true (some 70) 129 [])), (some (.arr true (some 70) 129 kept2))], np := 0 }
noncomputable def rlose_L0 {R : Type} (K : X → St → Option R) (F n : Nat) (s : Int) (kept : List (List C)) (cache : List (List C)) (left : Int) (dark : Bool) (ch : List (List C)) (v1 : Int) (kept2 : List (List C)) : Option R := loopV (headM rlose_m0) (exec rlose_cf F rlose_b0) K n (rlose_S0 s kept cache left dark ch v1 kept2)
noncomputable def rlose_K0 {R : Type} (k : V → Bx → Option R) (F : Nat) : X → St → Option R := (blockK 0 (seqK rlose_cf F (cB (cB (cB (bd Try.f20)))) (finK rlose_cf Try.f20 k)))
def rlose_E1 (s : Int) (kept : List (List C)) (cache : List (List C)) (left : Int) (dark : Bool) (ch : List (List C)) (v1 : Int) (kept2 : List (List C)) : St := { env := [vu, (vc (.sl 1 ch)), (.t (.w (.ptr 0 0))), vu, (.t (.w (.ptr 1 0))), (.t (.w (.ptr 2 0))), vu, vu, vu, vu, vu, vu, vu, vu, vu, vu, (vi ((↑cache.length : Int))), (vi v1), (vb (decide (v1 < (↑cache.length : Int)))), vu, vu, vu, vu, vu, vu, vu, vu, vu, vu, vu, vu, vu, vu, vu, vu, vu, vu, vu, vu, vu, vu, vu], bx := [(some (.cells ⟨[(.int .i64 s), (.sl 129 kept), (.sl 129 cache), (.int .i64 left), (.bool dark)], [], 5⟩)), (some (.cells ⟨[(.int .i64 0), .nf, .nf, (.int .i64 0), (.bool false)], [(1, (.arr 3)), (2, (.arr 4))], 5⟩)), (some (.cells ⟨[(.int .i64 s), .nf, (.sl 129 []), (.int .i64 (-1)), (.bool false)], [(1, (.arr 5))], 5⟩)), (some (.arr true (some 70) 129 [])), (some (.arr true (some 70) 129 [])), (some (.arr true (some 70) 129 kept2))], np := 0 }
theorem rlose_c1 {R : Type} (k : V → Bx → Option R) (F : Nat) (s : Int) (kept : List (List C)) (cache : List (List C)) (left : Int) (dark : Bool) (ch : List (List C)) (v1 : Int) (kept2 : List (List C)) : rlose_K0 k F (.ex 0) (rlose_E1 s kept cache left dark ch v1 kept2) =
    k (.t (.agg ⟨[(.int .i64 s), (.sl 129 kept2), (.sl 129 []), (.int .i64 (-1)), (.bool false)], [], 5⟩)) [] := by kernel_rfl
theorem rlose_r0 {R : Type} (K : X → St → Option R) (F n : Nat) (s : Int) (kept : List (List C)) (cache : List (List C)) (left : Int) (dark : Bool) (ch : List (List C)) (v1 : Int) (kept2 : List (List C)) : rlose_L0 K F (n + 1) s kept cache left dark ch v1 kept2 =
    (bif decide (v1 < (↑cache.length : Int)) then
      (bif decide (v1 < (↑ch.length : Int)) then
        (bif decide ((0 : Int) ≤ v1) then
          (getT ch v1.toNat fun z1 =>
            (getT z1 0 fun z2 =>
              (bif shOk [Sh.bool] [z2] then
                (bif ([z2].getD (0 : Nat) C.nf).toBool then
                  (bif decide ((0 : Int) ≤ v1) then
                    (getT cache v1.toNat fun z3 =>
                      (bif (List.take (129 : Nat) z3).length == (129 : Nat) then
                        (bif shOk [Sh.int IntKind.i64, Sh.run (128 : Nat)] (List.take (129 : Nat) z3) then
                          (bif decide ((kept2.length + (1 : Nat)) * (136 : Nat) ≤ (140737488355328 : Nat) ∧ kept2.length + (1 : Nat) ≤ (9223372036854775807 : Nat)) then
                            rlose_L0 K F n s kept cache left dark ch (IntKind.i64.wrap (v1 + (1 : Int))) (kept2 ++ [C.int IntKind.i64 ((List.take (129 : Nat) z3).getD (0 : Nat) C.nf).toInt :: (List.take (128 : Nat) (List.drop (1 : Nat) (List.take (129 : Nat) z3)) ++ [])])
                          else none)
                        else none)
                      else none))
                  else none)
                else rlose_L0 K F n s kept cache left dark ch (IntKind.i64.wrap (v1 + (1 : Int))) kept2)
              else none)))
        else none)
      else rlose_L0 K F n s kept cache left dark ch (IntKind.i64.wrap (v1 + (1 : Int))) kept2)
    else K (.ex 0) (rlose_E1 s kept cache left dark ch v1 kept2)) := by kernel_rfl
def rlose_AS (s : Int) (kept : List (List C)) (cache : List (List C)) (left : Int) (dark : Bool) (ch : List (List C)) (v1 : Int) : St := { env := [vu, (vc (.sl 1 ch)), (.t (.w (.ptr 0 0))), vu, (.t (.w (.ptr 1 0))), (.t (.w (.ptr 2 0))), vu, vu, vu, vu, vu, vu, vu, vu, vu, vu, (vi ((↑cache.length : Int))), (vi v1), vu, vu, vu, vu, vu, vu, vu, vu, vu, vu, vu, vu, vu, vu, vu, vu, vu, vu, vu, vu, vu, vu, vu, vu], bx := [(some (.cells ⟨[(.int .i64 s), (.sl 129 kept), (.sl 129 cache), (.int .i64 left), (.bool dark)], [], 5⟩)), (some (.cells ⟨[(.int .i64 0), .nf, .nf, (.int .i64 0), (.bool false)], [(1, (.arr 3)), (2, (.arr 4))], 5⟩)), (some (.cells ⟨[(.int .i64 s), .nf, (.sl 129 []), (.int .i64 (-1)), (.bool false)], [(1, (.es 129))], 5⟩)), (some (.arr true (some 70) 129 [])), (some (.arr true (some 70) 129 []))], np := 0 }
noncomputable def rlose_A0 {R : Type} (K : X → St → Option R) (F n : Nat) (s : Int) (kept : List (List C)) (cache : List (List C)) (left : Int) (dark : Bool) (ch : List (List C)) (v1 : Int) : Option R := loopV (headM rlose_m0) (exec rlose_cf F rlose_b0) K n (rlose_AS s kept cache left dark ch v1)
def rlose_AE (s : Int) (kept : List (List C)) (cache : List (List C)) (left : Int) (dark : Bool) (ch : List (List C)) (v1 : Int) : St := { env := [vu, (vc (.sl 1 ch)), (.t (.w (.ptr 0 0))), vu, (.t (.w (.ptr 1 0))), (.t (.w (.ptr 2 0))), vu, vu, vu, vu, vu, vu, vu, vu, vu, vu, (vi ((↑cache.length : Int))), (vi v1), (vb (decide (v1 < (↑cache.length : Int)))), vu, vu, vu, vu, vu, vu, vu, vu, vu, vu, vu, vu, vu, vu, vu, vu, vu, vu, vu, vu, vu, vu, vu], bx := [(some (.cells ⟨[(.int .i64 s), (.sl 129 kept), (.sl 129 cache), (.int .i64 left), (.bool dark)], [], 5⟩)), (some (.cells ⟨[(.int .i64 0), .nf, .nf, (.int .i64 0), (.bool false)], [(1, (.arr 3)), (2, (.arr 4))], 5⟩)), (some (.cells ⟨[(.int .i64 s), .nf, (.sl 129 []), (.int .i64 (-1)), (.bool false)], [(1, (.es 129))], 5⟩)), (some (.arr true (some 70) 129 [])), (some (.arr true (some 70) 129 []))], np := 0 }
theorem rlose_Ac {R : Type} (k : V → Bx → Option R) (F : Nat) (s : Int) (kept : List (List C)) (cache : List (List C)) (left : Int) (dark : Bool) (ch : List (List C)) (v1 : Int) : rlose_K0 k F (.ex 0) (rlose_AE s kept cache left dark ch v1) =
    k (.t (.agg ⟨[(.int .i64 s), (.sl 129 []), (.sl 129 []), (.int .i64 (-1)), (.bool false)], [], 5⟩)) [] := by kernel_rfl
theorem rlose_Ar {R : Type} (K : X → St → Option R) (F n : Nat) (s : Int) (kept : List (List C)) (cache : List (List C)) (left : Int) (dark : Bool) (ch : List (List C)) (v1 : Int) : rlose_A0 K F (n + 1) s kept cache left dark ch v1 =
    (bif decide (v1 < (↑cache.length : Int)) then
      (bif decide (v1 < (↑ch.length : Int)) then
        (bif decide ((0 : Int) ≤ v1) then
          (getT ch v1.toNat fun z1 =>
            (getT z1 0 fun z2 =>
              (bif shOk [Sh.bool] [z2] then
                (bif ([z2].getD (0 : Nat) C.nf).toBool then
                  (bif decide ((0 : Int) ≤ v1) then
                    (getT cache v1.toNat fun z3 =>
                      (bif (List.take (129 : Nat) z3).length == (129 : Nat) then
                        (bif shOk [Sh.int IntKind.i64, Sh.run (128 : Nat)] (List.take (129 : Nat) z3) then
                          rlose_L0 K F n s kept cache left dark ch (IntKind.i64.wrap (v1 + (1 : Int))) [C.int IntKind.i64 ((List.take (129 : Nat) z3).getD (0 : Nat) C.nf).toInt :: (List.take (128 : Nat) (List.drop (1 : Nat) (List.take (129 : Nat) z3)) ++ [])]
                        else none)
                      else none))
                  else none)
                else rlose_A0 K F n s kept cache left dark ch (IntKind.i64.wrap (v1 + (1 : Int))))
              else none)))
        else none)
      else rlose_A0 K F n s kept cache left dark ch (IntKind.i64.wrap (v1 + (1 : Int))))
    else K (.ex 0) (rlose_AE s kept cache left dark ch v1)) := by kernel_rfl
theorem rlose_start {R : Type} (k : V → Bx → Option R) (F : Nat) (s : Int) (kept : List (List C)) (cache : List (List C)) (left : Int) (dark : Bool) (ch : List (List C)) : runFn rlose_cf F Try.f20 (bd Try.f20) [rt s kept cache left dark, vc (C.sl (1 : Nat) ch)] [] k =
    dup 2 ((bif decide (kept.length * (136 : Nat) ≤ (140737488355328 : Nat) ∧ kept.length ≤ (9223372036854775807 : Nat)) then
      (bif kept.isEmpty then
        rlose_A0 (rlose_K0 k F) F F s kept cache left dark ch 0
      else rlose_L0 (rlose_K0 k F) F F s kept cache left dark ch 0 kept)
    else none)) := by kernel_rfl

end Go.Proofs.Ytjkiipkghkpihaa
