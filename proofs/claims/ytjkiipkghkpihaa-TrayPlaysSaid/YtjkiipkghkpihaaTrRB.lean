import Derived.Test.YtjkiipkghkpihaaTrR
set_option linter.unusedVariables false
namespace Go.Proofs.Ytjkiipkghkpihaa
open Go Vm
def rstep_cf : Cfg := mkCf vti orc0 false (fun i => memN i []) (fun _ => false)
theorem rstep_start {R : Type} (k : V → Bx → Option R) (F : Nat) (s : Int) (kept : List (List C)) (cache : List (List C)) (left : Int) (dark : Bool) : runFn rstep_cf F Try.f26 (bd Try.f26) [rt s kept cache left dark] [] k =
    (bif left == (0 : Int) then
      k (.tup [(.agg ⟨[(.int .i64 s), (.sl 129 kept), (.sl 129 cache), (.int .i64 left), (.bool true)], [], 5⟩), (.w (.d (.bool false)))]) []
    else (bif decide (left > (0 : Int)) then
        k (.tup [(.agg ⟨[(.int .i64 s), (.sl 129 kept), (.sl 129 cache), (.int .i64 (IntKind.i64.wrap (left - (1 : Int)))), (.bool dark)], [], 5⟩), (.w (.d (.bool true)))]) []
      else k (.tup [(.agg ⟨[(.int .i64 s), (.sl 129 kept), (.sl 129 cache), (.int .i64 left), (.bool dark)], [], 5⟩), (.w (.d (.bool true)))]) [])) := by kernel_rfl
def rnew_cf : Cfg := mkCf vti orc0 false (fun i => memN i []) (fun _ => false)
theorem rnew_start {R : Type} (k : V → Bx → Option R) (F : Nat) (n : Int) : runFn rnew_cf F Try.f16 (bd Try.f16) [vi n] [] k =
    (bif decide (n ≥ (4 : Int)) then
      k (.tup [(.agg ⟨[(.int .i64 n), (.sl 129 []), (.sl 129 []), (.int .i64 (-1)), (.bool false)], [], 5⟩), (.w (.d (.bool (decide (n ≤ (4096 : Int))))))]) []
    else k (.tup [(.agg ⟨[(.int .i64 n), (.sl 129 []), (.sl 129 []), (.int .i64 (-1)), (.bool false)], [], 5⟩), (.w (.d (.bool false)))]) []) := by kernel_rfl
def rflush_cf : Cfg := mkCf vti orcR1 false (fun i => memN i []) (fun _ => false)
theorem rflush_start {R : Type} (k : V → Bx → Option R) (F : Nat) (s : Int) (kept : List (List C)) (cache : List (List C)) (left : Int) (dark : Bool) : runFn rflush_cf F Try.f18 (bd Try.f18) [rt s kept cache left dark] [] k =
    (bif leftOk left then
      (bif !!left == (0 : Int) then
        k (.tup [(.agg ⟨[(.int .i64 s), (.sl 129 kept), (.sl 129 cache), (.int .i64 (decL left)), (.bool (left == (0 : Int) || dark))], [], 5⟩), (.w (.d (.int .i64 20)))]) []
      else (bif decide (kept.length * (136 : Nat) ≤ (140737488355328 : Nat) ∧ kept.length ≤ (9223372036854775807 : Nat)) then
          (bif kept.isEmpty then
            (bif decide (cache.length * (136 : Nat) ≤ (140737488355328 : Nat) ∧ cache.length ≤ (9223372036854775807 : Nat)) then
              (bif cache.isEmpty then
                k (.tup [(.agg ⟨[(.int .i64 s), (.sl 129 []), (.sl 129 []), (.int .i64 (decL left)), (.bool (left == (0 : Int) || dark))], [], 5⟩), (.w (.d (.int .i64 0)))]) []
              else k (.tup [(.agg ⟨[(.int .i64 s), (.sl 129 cache), (.sl 129 []), (.int .i64 (decL left)), (.bool (left == (0 : Int) || dark))], [], 5⟩), (.w (.d (.int .i64 0)))]) [])
            else none)
          else (bif decide ((kept.length + cache.length) * (136 : Nat) ≤ (140737488355328 : Nat) ∧ kept.length + cache.length ≤ (9223372036854775807 : Nat)) then
              k (.tup [(.agg ⟨[(.int .i64 s), (.sl 129 (kept ++ cache)), (.sl 129 []), (.int .i64 (decL left)), (.bool (left == (0 : Int) || dark))], [], 5⟩), (.w (.d (.int .i64 0)))]) []
            else none))
        else none))
    else none) := by kernel_rfl
def rpower_cf : Cfg := mkCf vti orcR1 false (fun i => memN i []) (fun _ => false)
theorem rpower_start {R : Type} (k : V → Bx → Option R) (F : Nat) (s : Int) (kept : List (List C)) (cache : List (List C)) (left : Int) (dark : Bool) (n : Int) : runFn rpower_cf F Try.f19 (bd Try.f19) [rt s kept cache left dark, vi n] [] k =
    (bif decide (n < (0 : Int)) then
      k (.tup [(.agg ⟨[(.int .i64 s), (.sl 129 kept), (.sl 129 cache), (.int .i64 left), (.bool dark)], [], 5⟩), (.w (.d (.int .i64 1)))]) []
    else (bif decide (n > (1099511627776 : Int)) then
        k (.tup [(.agg ⟨[(.int .i64 s), (.sl 129 kept), (.sl 129 cache), (.int .i64 left), (.bool dark)], [], 5⟩), (.w (.d (.int .i64 1)))]) []
      else k (.tup [(.agg ⟨[(.int .i64 s), (.sl 129 kept), (.sl 129 cache), (.int .i64 n), (.bool false)], [], 5⟩), (.w (.d (.int .i64 0)))]) [])) := by kernel_rfl
def rread_cf : Cfg := mkCf vti orcR1 false (fun i => memN i []) (fun i => !memN i [1, 2, 4, 5, 11, 12, 32, 33])
def rread_m0 : List Bool := [false, true, true, false, true, true, false, false, false, false, false, true, true, false, false, false, false, false, false, false, false, false, false, false, false, false, false, false, false, false, false, false, false, false, false, false, false, false, false, false, false, false, false, false, false, false, false, false, false, false, false, false]
noncomputable def rread_b0 : Code := (cA (cA (cB (cA (cB (cB (bd Try.f22)))))))
def rread_S0 (s : Int) (kept : List (List C)) (cache : List (List C)) (left : Int) (dark : Bool) (at_ : Int) (v3 : Int) (v4 : List C) : St := { env := [vu, (vi at_), (.t (.w (.ptr 0 0))), vu, (.t (.w (.ptr 1 0))), (.t (.w (.ptr 2 0))), vu, vu, vu, vu, vu, (vi ((↑kept.length : Int))), (vi v3), vu, vu, vu, vu, vu, vu, vu, vu, vu, vu, vu, vu, vu, vu, vu, vu, vu, vu, vu, vu, vu, vu, vu, vu, vu, vu, vu, vu, vu, vu, vu, vu, vu, vu, vu, vu, vu, vu, vu], bx := [(some (.cells ⟨[(.int .i64 s), (.sl 129 kept), (.sl 129 cache), (.int .i64 left), (.bool dark)], [], 5⟩)), (some (.cells ⟨(List.replicate 128 (.int .u8 0)), [], 128⟩)), (some (.cells ⟨v4, [], 128⟩))], np := 0 }
noncomputable def rread_L0 {R : Type} (K : X → St → Option R) (F n : Nat) (s : Int) (kept : List (List C)) (cache : List (List C)) (left : Int) (dark : Bool) (at_ : Int) (v3 : Int) (v4 : List C) : Option R := loopV (headM rread_m0) (exec rread_cf F rread_b0) K n (rread_S0 s kept cache left dark at_ v3 v4)
noncomputable def rread_K0 {R : Type} (k : V → Bx → Option R) (F : Nat) : X → St → Option R := (blockK 0 (seqK rread_cf F (cB (cB (cB (bd Try.f22)))) (finK rread_cf Try.f22 k)))
def rread_E1 (s : Int) (kept : List (List C)) (cache : List (List C)) (left : Int) (dark : Bool) (at_ : Int) (v3 : Int) (v4 : List C) : St := { env := [vu, (vi at_), (.t (.w (.ptr 0 0))), vu, (.t (.w (.ptr 1 0))), (.t (.w (.ptr 2 0))), vu, vu, vu, vu, vu, (vi ((↑kept.length : Int))), (vi v3), (vb (decide (v3 < (↑kept.length : Int)))), vu, vu, vu, vu, vu, vu, vu, vu, vu, vu, vu, vu, vu, vu, vu, vu, vu, vu, vu, vu, vu, vu, vu, vu, vu, vu, vu, vu, vu, vu, vu, vu, vu, vu, vu, vu, vu, vu], bx := [(some (.cells ⟨[(.int .i64 s), (.sl 129 kept), (.sl 129 cache), (.int .i64 left), (.bool dark)], [], 5⟩)), (some (.cells ⟨(List.replicate 128 (.int .u8 0)), [], 128⟩)), (some (.cells ⟨v4, [], 128⟩))], np := 0 }
def rread_m1 : List Bool := [false, true, true, false, true, true, false, false, false, false, false, true, true, false, false, false, false, false, false, false, false, false, false, false, false, false, false, false, false, false, false, false, true, true, false, false, false, false, false, false, false, false, false, false, false, false, false, false, false, false, false, false]
noncomputable def rread_b1 : Code := (cA (cA (cB (cA (cB (cB (cB (bd Try.f22))))))))
def rread_S1 (s : Int) (kept : List (List C)) (cache : List (List C)) (left : Int) (dark : Bool) (at_ : Int) (v3 : Int) (v5 : Int) (v6 : List C) : St := { env := [vu, (vi at_), (.t (.w (.ptr 0 0))), vu, (.t (.w (.ptr 1 0))), (.t (.w (.ptr 2 0))), vu, vu, vu, vu, vu, (vi ((↑kept.length : Int))), (vi v3), vu, vu, vu, vu, vu, vu, vu, vu, vu, vu, vu, vu, vu, vu, vu, vu, vu, vu, vu, (vi ((↑cache.length : Int))), (vi v5), vu, vu, vu, vu, vu, vu, vu, vu, vu, vu, vu, vu, vu, vu, vu, vu, vu, vu], bx := [(some (.cells ⟨[(.int .i64 s), (.sl 129 kept), (.sl 129 cache), (.int .i64 left), (.bool dark)], [], 5⟩)), (some (.cells ⟨(List.replicate 128 (.int .u8 0)), [], 128⟩)), (some (.cells ⟨v6, [], 128⟩))], np := 0 }
noncomputable def rread_L1 {R : Type} (K : X → St → Option R) (F n : Nat) (s : Int) (kept : List (List C)) (cache : List (List C)) (left : Int) (dark : Bool) (at_ : Int) (v3 : Int) (v5 : Int) (v6 : List C) : Option R := loopV (headM rread_m1) (exec rread_cf F rread_b1) K n (rread_S1 s kept cache left dark at_ v3 v5 v6)
noncomputable def rread_K1 {R : Type} (k : V → Bx → Option R) (F : Nat) : X → St → Option R := (blockK 2 (seqK rread_cf F (cB (cB (cB (cB (bd Try.f22))))) (finK rread_cf Try.f22 k)))
def rread_E2 (s : Int) (kept : List (List C)) (cache : List (List C)) (left : Int) (dark : Bool) (at_ : Int) (v3 : Int) (v5 : Int) (v6 : List C) : St := { env := [vu, (vi at_), (.t (.w (.ptr 0 0))), vu, (.t (.w (.ptr 1 0))), (.t (.w (.ptr 2 0))), vu, vu, vu, vu, vu, (vi ((↑kept.length : Int))), (vi v3), vu, vu, vu, vu, vu, vu, vu, vu, vu, vu, vu, vu, vu, vu, vu, vu, vu, vu, vu, (vi ((↑cache.length : Int))), (vi v5), (vb (decide (v5 < (↑cache.length : Int)))), vu, vu, vu, vu, vu, vu, vu, vu, vu, vu, vu, vu, vu, vu, vu, vu, vu], bx := [(some (.cells ⟨[(.int .i64 s), (.sl 129 kept), (.sl 129 cache), (.int .i64 left), (.bool dark)], [], 5⟩)), (some (.cells ⟨(List.replicate 128 (.int .u8 0)), [], 128⟩)), (some (.cells ⟨v6, [], 128⟩))], np := 0 }
theorem rread_c2 {R : Type} (k : V → Bx → Option R) (F : Nat) (s : Int) (kept : List (List C)) (cache : List (List C)) (left : Int) (dark : Bool) (at_ : Int) (v3 : Int) (v5 : Int) (v6 : List C) : rread_K1 k F (.ex 2) (rread_E2 s kept cache left dark at_ v3 v5 v6) =
    k (.t (.agg ⟨(List.take (128 : Nat) (List.take (128 : Nat) v6 ++ [])), [], 128⟩)) [] := by kernel_rfl
theorem rread_r1 {R : Type} (K : X → St → Option R) (F n : Nat) (s : Int) (kept : List (List C)) (cache : List (List C)) (left : Int) (dark : Bool) (at_ : Int) (v3 : Int) (v5 : Int) (v6 : List C) : rread_L1 K F (n + 1) s kept cache left dark at_ v3 v5 v6 =
    (bif decide (v5 < (↑cache.length : Int)) then
      (bif decide ((0 : Int) ≤ v5) then
        (getT cache v5.toNat fun z4 =>
          (getT z4 0 fun z5 =>
            (bif shOk [Sh.int IntKind.i64] [z5] then
              (bif ([z5].getD (0 : Nat) C.nf).toInt == at_ then
                (bif decide ((0 : Int) ≤ v5) then
                  (getT cache v5.toNat fun z6 =>
                    (bif (List.take (128 : Nat) (List.drop (1 : Nat) z6)).length == (128 : Nat) then
                      (bif shOk [Sh.run (128 : Nat)] (List.take (128 : Nat) (List.drop (1 : Nat) z6)) then
                        rread_L1 K F n s kept cache left dark at_ v3 (IntKind.i64.wrap (v5 + (1 : Int))) (List.take (128 : Nat) (List.take (128 : Nat) (List.drop (1 : Nat) z6)) ++ [] ++ List.drop (128 : Nat) v6)
                      else none)
                    else none))
                else none)
              else rread_L1 K F n s kept cache left dark at_ v3 (IntKind.i64.wrap (v5 + (1 : Int))) v6)
            else none)))
      else none)
    else K (.ex 2) (rread_E2 s kept cache left dark at_ v3 v5 v6)) := by kernel_rfl
theorem rread_c1 {R : Type} (k : V → Bx → Option R) (F : Nat) (s : Int) (kept : List (List C)) (cache : List (List C)) (left : Int) (dark : Bool) (at_ : Int) (v3 : Int) (v4 : List C) : rread_K0 k F (.ex 0) (rread_E1 s kept cache left dark at_ v3 v4) =
    rread_L1 (rread_K1 k F) F F s kept cache left dark at_ v3 0 v4 := by kernel_rfl
theorem rread_r0 {R : Type} (K : X → St → Option R) (F n : Nat) (s : Int) (kept : List (List C)) (cache : List (List C)) (left : Int) (dark : Bool) (at_ : Int) (v3 : Int) (v4 : List C) : rread_L0 K F (n + 1) s kept cache left dark at_ v3 v4 =
    (bif decide (v3 < (↑kept.length : Int)) then
      (bif decide ((0 : Int) ≤ v3) then
        (getT kept v3.toNat fun z1 =>
          (getT z1 0 fun z2 =>
            (bif shOk [Sh.int IntKind.i64] [z2] then
              (bif ([z2].getD (0 : Nat) C.nf).toInt == at_ then
                (bif decide ((0 : Int) ≤ v3) then
                  (getT kept v3.toNat fun z3 =>
                    (bif (List.take (128 : Nat) (List.drop (1 : Nat) z3)).length == (128 : Nat) then
                      (bif shOk [Sh.run (128 : Nat)] (List.take (128 : Nat) (List.drop (1 : Nat) z3)) then
                        rread_L0 K F n s kept cache left dark at_ (IntKind.i64.wrap (v3 + (1 : Int))) (List.take (128 : Nat) (List.take (128 : Nat) (List.drop (1 : Nat) z3)) ++ [] ++ List.drop (128 : Nat) v4)
                      else none)
                    else none))
                else none)
              else rread_L0 K F n s kept cache left dark at_ (IntKind.i64.wrap (v3 + (1 : Int))) v4)
            else none)))
      else none)
    else K (.ex 0) (rread_E1 s kept cache left dark at_ v3 v4)) := by kernel_rfl
theorem rread_start {R : Type} (k : V → Bx → Option R) (F : Nat) (s : Int) (kept : List (List C)) (cache : List (List C)) (left : Int) (dark : Bool) (at_ : Int) : runFn rread_cf F Try.f22 (bd Try.f22) [rt s kept cache left dark, vi at_] [] k =
    rread_L0 (rread_K0 k F) F F s kept cache left dark at_ 0 (List.replicate 128 (.int .u8 0)) := by kernel_rfl
def rput_cf : Cfg := mkCf vti orcR1 false (fun i => memN i []) (fun i => !memN i [2, 3, 6, 9, 36, 37])
def rput_m0 : List Bool := [false, false, true, true, false, false, true, false, false, true, false, false, false, false, false, false, false, false, false, false, false, false, false, false, false, false, false, false, false, false, false, false, false, false, false, false, true, true, false, false, false, false, false, false, false, false, false, false, false, false, false, false, false, false, false, false, false]
noncomputable def rput_b0 : Code := (cA (cA (cB (cA (cB (cB (cB (cB (cB (bd Try.f17))))))))))
def rput_S0 (s : Int) (kept : List (List C)) (cache : List (List C)) (left : Int) (dark : Bool) (bels : List (List C)) (v1 : Int) (v3 : List C) : St := { env := [vu, vu, (vc (.sl 1 bels)), (.t (.w (.ptr 0 0))), vu, vu, (.t (.w (.ptr 1 0))), vu, vu, (.t (.w (.ptr 2 0))), vu, vu, vu, vu, vu, vu, vu, vu, vu, vu, vu, vu, vu, vu, vu, vu, vu, vu, vu, vu, vu, vu, vu, vu, vu, vu, (vi ((↑bels.length : Int))), (vi v1), vu, vu, vu, vu, vu, vu, vu, vu, vu, vu, vu, vu, vu, vu, vu, vu, vu, vu, vu], bx := [(some (.cells ⟨[(.int .i64 s), (.sl 129 kept), (.sl 129 cache), (.int .i64 (decL left)), (.bool (left == (0 : Int) || dark))], [], 5⟩)), (some (.cells ⟨[(.int .i64 0), .nf, .nf, (.int .i64 0), (.bool false)], [(1, (.arr 3)), (2, (.arr 4))], 5⟩)), (some (.cells ⟨v3, [], 129⟩)), (some (.arr true (some 70) 129 [])), (some (.arr true (some 70) 129 []))], np := 0 }
noncomputable def rput_L0 {R : Type} (K : X → St → Option R) (F n : Nat) (s : Int) (kept : List (List C)) (cache : List (List C)) (left : Int) (dark : Bool) (bels : List (List C)) (v1 : Int) (v3 : List C) : Option R := loopV (headM rput_m0) (exec rput_cf F rput_b0) K n (rput_S0 s kept cache left dark bels v1 v3)
noncomputable def rput_K0 {R : Type} (k : V → Bx → Option R) (F : Nat) : X → St → Option R := (blockK 0 (seqK rput_cf F (cB (cB (cB (cB (cB (cB (bd Try.f17))))))) (finK rput_cf Try.f17 k)))
def rput_E1 (s : Int) (kept : List (List C)) (cache : List (List C)) (left : Int) (dark : Bool) (bels : List (List C)) (v1 : Int) (v3 : List C) : St := { env := [vu, vu, (vc (.sl 1 bels)), (.t (.w (.ptr 0 0))), vu, vu, (.t (.w (.ptr 1 0))), vu, vu, (.t (.w (.ptr 2 0))), vu, vu, vu, vu, vu, vu, vu, vu, vu, vu, vu, vu, vu, vu, vu, vu, vu, vu, vu, vu, vu, vu, vu, vu, vu, vu, (vi ((↑bels.length : Int))), (vi v1), (vb (decide (v1 < (↑bels.length : Int)))), vu, vu, vu, vu, vu, vu, vu, vu, vu, vu, vu, vu, vu, vu, vu, vu, vu, vu], bx := [(some (.cells ⟨[(.int .i64 s), (.sl 129 kept), (.sl 129 cache), (.int .i64 (decL left)), (.bool (left == (0 : Int) || dark))], [], 5⟩)), (some (.cells ⟨[(.int .i64 0), .nf, .nf, (.int .i64 0), (.bool false)], [(1, (.arr 3)), (2, (.arr 4))], 5⟩)), (some (.cells ⟨v3, [], 129⟩)), (some (.arr true (some 70) 129 [])), (some (.arr true (some 70) 129 []))], np := 0 }
theorem rput_c1 {R : Type} (k : V → Bx → Option R) (F : Nat) (s : Int) (kept : List (List C)) (cache : List (List C)) (left : Int) (dark : Bool) (bels : List (List C)) (v1 : Int) (v3 : List C) : rput_K0 k F (.ex 0) (rput_E1 s kept cache left dark bels v1 v3) =
    (bif decide (cache.length * (136 : Nat) ≤ (140737488355328 : Nat) ∧ cache.length ≤ (9223372036854775807 : Nat)) then
      (bif cache.isEmpty then
        k (.tup [(.agg ⟨[(.int .i64 s), (.sl 129 kept), (.sl 129 [(List.take (129 : Nat) v3)]), (.int .i64 (decL left)), (.bool (left == (0 : Int) || dark))], [], 5⟩), (.w (.d (.int .i64 0)))]) []
      else (bif decide ((cache.length + (1 : Nat)) * (136 : Nat) ≤ (140737488355328 : Nat) ∧ cache.length + (1 : Nat) ≤ (9223372036854775807 : Nat)) then
          k (.tup [(.agg ⟨[(.int .i64 s), (.sl 129 kept), (.sl 129 (cache ++ [List.take (129 : Nat) v3])), (.int .i64 (decL left)), (.bool (left == (0 : Int) || dark))], [], 5⟩), (.w (.d (.int .i64 0)))]) []
        else none))
    else none) := by kernel_rfl
theorem rput_r0 {R : Type} (K : X → St → Option R) (F n : Nat) (s : Int) (kept : List (List C)) (cache : List (List C)) (left : Int) (dark : Bool) (bels : List (List C)) (v1 : Int) (v3 : List C) : rput_L0 K F (n + 1) s kept cache left dark bels v1 v3 =
    (bif decide (v1 < (↑bels.length : Int)) then
      (bif decide ((0 : Int) ≤ v1) then
        (getT bels v1.toNat fun z1 =>
          (getT z1 0 fun z2 =>
            (bif shOk [Sh.int IntKind.u8] [z2] then
              (bif decide ((0 : Int) ≤ v1 ∧ v1 < (128 : Int)) then
                (bif ((1 : Nat) + v1.toNat * (1 : Nat) + (1 : Nat)).ble (129 : Nat) then
                  rput_L0 K F n s kept cache left dark bels (IntKind.i64.wrap (v1 + (1 : Int))) (List.take ((1 : Nat) + v1.toNat * (1 : Nat)) v3 ++ [C.int IntKind.u8 ([z2].getD (0 : Nat) C.nf).toInt] ++ List.drop ((1 : Nat) + v1.toNat * (1 : Nat) + (1 : Nat)) v3)
                else none)
              else none)
            else none)))
      else none)
    else K (.ex 0) (rput_E1 s kept cache left dark bels v1 v3)) := by kernel_rfl
theorem rput_start {R : Type} (k : V → Bx → Option R) (F : Nat) (s : Int) (kept : List (List C)) (cache : List (List C)) (left : Int) (dark : Bool) (at_ : Int) (bels : List (List C)) : runFn rput_cf F Try.f17 (bd Try.f17) [rt s kept cache left dark, vi at_, vc (C.sl (1 : Nat) bels)] [] k =
    (bif decide (at_ < (0 : Int)) then
      k (.tup [(.agg ⟨[(.int .i64 s), (.sl 129 kept), (.sl 129 cache), (.int .i64 left), (.bool dark)], [], 5⟩), (.w (.d (.int .i64 1)))]) []
    else (bif decide (at_ ≥ s) then
        k (.tup [(.agg ⟨[(.int .i64 s), (.sl 129 kept), (.sl 129 cache), (.int .i64 left), (.bool dark)], [], 5⟩), (.w (.d (.int .i64 1)))]) []
      else (bif decide ((↑bels.length : Int) > (128 : Int)) then
          k (.tup [(.agg ⟨[(.int .i64 s), (.sl 129 kept), (.sl 129 cache), (.int .i64 left), (.bool dark)], [], 5⟩), (.w (.d (.int .i64 1)))]) []
        else (bif leftOk left then
            (bif !!left == (0 : Int) then
              k (.tup [(.agg ⟨[(.int .i64 s), (.sl 129 kept), (.sl 129 cache), (.int .i64 (decL left)), (.bool (left == (0 : Int) || dark))], [], 5⟩), (.w (.d (.int .i64 20)))]) []
            else rput_L0 (rput_K0 k F) F F s kept cache left dark bels 0 [(.int .i64 at_), (.int .u8 0), (.int .u8 0), (.int .u8 0), (.int .u8 0), (.int .u8 0), (.int .u8 0), (.int .u8 0), (.int .u8 0), (.int .u8 0), (.int .u8 0), (.int .u8 0), (.int .u8 0), (.int .u8 0), (.int .u8 0), (.int .u8 0), (.int .u8 0), (.int .u8 0), (.int .u8 0), (.int .u8 0), (.int .u8 0), (.int .u8 0), (.int .u8 0), (.int .u8 0), (.int .u8 0), (.int .u8 0), (.int .u8 0), (.int .u8 0), (.int .u8 0), (.int .u8 0), (.int .u8 0), (.int .u8 0), (.int .u8 0), (.int .u8 0), (.int .u8 0), (.int .u8 0), (.int .u8 0), (.int .u8 0), (.int .u8 0), (.int .u8 0), (.int .u8 0), (.int .u8 0), (.int .u8 0), (.int .u8 0), (.int .u8 0), (.int .u8 0), (.int .u8 0), (.int .u8 0), (.int .u8 0), (.int .u8 0), (.int .u8 0), (.int .u8 0), (.int .u8 0), (.int .u8 0), (.int .u8 0), (.int .u8 0), (.int .u8 0), (.int .u8 0), (.int .u8 0), (.int .u8 0), (.int .u8 0), (.int .u8 0), (.int .u8 0), (.int .u8 0), (.int .u8 0), (.int .u8 0), (.int .u8 0), (.int .u8 0), (.int .u8 0), (.int .u8 0), (.int .u8 0), (.int .u8 0), (.int .u8 0), (.int .u8 0), (.int .u8 0), (.int .u8 0), (.int .u8 0), (.int .u8 0), (.int .u8 0), (.int .u8 0), (.int .u8 0), (.int .u8 0), (.int .u8 0), (.int .u8 0), (.int .u8 0), (.int .u8 0), (.int .u8 0), (.int .u8 0), (.int .u8 0), (.int .u8 0), (.int .u8 0), (.int .u8 0), (.int .u8 0), (.int .u8 0), (.int .u8 0), (.int .u8 0), (.int .u8 0), (.int .u8 0), (.int .u8 0), (.int .u8 0), (.int .u8 0), (.int .u8 0), (.int .u8 0), (.int .u8 0), (.int .u8 0), (.int .u8 0), (.int .u8 0), (.int .u8 0), (.int .u8 0), (.int .u8 0), (.int .u8 0), (.int .u8 0), (.int .u8 0), (.int .u8 0), (.int .u8 0), (.int .u8 0), (.int .u8 0), (.int .u8 0), (.int .u8 0), (.int .u8 0), (.int .u8 0), (.int .u8 0), (.int .u8 0), (.int .u8 0), (.int .u8 0), (.int .u8 0), (.int .u8 0), (.int .u8 0), (.int .u8 0)])
          else none)))) := by kernel_rfl
end Go.Proofs.Ytjkiipkghkpihaa
