import Derived.Test.YtjkiipkghkpihaaTrA
set_option linter.unusedVariables false
namespace Go.Proofs.Ytjkiipkghkpihaa
open Go Vm
def has_cf : Cfg := mkCf vti orc0 false (fun i => memN i []) (fun _ => false)
theorem has_start {R : Type} (k : V → Bx → Option R) (F : Nat) (kept : List (List C)) (cache : List (List C)) (left : Int) (dark : Bool) (at_ : Int) : runFn has_cf F Try.f23 (bd Try.f23) [p0, vi at_] (trayB kept cache left dark) k =
    (bif decide (at_ ≥ (0 : Int)) then
      k (vb (decide (at_ < (↑kept.length : Int)))) [(some (.cells ⟨[.nf, .nf, (.int .i64 left), (.bool dark)], [(0, (.arr 1)), (1, (.arr 2))], 4⟩)), (some (.arr true (some 64) 128 kept)), (some (.arr true (some 66) 129 cache))]
    else k (vb false) [(some (.cells ⟨[.nf, .nf, (.int .i64 left), (.bool dark)], [(0, (.arr 1)), (1, (.arr 2))], 4⟩)), (some (.arr true (some 64) 128 kept)), (some (.arr true (some 66) 129 cache))]) := by kernel_rfl
def step_cf : Cfg := mkCf vti orc0 false (fun i => memN i []) (fun _ => false)
theorem step_start {R : Type} (k : V → Bx → Option R) (F : Nat) (kept : List (List C)) (cache : List (List C)) (left : Int) (dark : Bool) : runFn step_cf F Try.f24 (bd Try.f24) [p0] (trayB kept cache left dark) k =
    (bif left == (0 : Int) then
      k (vb false) [(some (.cells ⟨[.nf, .nf, (.int .i64 left), (.bool true)], [(0, (.arr 1)), (1, (.arr 2))], 4⟩)), (some (.arr true (some 64) 128 kept)), (some (.arr true (some 66) 129 cache))]
    else (bif decide (left > (0 : Int)) then
        k (vb true) [(some (.cells ⟨[.nf, .nf, (.int .i64 (IntKind.i64.wrap (left - (1 : Int)))), (.bool dark)], [(0, (.arr 1)), (1, (.arr 2))], 4⟩)), (some (.arr true (some 64) 128 kept)), (some (.arr true (some 66) 129 cache))]
      else k (vb true) [(some (.cells ⟨[.nf, .nf, (.int .i64 left), (.bool dark)], [(0, (.arr 1)), (1, (.arr 2))], 4⟩)), (some (.arr true (some 64) 128 kept)), (some (.arr true (some 66) 129 cache))])) := by kernel_rfl
def settle_cf : Cfg := mkCf vti orc0 false (fun i => memN i []) (fun i => !memN i [0, 6, 7, 8])
def settle_m0 : List Bool := [true, false, false, false, false, false, true, true, true, false, false, false, false, false, false, false, false, false, false]
noncomputable def settle_b0 : Code := (cA (cA (cB (bd Try.f25))))
def settle_S0 (cache : List (List C)) (v1 : Int) (kept2 : List (List C)) : St := { env := [(.t (.w (.arr 0))), vu, vu, vu, vu, vu, (.t (.w (.arr 1))), (vi ((↑cache.length : Int))), (vi v1), vu, vu, vu, vu, vu, vu, vu, vu, vu, vu], bx := [(some (.arr true (some 64) 128 kept2)), (some (.arr true (some 66) 129 cache))], np := 2 }
noncomputable def settle_L0 {R : Type} (K : X → St → Option R) (F n : Nat) (cache : List (List C)) (v1 : Int) (kept2 : List (List C)) : Option R := loopV (headM settle_m0) (exec settle_cf F settle_b0) K n (settle_S0 cache v1 kept2)
noncomputable def settle_K0 {R : Type} (k : V → Bx → Option R) (F : Nat) : X → St → Option R := (blockK 0 (finK settle_cf Try.f25 k))
def settle_E1 (cache : List (List C)) (v1 : Int) (kept2 : List (List C)) : St := { env := [(.t (.w (.arr 0))), vu, vu, vu, vu, vu, (.t (.w (.arr 1))), (vi ((↑cache.length : Int))), (vi v1), (vb (decide (v1 < (↑cache.length : Int)))), vu, vu, vu, vu, vu, vu, vu, vu, vu], bx := [(some (.arr true (some 64) 128 kept2)), (some (.arr true (some 66) 129 cache))], np := 2 }
theorem settle_c1 {R : Type} (k : V → Bx → Option R) (F : Nat) (cache : List (List C)) (v1 : Int) (kept2 : List (List C)) : settle_K0 k F (.ex 0) (settle_E1 cache v1 kept2) =
    k (.tup []) [(some (.arr true (some 64) 128 kept2)), (some (.arr true (some 66) 129 cache))] := by kernel_rfl
theorem settle_r0 {R : Type} (K : X → St → Option R) (F n : Nat) (cache : List (List C)) (v1 : Int) (kept2 : List (List C)) : settle_L0 K F (n + 1) cache v1 kept2 =
    (bif decide (v1 < (↑cache.length : Int)) then
      (bif decide ((0 : Int) ≤ v1) then
        (getT cache v1.toNat fun z1 =>
          (getT cache v1.toNat fun z2 =>
            (bif (List.take (129 : Nat) z2).length == (129 : Nat) then
              (bif shOk [Sh.int IntKind.i64, Sh.run (128 : Nat)] (List.take (129 : Nat) z2) then
                (bif decide ((0 : Int) ≤ ((List.take (129 : Nat) z2).getD (0 : Nat) C.nf).toInt) then
                  (getT kept2 (((List.take (129 : Nat) z2).getD (0 : Nat) C.nf).toInt.toNat) fun z3 =>
                    (getT kept2 (((List.take (129 : Nat) z2).getD (0 : Nat) C.nf).toInt.toNat) fun z4 =>
                      settle_L0 K F n cache (IntKind.i64.wrap (v1 + (1 : Int))) (kept2.set ((List.take (129 : Nat) z2).getD (0 : Nat) C.nf).toInt.toNat (List.take (128 : Nat) (List.take (128 : Nat) (List.drop (1 : Nat) (List.take (129 : Nat) z2)) ++ [] ++ []) ++ List.drop ((0 : Nat) + (List.take (128 : Nat) (List.take (128 : Nat) (List.drop (1 : Nat) (List.take (129 : Nat) z2)) ++ [] ++ [])).length) z4))))
                else none)
              else none)
            else none)))
      else none)
    else K (.ex 0) (settle_E1 cache v1 kept2)) := by kernel_rfl
theorem settle_start {R : Type} (k : V → Bx → Option R) (F : Nat) (kept : List (List C)) (cache : List (List C)) : runFn settle_cf F Try.f25 (bd Try.f25) [V.t (T.w (W.arr (0 : Nat))), V.t (T.w (W.arr (1 : Nat)))] [some (Box.arr true (some (64 : TypeId)) (128 : Nat) kept), some (Box.arr true (some (66 : TypeId)) (129 : Nat) cache)] k =
    settle_L0 (settle_K0 k F) F F cache 0 kept := by kernel_rfl
def settle2_cf : Cfg := mkCf vti orc0 false (fun i => memN i []) (fun i => !memN i [0, 6, 7, 8])
def settle2_m0 : List Bool := [true, false, false, false, false, false, true, true, true, false, false, false, false, false, false, false, false, false, false]
noncomputable def settle2_b0 : Code := (cA (cA (cB (bd Try.f25))))
def settle2_S0 (cache : List (List C)) (v1 : Int) (kept2 : List (List C)) : St := { env := [(.t (.w (.arr 0))), vu, vu, vu, vu, vu, (vc (.sl 129 cache)), (vi ((↑cache.length : Int))), (vi v1), vu, vu, vu, vu, vu, vu, vu, vu, vu, vu], bx := [(some (.arr true (some 64) 128 kept2))], np := 1 }
noncomputable def settle2_L0 {R : Type} (K : X → St → Option R) (F n : Nat) (cache : List (List C)) (v1 : Int) (kept2 : List (List C)) : Option R := loopV (headM settle2_m0) (exec settle2_cf F settle2_b0) K n (settle2_S0 cache v1 kept2)
noncomputable def settle2_K0 {R : Type} (k : V → Bx → Option R) (F : Nat) : X → St → Option R := (blockK 0 (finK settle2_cf Try.f25 k))
def settle2_E1 (cache : List (List C)) (v1 : Int) (kept2 : List (List C)) : St := { env := [(.t (.w (.arr 0))), vu, vu, vu, vu, vu, (vc (.sl 129 cache)), (vi ((↑cache.length : Int))), (vi v1), (vb (decide (v1 < (↑cache.length : Int)))), vu, vu, vu, vu, vu, vu, vu, vu, vu], bx := [(some (.arr true (some 64) 128 kept2))], np := 1 }
theorem settle2_c1 {R : Type} (k : V → Bx → Option R) (F : Nat) (cache : List (List C)) (v1 : Int) (kept2 : List (List C)) : settle2_K0 k F (.ex 0) (settle2_E1 cache v1 kept2) =
    k (.tup []) [(some (.arr true (some 64) 128 kept2))] := by kernel_rfl
theorem settle2_r0 {R : Type} (K : X → St → Option R) (F n : Nat) (cache : List (List C)) (v1 : Int) (kept2 : List (List C)) : settle2_L0 K F (n + 1) cache v1 kept2 =
    (bif decide (v1 < (↑cache.length : Int)) then
      (bif decide ((0 : Int) ≤ v1) then
        (getT cache v1.toNat fun z1 =>
          (bif (List.take (129 : Nat) z1).length == (129 : Nat) then
            (bif shOk [Sh.int IntKind.i64, Sh.run (128 : Nat)] (List.take (129 : Nat) z1) then
              (bif decide ((0 : Int) ≤ ((List.take (129 : Nat) z1).getD (0 : Nat) C.nf).toInt) then
                (getT kept2 (((List.take (129 : Nat) z1).getD (0 : Nat) C.nf).toInt.toNat) fun z2 =>
                  (getT kept2 (((List.take (129 : Nat) z1).getD (0 : Nat) C.nf).toInt.toNat) fun z3 =>
                    settle2_L0 K F n cache (IntKind.i64.wrap (v1 + (1 : Int))) (kept2.set ((List.take (129 : Nat) z1).getD (0 : Nat) C.nf).toInt.toNat (List.take (128 : Nat) (List.take (128 : Nat) (List.drop (1 : Nat) (List.take (129 : Nat) z1)) ++ [] ++ []) ++ List.drop ((0 : Nat) + (List.take (128 : Nat) (List.take (128 : Nat) (List.drop (1 : Nat) (List.take (129 : Nat) z1)) ++ [] ++ [])).length) z3))))
              else none)
            else none)
          else none))
      else none)
    else K (.ex 0) (settle2_E1 cache v1 kept2)) := by kernel_rfl
theorem settle2_start {R : Type} (k : V → Bx → Option R) (F : Nat) (kept : List (List C)) (cache : List (List C)) : runFn settle2_cf F Try.f25 (bd Try.f25) [V.t (T.w (W.arr (0 : Nat))), vc (C.sl (129 : Nat) cache)] [some (Box.arr true (some (64 : TypeId)) (128 : Nat) kept)] k =
    settle2_L0 (settle2_K0 k F) F F cache 0 kept := by kernel_rfl
def cached_cf : Cfg := mkCf vti orc0 false (fun i => memN i []) (fun _ => false)
theorem cached_start {R : Type} (k : V → Bx → Option R) (F : Nat) (kept : List (List C)) (cache : List (List C)) (left : Int) (dark : Bool) : runFn cached_cf F Try.f13 (bd Try.f13) [p0] (trayB kept cache left dark) k =
    k (vi ((↑cache.length : Int))) [(some (.cells ⟨[.nf, .nf, (.int .i64 left), (.bool dark)], [(0, (.arr 1)), (1, (.arr 2))], 4⟩)), (some (.arr true (some 64) 128 kept)), (some (.arr true (some 66) 129 cache))] := by kernel_rfl
def dark_cf : Cfg := mkCf vti orc0 false (fun i => memN i []) (fun _ => false)
theorem dark_start {R : Type} (k : V → Bx → Option R) (F : Nat) (kept : List (List C)) (cache : List (List C)) (left : Int) (dark : Bool) : runFn dark_cf F Try.f14 (bd Try.f14) [p0] (trayB kept cache left dark) k =
    k (vb dark) [(some (.cells ⟨[.nf, .nf, (.int .i64 left), (.bool dark)], [(0, (.arr 1)), (1, (.arr 2))], 4⟩)), (some (.arr true (some 64) 128 kept)), (some (.arr true (some 66) 129 cache))] := by kernel_rfl
def sectors_cf : Cfg := mkCf vti orc0 false (fun i => memN i []) (fun _ => false)
theorem sectors_start {R : Type} (k : V → Bx → Option R) (F : Nat) (kept : List (List C)) (cache : List (List C)) (left : Int) (dark : Bool) : runFn sectors_cf F Try.f21 (bd Try.f21) [p0] (trayB kept cache left dark) k =
    k (vi ((↑kept.length : Int))) [(some (.cells ⟨[.nf, .nf, (.int .i64 left), (.bool dark)], [(0, (.arr 1)), (1, (.arr 2))], 4⟩)), (some (.arr true (some 64) 128 kept)), (some (.arr true (some 66) 129 cache))] := by kernel_rfl
def power_cf : Cfg := mkCf vti orc0 false (fun i => memN i []) (fun _ => false)
theorem power_start {R : Type} (k : V → Bx → Option R) (F : Nat) (kept : List (List C)) (cache : List (List C)) (left : Int) (dark : Bool) (n : Int) : runFn power_cf F Try.f15 (bd Try.f15) [p0, vi n] (trayB kept cache left dark) k =
    (bif decide (n < (0 : Int)) then
      k (vi 1) [(some (.cells ⟨[.nf, .nf, (.int .i64 left), (.bool dark)], [(0, (.arr 1)), (1, (.arr 2))], 4⟩)), (some (.arr true (some 64) 128 kept)), (some (.arr true (some 66) 129 cache))]
    else (bif decide (n > (1099511627776 : Int)) then
        k (vi 1) [(some (.cells ⟨[.nf, .nf, (.int .i64 left), (.bool dark)], [(0, (.arr 1)), (1, (.arr 2))], 4⟩)), (some (.arr true (some 64) 128 kept)), (some (.arr true (some 66) 129 cache))]
      else k (vi 0) [(some (.cells ⟨[.nf, .nf, (.int .i64 n), (.bool false)], [(0, (.arr 1)), (1, (.arr 2))], 4⟩)), (some (.arr true (some 64) 128 kept)), (some (.arr true (some 66) 129 cache))])) := by kernel_rfl
def new__cf : Cfg := mkCf vti orc0 false (fun i => memN i []) (fun _ => false)
theorem new__start {R : Type} (k : V → Bx → Option R) (F : Nat) (n : Int) : runFn new__cf F Try.f7 (bd Try.f7) [vi n] [] k =
    (bif decide (n < (4 : Int)) then
      k (.tup [(.w (.d .np)), (.w (.d (.int .i64 1)))]) []
    else (bif decide (n > (4096 : Int)) then
        k (.tup [(.w (.d .np)), (.w (.d (.int .i64 1)))]) []
      else (bif mkOk n n (128 : Nat) && true && true then
          k (.tup [(.w (.ptr 0 0)), (.w (.d (.int .i64 0)))]) [(some (.cells ⟨[.nf, .nf, (.int .i64 (-1)), (.bool false)], [(0, (.arr 1)), (1, (.arr 2))], 4⟩)), (some (.arr true (some 64) 128 (List.replicate n.toNat [C.int IntKind.u8 (0 : Int), C.int IntKind.u8 (0 : Int), C.int IntKind.u8 (0 : Int), C.int IntKind.u8 (0 : Int), C.int IntKind.u8 (0 : Int), C.int IntKind.u8 (0 : Int), C.int IntKind.u8 (0 : Int), C.int IntKind.u8 (0 : Int), C.int IntKind.u8 (0 : Int), C.int IntKind.u8 (0 : Int), C.int IntKind.u8 (0 : Int), C.int IntKind.u8 (0 : Int), C.int IntKind.u8 (0 : Int), C.int IntKind.u8 (0 : Int), C.int IntKind.u8 (0 : Int), C.int IntKind.u8 (0 : Int), C.int IntKind.u8 (0 : Int), C.int IntKind.u8 (0 : Int), C.int IntKind.u8 (0 : Int), C.int IntKind.u8 (0 : Int), C.int IntKind.u8 (0 : Int), C.int IntKind.u8 (0 : Int), C.int IntKind.u8 (0 : Int), C.int IntKind.u8 (0 : Int), C.int IntKind.u8 (0 : Int), C.int IntKind.u8 (0 : Int), C.int IntKind.u8 (0 : Int), C.int IntKind.u8 (0 : Int), C.int IntKind.u8 (0 : Int), C.int IntKind.u8 (0 : Int), C.int IntKind.u8 (0 : Int), C.int IntKind.u8 (0 : Int), C.int IntKind.u8 (0 : Int), C.int IntKind.u8 (0 : Int), C.int IntKind.u8 (0 : Int), C.int IntKind.u8 (0 : Int), C.int IntKind.u8 (0 : Int), C.int IntKind.u8 (0 : Int), C.int IntKind.u8 (0 : Int), C.int IntKind.u8 (0 : Int), C.int IntKind.u8 (0 : Int), C.int IntKind.u8 (0 : Int), C.int IntKind.u8 (0 : Int), C.int IntKind.u8 (0 : Int), C.int IntKind.u8 (0 : Int), C.int IntKind.u8 (0 : Int), C.int IntKind.u8 (0 : Int), C.int IntKind.u8 (0 : Int), C.int IntKind.u8 (0 : Int), C.int IntKind.u8 (0 : Int), C.int IntKind.u8 (0 : Int), C.int IntKind.u8 (0 : Int), C.int IntKind.u8 (0 : Int), C.int IntKind.u8 (0 : Int), C.int IntKind.u8 (0 : Int), C.int IntKind.u8 (0 : Int), C.int IntKind.u8 (0 : Int), C.int IntKind.u8 (0 : Int), C.int IntKind.u8 (0 : Int), C.int IntKind.u8 (0 : Int), C.int IntKind.u8 (0 : Int), C.int IntKind.u8 (0 : Int), C.int IntKind.u8 (0 : Int), C.int IntKind.u8 (0 : Int), C.int IntKind.u8 (0 : Int), C.int IntKind.u8 (0 : Int), C.int IntKind.u8 (0 : Int), C.int IntKind.u8 (0 : Int), C.int IntKind.u8 (0 : Int), C.int IntKind.u8 (0 : Int), C.int IntKind.u8 (0 : Int), C.int IntKind.u8 (0 : Int), C.int IntKind.u8 (0 : Int), C.int IntKind.u8 (0 : Int), C.int IntKind.u8 (0 : Int), C.int IntKind.u8 (0 : Int), C.int IntKind.u8 (0 : Int), C.int IntKind.u8 (0 : Int), C.int IntKind.u8 (0 : Int), C.int IntKind.u8 (0 : Int), C.int IntKind.u8 (0 : Int), C.int IntKind.u8 (0 : Int), C.int IntKind.u8 (0 : Int), C.int IntKind.u8 (0 : Int), C.int IntKind.u8 (0 : Int), C.int IntKind.u8 (0 : Int), C.int IntKind.u8 (0 : Int), C.int IntKind.u8 (0 : Int), C.int IntKind.u8 (0 : Int), C.int IntKind.u8 (0 : Int), C.int IntKind.u8 (0 : Int), C.int IntKind.u8 (0 : Int), C.int IntKind.u8 (0 : Int), C.int IntKind.u8 (0 : Int), C.int IntKind.u8 (0 : Int), C.int IntKind.u8 (0 : Int), C.int IntKind.u8 (0 : Int), C.int IntKind.u8 (0 : Int), C.int IntKind.u8 (0 : Int), C.int IntKind.u8 (0 : Int), C.int IntKind.u8 (0 : Int), C.int IntKind.u8 (0 : Int), C.int IntKind.u8 (0 : Int), C.int IntKind.u8 (0 : Int), C.int IntKind.u8 (0 : Int), C.int IntKind.u8 (0 : Int), C.int IntKind.u8 (0 : Int), C.int IntKind.u8 (0 : Int), C.int IntKind.u8 (0 : Int), C.int IntKind.u8 (0 : Int), C.int IntKind.u8 (0 : Int), C.int IntKind.u8 (0 : Int), C.int IntKind.u8 (0 : Int), C.int IntKind.u8 (0 : Int), C.int IntKind.u8 (0 : Int), C.int IntKind.u8 (0 : Int), C.int IntKind.u8 (0 : Int), C.int IntKind.u8 (0 : Int), C.int IntKind.u8 (0 : Int), C.int IntKind.u8 (0 : Int), C.int IntKind.u8 (0 : Int), C.int IntKind.u8 (0 : Int), C.int IntKind.u8 (0 : Int), C.int IntKind.u8 (0 : Int), C.int IntKind.u8 (0 : Int), C.int IntKind.u8 (0 : Int), C.int IntKind.u8 (0 : Int), C.int IntKind.u8 (0 : Int)]))), (some (.arr true (some 66) 129 []))]
        else none))) := by kernel_rfl
def write_cf : Cfg := mkCf vti orc1 false (fun i => memN i []) (fun _ => false)
theorem write_start {R : Type} (k : V → Bx → Option R) (F : Nat) (kept : List (List C)) (cache : List (List C)) (left : Int) (dark : Bool) (at_ : Int) (bels : List (List C)) : runFn write_cf F Try.f9 (bd Try.f9) [p0, vi at_, vc (C.sl (1 : Nat) bels)] (trayB kept cache left dark) k =
    (bif decide (at_ ≥ (0 : Int)) then
      (bif !decide (at_ < (↑kept.length : Int)) then
        k (vi 1) [(some (.cells ⟨[.nf, .nf, (.int .i64 left), (.bool dark)], [(0, (.arr 1)), (1, (.arr 2))], 4⟩)), (some (.arr true (some 64) 128 kept)), (some (.arr true (some 66) 129 cache))]
      else (bif decide ((↑bels.length : Int) > (128 : Int)) then
          k (vi 1) [(some (.cells ⟨[.nf, .nf, (.int .i64 left), (.bool dark)], [(0, (.arr 1)), (1, (.arr 2))], 4⟩)), (some (.arr true (some 64) 128 kept)), (some (.arr true (some 66) 129 cache))]
        else (bif left == (0 : Int) then
            k (vi 20) [(some (.cells ⟨[.nf, .nf, (.int .i64 left), (.bool true)], [(0, (.arr 1)), (1, (.arr 2))], 4⟩)), (some (.arr true (some 64) 128 kept)), (some (.arr true (some 66) 129 cache))]
          else (bif decide (left > (0 : Int)) then
              (bif decide ((cache.length + (1 : Nat)) * (136 : Nat) ≤ (140737488355328 : Nat) ∧ cache.length + (1 : Nat) ≤ (9223372036854775807 : Nat)) then
                k (vi 0) [(some (.cells ⟨[.nf, .nf, (.int .i64 (IntKind.i64.wrap (left - (1 : Int)))), (.bool dark)], [(0, (.arr 1)), (1, (.arr 3))], 4⟩)), (some (.arr true (some 64) 128 kept)), none, (some (.arr true (some 66) 129 (cache ++ [C.int IntKind.i64 at_ :: List.take (128 : Nat) (List.map (fun e => e.getD (0 : Nat) C.nf) (List.take (128 : Nat) bels) ++ List.drop ((1 : Nat) + bels.length.min (128 : Nat)) (C.int IntKind.i64 at_ :: List.replicate (128 : Nat) (C.int IntKind.u8 (0 : Int))))])))]
              else none)
            else (bif decide ((cache.length + (1 : Nat)) * (136 : Nat) ≤ (140737488355328 : Nat) ∧ cache.length + (1 : Nat) ≤ (9223372036854775807 : Nat)) then
                k (vi 0) [(some (.cells ⟨[.nf, .nf, (.int .i64 left), (.bool dark)], [(0, (.arr 1)), (1, (.arr 3))], 4⟩)), (some (.arr true (some 64) 128 kept)), none, (some (.arr true (some 66) 129 (cache ++ [C.int IntKind.i64 at_ :: List.take (128 : Nat) (List.map (fun e => e.getD (0 : Nat) C.nf) (List.take (128 : Nat) bels) ++ List.drop ((1 : Nat) + bels.length.min (128 : Nat)) (C.int IntKind.i64 at_ :: List.replicate (128 : Nat) (C.int IntKind.u8 (0 : Int))))])))]
              else none)))))
    else k (vi 1) [(some (.cells ⟨[.nf, .nf, (.int .i64 left), (.bool dark)], [(0, (.arr 1)), (1, (.arr 2))], 4⟩)), (some (.arr true (some 64) 128 kept)), (some (.arr true (some 66) 129 cache))]) := by kernel_rfl
def flush_cf : Cfg := mkCf vti orc1 false (fun i => memN i [(14 : Nat)]) (fun _ => false)
theorem flush_start {R : Type} (k : V → Bx → Option R) (F : Nat) (kept : List (List C)) (cache : List (List C)) (left : Int) (dark : Bool) : runFn flush_cf F Try.f10 (bd Try.f10) [p0] (trayB kept cache left dark) k =
    (bif left == (0 : Int) then
      k (vi 20) [(some (.cells ⟨[.nf, .nf, (.int .i64 left), (.bool true)], [(0, (.arr 1)), (1, (.arr 2))], 4⟩)), (some (.arr true (some 64) 128 kept)), (some (.arr true (some 66) 129 cache))]
    else (bif decide (left > (0 : Int)) then
        (bif okT kept cache then
          k (vi 0) [(some (.cells ⟨[.nf, .nf, (.int .i64 (IntKind.i64.wrap (left - (1 : Int)))), (.bool dark)], [(0, (.arr 1)), (1, (.arr 3))], 4⟩)), (some (.arr true (some 64) 128 (settleP kept cache))), (some (.arr true (some 66) 129 cache)), (some (.arr true (some 66) 129 []))]
        else none)
      else (bif okT kept cache then
          k (vi 0) [(some (.cells ⟨[.nf, .nf, (.int .i64 left), (.bool dark)], [(0, (.arr 1)), (1, (.arr 3))], 4⟩)), (some (.arr true (some 64) 128 (settleP kept cache))), (some (.arr true (some 66) 129 cache)), (some (.arr true (some 66) 129 []))]
        else none))) := by kernel_rfl
def lose_cf : Cfg := mkCf vti orc1 false (fun i => memN i [(42 : Nat)]) (fun i => !memN i [1, 5, 19, 20, 21])
def lose_m0 : List Bool := [false, true, false, false, false, true, false, false, false, false, false, false, false, false, false, false, false, false, false, true, true, true, false, false, false, false, false, false, false, false, false, false, false, false, false, false, false, false, false, false, false, false, false, false, false]
noncomputable def lose_b0 : Code := (cA (cA (cB (cA (cB (cB (bd Try.f11)))))))
def lose_S0 (kept : List (List C)) (cache : List (List C)) (left : Int) (dark : Bool) (ch : List (List C)) (v1 : Int) (kept2 : List (List C)) : St := { env := [vu, (vc (.sl 1 ch)), vu, vu, vu, (.t (.w (.ptr 3 0))), vu, vu, vu, vu, vu, vu, vu, vu, vu, vu, vu, vu, vu, (.t (.w (.arr 2))), (vi ((↑cache.length : Int))), (vi v1), vu, vu, vu, vu, vu, vu, vu, vu, vu, vu, vu, vu, vu, vu, vu, vu, vu, vu, vu, vu, vu, vu, vu], bx := [(some (.cells ⟨[.nf, .nf, (.int .i64 left), (.bool dark)], [(0, (.arr 1)), (1, (.arr 2))], 4⟩)), (some (.arr true (some 64) 128 kept)), (some (.arr true (some 66) 129 cache)), (some (.cells ⟨[.nf, .nf, (.int .i64 (-1)), (.bool false)], [(0, (.arr 4)), (1, (.arr 5))], 4⟩)), (some (.arr true (some 64) 128 kept2)), (some (.arr true (some 66) 129 []))], np := 3 }
noncomputable def lose_L0 {R : Type} (K : X → St → Option R) (F n : Nat) (kept : List (List C)) (cache : List (List C)) (left : Int) (dark : Bool) (ch : List (List C)) (v1 : Int) (kept2 : List (List C)) : Option R := loopV (headM lose_m0) (exec lose_cf F lose_b0) K n (lose_S0 kept cache left dark ch v1 kept2)
noncomputable def lose_K0 {R : Type} (k : V → Bx → Option R) (F : Nat) : X → St → Option R := (blockK 0 (seqK lose_cf F (cB (cB (cB (bd Try.f11)))) (finK lose_cf Try.f11 k)))
def lose_E1 (kept : List (List C)) (cache : List (List C)) (left : Int) (dark : Bool) (ch : List (List C)) (v1 : Int) (kept2 : List (List C)) : St := { env := [vu, (vc (.sl 1 ch)), vu, vu, vu, (.t (.w (.ptr 3 0))), vu, vu, vu, vu, vu, vu, vu, vu, vu, vu, vu, vu, vu, (.t (.w (.arr 2))), (vi ((↑cache.length : Int))), (vi v1), (vb (decide (v1 < (↑cache.length : Int)))), vu, vu, vu, vu, vu, vu, vu, vu, vu, vu, vu, vu, vu, vu, vu, vu, vu, vu, vu, vu, vu, vu], bx := [(some (.cells ⟨[.nf, .nf, (.int .i64 left), (.bool dark)], [(0, (.arr 1)), (1, (.arr 2))], 4⟩)), (some (.arr true (some 64) 128 kept)), (some (.arr true (some 66) 129 cache)), (some (.cells ⟨[.nf, .nf, (.int .i64 (-1)), (.bool false)], [(0, (.arr 4)), (1, (.arr 5))], 4⟩)), (some (.arr true (some 64) 128 kept2)), (some (.arr true (some 66) 129 []))], np := 3 }
theorem lose_c1 {R : Type} (k : V → Bx → Option R) (F : Nat) (kept : List (List C)) (cache : List (List C)) (left : Int) (dark : Bool) (ch : List (List C)) (v1 : Int) (kept2 : List (List C)) : lose_K0 k F (.ex 0) (lose_E1 kept cache left dark ch v1 kept2) =
    k (.t (.w (.ptr 3 0))) [(some (.cells ⟨[.nf, .nf, (.int .i64 left), (.bool dark)], [(0, (.arr 1)), (1, (.arr 2))], 4⟩)), (some (.arr true (some 64) 128 kept)), (some (.arr true (some 66) 129 cache)), (some (.cells ⟨[.nf, .nf, (.int .i64 (-1)), (.bool false)], [(0, (.arr 4)), (1, (.arr 5))], 4⟩)), (some (.arr true (some 64) 128 kept2)), (some (.arr true (some 66) 129 []))] := by kernel_rfl
theorem lose_r0 {R : Type} (K : X → St → Option R) (F n : Nat) (kept : List (List C)) (cache : List (List C)) (left : Int) (dark : Bool) (ch : List (List C)) (v1 : Int) (kept2 : List (List C)) : lose_L0 K F (n + 1) kept cache left dark ch v1 kept2 =
    (bif decide (v1 < (↑cache.length : Int)) then
      (bif decide ((0 : Int) ≤ v1) then
        (getT cache v1.toNat fun z1 =>
          (getT cache v1.toNat fun z2 =>
            (bif (List.take (129 : Nat) z2).length == (129 : Nat) then
              (bif shOk [Sh.int IntKind.i64, Sh.run (128 : Nat)] (List.take (129 : Nat) z2) then
                (bif decide (v1 < (↑ch.length : Int)) then
                  (bif decide ((0 : Int) ≤ v1) then
                    (getT ch v1.toNat fun z3 =>
                      (getT z3 0 fun z4 =>
                        (bif shOk [Sh.bool] [z4] then
                          (bif ([z4].getD (0 : Nat) C.nf).toBool then
                            (bif okT kept2 [C.int IntKind.i64 ((List.take (129 : Nat) z2).getD (0 : Nat) C.nf).toInt :: List.take (128 : Nat) (List.take (128 : Nat) (List.drop (1 : Nat) (List.take (129 : Nat) z2)) ++ [] ++ [])] then
                              lose_L0 K F n kept cache left dark ch (IntKind.i64.wrap (v1 + (1 : Int))) (settleP kept2 [C.int IntKind.i64 ((List.take (129 : Nat) z2).getD (0 : Nat) C.nf).toInt :: List.take (128 : Nat) (List.take (128 : Nat) (List.drop (1 : Nat) (List.take (129 : Nat) z2)) ++ [] ++ [])])
                            else none)
                          else lose_L0 K F n kept cache left dark ch (IntKind.i64.wrap (v1 + (1 : Int))) kept2)
                        else none)))
                  else none)
                else lose_L0 K F n kept cache left dark ch (IntKind.i64.wrap (v1 + (1 : Int))) kept2)
              else none)
            else none)))
      else none)
    else K (.ex 0) (lose_E1 kept cache left dark ch v1 kept2)) := by kernel_rfl
theorem lose_start {R : Type} (k : V → Bx → Option R) (F : Nat) (kept : List (List C)) (cache : List (List C)) (left : Int) (dark : Bool) (ch : List (List C)) : runFn lose_cf F Try.f11 (bd Try.f11) [p0, vc (C.sl (1 : Nat) ch)] (trayB kept cache left dark) k =
    (bif decide (((0 : Nat) + kept.length) * (128 : Nat) ≤ (140737488355328 : Nat) ∧ (0 : Nat) + kept.length ≤ (9223372036854775807 : Nat)) then
      lose_L0 (lose_K0 k F) F F kept cache left dark ch 0 kept
    else none) := by kernel_rfl
def read_cf : Cfg := mkCf vti orc1 false (fun i => memN i [(36 : Nat)]) (fun i => !memN i [1, 6, 23, 24, 25])
def read_m0 : List Bool := [false, true, false, false, false, false, true, false, false, false, false, false, false, false, false, false, false, false, false, false, false, false, false, true, true, true, false, false, false, false, false, false, false, false, false, false, false]
noncomputable def read_b0 : Code := (cA (cA (cB (cA (cB (cB (cB (bd Try.f12))))))))
def read_S0 (kept : List (List C)) (cache : List (List C)) (left : Int) (dark : Bool) (at_ : Int) (v1 : Int) (v2 : List C) : St := { env := [vu, (vi at_), vu, vu, vu, vu, (.t (.w (.ptr 3 0))), vu, vu, vu, vu, vu, vu, vu, vu, vu, vu, vu, vu, vu, vu, vu, vu, (.t (.w (.arr 2))), (vi ((↑cache.length : Int))), (vi v1), vu, vu, vu, vu, vu, vu, vu, vu, vu, vu, vu], bx := [(some (.cells ⟨[.nf, .nf, (.int .i64 left), (.bool dark)], [(0, (.arr 1)), (1, (.arr 2))], 4⟩)), (some (.arr true (some 64) 128 kept)), (some (.arr true (some 66) 129 cache)), (some (.cells ⟨v2, [], 128⟩))], np := 3 }
noncomputable def read_L0 {R : Type} (K : X → St → Option R) (F n : Nat) (kept : List (List C)) (cache : List (List C)) (left : Int) (dark : Bool) (at_ : Int) (v1 : Int) (v2 : List C) : Option R := loopV (headM read_m0) (exec read_cf F read_b0) K n (read_S0 kept cache left dark at_ v1 v2)
noncomputable def read_K0 {R : Type} (k : V → Bx → Option R) (F : Nat) : X → St → Option R := (blockK 0 (seqK read_cf F (cB (cB (cB (cB (bd Try.f12))))) (finK read_cf Try.f12 k)))
def read_E1 (kept : List (List C)) (cache : List (List C)) (left : Int) (dark : Bool) (at_ : Int) (v1 : Int) (v2 : List C) : St := { env := [vu, (vi at_), vu, vu, vu, vu, (.t (.w (.ptr 3 0))), vu, vu, vu, vu, vu, vu, vu, vu, vu, vu, vu, vu, vu, vu, vu, vu, (.t (.w (.arr 2))), (vi ((↑cache.length : Int))), (vi v1), (vb (decide (v1 < (↑cache.length : Int)))), vu, vu, vu, vu, vu, vu, vu, vu, vu, vu], bx := [(some (.cells ⟨[.nf, .nf, (.int .i64 left), (.bool dark)], [(0, (.arr 1)), (1, (.arr 2))], 4⟩)), (some (.arr true (some 64) 128 kept)), (some (.arr true (some 66) 129 cache)), (some (.cells ⟨v2, [], 128⟩))], np := 3 }
theorem read_c1 {R : Type} (k : V → Bx → Option R) (F : Nat) (kept : List (List C)) (cache : List (List C)) (left : Int) (dark : Bool) (at_ : Int) (v1 : Int) (v2 : List C) : read_K0 k F (.ex 0) (read_E1 kept cache left dark at_ v1 v2) =
    k (.tup [(.w (.d (.sl 1 (List.map (fun c => [c]) v2)))), (.w (.d (.int .i64 0)))]) [(some (.cells ⟨[.nf, .nf, (.int .i64 left), (.bool dark)], [(0, (.arr 1)), (1, (.arr 2))], 4⟩)), (some (.arr true (some 64) 128 kept)), (some (.arr true (some 66) 129 cache))] := by kernel_rfl
theorem read_r0 {R : Type} (K : X → St → Option R) (F n : Nat) (kept : List (List C)) (cache : List (List C)) (left : Int) (dark : Bool) (at_ : Int) (v1 : Int) (v2 : List C) : read_L0 K F (n + 1) kept cache left dark at_ v1 v2 =
    (bif decide (v1 < (↑cache.length : Int)) then
      (bif decide ((0 : Int) ≤ v1) then
        (getT cache v1.toNat fun z3 =>
          (getT cache v1.toNat fun z4 =>
            (bif (List.take (129 : Nat) z4).length == (129 : Nat) then
              (bif shOk [Sh.int IntKind.i64, Sh.run (128 : Nat)] (List.take (129 : Nat) z4) then
                (bif ((List.take (129 : Nat) z4).getD (0 : Nat) C.nf).toInt == at_ then
                  read_L0 K F n kept cache left dark at_ (IntKind.i64.wrap (v1 + (1 : Int))) (List.take (128 : Nat) (List.take (128 : Nat) (List.drop (1 : Nat) (List.take (129 : Nat) z4)) ++ [] ++ []) ++ List.drop (128 : Nat) v2)
                else read_L0 K F n kept cache left dark at_ (IntKind.i64.wrap (v1 + (1 : Int))) v2)
              else none)
            else none)))
      else none)
    else K (.ex 0) (read_E1 kept cache left dark at_ v1 v2)) := by kernel_rfl
theorem read_start {R : Type} (k : V → Bx → Option R) (F : Nat) (kept : List (List C)) (cache : List (List C)) (left : Int) (dark : Bool) (at_ : Int) : runFn read_cf F Try.f12 (bd Try.f12) [p0, vi at_] (trayB kept cache left dark) k =
    (bif decide (at_ ≥ (0 : Int)) then
      (bif !decide (at_ < (↑kept.length : Int)) then
        k (.tup [(.w (.d (.sl 1 []))), (.w (.d (.int .i64 1)))]) [(some (.cells ⟨[.nf, .nf, (.int .i64 left), (.bool dark)], [(0, (.arr 1)), (1, (.arr 2))], 4⟩)), (some (.arr true (some 64) 128 kept)), (some (.arr true (some 66) 129 cache))]
      else (bif decide ((0 : Int) ≤ at_) then
          (getT kept at_.toNat fun z1 =>
            (getT kept at_.toNat fun z2 =>
              (bif (List.take (128 : Nat) z2).length == (128 : Nat) then
                (bif shOk [Sh.run (128 : Nat)] (List.take (128 : Nat) z2) then
                  read_L0 (read_K0 k F) F F kept cache left dark at_ 0 (List.take (128 : Nat) (List.take (128 : Nat) z2) ++ [] ++ [])
                else none)
              else none)))
        else none))
    else k (.tup [(.w (.d (.sl 1 []))), (.w (.d (.int .i64 1)))]) [(some (.cells ⟨[.nf, .nf, (.int .i64 left), (.bool dark)], [(0, (.arr 1)), (1, (.arr 2))], 4⟩)), (some (.arr true (some 64) 128 kept)), (some (.arr true (some 66) 129 cache))]) := by kernel_rfl
def awake_cf : Cfg := mkCf vti orc2a false (fun i => memN i []) (fun _ => false)
theorem awake_start {R : Type} (k : V → Bx → Option R) (F : Nat) : runFn awake_cf F Try.f8 (bd Try.f8) [] [] k =
    k (vb true) [] := by kernel_rfl
end Go.Proofs.Ytjkiipkghkpihaa
