import Derived.Test.YtjkiipkghkpihaaTrPm
set_option linter.unusedVariables false
namespace Go.Proofs.Ytjkiipkghkpihaa
open Go Vm
def lPlay_cf : Cfg := mkCfD vti orc5 false [86, 135, 149, 157, 164] [(10, 2017612633061982371), (20, 475368975087603638194325698723), (35, 2619010934096978029421003220227581188836064178995363), (999, 16), (1000, 0), (1001, 2017612633061982371), (1002, 2017612633061988515), (1003, 2017612633061988515), (1005, 2017612633061982371)]
def lPlay_m0 : List Bool := [true, true, false, false, false, true, false, true, false, false, false, false, false, false, false, false, false, false, false, false, false, false, false, false, false, false, false, false, false, false, false, false, false, false, false, false, false, false, false, false, false, false, false, false, false, false, false, false, false, false, false, false, false, false, false, false, false, false, true, true, true, false, false, false, false, false, false, false, false, false, false, false, false, false, false, false, false, false, false, false, false, false, false, false, false, false, false, false, false, false, false, false, false, false, false, false, false, false, false, false, false, false, false, false, false, false, false, false, false, false, false, false, false, false, false, false, false, false, false, false, false, false, false, false, false, false, false, false, false, false, false, false, false, false, false, false, false, false, false, false, false, false, false, false, false, false, false, false, false, false, false, false, false, false, false, false, false, false, false, false, false, false, false, false, false, false, false, false, false, false, false, false, false, false, false, false, false, false, false, false, false, false, false, false, false, false, false, false, false, false, false, false, false, false, false, false, false, false, false, false, false, false, false, false, false, false, false, false, false, false, false, false, false, false, false, false, false]
noncomputable def lPlay_b0 : Code := (cA (cA (cB (cA (cB (cB (cB (cB (cB (cB (bd Try.f6)))))))))))
def lPlay_S0 (sz : Int) (acts : List (List C)) : St := { env := [(vi sz), (vc (.sl 4 acts)), vu, vu, vu, (vc .np), vu, (.t (.w (.ptr 0 0))), vu, vu, vu, vu, vu, vu, vu, vu, vu, vu, vu, vu, vu, vu, vu, vu, vu, vu, vu, vu, vu, vu, vu, vu, vu, vu, vu, vu, vu, vu, vu, vu, vu, vu, vu, vu, vu, vu, vu, vu, vu, vu, vu, vu, vu, vu, vu, vu, vu, vu, (vc (.sl 4 acts)), (vi ((↑acts.length : Int))), (vi 0), vu, vu, vu, vu, vu, vu, vu, vu, vu, vu, vu, vu, vu, vu, vu, vu, vu, vu, vu, vu, vu, vu, vu, vu, vu, vu, vu, vu, vu, vu, vu, vu, vu, vu, vu, vu, vu, vu, vu, vu, vu, vu, vu, vu, vu, vu, vu, vu, vu, vu, vu, vu, vu, vu, vu, vu, vu, vu, vu, vu, vu, vu, vu, vu, vu, vu, vu, vu, vu, vu, vu, vu, vu, vu, vu, vu, vu, vu, vu, vu, vu, vu, vu, vu, vu, vu, vu, vu, vu, vu, vu, vu, vu, vu, vu, vu, vu, vu, vu, vu, vu, vu, vu, vu, vu, vu, vu, vu, vu, vu, vu, vu, vu, vu, vu, vu, vu, vu, vu, vu, vu, vu, vu, vu, vu, vu, vu, vu, vu, vu, vu, vu, vu, vu, vu, vu, vu, vu, vu, vu, vu, vu, vu, vu, vu, vu, vu, vu, vu, vu, vu, vu, vu, vu, vu, vu], bx := [(some (.cells ⟨[(.int .i64 sz), (.sl 129 []), (.sl 129 []), (.int .i64 (-1)), (.bool false)], [], 5⟩))], np := 0 }
noncomputable def lPlay_L0 {R : Type} (K : X → St → Option R) (F n : Nat) (sz : Int) (acts : List (List C)) : Option R := loopV (headM lPlay_m0) (exec lPlay_cf F lPlay_b0) (exitK lPlay_cf K) n (lPlay_S0 sz acts)
noncomputable def lPlay_K0 {R : Type} (k : V → Bx → Option R) (F : Nat) : X → St → Option R := (blockK 0 (seqK lPlay_cf F (cB (cB (cB (cB (cB (cB (cB (bd Try.f6)))))))) (finK lPlay_cf Try.f6 k)))
def lPlay_m1 : List Bool := [true, true, false, false, false, true, false, true, false, false, false, false, false, false, false, false, false, false, false, false, false, false, false, false, false, false, false, false, false, false, false, false, false, false, false, false, false, false, false, false, false, false, false, false, false, false, false, false, false, false, false, false, false, false, false, false, false, false, true, true, true, false, false, false, false, false, false, false, false, false, false, false, false, false, false, false, false, false, false, false, false, false, false, false, false, false, false, false, false, false, false, false, false, false, false, false, false, false, false, false, false, false, false, false, false, false, false, false, false, false, false, false, false, false, false, false, false, false, false, false, false, false, false, false, false, false, false, false, false, false, false, false, false, false, false, false, false, false, false, false, false, false, false, false, false, false, false, false, false, false, false, false, false, false, false, false, false, false, false, false, false, false, false, false, false, false, false, false, false, false, false, false, false, false, false, false, false, false, false, false, false, false, false, false, false, false, false, false, false, false, false, false, false, false, false, false, false, false, false, false, false, false, false, false, false, false, false, false, false, false, false, false, false, false, false, false, false]
noncomputable def lPlay_b1 : Code := (cA (cA (cB (cA (cB (cB (cB (cB (cB (cB (bd Try.f6)))))))))))
def lPlay_S1 (sz : Int) (acts : List (List C)) : St := { env := [(vi sz), (vc (.sl 4 acts)), vu, vu, vu, (vc .np), vu, (.t (.w (.ptr 0 0))), vu, vu, vu, vu, vu, vu, vu, vu, vu, vu, vu, vu, vu, vu, vu, vu, vu, vu, vu, vu, vu, vu, vu, vu, vu, vu, vu, vu, vu, vu, vu, vu, vu, vu, vu, vu, vu, vu, vu, vu, vu, vu, vu, vu, vu, vu, vu, vu, vu, vu, (vc (.sl 4 acts)), (vi ((↑acts.length : Int))), (vi 0), vu, vu, vu, vu, vu, vu, vu, vu, vu, vu, vu, vu, vu, vu, vu, vu, vu, vu, vu, vu, vu, vu, vu, vu, vu, vu, vu, vu, vu, vu, vu, vu, vu, vu, vu, vu, vu, vu, vu, vu, vu, vu, vu, vu, vu, vu, vu, vu, vu, vu, vu, vu, vu, vu, vu, vu, vu, vu, vu, vu, vu, vu, vu, vu, vu, vu, vu, vu, vu, vu, vu, vu, vu, vu, vu, vu, vu, vu, vu, vu, vu, vu, vu, vu, vu, vu, vu, vu, vu, vu, vu, vu, vu, vu, vu, vu, vu, vu, vu, vu, vu, vu, vu, vu, vu, vu, vu, vu, vu, vu, vu, vu, vu, vu, vu, vu, vu, vu, vu, vu, vu, vu, vu, vu, vu, vu, vu, vu, vu, vu, vu, vu, vu, vu, vu, vu, vu, vu, vu, vu, vu, vu, vu, vu, vu, vu, vu, vu, vu, vu, vu, vu, vu, vu, vu, vu], bx := [(some (.cells ⟨[(.int .i64 sz), (.sl 129 []), (.sl 129 []), (.int .i64 (-1)), (.bool false)], [], 5⟩))], np := 0 }
noncomputable def lPlay_L1 {R : Type} (K : X → St → Option R) (F n : Nat) (sz : Int) (acts : List (List C)) : Option R := loopV (headM lPlay_m1) (exec lPlay_cf F lPlay_b1) (exitK lPlay_cf K) n (lPlay_S1 sz acts)
noncomputable def lPlay_K1 {R : Type} (k : V → Bx → Option R) (F : Nat) : X → St → Option R := (blockK 0 (seqK lPlay_cf F (cB (cB (cB (cB (cB (cB (cB (bd Try.f6)))))))) (finK lPlay_cf Try.f6 k)))
def lPlay_m2 : List Bool := [true, true, false, false, false, true, false, true, false, false, false, false, false, false, false, false, false, false, false, false, false, false, false, false, false, false, false, false, false, false, false, false, false, false, false, false, false, false, false, false, false, false, false, false, false, false, false, false, false, false, false, false, false, false, false, false, false, false, true, true, true, false, false, false, false, false, false, false, false, false, false, false, false, false, false, false, false, false, false, false, false, false, false, false, false, false, false, false, false, false, false, false, false, false, false, false, false, false, false, false, false, false, false, false, false, false, false, false, false, false, false, false, false, false, false, false, false, false, false, false, false, false, false, false, false, false, false, false, false, false, false, false, false, false, false, false, false, false, false, false, false, false, false, false, false, false, false, false, false, false, false, false, false, false, false, false, false, false, false, false, false, false, false, false, false, false, false, false, false, false, false, false, false, false, false, false, false, false, false, false, false, false, false, false, false, false, false, false, false, false, false, false, false, false, false, false, false, false, false, false, false, false, false, false, false, false, false, false, false, false, false, false, false, false, false, false, false]
noncomputable def lPlay_b2 : Code := (cA (cA (cB (cA (cB (cB (cB (cB (cB (cB (bd Try.f6)))))))))))
def lPlay_S2 (sz : Int) (acts : List (List C)) : St := { env := [(vi sz), (vc (.sl 4 acts)), vu, vu, vu, (vc .np), vu, (.t (.w (.ptr 0 0))), vu, vu, vu, vu, vu, vu, vu, vu, vu, vu, vu, vu, vu, vu, vu, vu, vu, vu, vu, vu, vu, vu, vu, vu, vu, vu, vu, vu, vu, vu, vu, vu, vu, vu, vu, vu, vu, vu, vu, vu, vu, vu, vu, vu, vu, vu, vu, vu, vu, vu, (vc (.sl 4 acts)), (vi ((↑acts.length : Int))), (vi 0), vu, vu, vu, vu, vu, vu, vu, vu, vu, vu, vu, vu, vu, vu, vu, vu, vu, vu, vu, vu, vu, vu, vu, vu, vu, vu, vu, vu, vu, vu, vu, vu, vu, vu, vu, vu, vu, vu, vu, vu, vu, vu, vu, vu, vu, vu, vu, vu, vu, vu, vu, vu, vu, vu, vu, vu, vu, vu, vu, vu, vu, vu, vu, vu, vu, vu, vu, vu, vu, vu, vu, vu, vu, vu, vu, vu, vu, vu, vu, vu, vu, vu, vu, vu, vu, vu, vu, vu, vu, vu, vu, vu, vu, vu, vu, vu, vu, vu, vu, vu, vu, vu, vu, vu, vu, vu, vu, vu, vu, vu, vu, vu, vu, vu, vu, vu, vu, vu, vu, vu, vu, vu, vu, vu, vu, vu, vu, vu, vu, vu, vu, vu, vu, vu, vu, vu, vu, vu, vu, vu, vu, vu, vu, vu, vu, vu, vu, vu, vu, vu, vu, vu, vu, vu, vu, vu], bx := [(some (.cells ⟨[(.int .i64 sz), (.sl 129 []), (.sl 129 []), (.int .i64 (-1)), (.bool false)], [], 5⟩))], np := 0 }
noncomputable def lPlay_L2 {R : Type} (K : X → St → Option R) (F n : Nat) (sz : Int) (acts : List (List C)) : Option R := loopV (headM lPlay_m2) (exec lPlay_cf F lPlay_b2) (exitK lPlay_cf K) n (lPlay_S2 sz acts)
noncomputable def lPlay_K2 {R : Type} (k : V → Bx → Option R) (F : Nat) : X → St → Option R := (blockK 0 (seqK lPlay_cf F (cB (cB (cB (cB (cB (cB (cB (bd Try.f6)))))))) (finK lPlay_cf Try.f6 k)))
def lPlay_m3 : List Bool := [true, true, false, false, false, true, false, true, false, false, false, false, false, false, false, false, false, false, false, false, false, false, false, false, false, false, false, false, false, false, false, false, false, false, false, false, false, false, false, false, false, false, false, false, false, false, false, false, false, false, false, false, false, false, false, false, false, false, true, true, true, false, false, false, false, false, false, false, false, false, false, false, false, false, false, false, false, false, false, false, false, false, false, false, false, false, false, false, false, false, false, false, false, false, false, false, false, false, false, false, false, false, false, false, false, false, false, false, false, false, false, false, false, false, false, false, false, false, false, false, false, false, false, false, false, false, false, false, false, false, false, false, false, false, false, false, false, false, false, false, false, false, false, false, false, false, false, false, false, false, false, false, false, false, false, false, false, false, false, false, false, false, false, false, false, false, false, false, false, false, false, false, false, false, false, false, false, false, false, false, false, false, false, false, false, false, false, false, false, false, false, false, false, false, false, false, false, false, false, false, false, false, false, false, false, false, false, false, false, false, false, false, false, false, false, false, false]
noncomputable def lPlay_b3 : Code := (cA (cA (cB (cA (cB (cB (cB (cB (cB (cB (bd Try.f6)))))))))))
def lPlay_S3 (sz : Int) (acts : List (List C)) : St := { env := [(vi sz), (vc (.sl 4 acts)), vu, vu, vu, (vc .np), vu, (.t (.w (.ptr 0 0))), vu, vu, vu, vu, vu, vu, vu, vu, vu, vu, vu, vu, vu, vu, vu, vu, vu, vu, vu, vu, vu, vu, vu, vu, vu, vu, vu, vu, vu, vu, vu, vu, vu, vu, vu, vu, vu, vu, vu, vu, vu, vu, vu, vu, vu, vu, vu, vu, vu, vu, (vc (.sl 4 acts)), (vi ((↑acts.length : Int))), (vi 0), vu, vu, vu, vu, vu, vu, vu, vu, vu, vu, vu, vu, vu, vu, vu, vu, vu, vu, vu, vu, vu, vu, vu, vu, vu, vu, vu, vu, vu, vu, vu, vu, vu, vu, vu, vu, vu, vu, vu, vu, vu, vu, vu, vu, vu, vu, vu, vu, vu, vu, vu, vu, vu, vu, vu, vu, vu, vu, vu, vu, vu, vu, vu, vu, vu, vu, vu, vu, vu, vu, vu, vu, vu, vu, vu, vu, vu, vu, vu, vu, vu, vu, vu, vu, vu, vu, vu, vu, vu, vu, vu, vu, vu, vu, vu, vu, vu, vu, vu, vu, vu, vu, vu, vu, vu, vu, vu, vu, vu, vu, vu, vu, vu, vu, vu, vu, vu, vu, vu, vu, vu, vu, vu, vu, vu, vu, vu, vu, vu, vu, vu, vu, vu, vu, vu, vu, vu, vu, vu, vu, vu, vu, vu, vu, vu, vu, vu, vu, vu, vu, vu, vu, vu, vu, vu, vu], bx := [(some (.cells ⟨[(.int .i64 sz), (.sl 129 []), (.sl 129 []), (.int .i64 (-1)), (.bool false)], [], 5⟩))], np := 0 }
noncomputable def lPlay_L3 {R : Type} (K : X → St → Option R) (F n : Nat) (sz : Int) (acts : List (List C)) : Option R := loopV (headM lPlay_m3) (exec lPlay_cf F lPlay_b3) (exitK lPlay_cf K) n (lPlay_S3 sz acts)
noncomputable def lPlay_K3 {R : Type} (k : V → Bx → Option R) (F : Nat) : X → St → Option R := (blockK 0 (seqK lPlay_cf F (cB (cB (cB (cB (cB (cB (cB (bd Try.f6)))))))) (finK lPlay_cf Try.f6 k)))
def lPlay_m4 : List Bool := [true, true, false, false, false, true, false, true, false, false, false, false, false, false, false, false, false, false, false, false, false, false, false, false, false, false, false, false, false, false, false, false, false, false, false, false, false, false, false, false, false, false, false, false, false, false, false, false, false, false, false, false, false, false, false, false, false, false, true, true, true, false, false, false, false, false, false, false, false, false, false, false, false, false, false, false, false, false, false, false, false, false, false, false, false, false, false, false, false, false, false, false, false, false, false, false, false, false, false, false, false, false, false, false, false, false, false, false, false, false, false, false, false, false, false, false, false, false, false, false, false, false, false, false, false, false, false, false, false, false, false, false, false, false, false, false, false, false, false, false, false, false, false, false, false, false, false, false, false, false, false, false, false, false, false, false, false, false, false, false, false, false, false, false, false, false, false, false, false, false, false, false, false, false, false, false, false, false, false, false, false, false, false, false, false, false, false, false, false, false, false, false, false, false, false, false, false, false, false, false, false, false, false, false, false, false, false, false, false, false, false, false, false, false, false, false, false]
noncomputable def lPlay_b4 : Code := (cA (cA (cB (cA (cB (cB (cB (cB (cB (cB (bd Try.f6)))))))))))
def lPlay_S4 (sz : Int) (acts : List (List C)) (v1 : Int) (v2 : Bool) (sz3 : Int) (v4 : List (List C)) (v5 : List (List C)) (v6 : Int) (v7 : Bool) (v8 : List (List C)) (v9 : List (List C)) (v10 : Int) : St := { env := [(vi sz), (vc (.sl 4 acts)), vu, vu, vu, (.t (.w (.ptr 0 0))), vu, (.t (.w (.ptr 1 0))), vu, vu, vu, vu, vu, vu, vu, vu, vu, vu, vu, vu, vu, vu, vu, vu, vu, vu, vu, vu, vu, vu, vu, vu, vu, vu, vu, vu, vu, vu, vu, vu, vu, vu, vu, vu, vu, vu, vu, vu, vu, vu, vu, vu, vu, vu, vu, vu, vu, vu, (vc (.sl 4 acts)), (vi ((↑acts.length : Int))), (vi v10), vu, vu, vu, vu, vu, vu, vu, vu, vu, vu, vu, vu, vu, vu, vu, vu, vu, vu, vu, vu, vu, vu, vu, vu, vu, vu, vu, vu, vu, vu, vu, vu, vu, vu, vu, vu, vu, vu, vu, vu, vu, vu, vu, vu, vu, vu, vu, vu, vu, vu, vu, vu, vu, vu, vu, vu, vu, vu, vu, vu, vu, vu, vu, vu, vu, vu, vu, vu, vu, vu, vu, vu, vu, vu, vu, vu, vu, vu, vu, vu, vu, vu, vu, vu, vu, vu, vu, vu, vu, vu, vu, vu, vu, vu, vu, vu, vu, vu, vu, vu, vu, vu, vu, vu, vu, vu, vu, vu, vu, vu, vu, vu, vu, vu, vu, vu, vu, vu, vu, vu, vu, vu, vu, vu, vu, vu, vu, vu, vu, vu, vu, vu, vu, vu, vu, vu, vu, vu, vu, vu, vu, vu, vu, vu, vu, vu, vu, vu, vu, vu, vu, vu, vu, vu, vu, vu], bx := [(some (.cells ⟨[.nf, .nf, (.int .i64 v1), (.bool v2)], [(0, (.arr 2)), (1, (.arr 3))], 4⟩)), (some (.cells ⟨[(.int .i64 sz3), (.sl 129 v4), (.sl 129 v5), (.int .i64 v6), (.bool v7)], [], 5⟩)), (some (.arr true (some 64) 128 v8)), (some (.arr true (some 66) 129 v9))], np := 0 }
noncomputable def lPlay_L4 {R : Type} (K : X → St → Option R) (F n : Nat) (sz : Int) (acts : List (List C)) (v1 : Int) (v2 : Bool) (sz3 : Int) (v4 : List (List C)) (v5 : List (List C)) (v6 : Int) (v7 : Bool) (v8 : List (List C)) (v9 : List (List C)) (v10 : Int) : Option R := loopV (headM lPlay_m4) (exec lPlay_cf F lPlay_b4) (exitK lPlay_cf K) n (lPlay_S4 sz acts v1 v2 sz3 v4 v5 v6 v7 v8 v9 v10)
noncomputable def lPlay_K4 {R : Type} (k : V → Bx → Option R) (F : Nat) : X → St → Option R := (blockK 0 (seqK lPlay_cf F (cB (cB (cB (cB (cB (cB (cB (bd Try.f6)))))))) (finK lPlay_cf Try.f6 k)))
def lPlay_m5 : List Bool := [true, true, false, false, false, true, false, true, false, false, false, true, true, true, false, false, false, false, false, false, false, false, false, false, false, false, false, false, false, false, false, false, false, false, false, false, false, false, false, false, false, false, false, false, false, false, false, false, false, false, false, false, false, false, false, false, false, false, true, true, true, false, false, false, false, false, false, false, false, false, false, false, false, false, false, false, false, false, false, false, false, false, false, false, false, false, false, false, false, false, false, false, false, false, false, false, false, true, true, false, false, false, false, false, false, false, false, false, false, false, false, false, false, false, false, false, false, false, false, false, false, false, false, false, false, false, false, false, false, false, false, false, false, false, false, false, false, false, false, false, false, false, false, false, false, false, false, false, false, false, false, false, false, false, false, false, false, false, false, false, false, false, false, false, false, false, false, false, false, false, false, false, false, false, false, false, false, false, false, false, false, false, false, false, false, false, false, false, false, false, false, false, false, false, false, false, false, false, false, false, false, false, false, false, false, false, false, false, false, false, false, false, false, false, false, false, false]
noncomputable def lPlay_b5 : Code := (cA (cA (cB (cB (cB (cB (cA (cB (cA (cB (cA (cB (cB (cB (cA (cA (cB (cB (cA (cA (cB (cA (cB (cB (cB (cB (cB (cB (bd Try.f6)))))))))))))))))))))))))))))
def lPlay_S5 (sz : Int) (acts : List (List C)) (v10 : Int) (v11 : Int) (v12 : Int) (v13 : List (List C)) (v14 : Int) (v15 : Bool) (v16 : List (List C)) (v17 : List (List C)) (v18 : Int) (v19 : Bool) (sz20 : Int) (v21 : List (List C)) (v22 : List (List C)) (v23 : Int) (v24 : Int) : St := { env := [(vi sz), (vc (.sl 4 acts)), vu, vu, vu, (.t (.w (.ptr 0 0))), vu, (.t (.w (.ptr 1 0))), vu, vu, vu, (vi v23), (vi v11), (.t (.w (.arr 2))), vu, vu, vu, vu, vu, vu, vu, vu, vu, vu, vu, vu, vu, vu, vu, vu, vu, vu, vu, vu, vu, vu, vu, vu, vu, vu, vu, vu, vu, vu, vu, vu, vu, vu, vu, vu, vu, vu, vu, vu, vu, vu, vu, vu, (vc (.sl 4 acts)), (vi ((↑acts.length : Int))), (vi v10), vu, vu, vu, vu, vu, vu, vu, vu, vu, vu, vu, vu, vu, vu, vu, vu, vu, vu, vu, vu, vu, vu, vu, vu, vu, vu, vu, vu, vu, vu, vu, vu, vu, vu, vu, vu, (vi v12), (vi v24), vu, vu, vu, vu, vu, vu, vu, vu, vu, vu, vu, vu, vu, vu, vu, vu, vu, vu, vu, vu, vu, vu, vu, vu, vu, vu, vu, vu, vu, vu, vu, vu, vu, vu, vu, vu, vu, vu, vu, vu, vu, vu, vu, vu, vu, vu, vu, vu, vu, vu, vu, vu, vu, vu, vu, vu, vu, vu, vu, vu, vu, vu, vu, vu, vu, vu, vu, vu, vu, vu, vu, vu, vu, vu, vu, vu, vu, vu, vu, vu, vu, vu, vu, vu, vu, vu, vu, vu, vu, vu, vu, vu, vu, vu, vu, vu, vu, vu, vu, vu, vu, vu, vu, vu, vu, vu, vu, vu, vu, vu, vu, vu, vu, vu, vu, vu, vu, vu], bx := [(some (.cells ⟨[.nf, .nf, (.int .i64 v18), (.bool v19)], [(0, (.arr 3)), (1, (.arr 4))], 4⟩)), (some (.cells ⟨[(.int .i64 sz20), (.sl 129 v21), (.sl 129 v13), (.int .i64 v14), (.bool v15)], [], 5⟩)), (some (.arr true (some 5) 1 v16)), (some (.arr true (some 64) 128 v22)), (some (.arr true (some 66) 129 v17))], np := 0 }
noncomputable def lPlay_L5 {R : Type} (K : X → St → Option R) (F n : Nat) (sz : Int) (acts : List (List C)) (v10 : Int) (v11 : Int) (v12 : Int) (v13 : List (List C)) (v14 : Int) (v15 : Bool) (v16 : List (List C)) (v17 : List (List C)) (v18 : Int) (v19 : Bool) (sz20 : Int) (v21 : List (List C)) (v22 : List (List C)) (v23 : Int) (v24 : Int) : Option R := loopV (headM lPlay_m5) (exec lPlay_cf F lPlay_b5) (exitK lPlay_cf K) n (lPlay_S5 sz acts v10 v11 v12 v13 v14 v15 v16 v17 v18 v19 sz20 v21 v22 v23 v24)
noncomputable def lPlay_K5 {R : Type} (K : X → St → Option R) (F n : Nat) : X → St → Option R := (blockK 3 (blockK 2 (seqK lPlay_cf F (cB (cB (cB (cB (cA (cA (cB (cB (cA (cA (cB (cA (cB (cB (cB (cB (cB (cB (bd Try.f6))))))))))))))))))) (blockK 1 (seqK lPlay_cf F (cB (cB (cB (cA (cA (cB (cA (cB (cB (cB (cB (cB (cB (bd Try.f6)))))))))))))) (loopK (headM lPlay_m4) (exec lPlay_cf F lPlay_b4) (exitK lPlay_cf K) n))))))
def lPlay_E1 (sz : Int) (acts : List (List C)) (v10 : Int) (v11 : Int) (v13 : List (List C)) (v14 : Int) (v15 : Bool) (v17 : List (List C)) (v18 : Int) (v19 : Bool) (sz20 : Int) (v21 : List (List C)) (v22 : List (List C)) (v23 : Int) : St := { env := [(vi sz), (vc (.sl 4 acts)), vu, vu, vu, (.t (.w (.ptr 0 0))), vu, (.t (.w (.ptr 1 0))), vu, vu, vu, (vi v23), (vi v11), vu, vu, vu, vu, vu, vu, vu, vu, vu, vu, vu, vu, vu, vu, vu, vu, vu, vu, vu, vu, vu, vu, vu, vu, vu, vu, vu, vu, vu, vu, vu, vu, vu, vu, vu, vu, vu, vu, vu, vu, vu, vu, vu, vu, vu, (vc (.sl 4 acts)), (vi ((↑acts.length : Int))), (vi v10), vu, vu, vu, vu, vu, vu, vu, vu, vu, vu, vu, vu, vu, vu, vu, vu, vu, vu, vu, vu, vu, vu, vu, vu, vu, vu, vu, vu, vu, vu, vu, vu, vu, vu, vu, vu, vu, vu, vu, vu, vu, vu, vu, vu, vu, vu, vu, vu, vu, vu, vu, vu, vu, vu, vu, vu, vu, vu, vu, vu, vu, vu, vu, vu, vu, vu, vu, vu, vu, vu, vu, vu, vu, vu, vu, vu, vu, vu, vu, vu, vu, vu, vu, vu, vu, vu, vu, vu, vu, vu, vu, vu, vu, vu, vu, vu, vu, vu, vu, vu, vu, vu, vu, vu, vu, vu, vu, vu, vu, vu, vu, vu, vu, vu, vu, vu, vu, vu, vu, vu, vu, vu, vu, vu, vu, vu, vu, vu, vu, vu, vu, vu, vu, vu, vu, vu, vu, vu, vu, vu, vu, vu, vu, vu, vu, vu, vu, vu, vu, vu, vu, vu, vu, vu, vu, vu], bx := [(some (.cells ⟨[.nf, .nf, (.int .i64 v18), (.bool v19)], [(0, (.arr 2)), (1, (.arr 3))], 4⟩)), (some (.cells ⟨[(.int .i64 sz20), (.sl 129 v21), (.sl 129 v13), (.int .i64 v14), (.bool v15)], [], 5⟩)), (some (.arr true (some 64) 128 v22)), (some (.arr true (some 66) 129 v17))], np := 0 }
def lPlay_E2 : St := { env := [vu, vu, vu, vu, (vb false), vu, vu, vu, vu, vu, vu, vu, vu, vu, vu, vu, vu, vu, vu, vu, vu, vu, vu, vu, vu, vu, vu, vu, vu, vu, vu, vu, vu, vu, vu, vu, vu, vu, vu, vu, vu, vu, vu, vu, vu, vu, vu, vu, vu, vu, vu, vu, vu, vu, vu, vu, vu, vu, vu, vu, vu, vu, vu, vu, vu, vu, vu, vu, vu, vu, vu, vu, vu, vu, vu, vu, vu, vu, vu, vu, vu, vu, vu, vu, vu, vu, vu, vu, vu, vu, vu, vu, vu, vu, vu, vu, vu, vu, vu, vu, vu, vu, vu, vu, vu, vu, vu, vu, vu, vu, vu, vu, vu, vu, vu, vu, vu, vu, vu, vu, vu, vu, vu, vu, vu, vu, vu, vu, vu, vu, vu, vu, vu, vu, vu, vu, vu, vu, vu, vu, vu, vu, vu, vu, vu, vu, vu, vu, vu, vu, vu, vu, vu, vu, vu, vu, vu, vu, vu, vu, vu, vu, vu, vu, vu, vu, vu, vu, vu, vu, vu, vu, vu, vu, vu, vu, vu, vu, vu, vu, vu, vu, vu, vu, vu, vu, vu, vu, vu, vu, vu, vu, vu, vu, vu, vu, vu, vu, vu, vu, vu, vu, vu, vu, vu, vu, vu, vu, vu, vu, vu, vu, vu, vu, vu, vu, vu], bx := [], np := 0 }
theorem lPlay_c2 {R : Type} (k : V → Bx → Option R) (F : Nat) : lPlay_K4 k F .rt (lPlay_E2) =
    k (vb false) [] := by kernel_rfl
def lPlay_m6 : List Bool := [true, true, false, false, false, true, false, true, false, false, false, false, false, false, false, false, false, false, false, false, false, false, false, false, false, false, false, false, false, false, false, false, false, false, false, false, false, false, false, false, false, false, false, false, false, false, false, false, false, false, false, false, false, false, false, false, false, false, true, true, true, false, false, false, false, false, false, false, false, false, false, false, false, false, false, false, false, false, false, false, false, false, false, false, false, false, false, false, false, false, false, false, false, false, false, false, false, false, false, false, false, false, false, false, false, false, false, false, false, false, false, false, false, false, false, false, false, false, false, false, false, false, false, false, false, false, false, false, false, false, false, false, false, false, false, false, false, false, false, false, false, false, false, false, false, false, false, false, false, false, false, false, false, false, false, false, false, false, false, false, false, false, false, false, false, false, false, false, true, true, true, false, false, false, false, false, false, false, false, false, false, false, false, false, false, false, false, false, false, false, false, false, false, false, false, false, false, false, false, false, false, false, false, false, false, false, false, false, false, false, false, false, false, false, false, false, false]
noncomputable def lPlay_b6 : Code := (cA (cA (cB (cB (cB (cB (cB (cB (cA (cA (cB (cB (cA (cA (cB (cA (cB (cB (cB (cB (cB (cB (bd Try.f6)))))))))))))))))))))))
def lPlay_S6 (sz : Int) (acts : List (List C)) (v10 : Int) (v25 : Int) (v26 : Bool) (sz27 : Int) (v28 : List (List C)) (v29 : List (List C)) (v30 : Int) (v31 : Bool) (v32 : List (List C)) (v33 : List (List C)) (v34 : Int) : St := { env := [(vi sz), (vc (.sl 4 acts)), vu, vu, vu, (.t (.w (.ptr 0 0))), vu, (.t (.w (.ptr 1 0))), vu, vu, vu, vu, vu, vu, vu, vu, vu, vu, vu, vu, vu, vu, vu, vu, vu, vu, vu, vu, vu, vu, vu, vu, vu, vu, vu, vu, vu, vu, vu, vu, vu, vu, vu, vu, vu, vu, vu, vu, vu, vu, vu, vu, vu, vu, vu, vu, vu, vu, (vc (.sl 4 acts)), (vi ((↑acts.length : Int))), (vi v10), vu, vu, vu, vu, vu, vu, vu, vu, vu, vu, vu, vu, vu, vu, vu, vu, vu, vu, vu, vu, vu, vu, vu, vu, vu, vu, vu, vu, vu, vu, vu, vu, vu, vu, vu, vu, vu, vu, vu, vu, vu, vu, vu, vu, vu, vu, vu, vu, vu, vu, vu, vu, vu, vu, vu, vu, vu, vu, vu, vu, vu, vu, vu, vu, vu, vu, vu, vu, vu, vu, vu, vu, vu, vu, vu, vu, vu, vu, vu, vu, vu, vu, vu, vu, vu, vu, vu, vu, vu, vu, vu, vu, vu, vu, vu, vu, vu, vu, vu, vu, vu, vu, vu, vu, vu, vu, vu, (vc (.sl 4 acts)), (vi ((↑acts.length : Int))), (vi v34), vu, vu, vu, vu, vu, vu, vu, vu, vu, vu, vu, vu, vu, vu, vu, vu, vu, vu, vu, vu, vu, vu, vu, vu, vu, vu, vu, vu, vu, vu, vu, vu, vu, vu, vu, vu, vu, vu, vu, vu, vu, vu, vu, vu, vu, vu], bx := [(some (.cells ⟨[.nf, .nf, (.int .i64 v25), (.bool v26)], [(0, (.arr 2)), (1, (.arr 3))], 4⟩)), (some (.cells ⟨[(.int .i64 sz27), (.sl 129 v28), (.sl 129 v29), (.int .i64 v30), (.bool v31)], [], 5⟩)), (some (.arr true (some 64) 128 v32)), (some (.arr true (some 66) 129 v33))], np := 0 }
noncomputable def lPlay_L6 {R : Type} (K : X → St → Option R) (F n : Nat) (sz : Int) (acts : List (List C)) (v10 : Int) (v25 : Int) (v26 : Bool) (sz27 : Int) (v28 : List (List C)) (v29 : List (List C)) (v30 : Int) (v31 : Bool) (v32 : List (List C)) (v33 : List (List C)) (v34 : Int) : Option R := loopV (headM lPlay_m6) (exec lPlay_cf F lPlay_b6) (exitK lPlay_cf K) n (lPlay_S6 sz acts v10 v25 v26 sz27 v28 v29 v30 v31 v32 v33 v34)
noncomputable def lPlay_K6 {R : Type} (K : X → St → Option R) (F n : Nat) : X → St → Option R := (blockK 5 (blockK 1 (seqK lPlay_cf F (cB (cB (cB (cA (cA (cB (cA (cB (cB (cB (cB (cB (cB (bd Try.f6)))))))))))))) (loopK (headM lPlay_m4) (exec lPlay_cf F lPlay_b4) (exitK lPlay_cf K) n))))
def lPlay_E3 : St := { env := [vu, vu, vu, vu, (vb false), vu, vu, vu, vu, vu, vu, vu, vu, vu, vu, vu, vu, vu, vu, vu, vu, vu, vu, vu, vu, vu, vu, vu, vu, vu, vu, vu, vu, vu, vu, vu, vu, vu, vu, vu, vu, vu, vu, vu, vu, vu, vu, vu, vu, vu, vu, vu, vu, vu, vu, vu, vu, vu, vu, vu, vu, vu, vu, vu, vu, vu, vu, vu, vu, vu, vu, vu, vu, vu, vu, vu, vu, vu, vu, vu, vu, vu, vu, vu, vu, vu, vu, vu, vu, vu, vu, vu, vu, vu, vu, vu, vu, vu, vu, vu, vu, vu, vu, vu, vu, vu, vu, vu, vu, vu, vu, vu, vu, vu, vu, vu, vu, vu, vu, vu, vu, vu, vu, vu, vu, vu, vu, vu, vu, vu, vu, vu, vu, vu, vu, vu, vu, vu, vu, vu, vu, vu, vu, vu, vu, vu, vu, vu, vu, vu, vu, vu, vu, vu, vu, vu, vu, vu, vu, vu, vu, vu, vu, vu, vu, vu, vu, vu, vu, vu, vu, vu, vu, vu, vu, vu, vu, vu, vu, vu, vu, vu, vu, vu, vu, vu, vu, vu, vu, vu, vu, vu, vu, vu, vu, vu, vu, vu, vu, vu, vu, vu, vu, vu, vu, vu, vu, vu, vu, vu, vu, vu, vu, vu, vu, vu, vu], bx := [], np := 0 }
theorem lPlay_c3 {R : Type} (K : X → St → Option R) (F n : Nat) : lPlay_K6 K F n .rt (lPlay_E3) =
    K .rt (lPlay_E2) := by kernel_rfl
def lPlay_E4 (sz : Int) (acts : List (List C)) (v10 : Int) (v25 : Int) (v26 : Bool) (sz27 : Int) (v28 : List (List C)) (v29 : List (List C)) (v30 : Int) (v31 : Bool) (v32 : List (List C)) (v33 : List (List C)) : St := { env := [(vi sz), (vc (.sl 4 acts)), vu, vu, vu, (.t (.w (.ptr 0 0))), vu, (.t (.w (.ptr 1 0))), vu, vu, vu, vu, vu, vu, vu, vu, vu, vu, vu, vu, vu, vu, vu, vu, vu, vu, vu, vu, vu, vu, vu, vu, vu, vu, vu, vu, vu, vu, vu, vu, vu, vu, vu, vu, vu, vu, vu, vu, vu, vu, vu, vu, vu, vu, vu, vu, vu, vu, (vc (.sl 4 acts)), (vi ((↑acts.length : Int))), (vi v10), vu, vu, vu, vu, vu, vu, vu, vu, vu, vu, vu, vu, vu, vu, vu, vu, vu, vu, vu, vu, vu, vu, vu, vu, vu, vu, vu, vu, vu, vu, vu, vu, vu, vu, vu, vu, vu, vu, vu, vu, vu, vu, vu, vu, vu, vu, vu, vu, vu, vu, vu, vu, vu, vu, vu, vu, vu, vu, vu, vu, vu, vu, vu, vu, vu, vu, vu, vu, vu, vu, vu, vu, vu, vu, vu, vu, vu, vu, vu, vu, vu, vu, vu, vu, vu, vu, vu, vu, vu, vu, vu, vu, vu, vu, vu, vu, vu, vu, vu, vu, vu, vu, vu, vu, vu, vu, vu, vu, vu, vu, vu, vu, vu, vu, vu, vu, vu, vu, vu, vu, vu, vu, vu, vu, vu, vu, vu, vu, vu, vu, vu, vu, vu, vu, vu, vu, vu, vu, vu, vu, vu, vu, vu, vu, vu, vu, vu, vu, vu, vu, vu, vu, vu, vu, vu, vu], bx := [(some (.cells ⟨[.nf, .nf, (.int .i64 v25), (.bool v26)], [(0, (.arr 2)), (1, (.arr 3))], 4⟩)), (some (.cells ⟨[(.int .i64 sz27), (.sl 129 v28), (.sl 129 v29), (.int .i64 v30), (.bool v31)], [], 5⟩)), (some (.arr true (some 64) 128 v32)), (some (.arr true (some 66) 129 v33))], np := 0 }
theorem lPlay_c4 {R : Type} (K : X → St → Option R) (F n : Nat) (sz : Int) (acts : List (List C)) (v10 : Int) (v25 : Int) (v26 : Bool) (sz27 : Int) (v28 : List (List C)) (v29 : List (List C)) (v30 : Int) (v31 : Bool) (v32 : List (List C)) (v33 : List (List C)) : lPlay_K6 K F n (.ex 5) (lPlay_E4 sz acts v10 v25 v26 sz27 v28 v29 v30 v31 v32 v33) =
    lPlay_L4 K F n sz acts v25 v26 sz27 v28 v29 v30 v31 v32 v33 (IntKind.i64.wrap (v10 + (1 : Int))) := by kernel_rfl
theorem lPlay_r6 {R : Type} (K : X → St → Option R) (F n : Nat) (sz : Int) (acts : List (List C)) (v10 : Int) (v25 : Int) (v26 : Bool) (sz27 : Int) (v28 : List (List C)) (v29 : List (List C)) (v30 : Int) (v31 : Bool) (v32 : List (List C)) (v33 : List (List C)) (v34 : Int) : lPlay_L6 K F (n + 1) sz acts v10 v25 v26 sz27 v28 v29 v30 v31 v32 v33 v34 =
    (bif decide (v34 < (↑acts.length : Int)) then
      (bif decide ((0 : Int) ≤ v34) then
        (getT acts v34.toNat fun z7 =>
          (bif (List.take (4 : Nat) z7).length == (4 : Nat) then
            (bif shOk [Sh.int IntKind.i64, Sh.int IntKind.i64, Sh.sl (1 : Nat), Sh.sl (1 : Nat)] (List.take (4 : Nat) z7) then
              (bif okT v32 v33 then
                (bif inR v32 ((List.take (4 : Nat) z7).getD (1 : Nat) C.nf).toInt then
                  (bif decide (((List.take (4 : Nat) z7).getD (1 : Nat) C.nf).toInt < (0 : Int)) then
                    K .rt (lPlay_E3)
                  else (bif decide (((List.take (4 : Nat) z7).getD (1 : Nat) C.nf).toInt ≥ sz) then
                      K .rt (lPlay_E3)
                    else (bif okR sz27 v28 v29 then
                        (bif okBytes (List.map (fun c => [c]) (readP v32 v33 ((List.take (4 : Nat) z7).getD (1 : Nat) C.nf).toInt)) then
                          (bif okBytes (List.map (fun c => [c]) (List.take (128 : Nat) (readW ((List.take (4 : Nat) z7).getD (1 : Nat) C.nf).toInt (readW ((List.take (4 : Nat) z7).getD (1 : Nat) C.nf).toInt zsec v28) v29 ++ []))) then
                            (bif !(bytesOf (List.map (fun c => [c]) (readP v32 v33 ((List.take (4 : Nat) z7).getD (1 : Nat) C.nf).toInt))).toList == (bytesOf (List.map (fun c => [c]) (List.take (128 : Nat) (readW ((List.take (4 : Nat) z7).getD (1 : Nat) C.nf).toInt (readW ((List.take (4 : Nat) z7).getD (1 : Nat) C.nf).toInt zsec v28) v29 ++ [])))).toList then
                              K .rt (lPlay_E3)
                            else (getT (List.map (fun c => [c]) (readP v32 v33 ((List.take (4 : Nat) z7).getD (1 : Nat) C.nf).toInt)) 0 fun _ =>
                                (getT (List.map (fun c => [c]) (readP v32 v33 ((List.take (4 : Nat) z7).getD (1 : Nat) C.nf).toInt)) 0 fun z9 =>
                                  (getT z9 0 fun z10 =>
                                    (bif shOk [Sh.int IntKind.u8] [z10] then
                                      (getT (List.map (fun c => [c]) (readP v32 v33 ((List.take (4 : Nat) z7).getD (1 : Nat) C.nf).toInt)) 0 fun _ =>
                                        (getT (List.map (fun c => [c]) (readP v32 v33 ((List.take (4 : Nat) z7).getD (1 : Nat) C.nf).toInt)) 0 fun _ =>
                                          lPlay_L6 K F n sz acts v10 v25 v26 sz27 v28 v29 v30 v31 v32 v33 (IntKind.i64.wrap (v34 + (1 : Int)))))
                                    else none)))))
                          else none)
                        else none)
                      else none)))
                else (bif decide (((List.take (4 : Nat) z7).getD (1 : Nat) C.nf).toInt < (0 : Int)) then
                    lPlay_L6 K F n sz acts v10 v25 v26 sz27 v28 v29 v30 v31 v32 v33 (IntKind.i64.wrap (v34 + (1 : Int)))
                  else (bif decide (((List.take (4 : Nat) z7).getD (1 : Nat) C.nf).toInt ≥ sz) then
                      lPlay_L6 K F n sz acts v10 v25 v26 sz27 v28 v29 v30 v31 v32 v33 (IntKind.i64.wrap (v34 + (1 : Int)))
                    else (bif okR sz27 v28 v29 then
                        K .rt (lPlay_E3)
                      else none))))
              else none)
            else none)
          else none))
      else none)
    else K (.ex 5) (lPlay_E4 sz acts v10 v25 v26 sz27 v28 v29 v30 v31 v32 v33)) := by kernel_rfl
theorem lPlay_c1 {R : Type} (K : X → St → Option R) (F n : Nat) (sz : Int) (acts : List (List C)) (v10 : Int) (v11 : Int) (v13 : List (List C)) (v14 : Int) (v15 : Bool) (v17 : List (List C)) (v18 : Int) (v19 : Bool) (sz20 : Int) (v21 : List (List C)) (v22 : List (List C)) (v23 : Int) : lPlay_K5 K F n (.ex 3) (lPlay_E1 sz acts v10 v11 v13 v14 v15 v17 v18 v19 sz20 v21 v22 v23) =
    dup 6 ((bif v23 != v11 then
      K .rt (lPlay_E2)
    else (bif (↑v17.length : Int) != (↑v13.length : Int) then
        K .rt (lPlay_E2)
      else (bif !v19 == v15 then
          K .rt (lPlay_E2)
        else (bif (↑v22.length : Int) != sz then
            K .rt (lPlay_E2)
          else lPlay_L6 (lPlay_K6 K F n) F F sz acts v10 v18 v19 sz20 v21 v13 v14 v15 v22 v17 0))))) := by kernel_rfl
theorem lPlay_r5 {R : Type} (K : X → St → Option R) (F n : Nat) (sz : Int) (acts : List (List C)) (v10 : Int) (v11 : Int) (v12 : Int) (v13 : List (List C)) (v14 : Int) (v15 : Bool) (v16 : List (List C)) (v17 : List (List C)) (v18 : Int) (v19 : Bool) (sz20 : Int) (v21 : List (List C)) (v22 : List (List C)) (v23 : Int) (v24 : Int) : lPlay_L5 K F (n + 1) sz acts v10 v11 v12 v13 v14 v15 v16 v17 v18 v19 sz20 v21 v22 v23 v24 =
    (bif decide (v24 < v12) then
      (bif decide ((0 : Int) ≤ v24) then
        (getT v16 v24.toNat fun z2 =>
          (getT v16 v24.toNat fun z3 =>
            (getT z3 0 fun z4 =>
              (bif shOk [Sh.int IntKind.u8] [z4] then
                (bif decide ((0 : Int) ≤ v24) then
                  (getT v16 v24.toNat fun _ =>
                    (getT v16 v24.toNat fun z6 =>
                      lPlay_L5 K F n sz acts v10 v11 v12 v13 v14 v15 (v16.set v24.toNat (C.int IntKind.u8 (IntKind.u8.wrap (([z4].getD (0 : Nat) C.nf).toInt + (1 : Int))) :: List.drop (1 : Nat) z6)) v17 v18 v19 sz20 v21 v22 v23 (IntKind.i64.wrap (v24 + (1 : Int)))))
                else none)
              else none))))
      else none)
    else K (.ex 3) (lPlay_E1 sz acts v10 v11 v13 v14 v15 v17 v18 v19 sz20 v21 v22 v23)) := by kernel_rfl
def lPlay_E5 : St := { env := (List.replicate 217 vu), bx := [], np := 0 }
theorem lPlay_c5 {R : Type} (k : V → Bx → Option R) (F : Nat) : lPlay_K4 k F (.ex 0) (lPlay_E5) =
    k (vb true) [] := by kernel_rfl
theorem lPlay_r4 {R : Type} (K : X → St → Option R) (F n : Nat) (sz : Int) (acts : List (List C)) (v1 : Int) (v2 : Bool) (sz3 : Int) (v4 : List (List C)) (v5 : List (List C)) (v6 : Int) (v7 : Bool) (v8 : List (List C)) (v9 : List (List C)) (v10 : Int) : lPlay_L4 K F (n + 1) sz acts v1 v2 sz3 v4 v5 v6 v7 v8 v9 v10 =
    (bif decide (v10 < (↑acts.length : Int)) then
      (bif decide ((0 : Int) ≤ v10) then
        (getT acts v10.toNat fun z1 =>
          (bif (List.take (4 : Nat) z1).length == (4 : Nat) then
            (bif shOk [Sh.int IntKind.i64, Sh.int IntKind.i64, Sh.sl (1 : Nat), Sh.sl (1 : Nat)] (List.take (4 : Nat) z1) then
              (bif decide ((↑((List.take (4 : Nat) z1).getD (2 : Nat) C.nf).toEls.length : Int) > (200 : Int)) then
                lPlay_L4 K F n sz acts v1 v2 sz3 v4 v5 v6 v7 v8 v9 (IntKind.i64.wrap (v10 + (1 : Int)))
              else (bif decide ((↑((List.take (4 : Nat) z1).getD (3 : Nat) C.nf).toEls.length : Int) > (200 : Int)) then
                  lPlay_L4 K F n sz acts v1 v2 sz3 v4 v5 v6 v7 v8 v9 (IntKind.i64.wrap (v10 + (1 : Int)))
                else (bif ((List.take (4 : Nat) z1).getD (0 : Nat) C.nf).toInt == (1 : Int) then
                    (bif decide (((0 : Nat) + ((List.take (4 : Nat) z1).getD (2 : Nat) C.nf).toEls.length) * (1 : Nat) ≤ (140737488355328 : Nat) ∧ (0 : Nat) + ((List.take (4 : Nat) z1).getD (2 : Nat) C.nf).toEls.length ≤ (9223372036854775807 : Nat)) then
                      (bif okT v8 v9 && ((List.take (4 : Nat) z1).getD (2 : Nat) C.nf).toEls.all isBE && leftOk v1 then
                        (bif wIn v8 ((List.take (4 : Nat) z1).getD (1 : Nat) C.nf).toInt ((List.take (4 : Nat) z1).getD (2 : Nat) C.nf).toEls && !v1 == (0 : Int) then
                          (bif okR sz3 v4 v5 && leftOk v6 && ((List.take (4 : Nat) z1).getD (2 : Nat) C.nf).toEls.all isBE then
                            lPlay_L5 (lPlay_K5 K F n) F F sz acts v10 (bif pIn sz3 ((List.take (4 : Nat) z1).getD (1 : Nat) C.nf).toInt ((List.take (4 : Nat) z1).getD (2 : Nat) C.nf).toEls then bif v6 == (0 : Int) then (20 : Int) else (0 : Int) else (1 : Int)) ((↑((List.take (4 : Nat) z1).getD (2 : Nat) C.nf).toEls.length : Int)) (bif pIn sz3 ((List.take (4 : Nat) z1).getD (1 : Nat) C.nf).toInt ((List.take (4 : Nat) z1).getD (2 : Nat) C.nf).toEls && !v6 == (0 : Int) then v5 ++ [mkW ((List.take (4 : Nat) z1).getD (1 : Nat) C.nf).toInt ((List.take (4 : Nat) z1).getD (2 : Nat) C.nf).toEls] else v5) (bif pIn sz3 ((List.take (4 : Nat) z1).getD (1 : Nat) C.nf).toInt ((List.take (4 : Nat) z1).getD (2 : Nat) C.nf).toEls then decL v6 else v6) (pIn sz3 ((List.take (4 : Nat) z1).getD (1 : Nat) C.nf).toInt ((List.take (4 : Nat) z1).getD (2 : Nat) C.nf).toEls && v6 == (0 : Int) || v7) (((List.take (4 : Nat) z1).getD (2 : Nat) C.nf).toEls) (v9 ++ [mkW ((List.take (4 : Nat) z1).getD (1 : Nat) C.nf).toInt ((List.take (4 : Nat) z1).getD (2 : Nat) C.nf).toEls]) (decL v1) v2 sz3 v4 v8 0 0
                          else none)
                        else (bif okR sz3 v4 v5 && leftOk v6 && ((List.take (4 : Nat) z1).getD (2 : Nat) C.nf).toEls.all isBE then
                            lPlay_L5 (lPlay_K5 K F n) F F sz acts v10 (bif pIn sz3 ((List.take (4 : Nat) z1).getD (1 : Nat) C.nf).toInt ((List.take (4 : Nat) z1).getD (2 : Nat) C.nf).toEls then bif v6 == (0 : Int) then (20 : Int) else (0 : Int) else (1 : Int)) ((↑((List.take (4 : Nat) z1).getD (2 : Nat) C.nf).toEls.length : Int)) (bif pIn sz3 ((List.take (4 : Nat) z1).getD (1 : Nat) C.nf).toInt ((List.take (4 : Nat) z1).getD (2 : Nat) C.nf).toEls && !v6 == (0 : Int) then v5 ++ [mkW ((List.take (4 : Nat) z1).getD (1 : Nat) C.nf).toInt ((List.take (4 : Nat) z1).getD (2 : Nat) C.nf).toEls] else v5) (bif pIn sz3 ((List.take (4 : Nat) z1).getD (1 : Nat) C.nf).toInt ((List.take (4 : Nat) z1).getD (2 : Nat) C.nf).toEls then decL v6 else v6) (pIn sz3 ((List.take (4 : Nat) z1).getD (1 : Nat) C.nf).toInt ((List.take (4 : Nat) z1).getD (2 : Nat) C.nf).toEls && v6 == (0 : Int) || v7) (((List.take (4 : Nat) z1).getD (2 : Nat) C.nf).toEls) v9 v1 (wIn v8 ((List.take (4 : Nat) z1).getD (1 : Nat) C.nf).toInt ((List.take (4 : Nat) z1).getD (2 : Nat) C.nf).toEls || v2) sz3 v4 v8 (bif wIn v8 ((List.take (4 : Nat) z1).getD (1 : Nat) C.nf).toInt ((List.take (4 : Nat) z1).getD (2 : Nat) C.nf).toEls then (20 : Int) else (1 : Int)) 0
                          else none))
                      else none)
                    else none)
                  else (bif ((List.take (4 : Nat) z1).getD (0 : Nat) C.nf).toInt == (2 : Int) then
                      (bif okT v8 v9 && leftOk v1 then
                        (bif v1 == (0 : Int) then
                          (bif okR sz3 v4 v5 && leftOk v6 then
                            dup 6 ((bif (20 : Int) != bif v6 == (0 : Int) then (20 : Int) else (0 : Int) then
                              K .rt (lPlay_E2)
                            else (bif (↑v9.length : Int) != (↑(bif v6 == (0 : Int) then v5 else []).length : Int) then
                                K .rt (lPlay_E2)
                              else (bif !true == (v6 == (0 : Int) || v7) then
                                  K .rt (lPlay_E2)
                                else (bif (↑v8.length : Int) != sz then
                                    K .rt (lPlay_E2)
                                  else lPlay_L6 (lPlay_K6 K F n) F F sz acts v10 v1 true sz3 (bif v6 == (0 : Int) then v4 else v4 ++ v5) (bif v6 == (0 : Int) then v5 else []) (decL v6) (v6 == (0 : Int) || v7) v8 v9 0)))))
                          else none)
                        else (bif okR sz3 v4 v5 && leftOk v6 then
                            dup 6 ((bif (0 : Int) != bif v6 == (0 : Int) then (20 : Int) else (0 : Int) then
                              K .rt (lPlay_E2)
                            else (bif (0 : Int) != (↑(bif v6 == (0 : Int) then v5 else []).length : Int) then
                                K .rt (lPlay_E2)
                              else (bif !v2 == (v6 == (0 : Int) || v7) then
                                  K .rt (lPlay_E2)
                                else (bif (↑(settleP v8 v9).length : Int) != sz then
                                    K .rt (lPlay_E2)
                                  else lPlay_L6 (lPlay_K6 K F n) F F sz acts v10 (decL v1) v2 sz3 (bif v6 == (0 : Int) then v4 else v4 ++ v5) (bif v6 == (0 : Int) then v5 else []) (decL v6) (v6 == (0 : Int) || v7) (settleP v8 v9) [] 0)))))
                          else none))
                      else none)
                    else (bif ((List.take (4 : Nat) z1).getD (0 : Nat) C.nf).toInt == (3 : Int) then
                        (bif decide (((List.take (4 : Nat) z1).getD (1 : Nat) C.nf).toInt < (0 : Int)) then
                          dup 6 ((bif (1 : Int) != bif powerIn ((List.take (4 : Nat) z1).getD (1 : Nat) C.nf).toInt then (0 : Int) else (1 : Int) then
                            K .rt (lPlay_E2)
                          else (bif (↑v9.length : Int) != (↑v5.length : Int) then
                              K .rt (lPlay_E2)
                            else (bif !v2 == (!powerIn ((List.take (4 : Nat) z1).getD (1 : Nat) C.nf).toInt && v7) then
                                K .rt (lPlay_E2)
                              else (bif (↑v8.length : Int) != sz then
                                  K .rt (lPlay_E2)
                                else lPlay_L6 (lPlay_K6 K F n) F F sz acts v10 v1 v2 sz3 v4 v5 (bif powerIn ((List.take (4 : Nat) z1).getD (1 : Nat) C.nf).toInt then ((List.take (4 : Nat) z1).getD (1 : Nat) C.nf).toInt else v6) (!powerIn ((List.take (4 : Nat) z1).getD (1 : Nat) C.nf).toInt && v7) v8 v9 0)))))
                        else (bif decide (((List.take (4 : Nat) z1).getD (1 : Nat) C.nf).toInt > (1099511627776 : Int)) then
                            dup 6 ((bif (1 : Int) != bif powerIn ((List.take (4 : Nat) z1).getD (1 : Nat) C.nf).toInt then (0 : Int) else (1 : Int) then
                              K .rt (lPlay_E2)
                            else (bif (↑v9.length : Int) != (↑v5.length : Int) then
                                K .rt (lPlay_E2)
                              else (bif !v2 == (!powerIn ((List.take (4 : Nat) z1).getD (1 : Nat) C.nf).toInt && v7) then
                                  K .rt (lPlay_E2)
                                else (bif (↑v8.length : Int) != sz then
                                    K .rt (lPlay_E2)
                                  else lPlay_L6 (lPlay_K6 K F n) F F sz acts v10 v1 v2 sz3 v4 v5 (bif powerIn ((List.take (4 : Nat) z1).getD (1 : Nat) C.nf).toInt then ((List.take (4 : Nat) z1).getD (1 : Nat) C.nf).toInt else v6) (!powerIn ((List.take (4 : Nat) z1).getD (1 : Nat) C.nf).toInt && v7) v8 v9 0)))))
                          else dup 6 ((bif (0 : Int) != bif powerIn ((List.take (4 : Nat) z1).getD (1 : Nat) C.nf).toInt then (0 : Int) else (1 : Int) then
                              K .rt (lPlay_E2)
                            else (bif (↑v9.length : Int) != (↑v5.length : Int) then
                                K .rt (lPlay_E2)
                              else (bif !false == (!powerIn ((List.take (4 : Nat) z1).getD (1 : Nat) C.nf).toInt && v7) then
                                  K .rt (lPlay_E2)
                                else (bif (↑v8.length : Int) != sz then
                                    K .rt (lPlay_E2)
                                  else lPlay_L6 (lPlay_K6 K F n) F F sz acts v10 (((List.take (4 : Nat) z1).getD (1 : Nat) C.nf).toInt) false sz3 v4 v5 (bif powerIn ((List.take (4 : Nat) z1).getD (1 : Nat) C.nf).toInt then ((List.take (4 : Nat) z1).getD (1 : Nat) C.nf).toInt else v6) (!powerIn ((List.take (4 : Nat) z1).getD (1 : Nat) C.nf).toInt && v7) v8 v9 0)))))))
                      else (bif ((List.take (4 : Nat) z1).getD (0 : Nat) C.nf).toInt == (4 : Int) then
                          dup 4 ((bif okT v8 v9 && ((List.take (4 : Nat) z1).getD (3 : Nat) C.nf).toEls.all isBoolE then
                            (bif okR sz3 v4 v5 && ((List.take (4 : Nat) z1).getD (3 : Nat) C.nf).toEls.all isBoolE then
                              dup 6 ((bif (↑(settleP v8 (chosen v9 ((List.take (4 : Nat) z1).getD (3 : Nat) C.nf).toEls)).length : Int) != sz then
                                K .rt (lPlay_E2)
                              else lPlay_L6 (lPlay_K6 K F n) F F sz acts v10 (-1) false sz3 (v4 ++ chosen v5 ((List.take (4 : Nat) z1).getD (3 : Nat) C.nf).toEls) [] (-1) false (settleP v8 (chosen v9 ((List.take (4 : Nat) z1).getD (3 : Nat) C.nf).toEls)) [] 0))
                            else none)
                          else none))
                        else dup 6 ((bif (↑v9.length : Int) != (↑v5.length : Int) then
                            K .rt (lPlay_E2)
                          else (bif !v2 == v7 then
                              K .rt (lPlay_E2)
                            else (bif (↑v8.length : Int) != sz then
                                K .rt (lPlay_E2)
                              else lPlay_L6 (lPlay_K6 K F n) F F sz acts v10 v1 v2 sz3 v4 v5 v6 v7 v8 v9 0))))))))))
            else none)
          else none))
      else none)
    else K (.ex 0) (lPlay_E5)) := by kernel_rfl
theorem lPlay_start {R : Type} (k : V → Bx → Option R) (F : Nat) (sz : Int) (acts : List (List C)) : runFn lPlay_cf F Try.f6 (bd Try.f6) [vi sz, vc (C.sl (4 : Nat) acts)] [] k =
    (bif decide ((↑acts.length : Int) > (60 : Int)) then
      k (vb true) []
    else (bif decide (sz < (4 : Int)) then
        (bif !false == (decide (sz ≥ (4 : Int)) && decide (sz ≤ (4096 : Int))) then
          k (vb false) []
        else (bif !(!true) == (decide (sz ≥ (4 : Int)) && decide (sz ≤ (4096 : Int))) then
            k (vb false) []
          else (bif !(decide (sz ≥ (4 : Int)) && decide (sz ≤ (4096 : Int))) then
              (bif !(decide (sz ≥ (4 : Int)) && decide (sz ≤ (4096 : Int))) then
                k (vb true) []
              else lPlay_L0 (lPlay_K0 k F) F F sz acts)
            else (bif !(decide (sz ≥ (4 : Int)) && decide (sz ≤ (4096 : Int))) then
                k (vb true) []
              else lPlay_L1 (lPlay_K1 k F) F F sz acts))))
      else (bif decide (sz > (4096 : Int)) then
          (bif !false == (decide (sz ≥ (4 : Int)) && decide (sz ≤ (4096 : Int))) then
            k (vb false) []
          else (bif !(!true) == (decide (sz ≥ (4 : Int)) && decide (sz ≤ (4096 : Int))) then
              k (vb false) []
            else (bif !(decide (sz ≥ (4 : Int)) && decide (sz ≤ (4096 : Int))) then
                (bif !(decide (sz ≥ (4 : Int)) && decide (sz ≤ (4096 : Int))) then
                  k (vb true) []
                else lPlay_L2 (lPlay_K2 k F) F F sz acts)
              else (bif !(decide (sz ≥ (4 : Int)) && decide (sz ≤ (4096 : Int))) then
                  k (vb true) []
                else lPlay_L3 (lPlay_K3 k F) F F sz acts))))
        else (bif !true == (decide (sz ≥ (4 : Int)) && decide (sz ≤ (4096 : Int))) then
            k (vb false) []
          else (bif !(!false) == (decide (sz ≥ (4 : Int)) && decide (sz ≤ (4096 : Int))) then
              k (vb false) []
            else (bif !(decide (sz ≥ (4 : Int)) && decide (sz ≤ (4096 : Int))) then
                k (vb false) []
              else (bif !(decide (sz ≥ (4 : Int)) && decide (sz ≤ (4096 : Int))) then
                  k (vb true) []
                else lPlay_L4 (lPlay_K4 k F) F F sz acts (-1) false sz [] [] (-1) false (List.replicate sz.toNat zsec) [] 0))))))) := by kernel_rfl
end Go.Proofs.Ytjkiipkghkpihaa
