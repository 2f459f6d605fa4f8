/- YtniiimpcakmkbaaDoorSgX -/
import Derived.Test.YtniiimpcakmkbaaDoorSgW
set_option linter.unusedVariables false
namespace Go.Proofs.YtniiimpcakmkbaaDoor
open Go Vm
noncomputable def s_skip_cf (m : Int) (N : Nat) : Cfg := mkCfG (globT m) vti (orcB N) false [] [(2, 129), (999, 4), (1000, 1)]
def s_skip_m0 : List Bool := [true, false, false, false, false, false, false, true, false, false, false, false, false, false, false, false, false, false, false, false, false, false, false, false, false, false, false, false, false, false, false, false, false, false]
noncomputable def s_skip_b0 : Code := (cA (cA (cB (cA (cB (bd Tryd.f30))))))
def s_skip_S0 (s : ByteArray) (v1 : Nat) : St := { env := [(vs s), vu, vu, vu, vu, vu, vu, (.t (.w (.ptr 0 0))), vu, vu, vu, vu, vu, vu, vu, vu, vu, vu, vu, vu, vu, vu, vu, vu, vu, vu, vu, vu, vu, vu, vu, vu, vu, vu], bx := [(some (.iter s v1))], np := 0 }
noncomputable def s_skip_L0 {R : Type} (m : Int) (N : Nat) (K : X → St → Option R) (F n : Nat) (s : ByteArray) (v1 : Nat) : Option R := loopV (headM s_skip_m0) (exec (s_skip_cf m N) F s_skip_b0) (exitK (s_skip_cf m N) K) n (s_skip_S0 s v1)
noncomputable def s_skip_K0 {R : Type} (m : Int) (N : Nat) (k : V → Bx → Option R) (F : Nat) : X → St → Option R := (blockK 0 (seqK (s_skip_cf m N) F (cB (cB (bd Tryd.f30))) (finK (s_skip_cf m N) Tryd.f30 k)))
def s_skip_E1 (v1 : Nat) : St := { env := [vu, vu, (vi ((↑v1 : Int))), vu, vu, vu, vu, vu, vu, vu, vu, vu, vu, vu, vu, vu, vu, vu, vu, vu, vu, vu, vu, vu, vu, vu, vu, vu, vu, vu, vu, vu, vu, vu], bx := [], np := 0 }
theorem s_skip_c1 {R : Type} (m : Int) (N : Nat) (k : V → Bx → Option R) (F : Nat) (v1 : Nat) : s_skip_K0 m N k F .rt (s_skip_E1 v1) =
    k (vi ((↑v1 : Int))) [] := by kernel_rfl
def s_skip_E2 (s : ByteArray) (v1 : Nat) : St := { env := [vu, vu, (vi (IntKind.i64.wrap (IntKind.i64.wrap ((↑v1 : Int) + (↑(remarkP (s.extract (↑v1 : Int).toNat (↑s.size : Int).toNat)).size : Int)) + (↑(skipP ((s.extract (IntKind.i64.wrap ((↑v1 : Int) + (↑(remarkP (s.extract (↑v1 : Int).toNat (↑s.size : Int).toNat)).size : Int))).toNat (↑s.size : Int).toNat).size + (1 : Nat)) (s.extract (IntKind.i64.wrap ((↑v1 : Int) + (↑(remarkP (s.extract (↑v1 : Int).toNat (↑s.size : Int).toNat)).size : Int))).toNat (↑s.size : Int).toNat)) : Int)))), vu, vu, vu, vu, vu, vu, vu, vu, vu, vu, vu, vu, vu, vu, vu, vu, vu, vu, vu, vu, vu, vu, vu, vu, vu, vu, vu, vu, vu, vu, vu], bx := [], np := 0 }
theorem s_skip_c2 {R : Type} (m : Int) (N : Nat) (k : V → Bx → Option R) (F : Nat) (s : ByteArray) (v1 : Nat) : s_skip_K0 m N k F .rt (s_skip_E2 s v1) =
    k (vi (IntKind.i64.wrap (IntKind.i64.wrap ((↑v1 : Int) + (↑(remarkP (s.extract (↑v1 : Int).toNat (↑s.size : Int).toNat)).size : Int)) + (↑(skipP ((s.extract (IntKind.i64.wrap ((↑v1 : Int) + (↑(remarkP (s.extract (↑v1 : Int).toNat (↑s.size : Int).toNat)).size : Int))).toNat (↑s.size : Int).toNat).size + (1 : Nat)) (s.extract (IntKind.i64.wrap ((↑v1 : Int) + (↑(remarkP (s.extract (↑v1 : Int).toNat (↑s.size : Int).toNat)).size : Int))).toNat (↑s.size : Int).toNat)) : Int)))) [] := by kernel_rfl
def s_skip_E3 (s : ByteArray) : St := { env := [(vs s), vu, vu, vu, vu, vu, vu, vu, vu, vu, vu, vu, vu, vu, vu, vu, vu, vu, vu, vu, vu, vu, vu, vu, vu, vu, vu, vu, vu, vu, vu, vu, vu, vu], bx := [], np := 0 }
theorem s_skip_c3 {R : Type} (m : Int) (N : Nat) (k : V → Bx → Option R) (F : Nat) (s : ByteArray) : s_skip_K0 m N k F (.ex 0) (s_skip_E3 s) =
    k (vi ((↑s.size : Int))) [] := by kernel_rfl
theorem s_skip_r0 {R : Type} (m : Int) (N : Nat) (K : X → St → Option R) (F n : Nat) (s : ByteArray) (v1 : Nat) : s_skip_L0 m N K F (n + 1) s v1 =
    (bif decide (v1 < s.size) then
      (bif blankP (↑(Utf8.decode s v1).fst : Int) then
        s_skip_L0 m N K F n s (v1 + (Utf8.decode s v1).snd)
      else (bif decide ((0 : Int) ≤ (↑v1 : Int) ∧ (↑v1 : Int) ≤ (↑s.size : Int) ∧ (↑s.size : Int) ≤ (↑s.size : Int)) then
          (bif (↑(remarkP (s.extract (↑v1 : Int).toNat (↑s.size : Int).toNat)).size : Int) == (0 : Int) then
            K .rt (s_skip_E1 v1)
          else (bif decide ((0 : Int) ≤ IntKind.i64.wrap ((↑v1 : Int) + (↑(remarkP (s.extract (↑v1 : Int).toNat (↑s.size : Int).toNat)).size : Int)) ∧ IntKind.i64.wrap ((↑v1 : Int) + (↑(remarkP (s.extract (↑v1 : Int).toNat (↑s.size : Int).toNat)).size : Int)) ≤ (↑s.size : Int) ∧ (↑s.size : Int) ≤ (↑s.size : Int)) then
              (bif decide ((s.extract (IntKind.i64.wrap ((↑v1 : Int) + (↑(remarkP (s.extract (↑v1 : Int).toNat (↑s.size : Int).toNat)).size : Int))).toNat (↑s.size : Int).toNat).size < N) && decide ((s.extract (IntKind.i64.wrap ((↑v1 : Int) + (↑(remarkP (s.extract (↑v1 : Int).toNat (↑s.size : Int).toNat)).size : Int))).toNat (↑s.size : Int).toNat).size < (9223372036854775807 : Nat)) then
                K .rt (s_skip_E2 s v1)
              else none)
            else none))
        else none))
    else K (.ex 0) (s_skip_E3 s)) := by kernel_rfl
theorem s_skip_start {R : Type} (m : Int) (N : Nat) (k : V → Bx → Option R) (F : Nat) (s : ByteArray) : runFn (s_skip_cf m N) F Tryd.f30 (bd Tryd.f30) [vs s] [] k =
    s_skip_L0 m N (s_skip_K0 m N k F) F F s 0 := by kernel_rfl
noncomputable def s_lex_cf (m : Int) : Cfg := mkCfG (globT m) vti orcC false [] [(8, 393), (999, 28), (1001, 28)]
def s_lex_m0 : List Bool := [true, false, false, true, false, false, false, true, true, false, false, false, false, false, false, false, false, false, false, false, false, false, false, false, false, false, false, false, false, false, false, false, false, false, false, false, false, false, false, false, false, false, false, false, false, false, false, false, false, false, false, false, false, false, false, false, false, false, false, false, false, false, false, false]
noncomputable def s_lex_b0 : Code := (cA (cA (cB (cB (cB (cB (cB (bd Tryd.f14))))))))
def s_lex_S0 (v1 : Int) (v2 : Int) (v3 : List (List C)) (v4 : Int) (v5 : Int) (s6 : ByteArray) : St := { env := [(vs s6), vu, vu, (.t (.w (.ptr 0 0))), vu, vu, vu, (.t (.w (.arr 1))), (.t (.w (.ptr 2 0))), vu, vu, vu, vu, vu, vu, vu, vu, vu, vu, vu, vu, vu, vu, vu, vu, vu, vu, vu, vu, vu, vu, vu, vu, vu, vu, vu, vu, vu, vu, vu, vu, vu, vu, vu, vu, vu, vu, vu, vu, vu, vu, vu, vu, vu, vu, vu, vu, vu, vu, vu, vu, vu, vu, vu], bx := [(some (.cells ⟨[(.int .i64 v1), (.int .i64 v2)], [], 2⟩)), (some (.arr true (some 33) 4 v3)), (some (.cells ⟨[(.int .i64 v4), (.int .i64 v5)], [], 2⟩))], np := 0 }
noncomputable def s_lex_L0 {R : Type} (m : Int) (K : X → St → Option R) (F n : Nat) (v1 : Int) (v2 : Int) (v3 : List (List C)) (v4 : Int) (v5 : Int) (s6 : ByteArray) : Option R := loopV (headM s_lex_m0) (exec (s_lex_cf m) F s_lex_b0) (exitK (s_lex_cf m) K) n (s_lex_S0 v1 v2 v3 v4 v5 s6)
noncomputable def s_lex_K0 {R : Type} (m : Int) (k : V → Bx → Option R) (_F : Nat) : X → St → Option R := (blockK 1 (finK (s_lex_cf m) Tryd.f14 k))
def s_lex_E1 (v3 : List (List C)) (v4 : Int) (v5 : Int) (s6 : ByteArray) : St := { env := [vu, vu, (.t (.w (.arr 0))), (.t (.w (.ptr 1 0))), (vi 0), vu, vu, vu, vu, vu, vu, vu, vu, vu, vu, vu, vu, vu, vu, vu, vu, vu, vu, vu, vu, vu, vu, vu, vu, vu, vu, vu, vu, vu, vu, vu, vu, vu, vu, vu, vu, vu, vu, vu, vu, vu, vu, vu, vu, vu, vu, vu, vu, vu, vu, vu, vu, vu, vu, vu, vu, vu, vu, vu], bx := [(some (.arr true (some 33) 4 v3)), (some (.cells ⟨[(.int .i64 ((behindP v4 v5 (s6.extract (0 : Nat) (↑(skipP (s6.size + (1 : Nat)) s6) : Int).toNat)).fst)), (.int .i64 ((behindP v4 v5 (s6.extract (0 : Nat) (↑(skipP (s6.size + (1 : Nat)) s6) : Int).toNat)).snd))], [], 2⟩))], np := 0 }
theorem s_lex_c1 {R : Type} (m : Int) (k : V → Bx → Option R) (F : Nat) (v3 : List (List C)) (v4 : Int) (v5 : Int) (s6 : ByteArray) : s_lex_K0 m k F .rt (s_lex_E1 v3 v4 v5 s6) =
    k (.tup [(.w (.d (.sl 4 v3))), (.agg ⟨[(.int .i64 ((behindP v4 v5 (s6.extract (0 : Nat) (↑(skipP (s6.size + (1 : Nat)) s6) : Int).toNat)).fst)), (.int .i64 ((behindP v4 v5 (s6.extract (0 : Nat) (↑(skipP (s6.size + (1 : Nat)) s6) : Int).toNat)).snd))], [], 2⟩), (.w (.d (.int .i64 0)))]) [] := by kernel_rfl
def s_lex_E2 (v4 : Int) (v5 : Int) (s6 : ByteArray) : St := { env := [vu, vu, (vc (.sl 4 [])), (.t (.w (.ptr 0 0))), (vi 10), vu, vu, vu, vu, vu, vu, vu, vu, vu, vu, vu, vu, vu, vu, vu, vu, vu, vu, vu, vu, vu, vu, vu, vu, vu, vu, vu, vu, vu, vu, vu, vu, vu, vu, vu, vu, vu, vu, vu, vu, vu, vu, vu, vu, vu, vu, vu, vu, vu, vu, vu, vu, vu, vu, vu, vu, vu, vu, vu], bx := [(some (.cells ⟨[(.int .i64 ((behindP v4 v5 (s6.extract (0 : Nat) (↑(skipP (s6.size + (1 : Nat)) s6) : Int).toNat)).fst)), (.int .i64 ((behindP v4 v5 (s6.extract (0 : Nat) (↑(skipP (s6.size + (1 : Nat)) s6) : Int).toNat)).snd))], [], 2⟩))], np := 0 }
theorem s_lex_c2 {R : Type} (m : Int) (k : V → Bx → Option R) (F : Nat) (v4 : Int) (v5 : Int) (s6 : ByteArray) : s_lex_K0 m k F .rt (s_lex_E2 v4 v5 s6) =
    k (.tup [(.w (.d (.sl 4 []))), (.agg ⟨[(.int .i64 ((behindP v4 v5 (s6.extract (0 : Nat) (↑(skipP (s6.size + (1 : Nat)) s6) : Int).toNat)).fst)), (.int .i64 ((behindP v4 v5 (s6.extract (0 : Nat) (↑(skipP (s6.size + (1 : Nat)) s6) : Int).toNat)).snd))], [], 2⟩), (.w (.d (.int .i64 10)))]) [] := by kernel_rfl
theorem s_lex_r0 {R : Type} (m : Int) (K : X → St → Option R) (F n : Nat) (v1 : Int) (v2 : Int) (v3 : List (List C)) (v4 : Int) (v5 : Int) (s6 : ByteArray) : s_lex_L0 m K F (n + 1) v1 v2 v3 v4 v5 s6 =
    (bif decide (s6.size < (9223372036854775807 : Nat)) then
      dup 3 ((bif decide ((0 : Int) ≤ (0 : Int) ∧ (0 : Int) ≤ (↑(skipP (s6.size + (1 : Nat)) s6) : Int) ∧ (↑(skipP (s6.size + (1 : Nat)) s6) : Int) ≤ (↑s6.size : Int)) then
        (bif decide ((0 : Int) ≤ (↑(skipP (s6.size + (1 : Nat)) s6) : Int) ∧ (↑(skipP (s6.size + (1 : Nat)) s6) : Int) ≤ (↑s6.size : Int) ∧ (↑s6.size : Int) ≤ (↑s6.size : Int)) then
          (bif (s6.extract (↑(skipP (s6.size + (1 : Nat)) s6) : Int).toNat (↑s6.size : Int).toNat).toList == (ByteArray.mk #[]).toList then
            K .rt (s_lex_E1 v3 v4 v5 s6)
          else (bif !tokO (s6.extract (↑(skipP (s6.size + (1 : Nat)) s6) : Int).toNat (↑s6.size : Int).toNat) then
              K .rt (s_lex_E2 v4 v5 s6)
            else (bif decide ((v3.length + (1 : Nat)) * (40 : Nat) ≤ (140737488355328 : Nat) ∧ v3.length + (1 : Nat) ≤ (9223372036854775807 : Nat)) then
                dup 10 ((bif decide ((0 : Int) ≤ (↑(tokT (s6.extract (↑(skipP (s6.size + (1 : Nat)) s6) : Int).toNat (↑s6.size : Int).toNat)).size : Int) ∧ (↑(tokT (s6.extract (↑(skipP (s6.size + (1 : Nat)) s6) : Int).toNat (↑s6.size : Int).toNat)).size : Int) ≤ (↑(s6.extract (↑(skipP (s6.size + (1 : Nat)) s6) : Int).toNat (↑s6.size : Int).toNat).size : Int) ∧ (↑(s6.extract (↑(skipP (s6.size + (1 : Nat)) s6) : Int).toNat (↑s6.size : Int).toNat).size : Int) ≤ (↑(s6.extract (↑(skipP (s6.size + (1 : Nat)) s6) : Int).toNat (↑s6.size : Int).toNat).size : Int)) then
                  s_lex_L0 m K F n v1 v2 (v3 ++ [[C.int IntKind.i64 (tokK (s6.extract (↑(skipP (s6.size + (1 : Nat)) s6) : Int).toNat (↑s6.size : Int).toNat)), C.str (tokT (s6.extract (↑(skipP (s6.size + (1 : Nat)) s6) : Int).toNat (↑s6.size : Int).toNat)), C.int IntKind.i64 (behindP v4 v5 (s6.extract (0 : Nat) (↑(skipP (s6.size + (1 : Nat)) s6) : Int).toNat)).fst, C.int IntKind.i64 (behindP v4 v5 (s6.extract (0 : Nat) (↑(skipP (s6.size + (1 : Nat)) s6) : Int).toNat)).snd]]) ((behindP (behindP v4 v5 (s6.extract (0 : Nat) (↑(skipP (s6.size + (1 : Nat)) s6) : Int).toNat)).fst (behindP v4 v5 (s6.extract (0 : Nat) (↑(skipP (s6.size + (1 : Nat)) s6) : Int).toNat)).snd (tokT (s6.extract (↑(skipP (s6.size + (1 : Nat)) s6) : Int).toNat (↑s6.size : Int).toNat))).fst) ((behindP (behindP v4 v5 (s6.extract (0 : Nat) (↑(skipP (s6.size + (1 : Nat)) s6) : Int).toNat)).fst (behindP v4 v5 (s6.extract (0 : Nat) (↑(skipP (s6.size + (1 : Nat)) s6) : Int).toNat)).snd (tokT (s6.extract (↑(skipP (s6.size + (1 : Nat)) s6) : Int).toNat (↑s6.size : Int).toNat))).snd) ((s6.extract (↑(skipP (s6.size + (1 : Nat)) s6) : Int).toNat (↑s6.size : Int).toNat).extract (↑(tokT (s6.extract (↑(skipP (s6.size + (1 : Nat)) s6) : Int).toNat (↑s6.size : Int).toNat)).size : Int).toNat (↑(s6.extract (↑(skipP (s6.size + (1 : Nat)) s6) : Int).toNat (↑s6.size : Int).toNat).size : Int).toNat)
                else none))
              else none)))
        else none)
      else none))
    else none) := by kernel_rfl
theorem s_lex_start {R : Type} (m : Int) (k : V → Bx → Option R) (F : Nat) (s : ByteArray) : runFn (s_lex_cf m) F Tryd.f14 (bd Tryd.f14) [vs s] [] k =
    (bif (bif validP s then (0 : Int) else (4 : Int)) != (0 : Int) then
      k (.tup [(.w (.d (.sl 4 []))), (.agg ⟨[(.int .i64 0), (.int .i64 0)], [], 2⟩), (.w (.d (.int .i64 (bif validP s then (0 : Int) else (4 : Int)))))]) []
    else (bif decide ((bif validP s then countP s else (0 : Int)) > (3000 : Int)) then
        k (.tup [(.w (.d (.sl 4 []))), (.agg ⟨[(.int .i64 0), (.int .i64 0)], [], 2⟩), (.w (.d (.int .i64 3)))]) []
      else s_lex_L0 m (s_lex_K0 m k F) F F 0 0 [] 1 1 s)) := by kernel_rfl
end Go.Proofs.YtniiimpcakmkbaaDoor
