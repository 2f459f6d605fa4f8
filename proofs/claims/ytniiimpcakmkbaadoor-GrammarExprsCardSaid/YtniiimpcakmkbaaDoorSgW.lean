/- YtniiimpcakmkbaaDoorSgW -/
import Derived.Test.YtniiimpcakmkbaaDoorSgB
set_option linter.unusedVariables false
namespace Go.Proofs.YtniiimpcakmkbaaDoor
open Go Vm
noncomputable def s_next_cf (m : Int) : Cfg := mkCfG (globT m) vti orc0 false [] []
theorem s_next_start {R : Type} (m : Int) (k : V → Bx → Option R) (F : Nat) (l : Int) (c : Int) (r : Int) : runFn (s_next_cf m) F Tryd.f37 (bd Tryd.f37) [V.t (T.agg { l := [C.int IntKind.i64 l, C.int IntKind.i64 c], lk := [], n := (2 : Nat) }), vc (C.int IntKind.i32 r)] [] k =
    (bif r == (10 : Int) then
      k (.t (.agg ⟨[(.int .i64 (IntKind.i64.wrap (l + (1 : Int)))), (.int .i64 1)], [], 2⟩)) []
    else k (.t (.agg ⟨[(.int .i64 l), (.int .i64 (IntKind.i64.wrap (c + (1 : Int))))], [], 2⟩)) []) := by kernel_rfl
noncomputable def s_blank_cf (m : Int) : Cfg := mkCfG (globT m) vti orc0 false [] []
theorem s_blank_start {R : Type} (m : Int) (k : V → Bx → Option R) (F : Nat) (r : Int) : runFn (s_blank_cf m) F Tryd.f55 (bd Tryd.f55) [vc (C.int IntKind.i32 r)] [] k =
    (bif r == (9 : Int) then
      (bif r == (9 : Int) then
        k (vb true) []
      else k (vb false) [])
    else (bif r == (10 : Int) then
        (bif r == (10 : Int) then
          k (vb true) []
        else k (vb false) [])
      else (bif r == (13 : Int) then
          (bif r == (13 : Int) then
            k (vb true) []
          else k (vb false) [])
        else (bif r == (32 : Int) then
            (bif r == (32 : Int) then
              k (vb true) []
            else k (vb false) [])
          else (bif r == (12288 : Int) then
              k (vb true) []
            else k (vb false) []))))) := by kernel_rfl
noncomputable def s_letter_cf (m : Int) : Cfg := mkCfG (globT m) vti orc0 false [] []
theorem s_letter_start {R : Type} (m : Int) (k : V → Bx → Option R) (F : Nat) (r : Int) (b : Bool) : runFn (s_letter_cf m) F Tryd.f78 (bd Tryd.f78) [vc (C.int IntKind.i32 r), vb b] [] k =
    (bif decide (r ≥ (97 : Int)) then
      (bif decide (r ≤ (122 : Int)) then
        k (vb true) []
      else (bif !b then
          (bif decide (r ≥ (48 : Int)) then
            (bif decide (r ≤ (57 : Int)) then
              k (vb true) []
            else k (vb (r == (95 : Int))) [])
          else k (vb (r == (95 : Int))) [])
        else k (vb false) []))
    else (bif !b then
        (bif decide (r ≥ (48 : Int)) then
          (bif decide (r ≤ (57 : Int)) then
            k (vb true) []
          else k (vb (r == (95 : Int))) [])
        else k (vb (r == (95 : Int))) [])
      else k (vb false) [])) := by kernel_rfl
noncomputable def s_kind_cf (m : Int) : Cfg := mkCfG (globT m) vti orc0 false [] []
theorem s_kind_start {R : Type} (m : Int) (k : V → Bx → Option R) (F : Nat) (s : ByteArray) : runFn (s_kind_cf m) F Tryd.f58 (bd Tryd.f58) [vs s] [] k =
    (bif s.toList == (ByteArray.mk #[(116 : UInt8), (121 : UInt8), (112 : UInt8), (101 : UInt8)]).toList then
      k (vi 2) []
    else (bif s.toList == (ByteArray.mk #[(114 : UInt8), (101 : UInt8), (108 : UInt8)]).toList then
        k (vi 3) []
      else (bif s.toList == (ByteArray.mk #[(116 : UInt8), (104 : UInt8), (105 : UInt8), (115 : UInt8)]).toList then
          k (vi 4) []
        else k (vi 1) []))) := by kernel_rfl
noncomputable def s_pre0_cf (m : Int) : Cfg := mkCfG (globT m) vti orc0 false [] []
theorem s_pre0_start {R : Type} (m : Int) (k : V → Bx → Option R) (F : Nat) (s : ByteArray) (p : ByteArray) : runFn (s_pre0_cf m) F Tryd.f61 (bd Tryd.f61) [vs s, vs p] [] k =
    (bif decide ((↑s.size : Int) ≥ (↑p.size : Int)) then
      (bif decide ((0 : Int) ≤ (0 : Int) ∧ (0 : Int) ≤ (↑p.size : Int) ∧ (↑p.size : Int) ≤ (↑s.size : Int)) then
        k (vb ((s.extract (0 : Nat) (↑p.size : Int).toNat).toList == p.toList)) []
      else none)
    else k (vb false) []) := by kernel_rfl
noncomputable def s_pre_cf (m : Int) : Cfg := mkCfG (globT m) vti orcA0 false [] []
theorem s_pre_start {R : Type} (m : Int) (k : V → Bx → Option R) (F : Nat) (s : ByteArray) (p : ByteArray) : runFn (s_pre_cf m) F Tryd.f40 (bd Tryd.f40) [vs s, vs p] [] k =
    k (vb (preP s p)) [] := by kernel_rfl
noncomputable def s_broken_cf (m : Int) : Cfg := mkCfG (globT m) vti orcA0 false [] []
theorem s_broken_start {R : Type} (m : Int) (k : V → Bx → Option R) (F : Nat) (s : ByteArray) (at_ : Int) (r : Int) : runFn (s_broken_cf m) F Tryd.f77 (bd Tryd.f77) [vs s, vi at_, vc (C.int IntKind.i32 r)] [] k =
    (bif r != (65533 : Int) then
      k (vb false) []
    else (bif decide ((0 : Int) ≤ at_ ∧ at_ ≤ (↑s.size : Int) ∧ (↑s.size : Int) ≤ (↑s.size : Int)) then
        k (vb ((↑(Lib.decodeGo (s.extract at_.toNat (↑s.size : Int).toNat)).snd : Int) == (1 : Int))) []
      else none)) := by kernel_rfl
noncomputable def s_valid_cf (m : Int) : Cfg := mkCfG (globT m) vti orcA false [] [(2, 65), (999, 4), (1000, 0)]
def s_valid_m0 : List Bool := [true, false, false, false, false, false, true, false, false, false, false, false, false, false, false]
noncomputable def s_valid_b0 : Code := (cA (cA (cB (cA (cB (bd Tryd.f54))))))
def s_valid_S0 (s : ByteArray) (v1 : Nat) : St := { env := [(vs s), vu, vu, vu, vu, vu, (.t (.w (.ptr 0 0))), vu, vu, vu, vu, vu, vu, vu, vu], bx := [(some (.iter s v1))], np := 0 }
noncomputable def s_valid_L0 {R : Type} (m : Int) (K : X → St → Option R) (F n : Nat) (s : ByteArray) (v1 : Nat) : Option R := loopV (headM s_valid_m0) (exec (s_valid_cf m) F s_valid_b0) (exitK (s_valid_cf m) K) n (s_valid_S0 s v1)
noncomputable def s_valid_K0 {R : Type} (m : Int) (k : V → Bx → Option R) (F : Nat) : X → St → Option R := (blockK 0 (seqK (s_valid_cf m) F (cB (cB (bd Tryd.f54))) (finK (s_valid_cf m) Tryd.f54 k)))
def s_valid_E1 : St := { env := [vu, vu, (vb false), vu, vu, vu, vu, vu, vu, vu, vu, vu, vu, vu, vu], bx := [], np := 0 }
theorem s_valid_c1 {R : Type} (m : Int) (k : V → Bx → Option R) (F : Nat) : s_valid_K0 m k F .rt (s_valid_E1) =
    k (vb false) [] := by kernel_rfl
def s_valid_E2 : St := { env := [vu, vu, vu, vu, vu, vu, vu, vu, vu, vu, vu, vu, vu, vu, vu], bx := [], np := 0 }
theorem s_valid_c2 {R : Type} (m : Int) (k : V → Bx → Option R) (F : Nat) : s_valid_K0 m k F (.ex 0) (s_valid_E2) =
    k (vb true) [] := by kernel_rfl
theorem s_valid_r0 {R : Type} (m : Int) (K : X → St → Option R) (F n : Nat) (s : ByteArray) (v1 : Nat) : s_valid_L0 m K F (n + 1) s v1 =
    (bif decide (v1 < s.size) then
      (bif decide ((↑v1 : Int) ≤ (↑s.size : Int)) then
        (bif brokenP s (↑v1 : Int) (↑(Utf8.decode s v1).fst : Int) then
          K .rt (s_valid_E1)
        else s_valid_L0 m K F n s (v1 + (Utf8.decode s v1).snd))
      else none)
    else K (.ex 0) (s_valid_E2)) := by kernel_rfl
theorem s_valid_start {R : Type} (m : Int) (k : V → Bx → Option R) (F : Nat) (s : ByteArray) : runFn (s_valid_cf m) F Tryd.f54 (bd Tryd.f54) [vs s] [] k =
    s_valid_L0 m (s_valid_K0 m k F) F F s 0 := by kernel_rfl
noncomputable def s_behind_cf (m : Int) : Cfg := mkCfG (globT m) vti orcA false [] [(2, 276), (999, 16), (1000, 20)]
def s_behind_m0 : List Bool := [false, false, true, false, true, false, false, false, true, false, false, false, false, false, false, false]
noncomputable def s_behind_b0 : Code := (cA (cA (cB (cA (cB (bd Tryd.f31))))))
def s_behind_S0 (s : ByteArray) (l1 : Int) (c2 : Int) (v3 : Int) (v4 : Int) (v5 : Nat) : St := { env := [vu, vu, (.t (.w (.ptr 0 0))), vu, (.t (.w (.ptr 1 0))), vu, vu, vu, (.t (.w (.ptr 2 0))), vu, vu, vu, vu, vu, vu, vu], bx := [(some (.cells ⟨[(.int .i64 l1), (.int .i64 c2)], [], 2⟩)), (some (.cells ⟨[(.int .i64 v3), (.int .i64 v4)], [], 2⟩)), (some (.iter s v5))], np := 0 }
noncomputable def s_behind_L0 {R : Type} (m : Int) (K : X → St → Option R) (F n : Nat) (s : ByteArray) (l1 : Int) (c2 : Int) (v3 : Int) (v4 : Int) (v5 : Nat) : Option R := loopV (headM s_behind_m0) (exec (s_behind_cf m) F s_behind_b0) (exitK (s_behind_cf m) K) n (s_behind_S0 s l1 c2 v3 v4 v5)
noncomputable def s_behind_K0 {R : Type} (m : Int) (k : V → Bx → Option R) (F : Nat) : X → St → Option R := (blockK 0 (seqK (s_behind_cf m) F (cB (cB (bd Tryd.f31))) (finK (s_behind_cf m) Tryd.f31 k)))
def s_behind_E1 (l1 : Int) (c2 : Int) (v3 : Int) (v4 : Int) : St := { env := [vu, vu, (.t (.w (.ptr 0 0))), vu, (.t (.w (.ptr 1 0))), vu, vu, vu, vu, vu, vu, vu, vu, vu, vu, vu], bx := [(some (.cells ⟨[(.int .i64 l1), (.int .i64 c2)], [], 2⟩)), (some (.cells ⟨[(.int .i64 v3), (.int .i64 v4)], [], 2⟩))], np := 0 }
theorem s_behind_c1 {R : Type} (m : Int) (k : V → Bx → Option R) (F : Nat) (l1 : Int) (c2 : Int) (v3 : Int) (v4 : Int) : s_behind_K0 m k F (.ex 0) (s_behind_E1 l1 c2 v3 v4) =
    k (.t (.agg ⟨[(.int .i64 l1), (.int .i64 c2)], [], 2⟩)) [] := by kernel_rfl
theorem s_behind_r0 {R : Type} (m : Int) (K : X → St → Option R) (F n : Nat) (s : ByteArray) (l1 : Int) (c2 : Int) (v3 : Int) (v4 : Int) (v5 : Nat) : s_behind_L0 m K F (n + 1) s l1 c2 v3 v4 v5 =
    (bif decide (v5 < s.size) then
      s_behind_L0 m K F n s (nextL l1 (↑(Utf8.decode s v5).fst : Int)) (nextC c2 (↑(Utf8.decode s v5).fst : Int)) v3 v4 (v5 + (Utf8.decode s v5).snd)
    else K (.ex 0) (s_behind_E1 l1 c2 v3 v4)) := by kernel_rfl
theorem s_behind_start {R : Type} (m : Int) (k : V → Bx → Option R) (F : Nat) (l : Int) (c : Int) (s : ByteArray) : runFn (s_behind_cf m) F Tryd.f31 (bd Tryd.f31) [V.t (T.agg (plM l c)), vs s] [] k =
    s_behind_L0 m (s_behind_K0 m k F) F F s l c 0 0 0 := by kernel_rfl
noncomputable def s_word_cf (m : Int) : Cfg := mkCfG (globT m) vti orcA false [] [(2, 65), (999, 4), (1000, 1)]
def s_word_m0 : List Bool := [true, false, false, false, false, false, true, false, false, false, false, false, false, false, false, false, false, false, false, false]
noncomputable def s_word_b0 : Code := (cA (cA (cB (cA (cB (bd Tryd.f57))))))
def s_word_S0 (s : ByteArray) (v1 : Nat) : St := { env := [(vs s), vu, vu, vu, vu, vu, (.t (.w (.ptr 0 0))), vu, vu, vu, vu, vu, vu, vu, vu, vu, vu, vu, vu, vu], bx := [(some (.iter s v1))], np := 0 }
noncomputable def s_word_L0 {R : Type} (m : Int) (K : X → St → Option R) (F n : Nat) (s : ByteArray) (v1 : Nat) : Option R := loopV (headM s_word_m0) (exec (s_word_cf m) F s_word_b0) (exitK (s_word_cf m) K) n (s_word_S0 s v1)
noncomputable def s_word_K0 {R : Type} (m : Int) (k : V → Bx → Option R) (F : Nat) : X → St → Option R := (blockK 0 (seqK (s_word_cf m) F (cB (cB (bd Tryd.f57))) (finK (s_word_cf m) Tryd.f57 k)))
def s_word_E1 (s : ByteArray) (v1 : Nat) : St := { env := [vu, vu, (vs (s.extract (0 : Nat) (↑v1 : Int).toNat)), vu, vu, vu, vu, vu, vu, vu, vu, vu, vu, vu, vu, vu, vu, vu, vu, vu], bx := [], np := 0 }
theorem s_word_c1 {R : Type} (m : Int) (k : V → Bx → Option R) (F : Nat) (s : ByteArray) (v1 : Nat) : s_word_K0 m k F .rt (s_word_E1 s v1) =
    k (vs (s.extract (0 : Nat) (↑v1 : Int).toNat)) [] := by kernel_rfl
def s_word_E2 (s : ByteArray) : St := { env := [(vs s), vu, vu, vu, vu, vu, vu, vu, vu, vu, vu, vu, vu, vu, vu, vu, vu, vu, vu, vu], bx := [], np := 0 }
theorem s_word_c2 {R : Type} (m : Int) (k : V → Bx → Option R) (F : Nat) (s : ByteArray) : s_word_K0 m k F (.ex 0) (s_word_E2 s) =
    k (vs s) [] := by kernel_rfl
theorem s_word_r0 {R : Type} (m : Int) (K : X → St → Option R) (F n : Nat) (s : ByteArray) (v1 : Nat) : s_word_L0 m K F (n + 1) s v1 =
    (bif decide (v1 < s.size) then
      (bif !letterP (↑(Utf8.decode s v1).fst : Int) ((↑v1 : Int) == (0 : Int)) then
        (bif decide ((0 : Int) ≤ (0 : Int) ∧ (0 : Int) ≤ (↑v1 : Int) ∧ (↑v1 : Int) ≤ (↑s.size : Int)) then
          K .rt (s_word_E1 s v1)
        else none)
      else s_word_L0 m K F n s (v1 + (Utf8.decode s v1).snd))
    else K (.ex 0) (s_word_E2 s)) := by kernel_rfl
theorem s_word_start {R : Type} (m : Int) (k : V → Bx → Option R) (F : Nat) (s : ByteArray) : runFn (s_word_cf m) F Tryd.f57 (bd Tryd.f57) [vs s] [] k =
    s_word_L0 m (s_word_K0 m k F) F F s 0 := by kernel_rfl
noncomputable def s_remark_cf (m : Int) : Cfg := mkCfG (globT m) vti orcA false [] [(4, 513), (999, 4), (1000, 1)]
def s_remark_m0 : List Bool := [true, false, false, false, false, false, false, false, false, true, false, false, false, false, false, false, false, false, false, false]
noncomputable def s_remark_b0 : Code := (cA (cA (cB (cA (cB (cB (bd Tryd.f56)))))))
def s_remark_S0 (s : ByteArray) (v1 : Nat) : St := { env := [(vs s), vu, vu, vu, vu, vu, vu, vu, vu, (.t (.w (.ptr 0 0))), vu, vu, vu, vu, vu, vu, vu, vu, vu, vu], bx := [(some (.iter s v1))], np := 0 }
noncomputable def s_remark_L0 {R : Type} (m : Int) (K : X → St → Option R) (F n : Nat) (s : ByteArray) (v1 : Nat) : Option R := loopV (headM s_remark_m0) (exec (s_remark_cf m) F s_remark_b0) (exitK (s_remark_cf m) K) n (s_remark_S0 s v1)
noncomputable def s_remark_K0 {R : Type} (m : Int) (k : V → Bx → Option R) (F : Nat) : X → St → Option R := (blockK 0 (seqK (s_remark_cf m) F (cB (cB (cB (bd Tryd.f56)))) (finK (s_remark_cf m) Tryd.f56 k)))
def s_remark_E1 (s : ByteArray) (v1 : Nat) : St := { env := [vu, vu, (vs (s.extract (0 : Nat) (↑v1 : Int).toNat)), vu, vu, vu, vu, vu, vu, vu, vu, vu, vu, vu, vu, vu, vu, vu, vu, vu], bx := [], np := 0 }
theorem s_remark_c1 {R : Type} (m : Int) (k : V → Bx → Option R) (F : Nat) (s : ByteArray) (v1 : Nat) : s_remark_K0 m k F .rt (s_remark_E1 s v1) =
    k (vs (s.extract (0 : Nat) (↑v1 : Int).toNat)) [] := by kernel_rfl
def s_remark_E2 (s : ByteArray) : St := { env := [(vs s), vu, vu, vu, vu, vu, vu, vu, vu, vu, vu, vu, vu, vu, vu, vu, vu, vu, vu, vu], bx := [], np := 0 }
theorem s_remark_c2 {R : Type} (m : Int) (k : V → Bx → Option R) (F : Nat) (s : ByteArray) : s_remark_K0 m k F (.ex 0) (s_remark_E2 s) =
    k (vs s) [] := by kernel_rfl
theorem s_remark_r0 {R : Type} (m : Int) (K : X → St → Option R) (F n : Nat) (s : ByteArray) (v1 : Nat) : s_remark_L0 m K F (n + 1) s v1 =
    (bif decide (v1 < s.size) then
      (bif (↑(Utf8.decode s v1).fst : Int) == (10 : Int) then
        (bif decide ((0 : Int) ≤ (0 : Int) ∧ (0 : Int) ≤ (↑v1 : Int) ∧ (↑v1 : Int) ≤ (↑s.size : Int)) then
          K .rt (s_remark_E1 s v1)
        else none)
      else s_remark_L0 m K F n s (v1 + (Utf8.decode s v1).snd))
    else K (.ex 0) (s_remark_E2 s)) := by kernel_rfl
theorem s_remark_start {R : Type} (m : Int) (k : V → Bx → Option R) (F : Nat) (s : ByteArray) : runFn (s_remark_cf m) F Tryd.f56 (bd Tryd.f56) [vs s] [] k =
    (bif !preP s (ByteArray.mk #[(47 : UInt8), (47 : UInt8)]) then
      k (vs ((ByteArray.mk #[]))) []
    else s_remark_L0 m (s_remark_K0 m k F) F F s 0) := by kernel_rfl
noncomputable def s_count_cf (m : Int) : Cfg := mkCfG (globT m) vti orcB0 false [] [(5, 528), (999, 12), (1000, 16)]
def s_count_m0 : List Bool := [false, false, false, false, true, false, false, false, false, true, false, false, false, false, false]
noncomputable def s_count_b0 : Code := (cA (cA (cB (cA (cB (cB (cB (bd Tryd.f29))))))))
def s_count_S0 (s : ByteArray) (v1 : Int) (v2 : Nat) : St := { env := [vu, vu, vu, vu, (vi v1), vu, vu, vu, vu, (.t (.w (.ptr 0 0))), vu, vu, vu, vu, vu], bx := [(some (.iter s v2))], np := 0 }
noncomputable def s_count_L0 {R : Type} (m : Int) (K : X → St → Option R) (F n : Nat) (s : ByteArray) (v1 : Int) (v2 : Nat) : Option R := loopV (headM s_count_m0) (exec (s_count_cf m) F s_count_b0) (exitK (s_count_cf m) K) n (s_count_S0 s v1 v2)
noncomputable def s_count_K0 {R : Type} (m : Int) (k : V → Bx → Option R) (F : Nat) : X → St → Option R := (blockK 0 (seqK (s_count_cf m) F (cB (cB (cB (cB (bd Tryd.f29))))) (finK (s_count_cf m) Tryd.f29 k)))
def s_count_E1 (v1 : Int) : St := { env := [vu, vu, vu, vu, (vi v1), vu, vu, vu, vu, vu, vu, vu, vu, vu, vu], bx := [], np := 0 }
theorem s_count_c1 {R : Type} (m : Int) (k : V → Bx → Option R) (F : Nat) (v1 : Int) : s_count_K0 m k F (.ex 0) (s_count_E1 v1) =
    k (.tup [(.w (.d (.int .i64 v1))), (.w (.d (.int .i64 0)))]) [] := by kernel_rfl
theorem s_count_r0 {R : Type} (m : Int) (K : X → St → Option R) (F n : Nat) (s : ByteArray) (v1 : Int) (v2 : Nat) : s_count_L0 m K F (n + 1) s v1 v2 =
    (bif decide (v2 < s.size) then
      s_count_L0 m K F n s (IntKind.i64.wrap (v1 + (1 : Int))) (v2 + (Utf8.decode s v2).snd)
    else K (.ex 0) (s_count_E1 v1)) := by kernel_rfl
theorem s_count_start {R : Type} (m : Int) (k : V → Bx → Option R) (F : Nat) (s : ByteArray) : runFn (s_count_cf m) F Tryd.f29 (bd Tryd.f29) [vs s] [] k =
    (bif !validP s then
      k (.tup [(.w (.d (.int .i64 0))), (.w (.d (.int .i64 4)))]) []
    else s_count_L0 m (s_count_K0 m k F) F F s 0 0) := by kernel_rfl
noncomputable def s_end_cf (m : Int) : Cfg := mkCfG (globT m) vti orcA false [] [(3, 268), (999, 4), (1000, 12)]
def s_end_m0 : List Bool := [false, false, true, true, false, false, false, false, true, false, false, false, false, false, false, false]
noncomputable def s_end_b0 : Code := (cA (cA (cB (cA (cB (cB (bd Tryd.f16)))))))
def s_end_S0 (s : ByteArray) (v1 : Int) (v2 : Int) (v3 : Int) (v4 : Int) (v5 : Nat) : St := { env := [vu, vu, (.t (.w (.ptr 0 0))), (.t (.w (.ptr 1 0))), vu, vu, vu, vu, (.t (.w (.ptr 2 0))), vu, vu, vu, vu, vu, vu, vu], bx := [(some (.cells ⟨[(.int .i64 v1), (.int .i64 v2)], [], 2⟩)), (some (.cells ⟨[(.int .i64 v3), (.int .i64 v4)], [], 2⟩)), (some (.iter s v5))], np := 0 }
noncomputable def s_end_L0 {R : Type} (m : Int) (K : X → St → Option R) (F n : Nat) (s : ByteArray) (v1 : Int) (v2 : Int) (v3 : Int) (v4 : Int) (v5 : Nat) : Option R := loopV (headM s_end_m0) (exec (s_end_cf m) F s_end_b0) (exitK (s_end_cf m) K) n (s_end_S0 s v1 v2 v3 v4 v5)
noncomputable def s_end_K0 {R : Type} (m : Int) (k : V → Bx → Option R) (F : Nat) : X → St → Option R := (blockK 0 (seqK (s_end_cf m) F (cB (cB (cB (bd Tryd.f16)))) (finK (s_end_cf m) Tryd.f16 k)))
def s_end_E1 (v1 : Int) (v2 : Int) (v3 : Int) (v4 : Int) : St := { env := [vu, vu, (.t (.w (.ptr 0 0))), (.t (.w (.ptr 1 0))), vu, vu, vu, vu, vu, vu, vu, vu, vu, vu, vu, vu], bx := [(some (.cells ⟨[(.int .i64 v1), (.int .i64 v2)], [], 2⟩)), (some (.cells ⟨[(.int .i64 v3), (.int .i64 v4)], [], 2⟩))], np := 0 }
theorem s_end_c1 {R : Type} (m : Int) (k : V → Bx → Option R) (F : Nat) (v1 : Int) (v2 : Int) (v3 : Int) (v4 : Int) : s_end_K0 m k F (.ex 0) (s_end_E1 v1 v2 v3 v4) =
    k (.t (.agg ⟨[(.int .i64 v3), (.int .i64 v4)], [], 2⟩)) [] := by kernel_rfl
theorem s_end_r0 {R : Type} (m : Int) (K : X → St → Option R) (F n : Nat) (s : ByteArray) (v1 : Int) (v2 : Int) (v3 : Int) (v4 : Int) (v5 : Nat) : s_end_L0 m K F (n + 1) s v1 v2 v3 v4 v5 =
    (bif decide (v5 < s.size) then
      s_end_L0 m K F n s v1 v2 (nextL v3 (↑(Utf8.decode s v5).fst : Int)) (nextC v4 (↑(Utf8.decode s v5).fst : Int)) (v5 + (Utf8.decode s v5).snd)
    else K (.ex 0) (s_end_E1 v1 v2 v3 v4)) := by kernel_rfl
theorem s_end_start {R : Type} (m : Int) (k : V → Bx → Option R) (F : Nat) (s : ByteArray) : runFn (s_end_cf m) F Tryd.f16 (bd Tryd.f16) [vs s] [] k =
    s_end_L0 m (s_end_K0 m k F) F F s 0 0 1 1 0 := by kernel_rfl
noncomputable def s_token_cf (m : Int) : Cfg := mkCfG (globT m) vti orcB0 false [] [(7, 4194308), (999, 12), (1000, 4)]
def s_token_m0 : List Bool := [false, false, true, false, false, false, false, false, false, false, false, false, false, false, false, false, false, false, false, false, false, false, true, false, false, false, false, false, false, false, false, false, false, false, false]
noncomputable def s_token_b0 : Code := (cA (cA (cB (cA (cB (cB (cB (bd Tryd.f32))))))))
def s_token_S0 (s : ByteArray) (v1 : Int) (v2 : ByteArray) (v3 : Int) (v4 : Int) : St := { env := [vu, vu, (.t (.w (.ptr 0 0))), vu, vu, vu, vu, vu, vu, vu, vu, vu, vu, vu, vu, vu, vu, vu, vu, vu, vu, vu, (.t (.w (.ptr 1 0))), vu, vu, vu, vu, vu, vu, vu, vu, vu, vu, vu, vu], bx := [(some (.cells ⟨[(.int .i64 v1), (.str v2), (.int .i64 v3), (.int .i64 v4)], [], 4⟩)), (some (.iter s 0))], np := 0 }
noncomputable def s_token_L0 {R : Type} (m : Int) (K : X → St → Option R) (F n : Nat) (s : ByteArray) (v1 : Int) (v2 : ByteArray) (v3 : Int) (v4 : Int) : Option R := loopV (headM s_token_m0) (exec (s_token_cf m) F s_token_b0) (exitK (s_token_cf m) K) n (s_token_S0 s v1 v2 v3 v4)
noncomputable def s_token_K0 {R : Type} (m : Int) (k : V → Bx → Option R) (F : Nat) : X → St → Option R := (blockK 0 (seqK (s_token_cf m) F (cB (cB (cB (cB (bd Tryd.f32))))) (finK (s_token_cf m) Tryd.f32 k)))
def s_token_E1 (s : ByteArray) : St := { env := [vu, vu, (.t (.w (.ptr 0 0))), (vb true), vu, vu, vu, vu, vu, vu, vu, vu, vu, vu, vu, vu, vu, vu, vu, vu, vu, vu, vu, vu, vu, vu, vu, vu, vu, vu, vu, vu, vu, vu, vu], bx := [(some (.cells ⟨[(.int .i64 (IntKind.i64.wrap (↑(Utf8.decode s (0 : Nat)).fst : Int))), (.str (Utf8.encode (↑(Utf8.decode s (0 : Nat)).fst : Int))), (.int .i64 0), (.int .i64 0)], [], 4⟩))], np := 0 }
theorem s_token_c1 {R : Type} (m : Int) (k : V → Bx → Option R) (F : Nat) (s : ByteArray) : s_token_K0 m k F .rt (s_token_E1 s) =
    k (.tup [(.agg ⟨[(.int .i64 (IntKind.i64.wrap (↑(Utf8.decode s (0 : Nat)).fst : Int))), (.str (Utf8.encode (↑(Utf8.decode s (0 : Nat)).fst : Int))), (.int .i64 0), (.int .i64 0)], [], 4⟩), (.w (.d (.bool true)))]) [] := by kernel_rfl
def s_token_E2 (v1 : Int) (v2 : ByteArray) (v3 : Int) (v4 : Int) : St := { env := [vu, vu, (.t (.w (.ptr 0 0))), vu, vu, vu, vu, vu, vu, vu, vu, vu, vu, vu, vu, vu, vu, vu, vu, vu, vu, vu, vu, vu, vu, vu, vu, vu, vu, vu, vu, vu, vu, vu, vu], bx := [(some (.cells ⟨[(.int .i64 v1), (.str v2), (.int .i64 v3), (.int .i64 v4)], [], 4⟩))], np := 0 }
theorem s_token_c2 {R : Type} (m : Int) (k : V → Bx → Option R) (F : Nat) (v1 : Int) (v2 : ByteArray) (v3 : Int) (v4 : Int) : s_token_K0 m k F (.ex 0) (s_token_E2 v1 v2 v3 v4) =
    k (.tup [(.agg ⟨[(.int .i64 0), (.str ByteArray.empty), (.int .i64 0), (.int .i64 0)], [], 4⟩), (.w (.d (.bool false)))]) [] := by kernel_rfl
theorem s_token_r0 {R : Type} (m : Int) (K : X → St → Option R) (F n : Nat) (s : ByteArray) (v1 : Int) (v2 : ByteArray) (v3 : Int) (v4 : Int) : s_token_L0 m K F (n + 1) s v1 v2 v3 v4 =
    (bif decide ((0 : Nat) < s.size) then
      (bif hasSub (ByteArray.mk #[(123 : UInt8), (125 : UInt8), (91 : UInt8), (93 : UInt8), (40 : UInt8), (41 : UInt8), (61 : UInt8), (59 : UInt8), (44 : UInt8), (58 : UInt8), (35 : UInt8), (42 : UInt8), (124 : UInt8), (38 : UInt8), (45 : UInt8)]) (Utf8.encode (↑(Utf8.decode s (0 : Nat)).fst : Int)) then
        K .rt (s_token_E1 s)
      else K (.ex 0) (s_token_E2 v1 v2 v3 v4))
    else K (.ex 0) (s_token_E2 v1 v2 v3 v4)) := by kernel_rfl
theorem s_token_start {R : Type} (m : Int) (k : V → Bx → Option R) (F : Nat) (s : ByteArray) : runFn (s_token_cf m) F Tryd.f32 (bd Tryd.f32) [vs s] [] k =
    (bif !(wordP s).toList == (ByteArray.mk #[]).toList then
      k (.tup [(.agg ⟨[(.int .i64 (kindP (wordP s))), (.str (wordP s)), (.int .i64 0), (.int .i64 0)], [], 4⟩), (.w (.d (.bool (decide ((↑(wordP s).size : Int) ≤ (16 : Int))))))]) []
    else (bif preP s (ByteArray.mk #[(45 : UInt8), (62 : UInt8)]) then
        k (.tup [(.agg ⟨[(.int .i64 5), (.str ((ByteArray.mk #[(45 : UInt8), (62 : UInt8)]))), (.int .i64 0), (.int .i64 0)], [], 4⟩), (.w (.d (.bool true)))]) []
      else s_token_L0 m (s_token_K0 m k F) F F s 0 ByteArray.empty 0 0)) := by kernel_rfl
end Go.Proofs.YtniiimpcakmkbaaDoor
