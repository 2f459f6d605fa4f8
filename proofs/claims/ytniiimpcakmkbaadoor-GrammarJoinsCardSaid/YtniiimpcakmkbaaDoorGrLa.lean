/- grammar: the law of expressions -/
import Derived.Test.YtniiimpcakmkbaaDoorGrU
import Derived.Test.YtniiimpcakmkbaaDoorSgZ
set_option linter.unusedVariables false
namespace Go.Proofs.YtniiimpcakmkbaaDoor
open Go Vm Go.RowKit
theorem gawake_ok (m : Int) : SpecOk Tryd.prog (globG m) 19 awakeGS := by
  intro a b v b' h
  unfold awakeGS at h
  split at h
  · obtain ⟨rfl, rfl⟩ := run_ret h
    exact specAtQ eqs_ok mix vti_ok Tryd.func19 rfl (by kernel_rfl) (.cons (exprSA_ok m) .nil) 10 (g_awake_start m fin2 10)
  · cases h
theorem tabGLw_ok (m : Int) : TabS Tryd.prog (globG m) tabGLw := .cons (gawake_ok m) (.cons (expr_ok m) (.cons (rexpr_ok m) (.cons (same_ok m 30) (.cons (good_ok m 30) .nil))))
theorem exprN_take {s : ByteArray} (hz : s.size < 1000000) : List.take 4 (exprN s ++ []) = exprN s := by
  obtain ⟨n', k, a, b, l, _, h, _, _⟩ := tree_parts (exprN_tree hz)
  rw [h]; rfl
theorem lExprs_run (m : Int) (s : ByteArray) (F : Nat) : runFn (lExprs_cf m) F Tryd.f8 (bd Tryd.f8) [vs s] [] fin2 = some (vb true, []) := by
  rw [lExprs_start]
  cases h : decide ((s.size : Int) > 4000) with
  | true => rfl
  | false =>
    simp only [decide_eq_false_iff_not] at h
    have hz : s.size < 1000000 := by omega
    rw [cond_false, decide_eq_true hz, cond_true, cond_true, exprN_take hz, beq_self_eq_true, cond_true, beq_self_eq_true, beq_self_eq_true, eqN_refl, exprN_tree hz]
    simp only [Bool.and_self, cond_true]
    cases he : exprE s != 0 with
    | true => rfl
    | false =>
      have he' : exprE s = 0 := by simpa using he
      rw [cond_false, exprN_good hz he', cond_true]
theorem exprs_spec (m : Int) (s : ByteArray) : FnRes Tryd.prog (globG m) 8 [vs s] [] (vb true) [] :=
  specAtQ eqs_ok mix vti_ok Tryd.func8 rfl (by kernel_rfl) (tabGLw_ok m) 100 (lExprs_run m s 100)
theorem exprs_res (m : Int) (xs : List V) (h : argVs Tryd.prog [9] xs) : ∃ b, FnRes Tryd.prog (globG m) 8 xs [] (vb true) b := by
  obtain ⟨x, rfl, h1⟩ := argVs1 h
  obtain ⟨s, rfl, _⟩ := str_arg h1
  exact ⟨[], exprs_spec m s⟩
end Go.Proofs.YtniiimpcakmkbaaDoor
