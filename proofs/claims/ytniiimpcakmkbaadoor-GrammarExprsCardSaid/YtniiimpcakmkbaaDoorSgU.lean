/- sigil: the fixed fact -/
import Derived.Test.YtniiimpcakmkbaaDoorSgK
set_option linter.unusedVariables false
namespace Go.Proofs.YtniiimpcakmkbaaDoor
open Go Vm Go.RowKit
noncomputable def s_awake_cf (m : Int) : Cfg := mkCfQ [25, 35] (globT m) vti orcD0 false [] []
theorem s_awake_start {R : Type} (m : Int) (k : V → Bx → Option R) (F : Nat) : runFn (s_awake_cf m) F Tryd.f13 (bd Tryd.f13) [] [] k =
    k (vb true) [] := by kernel_rfl
theorem eq25 : Tryd.prog.stoodInHeld 25 = false ∧ Tryd.prog.eqGuardType Tryd.prog.depth 25 = false := ⟨by kernel_rfl, by kernel_rfl⟩
theorem eq35 : Tryd.prog.stoodInHeld 35 = false ∧ Tryd.prog.eqGuardType Tryd.prog.depth 35 = false := ⟨by kernel_rfl, by kernel_rfl⟩
theorem eqs_ok : EqsOk Tryd.prog [25, 35] := by
  intro t ht
  simp only [List.mem_cons, List.mem_nil_iff, or_false] at ht
  rcases ht with rfl | rfl
  · exact eq25
  · exact eq35
theorem tabD0_ok (m : Int) : TabS Tryd.prog (globT m) tabD0 := .cons (lex_ok m) (tabC_ok m)
theorem awake_ok (m : Int) : SpecOk Tryd.prog (globT m) 13 awakeS := by
  intro a b v b' h
  unfold awakeS at h
  split at h
  · obtain ⟨rfl, rfl⟩ := run_ret h
    exact specAtQ eqs_ok mix vti_ok Tryd.func13 rfl (by kernel_rfl) (tabD0_ok m) 10 (s_awake_start m fin2 10)
  · cases h
theorem tabD_ok (m : Int) : TabS Tryd.prog (globT m) tabD := .cons (awake_ok m) (tabD0_ok m)
end Go.Proofs.YtniiimpcakmkbaaDoor
