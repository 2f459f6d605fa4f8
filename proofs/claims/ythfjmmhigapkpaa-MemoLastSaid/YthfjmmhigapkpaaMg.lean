/- MemoLast: what it answers -/
import Derived.Test.YthfjmmhigapkpaaMf
import Derived.Test.YthfjmmhigapkpaaMr
set_option linter.unusedVariables false
namespace Go.Proofs.Ythfjmmhigapkpaa
open Go Vm
theorem keysN_same : keysSN mfC = keysS := rfl
theorem tabML0_ok : TabS Try.prog (fun _ => none) [(5, newS), (6, awakeMS), (7, putS mfC), (8, dropS mfC), (9, lenS), (10, keysSN mfC), (11, getSN mfC), (12, lastS mfC)] :=
  .cons new_ok (.cons awake_ok (.cons put_ok (.cons drop_ok (.cons len_ok (.cons keysN_ok (.cons getN_ok (.cons last_ok .nil)))))))
theorem last_res (xs : List V) (h : argVs Try.prog [5, 22] xs) : ∃ b, FnRes Try.prog (fun _ => none) 3 xs [] (vb true) b := by
  match xs, h with
  | [x, y], ⟨h1, h2, _⟩ =>
    obtain ⟨rm, rfl, hr0, hr1⟩ := u8_of h1
    obtain ⟨acts, rfl, hacts⟩ := acts_of h2
    exact ⟨[], specAtD mix vti_ok Try.func3 rfl (by kernel_rfl) (l := tabML mfC) tabML0_ok 1002 (lLast_run rm acts hr0 hr1 hacts)⟩
end Go.Proofs.Ythfjmmhigapkpaa
