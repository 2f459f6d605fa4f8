/- MemoPlays: what it answers -/
import Derived.Test.YthfjmmhigapkpaaMj
import Derived.Test.YthfjmmhigapkpaaMr
set_option linter.unusedVariables false
namespace Go.Proofs.Ythfjmmhigapkpaa
open Go Vm
theorem tabMP0_ok : TabS Try.prog (fun _ => none) [(5, newS), (6, awakeMS), (7, putS mfC), (8, dropS mfC), (9, lenS), (10, keysSN mfC), (11, getSN mfC), (12, lastS mfC), (13, rputS mfC), (14, withoutS), (15, clearS), (16, findS mfC)] :=
  .cons new_ok (.cons awake_ok (.cons put_ok (.cons drop_ok (.cons len_ok (.cons keysN_ok (.cons getN_ok (.cons last_ok (.cons rput_ok (.cons without_ok (.cons clear_ok (.cons find_ok .nil)))))))))))
theorem int_of {v : V} (h : argV Try.prog 3 v) : ∃ n : Int, v = vi n := by
  obtain ⟨f, l, h, rfl⟩ := h
  rw [Try.underlying3]
  match f, h with
  | f + 1, h =>
    unfold hasT at h; rw [Try.underlying3] at h; simp only at h
    obtain ⟨n, rfl, hw⟩ := h
    exact ⟨n, rfl⟩
theorem plays_res (xs : List V) (h : argVs Try.prog [3, 22] xs) : ∃ b, FnRes Try.prog (fun _ => none) 4 xs [] (vb true) b := by
  match xs, h with
  | [x, y], ⟨h1, h2, _⟩ =>
    obtain ⟨room, rfl⟩ := int_of h1
    obtain ⟨acts, rfl, hacts⟩ := acts_of h2
    exact ⟨[], specAtD mix vti_ok Try.func4 rfl (by kernel_rfl) (l := tabMP mfC) tabMP0_ok 1002 (lPlays_run room acts hacts)⟩
end Go.Proofs.Ythfjmmhigapkpaa
