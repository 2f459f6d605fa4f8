/- memo: awake -/
import Derived.Test.YthfjmmhigapkpaaMd
import Derived.Test.YthfjmmhigapkpaaMl
set_option linter.unusedVariables false
namespace Go.Proofs.Ythfjmmhigapkpaa
open Go Vm
theorem getN_ok : SpecOk Try.prog (fun _ => none) 11 (getSN mfC) := by
  have : getSN mfC = getS := rfl
  rw [this]; exact get_spec_ok
theorem keysN_ok : SpecOk Try.prog (fun _ => none) 10 (keysSN mfC) := by
  have : keysSN mfC = keysS := rfl
  rw [this]; exact keys_ok
theorem tabMA_ok : TabS Try.prog (fun _ => none) [(5, newS), (7, putS mfC), (10, keysSN mfC), (17, eqlS)] := .cons new_ok (.cons put_ok (.cons keysN_ok (.cons eql_ok .nil)))
theorem awake_run0 : lAwake_L0 mfC (lAwake_K0 mfC fin2 5) 5 5 0 0 [] [] = some (vb true, []) := by kernel_rfl
theorem awake_ok : SpecOk Try.prog (fun _ => none) 6 awakeMS := by
  intro a b v b' h
  unfold awakeMS at h
  split at h
  · exact specAtD mix vti_ok Try.func6 rfl (by kernel_rfl) tabMA_ok 5 (((lAwake_start mfC _ _).trans awake_run0).trans h)
  · cases h
end Go.Proofs.Ythfjmmhigapkpaa
