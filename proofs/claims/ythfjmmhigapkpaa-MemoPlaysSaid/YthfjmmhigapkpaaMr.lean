/- memo: what the arguments are -/
import Derived.Test.YthfjmmhigapkpaaMc
import Derived.Test.YthfjmmhigapkpaaWP
set_option linter.unusedVariables false
namespace Go.Proofs.Ythfjmmhigapkpaa
open Go Vm
theorem c3 : Try.prog.cellsOf 3 = 1 := by kernel_rfl
theorem c4 : Try.prog.cellsOf 4 = 1 := by kernel_rfl
theorem c9 : Try.prog.cellsOf 9 = 1 := by kernel_rfl
theorem c29 : Try.prog.cellsOf 29 = 4 := by kernel_rfl
theorem u8_wf {n : Int} (h : (Lit.int .u8 n).wf = true) : 0 ≤ n ∧ n < 256 := by
  have : IntKind.u8.min ≤ n ∧ n ≤ IntKind.u8.max := by simpa [Lit.wf] using h
  simp [IntKind.min, IntKind.max, IntKind.signed, IntKind.bits] at this; omega
theorem act_of {f : Nat} {x : List C} (h : hasT Try.prog f 29 x) : actOk x = true := by
  match f, h with
  | f + 1, h =>
    unfold hasT at h; rw [Try.underlying29] at h; simp only at h
    obtain ⟨hl, hf⟩ := h
    rw [c29] at hl
    have h0 := hf _ (List.mem_cons_self)
    have h1 := hf _ (List.mem_cons_of_mem _ (List.mem_cons_self))
    have h2 := hf _ (List.mem_cons_of_mem _ (List.mem_cons_of_mem _ (List.mem_cons_self)))
    have h3 := hf _ (List.mem_cons_of_mem _ (List.mem_cons_of_mem _ (List.mem_cons_of_mem _ (List.mem_cons_self))))
    simp only [c3, c9, c4] at h0 h1 h2 h3
    match f, h0, h1, h2, h3 with
    | f + 1, h0, h1, h2, h3 =>
      unfold hasT at h0 h1 h2 h3; rw [Try.underlying3] at h0 h1; rw [Try.underlying9] at h2; rw [Try.underlying4] at h3; simp only at h0 h1 h2 h3
      obtain ⟨k, hk, _⟩ := h0
      obtain ⟨a, ha, _⟩ := h1
      obtain ⟨s, hs, _⟩ := h2
      obtain ⟨y, hy⟩ := h3
      match x, hl with
      | [p, q, r, t], _ =>
        simp at hk ha hs hy
        rw [hk, ha, hs, hy]; rfl
theorem acts_of {v : V} (h : argV Try.prog 22 v) : ∃ acts : List (List C), v = vc (.sl 4 acts) ∧ ∀ x ∈ acts, actOk x = true := by
  obtain ⟨f, l, h, rfl⟩ := h
  rw [Try.underlying22]
  match f, h with
  | f + 1, h =>
    unfold hasT at h; rw [Try.underlying22] at h; simp only at h
    obtain ⟨els, rfl, _, hx⟩ := h
    rw [c29]
    exact ⟨els, rfl, fun x hm => act_of (hx x hm)⟩
theorem u8_of {v : V} (h : argV Try.prog 5 v) : ∃ n : Int, v = vc (.int .u8 n) ∧ 0 ≤ n ∧ n ≤ 255 := by
  obtain ⟨f, l, h, rfl⟩ := h
  rw [Try.underlying5]
  match f, h with
  | f + 1, h =>
    unfold hasT at h; rw [Try.underlying5] at h; simp only at h
    obtain ⟨n, rfl, hw⟩ := h
    have := u8_wf hw
    exact ⟨n, rfl, this.1, by omega⟩
end Go.Proofs.Ythfjmmhigapkpaa
