/- tray: what the arguments are, what is used of the laws' parts -/
import Derived.Test.YtjkiipkghkpihaaTrC
import Derived.Test.YtjkiipkghkpihaaWT
set_option linter.unusedVariables false
namespace Go.Proofs.Ytjkiipkghkpihaa
open Go Vm

/-! what the arguments are -/
theorem c3 : Try.prog.cellsOf 3 = 1 := by kernel_rfl
theorem c4 : Try.prog.cellsOf 4 = 1 := by kernel_rfl
theorem c5 : Try.prog.cellsOf 5 = 1 := by kernel_rfl
theorem c22 : Try.prog.cellsOf 22 = 1 := by kernel_rfl
theorem c23 : Try.prog.cellsOf 23 = 1 := by kernel_rfl
theorem c29 : Try.prog.cellsOf 29 = 1 := by kernel_rfl
theorem c31 : Try.prog.cellsOf 31 = 4 := by kernel_rfl

theorem u8_wf {n : Int} (h : (Lit.int .u8 n).wf = true) : 0 ≤ n ∧ n < 256 := by
  have : IntKind.u8.min ≤ n ∧ n ≤ IntKind.u8.max := by simpa [Lit.wf] using h
  simp [IntKind.min, IntKind.max, IntKind.signed, IntKind.bits] at this; omega

theorem bytes_of {f : Nat} {l : List C} (h : hasT Try.prog f 29 l) : ∃ B : List (List C), l = [.sl 1 B] ∧ B.all isBE = true := by
  match f, h with
  | f + 1, h =>
    unfold hasT at h; rw [Try.underlying29] at h; simp only at h
    obtain ⟨els, rfl, _, hx⟩ := h
    rw [c5]
    refine ⟨els, rfl, List.all_eq_true.2 fun x hm => ?_⟩
    have := hx x hm
    match f, this with
    | f + 1, h =>
      unfold hasT at h; rw [Try.underlying5] at h; simp only at h
      obtain ⟨n, rfl, hw⟩ := h
      have := u8_wf hw
      simp [isBE, isB, this]
theorem bools_of {f : Nat} {l : List C} (h : hasT Try.prog f 23 l) : ∃ B : List (List C), l = [.sl 1 B] ∧ B.all isBoolE = true := by
  match f, h with
  | f + 1, h =>
    unfold hasT at h; rw [Try.underlying23] at h; simp only at h
    obtain ⟨els, rfl, _, hx⟩ := h
    rw [c4]
    refine ⟨els, rfl, List.all_eq_true.2 fun x hm => ?_⟩
    have := hx x hm
    match f, this with
    | f + 1, h =>
      unfold hasT at h; rw [Try.underlying4] at h; simp only at h
      obtain ⟨n, rfl⟩ := h
      rfl
/-- an act -/
structure IsAct (x : List C) (k at_ : Int) (B Ch : List (List C)) : Prop where
  eq : x = [.int .i64 k, .int .i64 at_, .sl 1 B, .sl 1 Ch]
  b : B.all isBE = true
  c : Ch.all isBoolE = true
theorem take_one {l : List C} {j n : Nat} {c : C} (hl : l.length = n) (h : (l.drop j).take 1 = [c]) (hj : j < n) : l[j]? = some c := by
  have := congrArg (fun q => q[0]?) h
  simpa using this
theorem act_of {f : Nat} {x : List C} (h : hasT Try.prog f 31 x) : ∃ k at_ B Ch, IsAct x k at_ B Ch := by
  match f, h with
  | f + 1, h =>
    unfold hasT at h; rw [Try.underlying31] at h; simp only at h
    obtain ⟨hl, hf⟩ := h
    rw [c31] at hl
    have h0 := hf _ (List.mem_cons_self)
    have h1 := hf _ (List.mem_cons_of_mem _ (List.mem_cons_self))
    have h2 := hf _ (List.mem_cons_of_mem _ (List.mem_cons_of_mem _ (List.mem_cons_self)))
    have h3 := hf _ (List.mem_cons_of_mem _ (List.mem_cons_of_mem _ (List.mem_cons_of_mem _ (List.mem_cons_self))))
    simp only [c3, c29, c23] at h0 h1 h2 h3
    match f, h0, h1, h2, h3 with
    | f + 1, h0, h1, h2, h3 =>
      obtain ⟨B, hB, hB2⟩ := bytes_of h2
      obtain ⟨Ch, hC, hC2⟩ := bools_of h3
      unfold hasT at h0 h1; rw [Try.underlying3] at h0 h1; simp only at h0 h1
      obtain ⟨k, hk, _⟩ := h0
      obtain ⟨a, ha, _⟩ := h1
      refine ⟨k, a, B, Ch, ?_, hB2, hC2⟩
      match x, hl with
      | [p, q, r, s], _ =>
        simp at hk ha hB hC
        rw [hk, ha, hB, hC]
theorem acts_of {v : V} (h : argV Try.prog 22 v) : ∃ acts : List (List C), v = vc (.sl 4 acts) ∧ ∀ x ∈ acts, ∃ k at_ B Ch, IsAct x k at_ B Ch := by
  obtain ⟨f, l, h, rfl⟩ := h
  rw [Try.underlying22]
  match f, h with
  | f + 1, h =>
    unfold hasT at h; rw [Try.underlying22] at h; simp only at h
    obtain ⟨els, rfl, _, hx⟩ := h
    rw [c31]
    exact ⟨els, rfl, fun x hm => act_of (hx x hm)⟩
theorem bools_arg {v : V} (h : argV Try.prog 23 v) : ∃ ch : List (List C), v = vc (.sl 1 ch) ∧ ch.all isBoolE = true := by
  obtain ⟨f, l, h, rfl⟩ := h
  rw [Try.underlying23]
  obtain ⟨B, rfl, hB⟩ := bools_of h
  exact ⟨B, rfl, hB⟩

/-! tray, plainly -/
theorem mkW_ok {kept : List (List C)} {at_ : Int} {B : List (List C)} (hw : wIn kept at_ B = true) (hB : B.all isBE = true) : cwOk kept.length (mkW at_ B) = true := by
  simp only [wIn, inR, Bool.and_eq_true, decide_eq_true_eq] at hw
  obtain ⟨⟨h0, h1⟩, h2⟩ := hw
  have hlen : (mkW at_ B).length = 129 := by simp [mkW]; omega
  have hsec : secOk ((mkW at_ B).drop 1) = true := by
    simp only [secOk, Bool.and_eq_true, beq_iff_eq]
    refine ⟨by simp [mkW]; omega, ?_⟩
    simp only [mkW, List.drop_succ_cons, List.drop_zero, List.all_append, Bool.and_eq_true]
    refine ⟨?_, ?_⟩
    · rw [List.all_map, List.all_eq_true]
      intro e he
      have := List.all_eq_true.1 hB e he
      match e, this with
      | [c], h => simpa [isBE] using h
      | [], h => cases h
      | _ :: _ :: _, h => cases h
    · rw [List.all_eq_true]
      intro c hc
      rw [List.eq_of_mem_replicate hc]; rfl
  simp only [cwOk, Bool.and_eq_true, beq_iff_eq, decide_eq_true_eq]
  refine ⟨⟨⟨⟨hlen, ?_⟩, ?_⟩, ?_⟩, hsec⟩
  · simp only [shOk, Bool.and_eq_true, beq_iff_eq]
    exact ⟨hlen, rfl⟩
  · exact h0
  · show at_.toNat < _; omega
theorem OkT.push {kept cache : List (List C)} {e : List C} (h : OkT kept cache) (he : cwOk kept.length e = true) (hl : cache.length < 999999) : OkT kept (cache ++ [e]) :=
  ⟨h.sec, fun e' he' => by rcases List.mem_append.1 he' with h1 | h1; exact h.cw _ h1; simp at h1; subst h1; exact he, h.kl, by simp; omega⟩
theorem OkT.nocache {kept cache : List (List C)} (h : OkT kept cache) : OkT kept [] := ⟨h.sec, by simp, h.kl, by simp⟩
theorem OkT.chosen {kept : List (List C)} : ∀ {cache ch : List (List C)}, OkT kept cache → OkT kept (chosen cache ch) := by
  intro cache
  induction cache with
  | nil => intro ch h; exact h
  | cons e r ih =>
    intro ch h
    have hr : OkT kept r := ⟨h.sec, fun x hx => h.cw x (by simp [hx]), h.kl, by have := h.cl; simp at this; omega⟩
    cases ch with
    | nil => exact h.nocache
    | cons c q =>
      simp only [Ytjkiipkghkpihaa.chosen]
      cases (c.getD 0 .nf).toBool with
      | true =>
        have h2 := ih (ch := q) hr
        have hl : (Ytjkiipkghkpihaa.chosen r q).length ≤ r.length := by
          have : ∀ (r q : List (List C)), (Ytjkiipkghkpihaa.chosen r q).length ≤ r.length := by
            intro r
            induction r with
            | nil => intro q; cases q <;> simp [Ytjkiipkghkpihaa.chosen]
            | cons a r ih =>
              intro q
              cases q with
              | nil => simp [Ytjkiipkghkpihaa.chosen]
              | cons b q =>
                simp only [Ytjkiipkghkpihaa.chosen]
                have := ih q
                cases (b.getD 0 .nf).toBool <;> simp <;> omega
          exact this r q
        exact ⟨h.sec, fun x hx => by
          rcases List.mem_cons.1 hx with rfl | hx
          · exact h.cw _ (by simp)
          · exact h2.cw x hx, h.kl, by have := h.cl; simp at this ⊢; omega⟩
      | false => exact ih hr
theorem zsec_ok : OkT (List.replicate (Int.toNat (16 : Int)) zsec) [] := okT_iff.1 (by decide +kernel)
theorem okBytes_map : ∀ (s : List C), s.all isB = true → okBytes (s.map fun c => [c]) = true := by
  intro s
  induction s with
  | nil => intro _; rfl
  | cons c r ih =>
    intro h
    simp only [List.all_cons, Bool.and_eq_true] at h
    obtain ⟨h1, h2⟩ := h
    unfold isB at h1
    split at h1
    · simp only [List.map_cons, okBytes, h1, Bool.true_and]; exact ih h2
    · cases h1
theorem readP_ok {kept cache : List (List C)} {n : Int} (h : OkT kept cache) (hn : inR kept n = true) : secOk (readP kept cache n) = true := by
  simp only [inR, Bool.and_eq_true, decide_eq_true_eq] at hn
  have hlt : n.toNat < kept.length := by omega
  have hk : kept.getD n.toNat [] = kept[n.toNat] := by rw [List.getD_eq_getElem?_getD, List.getElem?_eq_getElem hlt]; rfl
  unfold readP
  rw [hk]
  exact readW_len n cache _ h.cw (h.sec _ (List.getElem_mem hlt))
theorem okBytes_read {kept cache : List (List C)} {n : Int} (h : OkT kept cache) : okBytes (bif inR kept n then List.map (fun c => [c]) (readP kept cache n) else []) = true := by
  cases hn : inR kept n with
  | true =>
    have := readP_ok h hn
    simp only [secOk, Bool.and_eq_true] at this
    exact okBytes_map _ this.2
  | false => rfl

end Go.Proofs.Ytjkiipkghkpihaa
