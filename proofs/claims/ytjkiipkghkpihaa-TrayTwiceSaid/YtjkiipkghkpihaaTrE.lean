/- TrayTwice -/
import Derived.Test.YtjkiipkghkpihaaTrD
import Derived.Test.YtjkiipkghkpihaaWT
set_option linter.unusedVariables false
namespace Go.Proofs.Ytjkiipkghkpihaa
open Go Vm

/-! what the arguments are -/
theorem c3 : Try.prog.cellsOf 3 = 1 := by kernel_rfl
theorem c4 : Try.prog.cellsOf 4 = 1 := by kernel_rfl
theorem c5 : Try.prog.cellsOf 5 = 1 := by kernel_rfl
theorem c22 : Try.prog.cellsOf 22 = 1 := by kernel_rfl
theorem c23 : Try.prog.cellsOf 23 = 1 := by kernel_rfl
theorem c29 : Try.prog.cellsOf 29 = 1 := by kernel_rfl
theorem c31 : Try.prog.cellsOf 31 = 4 := by kernel_rfl

theorem u8_wf {n : Int} (h : (Lit.int .u8 n).wf = true) : 0 ≤ n ∧ n < 256 := by
  have : IntKind.u8.min ≤ n ∧ n ≤ IntKind.u8.max := by simpa [Lit.wf] using h
  simp [IntKind.min, IntKind.max, IntKind.signed, IntKind.bits] at this; omega

theorem bytes_of {f : Nat} {l : List C} (h : hasT Try.prog f 29 l) : ∃ B : List (List C), l = [.sl 1 B] ∧ B.all isBE = true := by
  match f, h with
  | f + 1, h =>
    unfold hasT at h; rw [Try.underlying29] at h; simp only at h
    obtain ⟨els, rfl, _, hx⟩ := h
    rw [c5]
    refine ⟨els, rfl, List.all_eq_true.2 fun x hm => ?_⟩
    have := hx x hm
    match f, this with
    | f + 1, h =>
      unfold hasT at h; rw [Try.underlying5] at h; simp only at h
      obtain ⟨n, rfl, hw⟩ := h
      have := u8_wf hw
      simp [isBE, isB, this]
theorem bools_of {f : Nat} {l : List C} (h : hasT Try.prog f 23 l) : ∃ B : List (List C), l = [.sl 1 B] ∧ B.all isBoolE = true := by
  match f, h with
  | f + 1, h =>
    unfold hasT at h; rw [Try.underlying23] at h; simp only at h
    obtain ⟨els, rfl, _, hx⟩ := h
    rw [c4]
    refine ⟨els, rfl, List.all_eq_true.2 fun x hm => ?_⟩
    have := hx x hm
    match f, this with
    | f + 1, h =>
      unfold hasT at h; rw [Try.underlying4] at h; simp only at h
      obtain ⟨n, rfl⟩ := h
      rfl
/-- an act -/
structure IsAct (x : List C) (k at_ : Int) (B Ch : List (List C)) : Prop where
  eq : x = [.int .i64 k, .int .i64 at_, .sl 1 B, .sl 1 Ch]
  b : B.all isBE = true
  c : Ch.all isBoolE = true
theorem take_one {l : List C} {j n : Nat} {c : C} (hl : l.length = n) (h : (l.drop j).take 1 = [c]) (hj : j < n) : l[j]? = some c := by
  have := congrArg (fun q => q[0]?) h
  simpa using this
theorem act_of {f : Nat} {x : List C} (h : hasT Try.prog f 31 x) : ∃ k at_ B Ch, IsAct x k at_ B Ch := by
  match f, h with
  | f + 1, h =>
    unfold hasT at h; rw [Try.underlying31] at h; simp only at h
    obtain ⟨hl, hf⟩ := h
    rw [c31] at hl
    have h0 := hf _ (List.mem_cons_self)
    have h1 := hf _ (List.mem_cons_of_mem _ (List.mem_cons_self))
    have h2 := hf _ (List.mem_cons_of_mem _ (List.mem_cons_of_mem _ (List.mem_cons_self)))
    have h3 := hf _ (List.mem_cons_of_mem _ (List.mem_cons_of_mem _ (List.mem_cons_of_mem _ (List.mem_cons_self))))
    simp only [c3, c29, c23] at h0 h1 h2 h3
    match f, h0, h1, h2, h3 with
    | f + 1, h0, h1, h2, h3 =>
      obtain ⟨B, hB, hB2⟩ := bytes_of h2
      obtain ⟨Ch, hC, hC2⟩ := bools_of h3
      unfold hasT at h0 h1; rw [Try.underlying3] at h0 h1; simp only at h0 h1
      obtain ⟨k, hk, _⟩ := h0
      obtain ⟨a, ha, _⟩ := h1
      refine ⟨k, a, B, Ch, ?_, hB2, hC2⟩
      match x, hl with
      | [p, q, r, s], _ =>
        simp at hk ha hB hC
        rw [hk, ha, hB, hC]
theorem acts_of {v : V} (h : argV Try.prog 22 v) : ∃ acts : List (List C), v = vc (.sl 4 acts) ∧ ∀ x ∈ acts, ∃ k at_ B Ch, IsAct x k at_ B Ch := by
  obtain ⟨f, l, h, rfl⟩ := h
  rw [Try.underlying22]
  match f, h with
  | f + 1, h =>
    unfold hasT at h; rw [Try.underlying22] at h; simp only at h
    obtain ⟨els, rfl, _, hx⟩ := h
    rw [c31]
    exact ⟨els, rfl, fun x hm => act_of (hx x hm)⟩
theorem bools_arg {v : V} (h : argV Try.prog 23 v) : ∃ ch : List (List C), v = vc (.sl 1 ch) ∧ ch.all isBoolE = true := by
  obtain ⟨f, l, h, rfl⟩ := h
  rw [Try.underlying23]
  obtain ⟨B, rfl, hB⟩ := bools_of h
  exact ⟨B, rfl, hB⟩

/-! tray, plainly -/
theorem mkW_ok {kept : List (List C)} {at_ : Int} {B : List (List C)} (hw : wIn kept at_ B = true) (hB : B.all isBE = true) : cwOk kept.length (mkW at_ B) = true := by
  simp only [wIn, inR, Bool.and_eq_true, decide_eq_true_eq] at hw
  obtain ⟨⟨h0, h1⟩, h2⟩ := hw
  have hlen : (mkW at_ B).length = 129 := by simp [mkW]; omega
  have hsec : secOk ((mkW at_ B).drop 1) = true := by
    simp only [secOk, Bool.and_eq_true, beq_iff_eq]
    refine ⟨by simp [mkW]; omega, ?_⟩
    simp only [mkW, List.drop_succ_cons, List.drop_zero, List.all_append, Bool.and_eq_true]
    refine ⟨?_, ?_⟩
    · rw [List.all_map, List.all_eq_true]
      intro e he
      have := List.all_eq_true.1 hB e he
      match e, this with
      | [c], h => simpa [isBE] using h
      | [], h => cases h
      | _ :: _ :: _, h => cases h
    · rw [List.all_eq_true]
      intro c hc
      rw [List.eq_of_mem_replicate hc]; rfl
  simp only [cwOk, Bool.and_eq_true, beq_iff_eq, decide_eq_true_eq]
  refine ⟨⟨⟨⟨hlen, ?_⟩, ?_⟩, ?_⟩, hsec⟩
  · simp only [shOk, Bool.and_eq_true, beq_iff_eq]
    exact ⟨hlen, rfl⟩
  · exact h0
  · show at_.toNat < _; omega
theorem OkT.push {kept cache : List (List C)} {e : List C} (h : OkT kept cache) (he : cwOk kept.length e = true) (hl : cache.length < 999999) : OkT kept (cache ++ [e]) :=
  ⟨h.sec, fun e' he' => by rcases List.mem_append.1 he' with h1 | h1; exact h.cw _ h1; simp at h1; subst h1; exact he, h.kl, by simp; omega⟩
theorem OkT.nocache {kept cache : List (List C)} (h : OkT kept cache) : OkT kept [] := ⟨h.sec, by simp, h.kl, by simp⟩
theorem OkT.chosen {kept : List (List C)} : ∀ {cache ch : List (List C)}, OkT kept cache → OkT kept (chosen cache ch) := by
  intro cache
  induction cache with
  | nil => intro ch h; exact h
  | cons e r ih =>
    intro ch h
    have hr : OkT kept r := ⟨h.sec, fun x hx => h.cw x (by simp [hx]), h.kl, by have := h.cl; simp at this; omega⟩
    cases ch with
    | nil => exact h.nocache
    | cons c q =>
      simp only [Ytjkiipkghkpihaa.chosen]
      cases (c.getD 0 .nf).toBool with
      | true =>
        have h2 := ih (ch := q) hr
        have hl : (Ytjkiipkghkpihaa.chosen r q).length ≤ r.length := by
          have : ∀ (r q : List (List C)), (Ytjkiipkghkpihaa.chosen r q).length ≤ r.length := by
            intro r
            induction r with
            | nil => intro q; cases q <;> simp [Ytjkiipkghkpihaa.chosen]
            | cons a r ih =>
              intro q
              cases q with
              | nil => simp [Ytjkiipkghkpihaa.chosen]
              | cons b q =>
                simp only [Ytjkiipkghkpihaa.chosen]
                have := ih q
                cases (b.getD 0 .nf).toBool <;> simp <;> omega
          exact this r q
        exact ⟨h.sec, fun x hx => by
          rcases List.mem_cons.1 hx with rfl | hx
          · exact h.cw _ (by simp)
          · exact h2.cw x hx, h.kl, by have := h.cl; simp at this ⊢; omega⟩
      | false => exact ih hr
theorem zsec_ok : OkT (List.replicate (Int.toNat (16 : Int)) zsec) [] := okT_iff.1 (by decide +kernel)
theorem okBytes_map : ∀ (s : List C), s.all isB = true → okBytes (s.map fun c => [c]) = true := by
  intro s
  induction s with
  | nil => intro _; rfl
  | cons c r ih =>
    intro h
    simp only [List.all_cons, Bool.and_eq_true] at h
    obtain ⟨h1, h2⟩ := h
    unfold isB at h1
    split at h1
    · simp only [List.map_cons, okBytes, h1, Bool.true_and]; exact ih h2
    · cases h1
theorem readP_ok {kept cache : List (List C)} {n : Int} (h : OkT kept cache) (hn : inR kept n = true) : secOk (readP kept cache n) = true := by
  simp only [inR, Bool.and_eq_true, decide_eq_true_eq] at hn
  have hlt : n.toNat < kept.length := by omega
  have hk : kept.getD n.toNat [] = kept[n.toNat] := by rw [List.getD_eq_getElem?_getD, List.getElem?_eq_getElem hlt]; rfl
  unfold readP
  rw [hk]
  exact readW_len n cache _ h.cw (h.sec _ (List.getElem_mem hlt))
theorem okBytes_read {kept cache : List (List C)} {n : Int} (h : OkT kept cache) : okBytes (bif inR kept n then List.map (fun c => [c]) (readP kept cache n) else []) = true := by
  cases hn : inR kept n with
  | true =>
    have := readP_ok h hn
    simp only [secOk, Bool.and_eq_true] at this
    exact okBytes_map _ this.2
  | false => rfl

/-! the law -/
theorem lTwice_acts {R : Type} (K : X → St → Option R) (F : Nat) (acts a b : List (List C)) (hacts : ∀ x ∈ acts, ∃ k at_ B Ch, IsAct x k at_ B Ch) (hlen : acts.length ≤ 60) :
    ∀ (n i : Nat) (kept cache : List (List C)) (dark : Bool), i ≤ acts.length → acts.length - i < n → OkT kept cache → kept.length = 16 → cache.length ≤ i →
    ∃ kept' cache' dark', OkT kept' cache' ∧ kept'.length = 16 ∧ lTwice_L0 K F n acts a b i kept cache dark = K (.ex 0) (lTwice_E1 acts a b acts.length kept' cache' dark') := by
  intro n
  induction n with
  | zero => intro i _ _ _ hi h; omega
  | succ n ih =>
    intro i kept cache dark hi hn hok hkl hcl
    rw [lTwice_r0]
    by_cases hlt : i < acts.length
    · have hget : acts[i]? = some acts[i] := List.getElem?_eq_getElem hlt
      obtain ⟨k, at_, B, Ch, he, hB, _⟩ := hacts _ (List.getElem_mem hlt)
      rw [he] at hget
      have d1 : decide ((i : Int) < (acts.length : Int)) = true := by simpa using hlt
      have d2 : decide ((0 : Int) ≤ (i : Int)) = true := by simp
      rw [d1, cond_true, d2, cond_true, getT_at rfl hget, w64 _ (by omega) (by omega)]
      have hk1 : okT kept cache = true := okT_iff.2 hok
      have hl1 : leftOk (-1 : Int) = true := rfl
      have next : ∀ kept' cache' dark', OkT kept' cache' → kept'.length = 16 → cache'.length ≤ i + 1 → ∃ kept2 cache2 dark2, OkT kept2 cache2 ∧ kept2.length = 16 ∧ lTwice_L0 K F n acts a b ((i : Int) + 1) kept' cache' dark' = K (.ex 0) (lTwice_E1 acts a b acts.length kept2 cache2 dark2) :=
        fun kept' cache' dark' h1 h2 h3 => ih (i + 1) kept' cache' dark' (by omega) (by omega) h1 h2 h3
      have fl : ∀ {kept' cache' : List (List C)}, OkT kept' cache' → kept'.length = 16 → OkT (settleP kept' cache') [] ∧ (settleP kept' cache').length = 16 := fun h1 h2 => ⟨h1.settle, by rw [settleP_len]; exact h2⟩
      have ek : ((List.take 4 [C.int IntKind.i64 k, C.int IntKind.i64 at_, C.sl 1 B, C.sl 1 Ch]).getD 0 C.nf).toInt = k := rfl
      have ea : ((List.take 4 [C.int IntKind.i64 k, C.int IntKind.i64 at_, C.sl 1 B, C.sl 1 Ch]).getD 1 C.nf).toInt = at_ := rfl
      have eB : ((List.take 4 [C.int IntKind.i64 k, C.int IntKind.i64 at_, C.sl 1 B, C.sl 1 Ch]).getD 2 C.nf).toEls = B := rfl
      have e4 : ((List.take 4 [C.int IntKind.i64 k, C.int IntKind.i64 at_, C.sl 1 B, C.sl 1 Ch]).length == 4) = true := rfl
      have esh : shOk [Sh.int IntKind.i64, Sh.int IntKind.i64, Sh.sl 1, Sh.sl 1] (List.take 4 [C.int IntKind.i64 k, C.int IntKind.i64 at_, C.sl 1 B, C.sl 1 Ch]) = true := rfl
      simp only [ek, ea, eB, e4, esh, cond_true, hk1, hB, Bool.and_self, Bool.and_true]
      cases k == 1 with
      | true =>
        cases decide ((B.length : Int) ≤ 128) with
        | true =>
          cases hw : wIn kept at_ B with
          | true =>
            have h2 := hok.push (mkW_ok hw hB) (by omega)
            simp only [cond_true, okT_iff.2 h2]
            cases k == 2 with
            | true => exact next _ _ _ (fl h2 hkl).1 (fl h2 hkl).2 (by simp)
            | false => exact next _ _ _ h2 hkl (by simp; omega)
          | false =>
            simp only [cond_true, cond_false]
            cases k == 2 with
            | true => exact next _ _ _ (fl hok hkl).1 (fl hok hkl).2 (by simp)
            | false => exact next _ _ _ hok hkl (by omega)
        | false =>
          simp only [cond_true, cond_false]
          cases k == 2 with
          | true => exact next _ _ _ (fl hok hkl).1 (fl hok hkl).2 (by simp)
          | false => exact next _ _ _ hok hkl (by omega)
      | false =>
        simp only [cond_false]
        cases k == 2 with
        | true => exact next _ _ _ (fl hok hkl).1 (fl hok hkl).2 (by simp)
        | false => exact next _ _ _ hok hkl (by omega)
    · have : i = acts.length := by omega
      subst this
      have d1 : decide ((acts.length : Int) < (acts.length : Int)) = false := by simp
      rw [d1, cond_false]
      exact ⟨kept, cache, dark, hok, hkl, rfl⟩

theorem chosen_nil (b : List (List C)) : chosen [] b = [] := by cases b <;> rfl

theorem lTwice_places {R : Type} (K : X → St → Option R) (F : Nat) (acts a b : List (List C)) (v2 : Int) (kept cache : List (List C)) (dark : Bool) (hok : OkT kept cache) :
    ∀ (n i : Nat), i ≤ 16 → 16 - i < n → lTwice_L1 K F n acts a b v2 kept cache dark i = K (.ex 2) (lTwice_E4 acts a b v2 kept cache dark 16) := by
  intro n
  induction n with
  | zero => intro i hi h; omega
  | succ n ih =>
    intro i hi hn
    rw [lTwice_r1]
    by_cases hlt : i < 16
    · have d1 : decide ((i : Int) < 16) = true := by simp; omega
      have hs1 : OkT (settleP kept (chosen cache a)) [] := hok.chosen.settle
      have hs2 : OkT (settleP kept cache) [] := hok.settle
      rw [chosen_nil]
      simp only [settleP]
      rw [d1, cond_true, okT_iff.2 hs1, cond_true, cond_true, okT_iff.2 hs2, cond_true, cond_true, okBytes_read hs1, cond_true, cond_true, okBytes_read hs2]
      simp only [beq_self_eq_true, Bool.not_true, cond_false, cond_true]
      rw [w64 _ (by omega) (by omega)]
      exact ih (i + 1) (by omega) (by omega)
    · have : i = 16 := by omega
      subst this
      rfl

theorem lTwice_run (acts a b : List (List C)) (hacts : ∀ x ∈ acts, ∃ k at_ B Ch, IsAct x k at_ B Ch) (ha : a.all isBoolE = true) (hb : b.all isBoolE = true) (F : Nat) (hF : 100 ≤ F) :
    runFn lTwice_cf F Try.f3 (bd Try.f3) [vc (C.sl 4 acts), vc (C.sl 1 a), vc (C.sl 1 b)] [] fin2 = some (vb true, []) := by
  rw [lTwice_start]
  cases h : decide ((acts.length : Int) > 60) with
  | true => rfl
  | false =>
    simp only [decide_eq_false_iff_not] at h
    rw [cond_false]
    obtain ⟨kept, cache, dark, hok, hkl, he⟩ := lTwice_acts (lTwice_K0 fin2 F) F acts a b hacts (by omega) F 0 _ [] false (by omega) (by omega) zsec_ok rfl (by simp)
    rw [show ((0 : Nat) : Int) = 0 from rfl] at he
    rw [he, lTwice_c1]
    have hs1 : OkT (settleP kept (chosen cache a)) [] := hok.chosen.settle
    have hs2 : OkT (settleP kept cache) [] := hok.settle
    simp only [okT_iff.2 hok, ha, hb, okT_iff.2 hs1, okT_iff.2 hs2, Bool.and_self, cond_true]
    rw [show (0 : Int) = ((0 : Nat) : Int) from rfl, lTwice_places _ _ _ _ _ _ _ _ _ hok F 0 (by omega) (by omega), lTwice_c4]

theorem twice_res (xs : List V) (h : argVs Try.prog [22, 23, 23] xs) : ∃ b, FnRes Try.prog (fun _ => none) 3 xs [] (vb true) b := by
  match xs, h with
  | [x, y, z], ⟨h1, h2, h3, _⟩ =>
    obtain ⟨acts, rfl, hacts⟩ := acts_of h1
    obtain ⟨a, rfl, ha⟩ := bools_arg h2
    obtain ⟨b, rfl, hb⟩ := bools_arg h3
    exact ⟨[], specAt mix vti_ok Try.func3 rfl (by kernel_rfl) tab2_ok 100 (lTwice_run acts a b hacts ha hb 100 (Nat.le_refl _))⟩
end Go.Proofs.Ytjkiipkghkpihaa
