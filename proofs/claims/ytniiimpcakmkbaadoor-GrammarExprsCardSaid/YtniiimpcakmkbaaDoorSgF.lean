/- sigil: skip -/
import Derived.Test.YtniiimpcakmkbaaDoorSgE
set_option linter.unusedVariables false
namespace Go.Proofs.YtniiimpcakmkbaaDoor
open Go Vm Go.RowKit
theorem ext_size (s : ByteArray) (a b : Nat) (h : b ≤ s.size) : (s.extract a b).size = b - a := by
  rw [ByteArray.size_extract]; omega
theorem remark_le (s : ByteArray) : (remarkP s).size ≤ s.size := by
  unfold remarkP
  cases preP s bSl with
  | true =>
    rw [cond_true, ext_size _ _ _ (first_le s _)]
    have := first_le s (fun _ r => r == 10)
    omega
  | false => rw [cond_false]; exact Nat.zero_le _
theorem skipP_le : ∀ (n : Nat) (s : ByteArray), s.size < n → skipP n s ≤ s.size := by
  intro n
  induction n with
  | zero => intro s h; omega
  | succ n ih =>
    intro s h
    simp only [skipP]
    have hf := first_le s (fun _ r => !blankP r)
    generalize first s (fun _ r => !blankP r) = x at hf
    by_cases hx : x < s.size
    · rw [decide_eq_true hx, cond_true]
      have hr := remark_le (s.extract x s.size)
      rw [ext_size _ _ _ (Nat.le_refl _)] at hr
      generalize (remarkP (s.extract x s.size)).size = k at hr
      cases hk : k == 0 with
      | true => rw [cond_true]; omega
      | false =>
        rw [cond_false]
        have hk0 : k ≠ 0 := by simpa using hk
        have := ih (s.extract (x + k) s.size) (by rw [ext_size _ _ _ (Nat.le_refl _)]; omega)
        rw [ext_size _ _ _ (Nat.le_refl _)] at this
        omega
    · rw [decide_eq_false hx, cond_false]; exact Nat.le_refl _
theorem skipP_fuel : ∀ (n n' : Nat) (s : ByteArray), s.size < n → s.size < n' → skipP n s = skipP n' s := by
  intro n
  induction n with
  | zero => intro n' s h; omega
  | succ n ih =>
    intro n' s h h'
    cases n' with
    | zero => omega
    | succ n' =>
      simp only [skipP]
      have hf := first_le s (fun _ r => !blankP r)
      generalize first s (fun _ r => !blankP r) = x at hf
      by_cases hx : x < s.size
      · rw [decide_eq_true hx, cond_true, cond_true]
        generalize (remarkP (s.extract x s.size)).size = k
        cases hk : k == 0 with
        | true => rfl
        | false =>
          have hk0 : k ≠ 0 := by simpa using hk
          rw [cond_false, cond_false, ih n' (s.extract (x + k) s.size) (by rw [ext_size _ _ _ (Nat.le_refl _)]; omega) (by rw [ext_size _ _ _ (Nat.le_refl _)]; omega)]
      · rw [decide_eq_false hx, cond_false, cond_false]
theorem s_skip_loop {R : Type} (m : Int) (N : Nat) (K : X → St → Option R) (F : Nat) (s : ByteArray) (hs : s.size < N + 1) (hb : s.size < 9223372036854775807) : ∀ (n i : Nat), s.size - i < n →
    s_skip_L0 m N K F n s i = (let x := firstAt s (fun _ r => !blankP r) n i
      bif Nat.blt x s.size then (bif (remarkP (s.extract x s.size)).size == 0 then K .rt (s_skip_E1 x) else K .rt (s_skip_E2 s x)) else K (.ex 0) (s_skip_E3 s)) := by
  intro n
  induction n with
  | zero => intro i h; omega
  | succ n ih =>
    intro i h
    rw [s_skip_r0]
    simp only [firstAt]
    by_cases hi : i < s.size
    · have hw := dec_pos hi
      rw [decide_eq_true hi, cond_true, cond_true]
      cases hbl : blankP (Utf8.decode s i).1 with
      | true => simp only [Bool.not_true, cond_true, cond_false]; exact ih _ (by omega)
      | false =>
        have d2 : decide ((0 : Int) ≤ (i : Int) ∧ (i : Int) ≤ (s.size : Int) ∧ (s.size : Int) ≤ (s.size : Int)) = true := by simp only [decide_eq_true_eq]; omega
        simp only [Bool.not_false, cond_true, cond_false]
        rw [d2, cond_true, blt_t hi, cond_true, Int.toNat_natCast, Int.toNat_natCast]
        have hr := remark_le (s.extract i s.size)
        rw [ext_size _ _ _ (Nat.le_refl _)] at hr
        generalize hk : (remarkP (s.extract i s.size)).size = k at hr
        have e1 : ((k : Int) == 0) = (k == 0) := by
          have x : ∀ a b : Bool, (a = true ↔ b = true) → a = b := by intro a b; cases a <;> cases b <;> simp
          exact x _ _ (by simp only [beq_iff_eq]; omega)
        rw [e1]
        cases hk0 : k == 0 with
        | true => rfl
        | false =>
          have hk1 : k ≠ 0 := by simpa using hk0
          have hwr : IntKind.i64.wrap ((i : Int) + (k : Int)) = ((i + k : Nat) : Int) := by rw [w64 _ (by omega) (by omega)]; omega
          have d3 : decide ((0 : Int) ≤ ((i + k : Nat) : Int) ∧ ((i + k : Nat) : Int) ≤ (s.size : Int) ∧ (s.size : Int) ≤ (s.size : Int)) = true := by simp only [decide_eq_true_eq]; omega
          have d4 : (decide ((s.extract (i + k) s.size).size < N) && decide ((s.extract (i + k) s.size).size < 9223372036854775807)) = true := by
            rw [ext_size _ _ _ (Nat.le_refl _)]
            simp only [Bool.and_eq_true, decide_eq_true_eq]; omega
          rw [cond_false, cond_false, hwr, d3, cond_true, Int.toNat_natCast, d4, cond_true]
    · rw [decide_eq_false hi, cond_false, cond_false]
      show _ = bif Nat.blt s.size s.size then _ else _
      rw [blt_f (by omega), cond_false]
theorem skip_ok (m : Int) : ∀ N, SpecOk Tryd.prog (globT m) 30 (skipS N) := by
  intro N
  induction N with
  | zero =>
    intro a b v b' h
    unfold skipS at h
    split at h
    · rename_i s
      rcases run_ite h with ⟨hl, h⟩ | ⟨_, h⟩
      · simp only [Bool.and_eq_true, decide_eq_true_eq] at hl; omega
      · exact (run_no h).elim
    · cases h
  | succ N ih =>
    intro a b v b' h
    unfold skipS at h
    split at h
    · rename_i s
      rcases run_ite h with ⟨hl, h⟩ | ⟨_, h⟩
      · simp only [Bool.and_eq_true, decide_eq_true_eq] at hl
        obtain ⟨rfl, rfl⟩ := run_ret h
        refine specAtG mix vti_ok Tryd.func30 rfl (by kernel_rfl) (.cons ih (tabB0_ok m) : TabS Tryd.prog (globT m) (tabB N)) (s.size + 1) ((s_skip_start m N fin2 _ s).trans ?_)
        rw [s_skip_loop m N _ _ s hl.1 hl.2 _ 0 (by omega)]
        show (bif Nat.blt (first s fun _ r => !blankP r) s.size then _ else _) = _
        simp only [skipP]
        have hf := first_le s (fun _ r => !blankP r)
        have e0 : firstAt s (fun _ r => !blankP r) (s.size + 1) 0 = first s fun _ r => !blankP r := rfl
        rw [e0]
        generalize first s (fun _ r => !blankP r) = x at hf
        by_cases hx : x < s.size
        · rw [blt_t hx, cond_true, decide_eq_true hx, cond_true]
          have hr := remark_le (s.extract x s.size)
          rw [ext_size _ _ _ (Nat.le_refl _)] at hr
          cases hk0 : (remarkP (s.extract x s.size)).size == 0 with
          | true => rw [cond_true, cond_true, s_skip_c1]
          | false =>
            rw [cond_false, cond_false, s_skip_c2]
            simp only [Int.toNat_natCast]
            generalize (remarkP (s.extract x s.size)).size = k at hr hk0
            have hk1 : k ≠ 0 := by simpa using hk0
            have hwr : IntKind.i64.wrap ((x : Int) + (k : Int)) = ((x + k : Nat) : Int) := by rw [w64 _ (by omega) (by omega)]; omega
            rw [hwr, Int.toNat_natCast]
            have hsz := ext_size s (x + k) s.size (Nat.le_refl _)
            have h1 := skipP_le ((s.extract (x + k) s.size).size + 1) (s.extract (x + k) s.size) (by omega)
            have h2 := skipP_fuel s.size ((s.extract (x + k) s.size).size + 1) (s.extract (x + k) s.size) (by omega) (by omega)
            rw [h2]
            generalize skipP ((s.extract (x + k) s.size).size + 1) (s.extract (x + k) s.size) = y at h1
            rw [w64 _ (by omega) (by omega)]
            rfl
        · rw [blt_f hx, cond_false, decide_eq_false hx, cond_false, s_skip_c3]
      · exact (run_no h).elim
    · cases h
theorem skipT_ok (m : Int) : SpecOk Tryd.prog (globT m) 30 skipT := by
  intro a b v b' h
  unfold skipT at h
  split at h
  · rename_i s
    rcases run_ite h with ⟨hl, h⟩ | ⟨_, h⟩
    · refine skip_ok m (s.size + 1) _ _ v b' ?_
      show (Tr.ite (decide (s.size < s.size + 1) && decide (s.size < 9223372036854775807)) _ _).run fin2 = _
      have : decide (s.size < s.size + 1) = true := by simp
      rw [this, hl]
      exact h
    · exact (run_no h).elim
  · cases h
theorem tabC_ok (m : Int) : TabS Tryd.prog (globT m) tabC := .cons (end_ok m) (.cons (count_ok m) (.cons (token_ok m) (.cons (skipT_ok m) (tabB0_ok m))))
end Go.Proofs.YtniiimpcakmkbaaDoor
