/- sigil: small functions, functions with loops -/
import Derived.Test.YtniiimpcakmkbaaDoorSgC
set_option linter.unusedVariables false
namespace Go.Proofs.YtniiimpcakmkbaaDoor
open Go Vm Go.RowKit
theorem next_ok (m : Int) : SpecOk Tryd.prog (globT m) 37 nextS := by
  intro a b v b' h
  unfold nextS at h
  split at h
  · rename_i l c r
    refine specAtG mix vti_ok Tryd.func37 rfl (by kernel_rfl) .nil 0 ((s_next_start m fin2 0 l c r).trans ?_)
    unfold plM nextL nextC at h
    cases hr : r == 10 with
    | true => rw [hr] at h; exact h
    | false => rw [hr] at h; exact h
  · cases h
theorem blank_ok (m : Int) : SpecOk Tryd.prog (globT m) 55 blankS := by
  intro a b v b' h
  unfold blankS at h
  split at h
  · rename_i r
    refine specAtG mix vti_ok Tryd.func55 rfl (by kernel_rfl) .nil 0 ((s_blank_start m fin2 0 r).trans ?_)
    unfold blankP at h
    cases h1 : r == 9 <;> cases h2 : r == 10 <;> cases h3 : r == 13 <;> cases h4 : r == 32 <;> cases h5 : r == 12288 <;> rw [h1, h2, h3, h4, h5] at h <;> exact h
  · cases h
theorem letter_ok (m : Int) : SpecOk Tryd.prog (globT m) 78 letterS := by
  intro a b v b' h
  unfold letterS at h
  split at h
  · rename_i r f
    refine specAtG mix vti_ok Tryd.func78 rfl (by kernel_rfl) .nil 0 ((s_letter_start m fin2 0 r f).trans ?_)
    unfold letterP at h
    cases h1 : decide (r ≥ 97) <;> cases h2 : decide (r ≤ 122) <;> cases h3 : decide (r ≥ 48) <;> cases h4 : decide (r ≤ 57) <;> cases f <;> rw [h1, h2, h3, h4] at h <;> cases h5 : r == 95 <;> rw [h5] at h <;> exact h
  · cases h
theorem kind_ok (m : Int) : SpecOk Tryd.prog (globT m) 58 kindS := by
  intro a b v b' h
  unfold kindS at h
  split at h
  · rename_i s
    refine specAtG mix vti_ok Tryd.func58 rfl (by kernel_rfl) .nil 0 ((s_kind_start m fin2 0 s).trans ?_)
    unfold kindP bType bRel bThis at h
    cases h1 : s.toList == (ByteArray.mk #[116, 121, 112, 101]).toList <;> cases h2 : s.toList == (ByteArray.mk #[114, 101, 108]).toList <;> cases h3 : s.toList == (ByteArray.mk #[116, 104, 105, 115]).toList <;> rw [h1, h2, h3] at h <;> exact h
  · cases h
theorem pre0_ok (m : Int) : SpecOk Tryd.prog (globT m) 61 preS := by
  intro a b v b' h
  unfold preS at h
  split at h
  · rename_i s p
    refine specAtG mix vti_ok Tryd.func61 rfl (by kernel_rfl) .nil 0 ((s_pre0_start m fin2 0 s p).trans ?_)
    unfold preP at h
    by_cases h1 : p.size ≤ s.size
    · have d1 : decide ((s.size : Int) ≥ (p.size : Int)) = true := by simp only [decide_eq_true_eq]; omega
      have d2 : decide ((0 : Int) ≤ 0 ∧ (0 : Int) ≤ (p.size : Int) ∧ (p.size : Int) ≤ (s.size : Int)) = true := by simp only [decide_eq_true_eq]; omega
      rw [d1, cond_true, d2, cond_true, Int.toNat_natCast]
      rw [decide_eq_true h1, Bool.true_and] at h
      exact h
    · have d1 : decide ((s.size : Int) ≥ (p.size : Int)) = false := by simp only [decide_eq_false_iff_not]; omega
      rw [d1, cond_false]
      rw [decide_eq_false h1, Bool.false_and] at h
      exact h
  · cases h
theorem tabA0_ok (m : Int) : TabS Tryd.prog (globT m) tabA0 := .cons (next_ok m) (.cons (blank_ok m) (.cons (letter_ok m) (.cons (kind_ok m) (.cons (pre0_ok m) (.cons (dec_ok m) (.cons (contains_ok m) .nil))))))
theorem pre_ok (m : Int) : SpecOk Tryd.prog (globT m) 40 preS := by
  intro a b v b' h
  unfold preS at h
  split at h
  · rename_i s p
    exact specAtG mix vti_ok Tryd.func40 rfl (by kernel_rfl) (tabA0_ok m) 0 ((s_pre_start m fin2 0 s p).trans h)
  · cases h
theorem broken_ok (m : Int) : SpecOk Tryd.prog (globT m) 77 brokenS := by
  intro a b v b' h
  unfold brokenS at h
  split at h
  · rename_i s at_ r
    rcases run_ite h with ⟨hl, h⟩ | ⟨_, h⟩
    · refine specAtG mix vti_ok Tryd.func77 rfl (by kernel_rfl) (tabA0_ok m) 0 ((s_broken_start m fin2 0 s at_ r).trans ?_)
      simp only [Bool.and_eq_true, decide_eq_true_eq] at hl
      have d : decide ((0 : Int) ≤ at_ ∧ at_ ≤ (s.size : Int) ∧ (s.size : Int) ≤ (s.size : Int)) = true := by simp only [decide_eq_true_eq]; omega
      unfold brokenP at h
      rw [d, cond_true, Int.toNat_natCast]
      cases hr : r == 65533 with
      | true =>
        have : (r != 65533) = false := by simp [bne, hr]
        rw [this, cond_false]
        rw [hr, Bool.true_and] at h
        have e : (((Go.Lib.decodeGo (s.extract at_.toNat s.size)).2 : Int) == 1) = ((Go.Lib.decodeGo (s.extract at_.toNat s.size)).2 == 1) := by
          have x : ∀ a b : Bool, (a = true ↔ b = true) → a = b := by intro a b; cases a <;> cases b <;> simp
          exact x _ _ (by simp only [beq_iff_eq]; omega)
        rw [e]; exact h
      | false =>
        have : (r != 65533) = true := by simp [bne, hr]
        rw [this, cond_true]
        rw [hr, Bool.false_and] at h; exact h
    · exact (run_no h).elim
  · cases h
theorem tabA_ok (m : Int) : TabS Tryd.prog (globT m) tabA := .cons (pre_ok m) (.cons (broken_ok m) (tabA0_ok m))

theorem blt_t {a b : Nat} (h : a < b) : Nat.blt a b = true := by rw [Nat.blt_eq]; exact h
theorem blt_f {a b : Nat} (h : ¬ a < b) : Nat.blt a b = false := by rw [← Bool.not_eq_true, Nat.blt_eq]; exact h
theorem dec_pos {s : ByteArray} {i : Nat} (h : i < s.size) : 1 ≤ (Utf8.decode s i).2 := Go.Lib.decode_width_pos s i h
theorem firstAt_fuel (s : ByteArray) (p : Nat → Int → Bool) : ∀ (n n' i : Nat), s.size - i < n → s.size - i < n' → firstAt s p n i = firstAt s p n' i := by
  intro n
  induction n with
  | zero => intro n' i h; omega
  | succ n ih =>
    intro n' i h h'
    cases n' with
    | zero => omega
    | succ n' =>
      simp only [firstAt]
      by_cases hi : i < s.size
      · have := dec_pos hi
        rw [decide_eq_true hi, cond_true, cond_true, ih n' (i + (Utf8.decode s i).2) (by omega) (by omega)]
      · rw [decide_eq_false hi, cond_false, cond_false]
theorem firstAt_le (s : ByteArray) (p : Nat → Int → Bool) : ∀ (n i : Nat), firstAt s p n i ≤ s.size := by
  intro n
  induction n with
  | zero => intro i; exact Nat.le_refl _
  | succ n ih =>
    intro i
    simp only [firstAt]
    by_cases hi : i < s.size
    · rw [decide_eq_true hi, cond_true]
      cases p i (Utf8.decode s i).1 with
      | true => rw [cond_true]; omega
      | false => exact ih _
    · rw [decide_eq_false hi, cond_false]; exact Nat.le_refl _
theorem first_le (s : ByteArray) (p : Nat → Int → Bool) : first s p ≤ s.size := firstAt_le s p _ _

theorem s_valid_loop {R : Type} (m : Int) (K : X → St → Option R) (F : Nat) (s : ByteArray) : ∀ (n i : Nat), s.size - i < n →
    s_valid_L0 m K F n s i = bif Nat.blt (firstAt s (fun i r => brokenP s i r) n i) s.size then K .rt s_valid_E1 else K (.ex 0) s_valid_E2 := by
  intro n
  induction n with
  | zero => intro i h; omega
  | succ n ih =>
    intro i h
    rw [s_valid_r0]
    simp only [firstAt]
    by_cases hi : i < s.size
    · have hw := dec_pos hi
      have d2 : decide ((i : Int) ≤ (s.size : Int)) = true := by simp only [decide_eq_true_eq]; omega
      rw [decide_eq_true hi, cond_true, cond_true, d2, cond_true]
      cases brokenP s i (Utf8.decode s i).1 with
      | true => rw [cond_true, cond_true, blt_t hi, cond_true]
      | false => rw [cond_false, cond_false]; exact ih _ (by omega)
    · rw [decide_eq_false hi, cond_false, cond_false]
      rw [blt_f (by omega), cond_false]
theorem valid_ok (m : Int) : SpecOk Tryd.prog (globT m) 54 validS := by
  intro a b v b' h
  unfold validS at h
  split at h
  · rename_i s
    refine specAtG mix vti_ok Tryd.func54 rfl (by kernel_rfl) (tabA_ok m) (s.size + 1) ((s_valid_start m fin2 _ s).trans ?_)
    rw [s_valid_loop m _ _ s _ 0 (by omega)]
    unfold validP first at h
    have hle := firstAt_le s (fun i r => brokenP s i r) (s.size + 1) 0
    generalize firstAt s (fun i r => brokenP s i r) (s.size + 1) 0 = x at h hle
    by_cases hx : x < s.size
    · rw [blt_t hx, cond_true, s_valid_c1]
      rw [beq_false_of_ne (by omega)] at h; exact h
    · have : x = s.size := by omega
      subst this
      rw [blt_f hx, cond_false, s_valid_c2]
      rw [beq_self_eq_true] at h; exact h
  · cases h

theorem s_behind_loop {R : Type} (m : Int) (K : X → St → Option R) (F : Nat) (s : ByteArray) (x y : Int) : ∀ (n i : Nat) (l c : Int), s.size - i < n →
    s_behind_L0 m K F n s l c x y i = K (.ex 0) (s_behind_E1 (plAt s n i l c).1 (plAt s n i l c).2 x y) := by
  intro n
  induction n with
  | zero => intro i l c h; omega
  | succ n ih =>
    intro i l c h
    rw [s_behind_r0]
    simp only [plAt]
    by_cases hi : i < s.size
    · have hw := dec_pos hi
      rw [decide_eq_true hi, cond_true, cond_true]
      exact ih _ _ _ (by omega)
    · rw [decide_eq_false hi, cond_false, cond_false]
theorem behind_ok (m : Int) : SpecOk Tryd.prog (globT m) 31 behindS := by
  intro a b v b' h
  unfold behindS at h
  split at h
  · rename_i l c s
    refine specAtG mix vti_ok Tryd.func31 rfl (by kernel_rfl) (tabA_ok m) (s.size + 1) ((s_behind_start m fin2 _ l c s).trans ?_)
    rw [s_behind_loop m _ _ s _ _ _ 0 _ _ (by omega), s_behind_c1]
    exact h
  · cases h
theorem s_end_loop {R : Type} (m : Int) (K : X → St → Option R) (F : Nat) (s : ByteArray) (x y : Int) : ∀ (n i : Nat) (l c : Int), s.size - i < n →
    s_end_L0 m K F n s x y l c i = K (.ex 0) (s_end_E1 x y (plAt s n i l c).1 (plAt s n i l c).2) := by
  intro n
  induction n with
  | zero => intro i l c h; omega
  | succ n ih =>
    intro i l c h
    rw [s_end_r0]
    simp only [plAt]
    by_cases hi : i < s.size
    · have hw := dec_pos hi
      rw [decide_eq_true hi, cond_true, cond_true]
      exact ih _ _ _ (by omega)
    · rw [decide_eq_false hi, cond_false, cond_false]
theorem s_word_loop {R : Type} (m : Int) (K : X → St → Option R) (F : Nat) (s : ByteArray) : ∀ (n i : Nat), s.size - i < n →
    s_word_L0 m K F n s i = bif Nat.blt (firstAt s (fun i r => !letterP r ((i : Int) == 0)) n i) s.size then K .rt (s_word_E1 s (firstAt s (fun i r => !letterP r ((i : Int) == 0)) n i)) else K (.ex 0) (s_word_E2 s) := by
  intro n
  induction n with
  | zero => intro i h; omega
  | succ n ih =>
    intro i h
    rw [s_word_r0]
    simp only [firstAt]
    by_cases hi : i < s.size
    · have hw := dec_pos hi
      have d2 : decide ((0 : Int) ≤ (0 : Int) ∧ (0 : Int) ≤ (i : Int) ∧ (i : Int) ≤ (s.size : Int)) = true := by simp only [decide_eq_true_eq]; omega
      rw [decide_eq_true hi, cond_true, cond_true, d2, cond_true]
      cases !letterP (Utf8.decode s i).1 ((i : Int) == 0) with
      | true => rw [cond_true, cond_true, blt_t hi, cond_true]
      | false => rw [cond_false, cond_false]; exact ih _ (by omega)
    · rw [decide_eq_false hi, cond_false, cond_false]
      rw [blt_f (by omega), cond_false]
theorem extract_all (s : ByteArray) : s.extract 0 s.size = s := by simp
theorem word_ok (m : Int) : SpecOk Tryd.prog (globT m) 57 wordS := by
  intro a b v b' h
  unfold wordS at h
  split at h
  · rename_i s
    refine specAtG mix vti_ok Tryd.func57 rfl (by kernel_rfl) (tabA_ok m) (s.size + 1) ((s_word_start m fin2 _ s).trans ?_)
    rw [s_word_loop m _ _ s _ 0 (by omega)]
    unfold wordP first at h
    have hle := firstAt_le s (fun i r => !letterP r ((i : Int) == 0)) (s.size + 1) 0
    generalize firstAt s (fun i r => !letterP r ((i : Int) == 0)) (s.size + 1) 0 = x at h hle
    by_cases hx : x < s.size
    · rw [blt_t hx, cond_true, s_word_c1, Int.toNat_natCast]; exact h
    · have : x = s.size := by omega
      subst this
      rw [blt_f hx, cond_false, s_word_c2]
      rw [extract_all] at h; exact h
  · cases h
theorem s_remark_loop {R : Type} (m : Int) (K : X → St → Option R) (F : Nat) (s : ByteArray) : ∀ (n i : Nat), s.size - i < n →
    s_remark_L0 m K F n s i = bif Nat.blt (firstAt s (fun _ r => r == 10) n i) s.size then K .rt (s_remark_E1 s (firstAt s (fun _ r => r == 10) n i)) else K (.ex 0) (s_remark_E2 s) := by
  intro n
  induction n with
  | zero => intro i h; omega
  | succ n ih =>
    intro i h
    rw [s_remark_r0]
    simp only [firstAt]
    by_cases hi : i < s.size
    · have hw := dec_pos hi
      have d2 : decide ((0 : Int) ≤ (0 : Int) ∧ (0 : Int) ≤ (i : Int) ∧ (i : Int) ≤ (s.size : Int)) = true := by simp only [decide_eq_true_eq]; omega
      rw [decide_eq_true hi, cond_true, cond_true, d2, cond_true]
      cases ((Utf8.decode s i).1 : Int) == 10 with
      | true => rw [cond_true, cond_true, blt_t hi, cond_true]
      | false => rw [cond_false, cond_false]; exact ih _ (by omega)
    · rw [decide_eq_false hi, cond_false, cond_false]
      rw [blt_f (by omega), cond_false]
theorem remark_ok (m : Int) : SpecOk Tryd.prog (globT m) 56 remarkS := by
  intro a b v b' h
  unfold remarkS at h
  split at h
  · rename_i s
    refine specAtG mix vti_ok Tryd.func56 rfl (by kernel_rfl) (tabA_ok m) (s.size + 1) ((s_remark_start m fin2 _ s).trans ?_)
    unfold remarkP first bSl bNo at h
    cases hp : preP s (ByteArray.mk #[47, 47]) with
    | false => rw [hp] at h; exact h
    | true =>
      rw [hp, cond_true] at h
      rw [Bool.not_true, cond_false, s_remark_loop m _ _ s _ 0 (by omega)]
      have hle := firstAt_le s (fun _ r => r == 10) (s.size + 1) 0
      generalize firstAt s (fun _ r => r == 10) (s.size + 1) 0 = x at h hle
      by_cases hx : x < s.size
      · rw [blt_t hx, cond_true, s_remark_c1, Int.toNat_natCast]; exact h
      · have : x = s.size := by omega
        subst this
        rw [blt_f hx, cond_false, s_remark_c2]
        rw [extract_all] at h; exact h
  · cases h
end Go.Proofs.YtniiimpcakmkbaaDoor
