/- sigil: End, Count, token, skip -/
import Derived.Test.YtniiimpcakmkbaaDoorSgD
import Derived.Test.YtniiimpcakmkbaaDoorSgX
import Derived.Lib.TrimU
set_option linter.unusedVariables false
namespace Go.Proofs.YtniiimpcakmkbaaDoor
open Go Vm Go.RowKit
theorem end_ok (m : Int) : SpecOk Tryd.prog (globT m) 16 endS := by
  intro a b v b' h
  unfold endS at h
  split at h
  · rename_i s
    refine specAtG mix vti_ok Tryd.func16 rfl (by kernel_rfl) (tabA_ok m) (s.size + 1) ((s_end_start m fin2 _ s).trans ?_)
    rw [s_end_loop m _ _ s _ _ _ 0 _ _ (by omega), s_end_c1]
    exact h
  · cases h
theorem tabB0_ok (m : Int) : TabS Tryd.prog (globT m) tabB0 := .cons (valid_ok m) (.cons (behind_ok m) (.cons (word_ok m) (.cons (remark_ok m) (tabA_ok m))))
theorem s_count_loop {R : Type} (m : Int) (K : X → St → Option R) (F : Nat) (s : ByteArray) : ∀ (n i : Nat) (c : Int), s.size - i < n →
    s_count_L0 m K F n s c i = K (.ex 0) (s_count_E1 (cntAt s n i c)) := by
  intro n
  induction n with
  | zero => intro i c h; omega
  | succ n ih =>
    intro i c h
    rw [s_count_r0]
    simp only [cntAt]
    by_cases hi : i < s.size
    · have hw := dec_pos hi
      rw [decide_eq_true hi, cond_true, cond_true]
      exact ih _ _ (by omega)
    · rw [decide_eq_false hi, cond_false, cond_false]
theorem count_ok (m : Int) : SpecOk Tryd.prog (globT m) 29 countS := by
  intro a b v b' h
  unfold countS at h
  split at h
  · rename_i s
    refine specAtG mix vti_ok Tryd.func29 rfl (by kernel_rfl) (tabB0_ok m) (s.size + 1) ((s_count_start m fin2 _ s).trans ?_)
    cases hv : validP s with
    | false => rw [hv] at h; exact h
    | true =>
      rw [hv] at h
      rw [Bool.not_true, cond_false, s_count_loop m _ _ s _ 0 _ (by omega), s_count_c1]
      exact h
  · cases h
theorem rune_wrap (s : ByteArray) (i : Nat) : IntKind.i64.wrap ((Utf8.decode s i).1 : Int) = ((Utf8.decode s i).1 : Int) := by
  have := Go.Lib.rune_le s i
  exact w64 _ (by omega) (by omega)
theorem s_token_loop {R : Type} (m : Int) (K : X → St → Option R) (F n : Nat) (s : ByteArray) :
    s_token_L0 m K F (n + 1) s 0 ByteArray.empty 0 0 = bif signP s then K .rt (s_token_E1 s) else K (.ex 0) (s_token_E2 0 ByteArray.empty 0 0) := by
  rw [s_token_r0]
  unfold signP bSigns
  cases decide (0 < s.size) with
  | true => rw [cond_true, Bool.true_and]
  | false => rfl
theorem token_ok (m : Int) : SpecOk Tryd.prog (globT m) 32 tokenS := by
  intro a b v b' h
  unfold tokenS at h
  split at h
  · rename_i s
    obtain ⟨rfl, rfl⟩ := run_ret h
    refine specAtG mix vti_ok Tryd.func32 rfl (by kernel_rfl) (tabB0_ok m) 1 ((s_token_start m fin2 _ s).trans ?_)
    have e0 : (!(wordP s).toList == (ByteArray.mk #[]).toList) = isW s := by unfold isW bNo; exact Eq.refl _
    have e1 : decide (((wordP s).size : Int) ≤ 16) = decide ((wordP s).size ≤ 16) := by
      have x : ∀ a b : Bool, (a = true ↔ b = true) → a = b := by intro a b; cases a <;> cases b <;> simp
      exact x _ _ (by simp only [decide_eq_true_eq]; omega)
    rw [e0, e1]
    cases hw : isW s with
    | true => simp only [tokK, tokT, tokO, hw, cond_true]
    | false =>
      rw [cond_false]
      cases hp : preP s (ByteArray.mk #[45, 62]) with
      | true => simp only [tokK, tokT, tokO, bTo, hw, hp, cond_true, cond_false]
      | false =>
        rw [cond_false, s_token_loop]
        cases hs : signP s with
        | true =>
          have hp2 : preP s bTo = false := hp
          have k1 : tokK s = (Utf8.decode s 0).1 := by unfold tokK; rw [hw, hp2, hs, cond_false, cond_false, cond_true]
          have k2 : tokT s = Utf8.encode (Utf8.decode s 0).1 := by unfold tokT; rw [hw, hp2, hs, cond_false, cond_false, cond_true]
          have k3 : tokO s = true := by unfold tokO; rw [hw, hp2, hs, cond_false, cond_false]
          have c1 := s_token_c1 m fin2 1 s
          rw [rune_wrap] at c1
          rw [cond_true, k1, k2, k3]
          exact c1
        | false =>
          rw [cond_false, s_token_c2]
          have hb : bNo = ByteArray.empty := rfl
          simp only [tokK, tokT, tokO, bTo, hw, hp, hs, cond_false, hb]
  · cases h
end Go.Proofs.YtniiimpcakmkbaaDoor
