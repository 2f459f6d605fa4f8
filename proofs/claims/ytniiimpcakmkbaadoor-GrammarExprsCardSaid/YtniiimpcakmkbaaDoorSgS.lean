/- the reference's Runes answers by its tree -/
import Derived.Test.YtniiimpcakmkbaaDoorSgR
set_option linter.unusedVariables false
namespace Go.Proofs.YtniiimpcakmkbaaDoor
open Go Vm Go.RowKit
theorem tabR1_ok (m : Int) : TabS Tryd.prog (globT m) tabR1 := .cons (rune_ok m) .nil
theorem multiR_cases (s : ByteArray) (i size : Nat) (r0 least : Int) : (multiR s i size r0 least).2 = 0 ∨ ((multiR s i size r0 least).2 = size ∧ i + size ≤ s.size) := by
  unfold multiR
  by_cases h : s.size < i + size
  · rw [decide_eq_true h]; exact .inl rfl
  · rw [decide_eq_false h, cond_false]
    cases accR s i 1 (size - 1) r0 with
    | none => exact .inl rfl
    | some r =>
      simp only
      unfold finR
      cases (decide (r < least) || decide (r > 1114111) || (decide (r ≥ 55296) && decide (r ≤ 57343))) with
      | true => exact .inl rfl
      | false => exact .inr ⟨rfl, by omega⟩
theorem runeP_size (s : ByteArray) (i : Nat) (hi : i < s.size) : (runeP s i).2 = 0 ∨ ∃ k : Nat, (runeP s i).2 = k ∧ 1 ≤ k ∧ i + k ≤ s.size := by
  unfold runeP
  have mk : ∀ (size : Nat) (r0 least : Int), 1 ≤ size → (multiR s i size r0 least).2 = 0 ∨ ∃ k : Nat, (multiR s i size r0 least).2 = k ∧ 1 ≤ k ∧ i + k ≤ s.size := by
    intro size r0 least h1
    rcases multiR_cases s i size r0 least with h | ⟨h, h2⟩
    · exact .inl h
    · exact .inr ⟨size, h, h1, h2⟩
  cases decide (byteN s i < 128) with
  | true => exact .inr ⟨1, rfl, by omega, by omega⟩
  | false =>
    rw [cond_false]
    cases (decide (192 ≤ byteN s i) && decide (byteN s i < 224)) with
    | true => exact mk 2 _ _ (by omega)
    | false =>
      rw [cond_false]
      cases (decide (224 ≤ byteN s i) && decide (byteN s i < 240)) with
      | true => exact mk 3 _ _ (by omega)
      | false =>
        rw [cond_false]
        cases (decide (240 ≤ byteN s i) && decide (byteN s i < 248)) with
        | true => exact mk 4 _ _ (by omega)
        | false => exact .inl rfl
theorem r_runes_loop {R : Type} (m : Int) (k : V → Bx → Option R) (F : Nat) (s : ByteArray) (hs : s.size < 1000000) : ∀ (n i : Nat) (out : List (List C)), i ≤ s.size → s.size - i < n → out.length ≤ i →
    r_runes_L0 m (r_runes_K0 m k F) F n s out i = k (.tup [.w (.d (.sl 1 ((runesAt s n i out).getD []))), .w (.d (.bool (runesAt s n i out).isSome))]) [] := by
  intro n
  induction n with
  | zero => intro i out _ h; omega
  | succ n ih =>
    intro i out hi h ho
    rw [r_runes_r0]
    simp only [runesAt]
    by_cases hlt : i < s.size
    · have d1 : decide ((i : Int) < (s.size : Int)) = true := by simpa using hlt
      have d2 : (decide ((0 : Int) ≤ (i : Int)) && decide ((i : Int) < (s.size : Int)) && decide (s.size < 1000000000)) = true := by
        simp only [Bool.and_eq_true, decide_eq_true_eq]; omega
      have d3 : decide ((out.length + 1) * 8 ≤ 140737488355328 ∧ out.length + 1 ≤ 9223372036854775807) = true := by simp only [decide_eq_true_eq]; omega
      have hsz := runeP_size s i hlt
      rw [d2, d1, cond_true, cond_true, Int.toNat_natCast, decide_eq_true hlt, cond_true]
      generalize runeP s i = p at hsz
      cases hz : p.2 == 0 with
      | true => rw [cond_true, cond_true, r_runes_c1]; rfl
      | false =>
        have hz0 : p.2 ≠ 0 := by simpa using hz
        rcases hsz with h0 | ⟨w, hw, hw1, hw2⟩
        · exact absurd h0 hz0
        · rw [cond_false, cond_false, d3, cond_true, hw, Int.toNat_natCast, w64 ((i : Int) + (w : Int)) (by omega) (by omega)]
          have := ih (i + w) (out ++ [[C.int .i64 p.1]]) hw2 (by omega) (by simp; omega)
          rw [show ((i + w : Nat) : Int) = (i : Int) + (w : Int) by omega] at this
          exact this
    · have : i = s.size := by omega
      subst this
      have d1 : decide ((s.size : Int) < (s.size : Int)) = false := by simp
      have d2 : decide (s.size < s.size) = false := by simp
      rw [d1, cond_false, d2, cond_false, r_runes_c2]; rfl
theorem runes_ok (m : Int) : SpecOk Tryd.prog (globT m) 17 runesS := by
  intro a b v b' h
  unfold runesS at h
  split at h
  · rename_i s
    rcases run_ite h with ⟨hl, h⟩ | ⟨_, h⟩
    · simp only [decide_eq_true_eq] at hl
      obtain ⟨rfl, rfl⟩ := run_ret h
      refine specAtG mix vti_ok Tryd.func17 rfl (by kernel_rfl) (tabR1_ok m) (s.size + 1) ((r_runes_start m fin2 _ s).trans ?_)
      rw [show (0 : Int) = ((0 : Nat) : Int) from rfl, r_runes_loop m _ _ s hl _ 0 [] (by omega) (by omega) (by simp)]
      rfl
    · exact (run_no h).elim
  · cases h
theorem tabR_ok (m : Int) : TabS Tryd.prog (globT m) tabR := .cons (runes_ok m) (.cons (among_ok m) (.cons (place_ok m) (.cons (part_ok m) (.cons (text_ok m) .nil))))
end Go.Proofs.YtniiimpcakmkbaaDoor
