/- sigil: Lex -/
import Derived.Test.YtniiimpcakmkbaaDoorSgI
set_option linter.unusedVariables false
namespace Go.Proofs.YtniiimpcakmkbaaDoor
open Go Vm Go.RowKit
/-- what stands behind blanks and remarks -/
def rest (s : ByteArray) : ByteArray := s.extract (skipP (s.size + 1) s) s.size
def gapP (l c : Int) (s : ByteArray) : Int × Int := behindP l c (s.extract 0 (skipP (s.size + 1) s))
noncomputable def tokE (p : Int × Int) (t : ByteArray) : List C := [.int .i64 (tokK t), .str (tokT t), .int .i64 p.1, .int .i64 p.2]
/-- all tokens, the place behind them, the error -/
noncomputable def lexAt : Nat → List (List C) → Int → Int → ByteArray → List (List C) × Int × Int × Int
  | 0, out, l, c, _ => (out, l, c, 0)
  | n + 1, out, l, c, s =>
    bif (rest s).toList == bNo.toList then (out, (gapP l c s).1, (gapP l c s).2, 0)
    else bif !tokO (rest s) then ([], (gapP l c s).1, (gapP l c s).2, 10)
    else lexAt n (out ++ [tokE (gapP l c s) (rest s)]) (behindP (gapP l c s).1 (gapP l c s).2 (tokT (rest s))).1 (behindP (gapP l c s).1 (gapP l c s).2 (tokT (rest s))).2 ((rest s).extract (tokT (rest s)).size (rest s).size)
noncomputable def lexP (s : ByteArray) : List (List C) × Int × Int × Int :=
  bif !validP s then ([], 0, 0, 4) else bif decide (countP s > 3000) then ([], 0, 0, 3) else lexAt (s.size + 1) [] 1 1 s
noncomputable def lexS : List V → Bx → Tr
  | [.t (.w (.d (.str s)))], [] => .ite (decide (s.size < 1000000))
      (.ret (.tup [.w (.d (.sl 4 (lexP s).1)), .agg (plM (lexP s).2.1 (lexP s).2.2.1), .w (.d (.int .i64 (lexP s).2.2.2))]) []) .no
  | _, _ => .no
theorem rest_size (s : ByteArray) : (rest s).size ≤ s.size := by
  unfold rest; rw [ext_size _ _ _ (Nat.le_refl _)]; omega
theorem s_lex_loop {R : Type} (m : Int) (k : V → Bx → Option R) (F : Nat) (x y : Int) : ∀ (n : Nat) (s : ByteArray) (out : List (List C)) (l c : Int), s.size < n → s.size < 1000000 → out.length + s.size < 1000001 →
    s_lex_L0 m (s_lex_K0 m k F) F n x y out l c s = k (.tup [.w (.d (.sl 4 (lexAt n out l c s).1)), .agg (plM (lexAt n out l c s).2.1 (lexAt n out l c s).2.2.1), .w (.d (.int .i64 (lexAt n out l c s).2.2.2))]) [] := by
  intro n
  induction n with
  | zero => intro s out l c h; omega
  | succ n ih =>
    intro s out l c h hb ho
    rw [s_lex_r0]
    have d1 : decide (s.size < 9223372036854775807) = true := by simp only [decide_eq_true_eq]; omega
    have hk := skipP_le (s.size + 1) s (by omega)
    rw [d1, cond_true, dup_eq 2]
    have d2 : decide ((0 : Int) ≤ 0 ∧ (0 : Int) ≤ (skipP (s.size + 1) s : Int) ∧ (skipP (s.size + 1) s : Int) ≤ (s.size : Int)) = true := by simp only [decide_eq_true_eq]; omega
    have d3 : decide ((0 : Int) ≤ (skipP (s.size + 1) s : Int) ∧ (skipP (s.size + 1) s : Int) ≤ (s.size : Int) ∧ (s.size : Int) ≤ (s.size : Int)) = true := by simp only [decide_eq_true_eq]; omega
    rw [d2, cond_true, d3, cond_true]
    simp only [Int.toNat_natCast]
    have er : s.extract (skipP (s.size + 1) s) s.size = rest s := rfl
    have eg : behindP l c (s.extract 0 (skipP (s.size + 1) s)) = gapP l c s := rfl
    have en : (ByteArray.mk #[]).toList = bNo.toList := rfl
    simp only [er, eg, en, lexAt]
    have hrs := rest_size s
    cases hz : (rest s).toList == bNo.toList with
    | true => simp only [cond_true]; exact (s_lex_c1 m k F out l c s)
    | false =>
      rw [cond_false, cond_false]
      cases ht : tokO (rest s) with
      | false => simp only [Bool.not_false, cond_true]; exact (s_lex_c2 m k F l c s)
      | true =>
        obtain ⟨t1, t2⟩ := tok_size ht
        have d4 : decide ((out.length + 1) * 40 ≤ 140737488355328 ∧ out.length + 1 ≤ 9223372036854775807) = true := by simp only [decide_eq_true_eq]; omega
        have d5 : decide ((0 : Int) ≤ ((tokT (rest s)).size : Int) ∧ ((tokT (rest s)).size : Int) ≤ ((rest s).size : Int) ∧ ((rest s).size : Int) ≤ ((rest s).size : Int)) = true := by simp only [decide_eq_true_eq]; omega
        simp only [Bool.not_true, cond_false]
        rw [d4, cond_true, dup_eq 9, d5, cond_true]
        have hsz : ((rest s).extract (tokT (rest s)).size (rest s).size).size = (rest s).size - (tokT (rest s)).size := ext_size _ _ _ (Nat.le_refl _)
        exact ih _ _ _ _ (by omega) (by omega) (by simp only [List.length_append, List.length_cons, List.length_nil]; omega)
theorem lex_ok (m : Int) : SpecOk Tryd.prog (globT m) 14 lexS := by
  intro a b v b' h
  unfold lexS at h
  split at h
  · rename_i s
    rcases run_ite h with ⟨hl, h⟩ | ⟨_, h⟩
    · simp only [decide_eq_true_eq] at hl
      obtain ⟨rfl, rfl⟩ := run_ret h
      refine specAtG mix vti_ok Tryd.func14 rfl (by kernel_rfl) (tabC_ok m) (s.size + 1) ((s_lex_start m fin2 _ s).trans ?_)
      cases hv : validP s with
      | false => simp only [lexP, hv, cond_false, cond_true, Bool.not_false]; rfl
      | true =>
        have e4 : ((bif true then (0 : Int) else 4) != 0) = false := rfl
        rw [e4, cond_false]
        simp only [cond_true]
        cases hc : decide (countP s > 3000) with
        | true => simp only [lexP, hv, hc, cond_false, cond_true, Bool.not_true]; rfl
        | false =>
          rw [cond_false, s_lex_loop m _ _ _ _ _ s _ _ _ (by omega) hl (by simp; omega)]
          simp only [lexP, hv, hc, cond_false, Bool.not_true]
    · exact (run_no h).elim
  · cases h
end Go.Proofs.YtniiimpcakmkbaaDoor
