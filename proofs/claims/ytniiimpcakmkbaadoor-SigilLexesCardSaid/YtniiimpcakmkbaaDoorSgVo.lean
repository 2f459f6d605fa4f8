/- sigil: Lex with a row that stays the caller's own; the table of the law over the reference -/
import Derived.Test.YtniiimpcakmkbaaDoorSgV
import Derived.Test.YtniiimpcakmkbaaDoorSgRl
import Derived.Test.YtniiimpcakmkbaaDoorSgU
set_option linter.unusedVariables false
namespace Go.Proofs.YtniiimpcakmkbaaDoor
open Go Vm Go.RowKit
noncomputable def lexOS : List V → Bx → Tr
  | [.t (.w (.d (.str s)))], [] => .ite (decide (s.size < 1000000))
      (.ite ((lexP s).2.2.2 == 10)
        (.ret (.tup [.w (.d (.sl 4 [])), .agg (plM (lexP s).2.1 (lexP s).2.2.1), .w (.d (.int .i64 10))]) [])
        (.ret (.tup [.w (.arr 0), .agg (plM (lexP s).2.1 (lexP s).2.2.1), .w (.d (.int .i64 (lexP s).2.2.2))]) [some (.arr true (some 33) 4 (lexP s).1)])) .no
  | _, _ => .no
theorem s_lexO_loop {R : Type} (m : Int) (k : V → Bx → Option R) (F : Nat) (x y : Int) : ∀ (n : Nat) (s : ByteArray) (out : List (List C)) (l c : Int), s.size < n → s.size < 1000000 → out.length + s.size < 1000001 →
    s_lexO_L0 m (s_lexO_K0 m k F) F n x y out l c s = bif (lexAt n out l c s).2.2.2 == 10 then k (.tup [.w (.d (.sl 4 [])), .agg (plM (lexAt n out l c s).2.1 (lexAt n out l c s).2.2.1), .w (.d (.int .i64 10))]) []
      else k (.tup [.w (.arr 0), .agg (plM (lexAt n out l c s).2.1 (lexAt n out l c s).2.2.1), .w (.d (.int .i64 (lexAt n out l c s).2.2.2))]) [some (.arr true (some 33) 4 (lexAt n out l c s).1)] := by
  intro n
  induction n with
  | zero => intro s out l c h; omega
  | succ n ih =>
    intro s out l c h hb ho
    rw [s_lexO_r0]
    have d1 : decide (s.size < 9223372036854775807) = true := by simp only [decide_eq_true_eq]; omega
    have hk := skipP_le (s.size + 1) s (by omega)
    rw [d1, cond_true, dup_eq 2]
    have d2 : decide ((0 : Int) ≤ 0 ∧ (0 : Int) ≤ (skipP (s.size + 1) s : Int) ∧ (skipP (s.size + 1) s : Int) ≤ (s.size : Int)) = true := by simp only [decide_eq_true_eq]; omega
    have d3 : decide ((0 : Int) ≤ (skipP (s.size + 1) s : Int) ∧ (skipP (s.size + 1) s : Int) ≤ (s.size : Int) ∧ (s.size : Int) ≤ (s.size : Int)) = true := by simp only [decide_eq_true_eq]; omega
    rw [d2, cond_true, d3, cond_true]
    simp only [Int.toNat_natCast]
    have er : s.extract (skipP (s.size + 1) s) s.size = rest s := rfl
    have eg : behindP l c (s.extract 0 (skipP (s.size + 1) s)) = gapP l c s := rfl
    have en : (ByteArray.mk #[]).toList = bNo.toList := rfl
    simp only [er, eg, en, lexAt]
    have hrs := rest_size s
    cases hz : (rest s).toList == bNo.toList with
    | true => simp only [cond_true]; exact (s_lexO_c1 m k F out l c s)
    | false =>
      rw [cond_false, cond_false]
      cases ht : tokO (rest s) with
      | false => simp only [Bool.not_false, cond_true]; exact (s_lexO_c2 m k F l c s)
      | true =>
        obtain ⟨t1, t2⟩ := tok_size ht
        have d4 : decide ((out.length + 1) * 40 ≤ 140737488355328 ∧ out.length + 1 ≤ 9223372036854775807) = true := by simp only [decide_eq_true_eq]; omega
        have d5 : decide ((0 : Int) ≤ ((tokT (rest s)).size : Int) ∧ ((tokT (rest s)).size : Int) ≤ ((rest s).size : Int) ∧ ((rest s).size : Int) ≤ ((rest s).size : Int)) = true := by simp only [decide_eq_true_eq]; omega
        simp only [Bool.not_true, cond_false]
        rw [d4, cond_true, dup_eq 9, d5, cond_true]
        have hsz : ((rest s).extract (tokT (rest s)).size (rest s).size).size = (rest s).size - (tokT (rest s)).size := ext_size _ _ _ (Nat.le_refl _)
        exact ih _ _ _ _ (by omega) (by omega) (by simp only [List.length_append, List.length_cons, List.length_nil]; omega)
theorem lexO_ok (m : Int) : SpecOk Tryd.prog (globT m) 14 lexOS := by
  intro a b v b' h
  unfold lexOS at h
  split at h
  · rename_i s
    rcases run_ite h with ⟨hl, h⟩ | ⟨_, h⟩
    · simp only [decide_eq_true_eq] at hl
      refine specAtG mix vti_ok Tryd.func14 rfl (by kernel_rfl) (tabC_ok m) (s.size + 1) ((s_lexO_start m fin2 _ s).trans ?_)
      cases hv : validP s with
      | false =>
        rw [lexP_bad hv] at h
        exact h
      | true =>
        have e4 : ((bif true then (0 : Int) else 4) != 0) = false := rfl
        rw [e4, cond_false]
        simp only [cond_true]
        cases hc : decide (countP s > 3000) with
        | true =>
          have hp : lexP s = ([], 0, 0, 3) := by unfold lexP; rw [hv, hc]; rfl
          rw [hp] at h
          exact h
        | false =>
          have hp : lexP s = lexAt (s.size + 1) [] 1 1 s := by unfold lexP; rw [hv, hc]; rfl
          rw [hp] at h
          rw [cond_false, s_lexO_loop m _ _ _ _ _ s _ _ _ (by omega) hl (by simp; omega)]
          rcases run_ite h with ⟨h1, h⟩ | ⟨h1, h⟩
          · rw [h1, cond_true]; exact h
          · rw [h1, cond_false]; exact h
    · exact (run_no h).elim
  · cases h
noncomputable def tabE : List (FuncId × (List V → Bx → Tr)) := (13, awakeS) :: (14, lexOS) :: (15, rlexS) :: tabC
noncomputable def orcE : FuncId → List V → Bx → Tr := orcOf tabE
theorem tabE_ok (m : Int) : TabS Tryd.prog (globT m) tabE := .cons (awake_ok m) (.cons (lexO_ok m) (.cons (rlex_ok m) (tabC_ok m)))
end Go.Proofs.YtniiimpcakmkbaaDoor
