/- grammar: an expression's reading answers by its tree -/
import Derived.Test.YtniiimpcakmkbaaDoorGrX
set_option linter.unusedVariables false
namespace Go.Proofs.YtniiimpcakmkbaaDoor
open Go Vm Go.RowKit
theorem tok_pl {L : List (List C)} (h : L.all isTok = true) {i : Nat} (hi : i < L.length) : ∃ (k : Int) (t : ByteArray) (l c : Int), L[i]? = some [.int .i64 k, .str t, .int .i64 l, .int .i64 c] ∧ tkL L i = l ∧ tkC L i = c := by
  have h1 := List.all_eq_true.1 h L[i] (List.getElem_mem hi)
  have h2 : L[i]? = some L[i] := List.getElem?_eq_getElem hi
  generalize L[i] = x at h1 h2
  unfold isTok at h1
  split at h1
  · rename_i k t l c
    refine ⟨k, t, l, c, h2, ?_, ?_⟩
    · unfold tkL; rw [Int.toNat_natCast, List.getD_eq_getElem?_getD (l := L), h2]; rfl
    · unfold tkC; rw [Int.toNat_natCast, List.getD_eq_getElem?_getD (l := L), h2]; rfl
  · cases h1
theorem gplace_ok (m : Int) : SpecOk Tryd.prog (globG m) 66 gPlaceS := by
  intro a b v b' h
  unfold gPlaceS at h
  split at h
  · rename_i L el ec a o e gs
    rcases run_ite h with ⟨hl, hx⟩ | ⟨_, hx⟩ <;> clear h <;> have h := hx <;> clear hx
    · rw [Bool.and_eq_true, stOk_iff] at hl
      obtain ⟨hs, hg⟩ := hl
      obtain rfl := gs_eq hg
      refine specAtQ eqs_ok mix vti_ok Tryd.func66 rfl (by kernel_rfl) .nil 0 (Eq.trans (g_place_start m fin2 0 L el ec a o e) ?_)
      unfold plL plC at h
      simp only at h
      by_cases hlt : a < (L.length : Int)
      · have h0 := hs.a0
        simp only at h0
        obtain ⟨i, rfl⟩ : ∃ i : Nat, a = i := ⟨a.toNat, by omega⟩
        obtain ⟨k, t, l, c, hL, h1, h2⟩ := tok_pl hs.tk (i := i) (by omega)
        rw [decide_eq_true hlt, cond_true, decide_eq_true (by omega), cond_true, getT_at rfl hL]
        rw [decide_eq_true hlt, cond_true, cond_true, h1, h2] at h
        exact h
      · rw [decide_eq_false hlt, cond_false]
        rw [decide_eq_false hlt, cond_false, cond_false] at h
        exact h
    · exact (run_no h).elim
  · cases h
theorem tabGW_ok (m : Int) : TabS Tryd.prog (globG m) tabGW :=
  .cons ((lex_ok m).mono globG_T) (.cons (rd0_ok (gunion_all m 9)) (.cons (gfailS_ok m) (.cons (gIs_ok m) (.cons (gplace_ok m) .nil))))
theorem st0 {L : List (List C)} (h : L.all isTok = true) (hl : L.length < 1000000) : St8 L ⟨0, 0, 0⟩ := ⟨h, hl, by simp, by simp, by simp, by simp, by simp⟩
theorem rd0_good {s : ByteArray} (hz : s.size < 1000000) : St8 (lexP s).1 (rd0 s).1 ∧ isNd (rd0 s).2 = true := by
  obtain ⟨h1, h2⟩ := lexP_toks s hz
  obtain ⟨g1, _, g2⟩ := unionA_good (st0 h1 h2)
  exact ⟨g1, g2⟩
theorem end_good {L : List (List C)} {s : PS} (h : St8 L s) : St8 L (endG L s) := by
  unfold endG
  cases decide (s.at_ < (L.length : Int)) with
  | true => exact (gfail_ok h (by omega)).1
  | false => exact h
theorem er3 {n : Nat} (h : n ≤ 2) : n = 0 ∨ n = 1 ∨ n = 2 := by omega
theorem dup2 {R : Type} (x : Option R) : dup 2 x = x := dup_eq 1 x
theorem whole_run (m : Int) (s : ByteArray) (hz : s.size < 1000000) : runFn (g_whole_cf m) 0 Tryd.f45 (bd Tryd.f45) [vs s, vc (C.fn (46 : FuncId) [])] [] fin2 = some (.tup [.agg ⟨exprN s, [], 4⟩, .agg (plM (exprL s) (exprC s)), .w (.d (.int .i64 (exprE s)))], []) := by
  obtain ⟨h1, h2⟩ := lexP_toks s hz
  obtain ⟨g1, g2⟩ := rd0_good hz
  have g3 := end_good g1
  rw [g_whole_start]
  simp only [dup2, Bool.and_true]
  rw [decide_eq_true hz, cond_true]
  unfold exprN exprL exprC exprE
  cases he : (lexP s).2.2.2 == 0 with
  | false =>
    have : ((lexP s).2.2.2 != 0) = true := by unfold bne; rw [he]; rfl
    rw [this, cond_true]; rfl
  | true =>
    have : ((lexP s).2.2.2 != 0) = false := by unfold bne; rw [he]; rfl
    rw [this, cond_false, st_t (st0 h1 h2), cond_true]
    have e0 : unionA (lexP s).1 ⟨0, 0, 0⟩ = rd0 s := rfl
    simp only [e0, Bool.true_and, cond_true]
    have key : ∀ t : PS, St8 (lexP s).1 t → (bif decide (t.er ≤ 2) then
        (bif Nat.beq t.er 2 then (bif stOk (lexP s).1 t then fin2 (.tup [.agg ⟨zeroN, [], 4⟩, .agg (plM (plL (lexP s).1 (lexP s).2.1 t) (plC (lexP s).1 (lexP s).2.2.1 t)), .w (.d (.int .i64 12))]) [] else none)
         else bif decide (t.er ≤ 2) then
          (bif Nat.beq t.er 1 then (bif stOk (lexP s).1 t then fin2 (.tup [.agg ⟨zeroN, [], 4⟩, .agg (plM (plL (lexP s).1 (lexP s).2.1 t) (plC (lexP s).1 (lexP s).2.2.1 t)), .w (.d (.int .i64 11))]) [] else none)
           else fin2 (.tup [.agg ⟨List.take 4 (List.take 4 ((rd0 s).2 ++ []) ++ []), [], 4⟩, .agg (plM 0 0), .w (.d (.int .i64 0))]) []) else none) else none) =
        some (.tup [.agg ⟨bif Nat.beq t.er 0 then (rd0 s).2 else zeroN, [], 4⟩, .agg (plM (bif Nat.beq t.er 0 then 0 else plL (lexP s).1 (lexP s).2.1 t) (bif Nat.beq t.er 0 then 0 else plC (lexP s).1 (lexP s).2.2.1 t)), .w (.d (.int .i64 (erC t.er)))], []) := by
      intro t ht
      rw [decide_eq_true ht.e2, st_t ht, take4 (x := List.take 4 ((rd0 s).2 ++ [])) (by rw [take4 g2]; exact g2), take4 g2]
      rcases er3 ht.e2 with h | h | h <;> rw [h] <;> rfl
    unfold endW endG
    by_cases hlt : (rd0 s).1.at_ < ((lexP s).1.length : Int)
    · rw [decide_eq_true hlt, cond_true, cond_true]
      exact key (failG 1 (rd0 s).1) (gfail_ok g1 (by omega)).1
    · rw [decide_eq_false hlt, cond_false, cond_false]
      exact key (rd0 s).1 g1
theorem whole_ok (m : Int) : SpecOk Tryd.prog (globG m) 45 wholeS := by
  intro a b v b' h
  unfold wholeS at h
  split at h
  · rename_i s
    rcases run_ite h with ⟨hl, hx⟩ | ⟨_, hx⟩ <;> clear h <;> have h := hx <;> clear hx
    · rw [decide_eq_true_eq] at hl
      obtain ⟨rfl, rfl⟩ := run_ret h
      exact specAtQ eqs_ok mix vti_ok Tryd.func45 rfl (by kernel_rfl) (tabGW_ok m) 0 (whole_run m s hl)
    · exact (run_no h).elim
  · cases h
theorem exprN_nd {s : ByteArray} (hz : s.size < 1000000) : isNd (exprN s) = true := by
  unfold exprN
  cases ((lexP s).2.2.2 == 0 && Nat.beq (endW s).er 0) with
  | true => exact (rd0_good hz).2
  | false => rfl
theorem expr_ok (m : Int) : SpecOk Tryd.prog (globG m) 20 exprS := by
  intro a b v b' h
  unfold exprS at h
  split at h
  · rename_i s
    rcases run_ite h with ⟨hl, hx⟩ | ⟨_, hx⟩ <;> clear h <;> have h := hx <;> clear hx
    · rw [decide_eq_true_eq] at hl
      obtain ⟨rfl, rfl⟩ := run_ret h
      refine specAtQ eqs_ok mix vti_ok Tryd.func20 rfl (by kernel_rfl) (.cons (whole_ok m) .nil) 0 (Eq.trans (g_expr_start m fin2 0 s) ?_)
      have hn := exprN_nd hl
      rw [decide_eq_true hl, cond_true]
      rw [take4 hn]
      rfl
    · exact (run_no h).elim
  · cases h
end Go.Proofs.YtniiimpcakmkbaaDoor
