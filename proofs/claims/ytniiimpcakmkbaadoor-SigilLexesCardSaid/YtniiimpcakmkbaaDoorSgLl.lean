/- sigil: the tokens are the reference's -/
import Derived.Test.YtniiimpcakmkbaaDoorSgTl
import Derived.Test.YtniiimpcakmkbaaDoorSgLa
set_option linter.unusedVariables false
namespace Go.Proofs.YtniiimpcakmkbaaDoor
open Go Vm Go.Lib
theorem lexP_shape (s : ByteArray) (hz : s.size < 1000000) : ∃ o : List Tok, (lexP s).1 = o.map tokC ∧ o.length ≤ s.size ∧ ((lexP s).2.2.2 = 10 → o = []) := by
  cases hv : validP s with
  | false => rw [lexP_bad hv]; exact ⟨[], rfl, by simp, fun _ => rfl⟩
  | true =>
    obtain ⟨ns, hs, rfl⟩ := valid_bsN hv
    have hel := encs_len ns
    have hbs := bsN_size ns
    by_cases hl : ns.length ≤ 3000
    · obtain ⟨o, q, e, hx⟩ := Lx.total _ ns (1, 1) (Nat.lt_succ_self _)
      have ht := txt_len hx
      rw [lexP_encs hs hl hx]
      unfold lexRes
      rcases hx.err with he | he
      · rw [if_pos he]; exact ⟨o, rfl, by omega, fun h => by cases h⟩
      · rw [if_neg (by omega)]; exact ⟨[], rfl, by simp, fun _ => rfl⟩
    · rw [lexP_big hs (by omega) (by omega)]; exact ⟨[], rfl, by simp, fun _ => rfl⟩
theorem lLexes_loop2 {R : Type} (m : Int) (K : X → St → Option R) (F : Nat) (s : ByteArray) (o : List Tok) (ho : (lexP s).1 = o.map tokC) (hb : o.length < 1000000) (v1 : Int) : ∀ (n i : Nat) (v4 : List (List C)), i ≤ o.length → o.length - i < n → (∀ j, i ≤ j → v4[j]? = (o.map tokC)[j]?) →
    lLexes_L2 m K F n s v1 v4 (i : Int) = K (.ex 2) (lLexes_E4 s v1) := by
  intro n
  induction n with
  | zero => intro i v4 h h1; omega
  | succ n ih =>
    intro i v4 h h1 hv
    rw [lLexes_r2, ho]
    by_cases hi : i < o.length
    · have d1 : decide ((i : Int) < ((o.map tokC).length : Int)) = true := by simp; omega
      have d2 : decide ((0 : Int) ≤ (i : Int)) = true := by simp
      have hg : (o.map tokC)[i]? = some (tokC o[i]) := by simp [hi]
      have hg4 : v4[i]? = some (tokC o[i]) := by rw [hv i (Nat.le_refl _)]; exact hg
      generalize o[i] = x at hg hg4
      have e1 : List.take 4 (tokC x) = tokC x := rfl
      have e3 : ((tokC x).length == 4) = true := rfl
      have e4 : shOk [Sh.int IntKind.i64, Sh.str, Sh.int IntKind.i64, Sh.int IntKind.i64] (tokC x) = true := rfl
      rw [d1, cond_true, d2, cond_true, getT_at rfl hg4, getT_at rfl hg4, e1, e3, cond_true, e4, cond_true, cond_true, getT_at rfl hg, e1, e3, cond_true, e4, cond_true]
      simp only [beq_self_eq_true, Bool.and_self, Bool.not_true, cond_false, cond_true]
      rw [getT_at rfl hg4, getT_at rfl hg4, Int.toNat_natCast, w64 _ (by omega) (by omega)]
      refine ih (i + 1) _ (by omega) (by omega) (fun j hj => ?_)
      rw [List.getElem?_set_ne (by omega)]
      exact hv j (by omega)
    · have : i = o.length := by omega
      subst this
      have d1 : decide ((o.length : Int) < ((o.map tokC).length : Int)) = false := by simp
      rw [d1, cond_false]
theorem lLexes_round {R : Type} (m : Int) (k : V → Bx → Option R) (F : Nat) (hF : 5000 ≤ F) (s : ByteArray) (hs : s.size ≤ 4000) (n : Nat) (v1 : Int) (hv : v1 < 2) (h0 : 0 ≤ v1) :
    lLexes_L0 m (lLexes_K0 m k F) F (n + 1) s v1 = lLexes_L0 m (lLexes_K0 m k F) F n s (v1 + 1) := by
  obtain ⟨o, ho, hol, h10⟩ := lexP_shape s (by omega)
  have d1 : decide (v1 < 2) = true := by simpa using hv
  have d2 : decide (s.size < 1000000) = true := by simp; omega
  have w1 : IntKind.i64.wrap (v1 + 1) = v1 + 1 := w64 _ (by omega) (by omega)
  have nn : ∀ x : Int, (x != x) = false := fun x => by simp
  rw [lLexes_r0, d1, cond_true, d2, cond_true, cond_true]
  cases he : (lexP s).2.2.2 == 10 with
  | true =>
    have he' : (lexP s).2.2.2 = 10 := by simpa using he
    have e0 : o = [] := h10 he'
    have e1 : ((0 : Int) != ((lexP s).1.length : Int)) = false := by rw [ho, e0]; rfl
    rw [cond_true, he', nn, cond_false, nn, cond_false, nn, cond_false, e1, cond_false]
    cases F with
    | zero => omega
    | succ F =>
      rw [lLexes_r1]
      have d3 : decide ((0 : Int) < 0) = false := rfl
      rw [d3, cond_false, lLexes_c2, w1]
  | false =>
    rw [cond_false, cond_true, nn, cond_false, nn, cond_false, nn, cond_false, nn, cond_false]
    have := lLexes_loop2 m (lLexes_K2 m (lLexes_K0 m k F) F n) F s o ho (by omega) v1 F 0 ((lexP s).1) (by omega) (by omega) (fun j _ => by rw [ho])
    rw [show ((0 : Nat) : Int) = 0 from rfl] at this
    rw [this, lLexes_c4, w1]
theorem lLexes_run (m : Int) (s : ByteArray) (F : Nat) (hF : 5000 ≤ F) : runFn (lLexes_cf m) F Tryd.f3 (bd Tryd.f3) [vs s] [] fin2 = some (vb true, []) := by
  rw [lLexes_start]
  cases hs : decide ((s.size : Int) > 4000) with
  | true => rfl
  | false =>
    simp only [decide_eq_false_iff_not] at hs
    obtain ⟨n, rfl⟩ : ∃ n, F = n + 3 := ⟨F - 3, by omega⟩
    rw [cond_false]
    have r1 := lLexes_round m fin2 (n + 3) hF s (by omega) (n + 2) 0 (by omega) (by omega)
    have r2 := lLexes_round m fin2 (n + 3) hF s (by omega) (n + 1) (0 + 1) (by omega) (by omega)
    rw [r1, r2, lLexes_r0]
    have d3 : decide ((0 : Int) + 1 + 1 < 2) = false := rfl
    rw [d3, cond_false, lLexes_c5]
theorem lexes_res (m : Int) (xs : List V) (h : argVs Tryd.prog [9] xs) : ∃ b, FnRes Tryd.prog (globT m) 3 xs [] (vb true) b := by
  obtain ⟨x, rfl, h1⟩ := argVs1 h
  obtain ⟨s, rfl, _⟩ := str_arg h1
  exact ⟨[], specAtQ eqs_ok mix vti_ok Tryd.func3 rfl (by kernel_rfl) (tabE_ok m) 5000 (lLexes_run m s 5000 (Nat.le_refl _))⟩
end Go.Proofs.YtniiimpcakmkbaaDoor
