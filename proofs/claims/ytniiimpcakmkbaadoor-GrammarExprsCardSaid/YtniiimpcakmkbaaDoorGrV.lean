/- grammar: the reference's Expr, Same and Good answer by their trees -/
import Derived.Test.YtniiimpcakmkbaaDoorGrZ
import Derived.Test.YtniiimpcakmkbaaDoorGrT
set_option linter.unusedVariables false
namespace Go.Proofs.YtniiimpcakmkbaaDoor
open Go Vm Go.RowKit
theorem rend_ok (m : Int) : SpecOk Tryd.prog (globG m) 48 rEndS := by
  intro a b v b' h
  unfold rEndS at h
  split at h
  · rename_i L a o c el ec
    rcases run_ite h with ⟨hl, hx⟩ | ⟨_, hx⟩ <;> clear h <;> have h := hx <;> clear hx
    · rw [Bool.and_eq_true, stOk_iff] at hl
      obtain ⟨hs, hg⟩ := hl
      obtain ⟨e1, e2⟩ := erC_N hg
      refine specAtQ eqs_ok mix vti_ok Tryd.func48 rfl (by kernel_rfl) .nil 0 (Eq.trans (h_end_start m fin2 0 L a o c el ec) ?_)
      have h0 := hs.a0
      simp only at h0
      obtain ⟨i, rfl⟩ : ∃ i : Nat, a = i := ⟨a.toNat, by omega⟩
      unfold endG at h
      simp only at h
      by_cases hlt : (i : Int) < (L.length : Int)
      · obtain ⟨k, t, l, cc, hL, h1, h2⟩ := tok_pl hs.tk (i := i) (by omega)
        have hp1 : ∀ s : PS, s.at_ = (i : Int) → plL L el s = l := fun s hs => by unfold plL; rw [hs, decide_eq_true hlt, cond_true, h1]
        have hp2 : ∀ s : PS, s.at_ = (i : Int) → plC L ec s = cc := fun s hs => by unfold plC; rw [hs, decide_eq_true hlt, cond_true, h2]
        rw [decide_eq_true hlt, cond_true] at h
        rw [hp1 (failG 1 (rP i o c)) rfl, hp2 (failG 1 (rP i o c)) rfl] at h
        rw [decide_eq_true hlt, decide_eq_true (show (0 : Int) ≤ (i : Int) by omega)]
        simp only [getT_at (i := (i : Int)) (n := i) rfl hL, getT_some (xs := List.drop 2 [C.int .i64 k, C.str t, C.int .i64 l, C.int .i64 cc]) (i := 0) (x := C.int .i64 l) rfl, getT_some (xs := List.drop 3 [C.int .i64 k, C.str t, C.int .i64 l, C.int .i64 cc]) (i := 0) (x := C.int .i64 cc) rfl]
        rcases er3 e2 with h3 | h3 | h3
        · have hc : c = 0 := by rw [← e1, h3]; rfl
          subst hc
          have : (failG 1 (rP i o 0)).er = 1 := rfl
          rw [this] at h
          exact h
        · have hc : c = 11 := by rw [← e1, h3]; rfl
          subst hc
          have : (failG 1 (rP i o 11)).er = 1 := rfl
          rw [this] at h
          exact h
        · have hc : c = 12 := by rw [← e1, h3]; rfl
          subst hc
          have : (failG 1 (rP i o 12)).er = 2 := rfl
          rw [this] at h
          exact h
      · have hp1 : ∀ s : PS, s.at_ = (i : Int) → plL L el s = el := fun s hs => by unfold plL; rw [hs, decide_eq_false hlt, cond_false]
        have hp2 : ∀ s : PS, s.at_ = (i : Int) → plC L ec s = ec := fun s hs => by unfold plC; rw [hs, decide_eq_false hlt, cond_false]
        rw [decide_eq_false hlt, cond_false] at h
        rw [hp1 (rP i o c) rfl, hp2 (rP i o c) rfl] at h
        rw [decide_eq_false hlt]
        rcases er3 e2 with h3 | h3 | h3
        · have hc : c = 0 := by rw [← e1, h3]; rfl
          subst hc; exact h
        · have hc : c = 11 := by rw [← e1, h3]; rfl
          subst hc; exact h
        · have hc : c = 12 := by rw [← e1, h3]; rfl
          subst hc; exact h
    · exact (run_no h).elim
  · cases h
theorem rexpr_run (m : Int) (s : ByteArray) (hz : s.size < 1000000) : runFn (h_expr_cf m) 0 Tryd.f21 (bd Tryd.f21) [vs s] [] fin2 = some (.tup [.agg ⟨exprN s, [], 4⟩, .w (.d (.int .i64 (exprL s))), .w (.d (.int .i64 (exprC s))), .w (.d (.int .i64 (exprE s)))], []) := by
  obtain ⟨h1, h2⟩ := lexP_toks s hz
  obtain ⟨g1, g2⟩ := rd0_good hz
  have g3 := end_good g1
  rw [h_expr_start, decide_eq_true hz, cond_true]
  unfold exprN exprL exprC exprE
  cases he : (lexP s).2.2.2 == 0 with
  | false =>
    have : ((lexP s).2.2.2 != 0) = true := by unfold bne; rw [he]; rfl
    rw [this, cond_true]; rfl
  | true =>
    have : ((lexP s).2.2.2 != 0) = false := by unfold bne; rw [he]; rfl
    have hr : rP 0 0 0 = (⟨0, 0, 0⟩ : PS) := rfl
    have e0 : unionA (lexP s).1 ⟨0, 0, 0⟩ = rd0 s := rfl
    rw [this, cond_false, hr, st_t (st0 h1 h2)]
    simp only [e0, Bool.true_and, cond_true]
    rw [rP_s g1.e2, st_t g1, okC_er, Bool.and_self, cond_true]
    have ew : endG (lexP s).1 (rd0 s).1 = endW s := rfl
    rw [ew]
    have e3 : (endW s).er ≤ 2 := g3.e2
    rw [take4 (x := List.take 4 ((rd0 s).2 ++ [])) (by rw [take4 g2]; exact g2), take4 g2]
    rcases er3 e3 with h | h | h <;> rw [h] <;> rfl
theorem rexpr_ok (m : Int) : SpecOk Tryd.prog (globG m) 21 rExprS := by
  intro a b v b' h
  unfold rExprS at h
  split at h
  · rename_i s
    rcases run_ite h with ⟨hl, hx⟩ | ⟨_, hx⟩ <;> clear h <;> have h := hx <;> clear hx
    · rw [decide_eq_true_eq] at hl
      obtain ⟨rfl, rfl⟩ := run_ret h
      exact specAtQ eqs_ok mix vti_ok Tryd.func21 rfl (by kernel_rfl) (.cons ((rlex_ok m).mono globG_T) (.cons (runion_all m 9) (.cons (rend_ok m) .nil))) 0 (rexpr_run m s hl)
    · exact (run_no h).elim
  · cases h
/-! Same -/
theorem tree_parts {n : Nat} {x : Nde} (h : tree n x = true) : ∃ (n' : Nat) (k : Int) (a b : ByteArray) (l : List (List C)), n = n' + 1 ∧ x = ndC k a b l ∧ l.all (tree n') = true ∧ l.length < 2000000 := by
  unfold tree at h
  split at h
  · cases h
  · rename_i n' k a b l
    rw [Bool.and_eq_true, decide_eq_true_eq] at h
    exact ⟨n', k, a, b, l, rfl, rfl, h.1, h.2⟩
  · cases h
theorem eqN_refl (x : Nde) : eqN x x = true := by unfold eqN; simp
theorem same_loop {R : Type} (m : Int) (N : Nat) (k : V → Bx → Option R) (F : Nat) (ka : Int) (a b : ByteArray) (l : List (List C)) (hl : l.all (tree N) = true) (hlen : l.length < 2000000) : ∀ (n i : Nat), i ≤ l.length → l.length - i < n →
    h_same_L0 m N (h_same_K0 m N k F) F n l ka a b l ka a b l (i : Int) = k (vb true) [] := by
  intro n
  induction n with
  | zero => intro i h h1; omega
  | succ n ih =>
    intro i h h1
    rw [h_same_r0]
    by_cases hi : i < l.length
    · have hx := List.all_eq_true.1 hl l[i] (List.getElem_mem hi)
      have hg : l[i]? = some l[i] := List.getElem?_eq_getElem hi
      obtain ⟨n', k', a', b', l', hN, he, _⟩ := tree_parts hx
      rw [he] at hg hx
      rw [decide_eq_true (by omega), cond_true, decide_eq_true (by omega), cond_true, getT_at rfl hg]
      have e1 : List.take 4 (ndC k' a' b' l') = ndC k' a' b' l' := rfl
      have e3 : ((ndC k' a' b' l').length == 4) = true := rfl
      have e4 : shOk [Sh.int IntKind.i64, Sh.str, Sh.str, Sh.sl 4] (ndC k' a' b' l') = true := rfl
      rw [e1, e3, cond_true, e4, cond_true, cond_true, getT_at rfl hg, e1, e3, cond_true, e4, cond_true]
      have e5 : (eqN (ndC k' a' b' l') (ndC k' a' b' l') && tree N (ndC k' a' b' l')) = true := by rw [eqN_refl, hx]; rfl
      refine Eq.trans (congrArg (fun c => bif c then _ else _) e5) ?_
      rw [cond_true, w64 _ (by omega) (by omega)]
      exact ih (i + 1) (by omega) (by omega)
    · have : i = l.length := by omega
      subst this
      rw [decide_eq_false (by omega), cond_false, h_same_c1]
theorem same_ok (m : Int) : ∀ N, SpecOk Tryd.prog (globG m) 22 (sameS N) := by
  intro N
  induction N with
  | zero =>
    intro a b v b' h
    unfold sameS at h
    split at h
    · rename_i x y
      rcases run_ite h with ⟨hl, hx⟩ | ⟨_, hx⟩
      · rw [Bool.and_eq_true] at hl
        obtain ⟨n', _, _, _, _, hn, _⟩ := tree_parts hl.2
        omega
      · exact (run_no hx).elim
    · cases h
  | succ N ih =>
    intro a b v b' h
    unfold sameS at h
    split at h
    · rename_i x y
      rcases run_ite h with ⟨hl, hx⟩ | ⟨_, hx⟩ <;> clear h <;> have h := hx <;> clear hx
      · rw [Bool.and_eq_true] at hl
        obtain ⟨he, ht⟩ := hl
        have he : x = y := by unfold eqN at he; simpa using he
        subst he
        obtain ⟨n', k, a, b, l, hn, rfl, h1, h2⟩ := tree_parts ht
        obtain rfl : n' = N := by omega
        obtain ⟨rfl, rfl⟩ := run_ret h
        refine specAtQ eqs_ok mix vti_ok Tryd.func22 rfl (by kernel_rfl) (.cons ih .nil) (l.length + 1) (Eq.trans (h_same_start m n' fin2 _ k k a b a b l l) ?_)
        have b1 : (k != k) = false := by simp
        have b2 : (a.toList == a.toList) = true := by simp
        have b3 : (b.toList == b.toList) = true := by simp
        have b4 : ((l.length : Int) != (l.length : Int)) = false := by simp
        rw [b1, cond_false, b2, b3, Bool.not_true, cond_false, cond_false, b4, cond_false]
        exact same_loop m n' fin2 _ k a b l h1 h2 (l.length + 1) 0 (by omega) (by omega)
      · exact (run_no h).elim
    · cases h
/-! names -/
theorem name_loop {R : Type} (m : Int) (k : V → Bx → Option R) (F : Nat) (s : ByteArray) (hz : s.size < 1000000) : ∀ (n i : Nat), 1 ≤ i → i ≤ s.size → s.size - i < n →
    h_name_L0 m (h_name_K0 m k F) F n s (i : Int) = k (vb ((s.data.toList.drop i).all prtB && decide (s.size ≤ 16))) [] := by
  intro n
  induction n with
  | zero => intro i h0 h h1; omega
  | succ n ih =>
    intro i h0 h h1
    rw [h_name_r0]
    have hsz : s.data.toList.length = s.size := rfl
    by_cases hi : i < s.size
    · have hi' : i < s.data.toList.length := by omega
      have hg : s.data.toList[i]? = some s.data.toList[i] := List.getElem?_eq_getElem hi'
      have hd : s.data.toList.drop i = s.data.toList[i] :: s.data.toList.drop (i + 1) := List.drop_eq_getElem_cons hi'
      generalize s.data.toList[i] = c at hg hd
      have hrec := ih (i + 1) (by omega) (by omega) (by omega)
      have hw : IntKind.i64.wrap ((i : Int) + 1) = ((i + 1 : Nat) : Int) := by rw [w64 _ (by omega) (by omega)]; push_cast; rfl
      have hi0 : ((i : Int) == 0) = false := by rw [beq_eq_false_iff_ne]; omega
      rw [decide_eq_true (by omega), cond_true, decide_eq_true (by omega), cond_true, getT_at rfl hg, hi0, hw, hrec, h_name_c1, hd, List.all_cons]
      simp only [cond_false]
      unfold prtB lowB
      by_cases c1 : c.toNat < 97
      · rw [decide_eq_true (show ((c.toNat : Int) < 97) by omega), cond_true, decide_eq_false (show ¬ 97 ≤ c.toNat by omega)]
        by_cases c2 : c.toNat < 48
        · rw [decide_eq_true (show ((c.toNat : Int) < 48) by omega), cond_true, decide_eq_false (show ¬ 48 ≤ c.toNat by omega)]
          by_cases c3 : c.toNat = 95
          · omega
          · have : ((c.toNat : Int) != 95) = true := by simp only [bne_iff_ne, ne_eq]; omega
            rw [this, cond_true, decide_eq_false c3]; rfl
        · rw [decide_eq_false (show ¬ ((c.toNat : Int) < 48) by omega), cond_false, decide_eq_true (show 48 ≤ c.toNat by omega)]
          by_cases c4 : c.toNat > 57
          · rw [decide_eq_true (show ((c.toNat : Int) > 57) by omega), cond_true, decide_eq_false (show ¬ c.toNat ≤ 57 by omega)]
            by_cases c3 : c.toNat = 95
            · have : ((c.toNat : Int) != 95) = false := by simp only [bne_eq_false_iff_eq]; omega
              rw [this, cond_false, decide_eq_true c3]; rfl
            · have : ((c.toNat : Int) != 95) = true := by simp only [bne_iff_ne, ne_eq]; omega
              rw [this, cond_true, decide_eq_false c3]; rfl
          · rw [decide_eq_false (show ¬ ((c.toNat : Int) > 57) by omega), cond_false, decide_eq_true (show c.toNat ≤ 57 by omega)]; rfl
      · rw [decide_eq_false (show ¬ ((c.toNat : Int) < 97) by omega), cond_false, decide_eq_true (show 97 ≤ c.toNat by omega)]
        by_cases c5 : c.toNat > 122
        · rw [decide_eq_true (show ((c.toNat : Int) > 122) by omega), cond_true, decide_eq_false (show ¬ ((c.toNat : Int) < 48) by omega), cond_false, decide_eq_true (show ((c.toNat : Int) > 57) by omega), cond_true, decide_eq_false (show ¬ c.toNat ≤ 122 by omega), decide_eq_false (show ¬ c.toNat ≤ 57 by omega)]
          have : ((c.toNat : Int) != 95) = true := by simp only [bne_iff_ne, ne_eq]; omega
          rw [this, cond_true, decide_eq_false (show ¬ c.toNat = 95 by omega), Bool.and_false, Bool.and_false]; rfl
        · rw [decide_eq_false (show ¬ ((c.toNat : Int) > 122) by omega), cond_false, decide_eq_true (show c.toNat ≤ 122 by omega)]; rfl
    · have : i = s.size := by omega
      subst this
      rw [decide_eq_false (by omega), cond_false, h_name_c2, decide_eq_true (by omega), cond_true, List.drop_of_length_le (by omega)]
      have : decide ((s.size : Int) ≤ 16) = decide (s.size ≤ 16) := by
        by_cases h16 : s.size ≤ 16
        · rw [decide_eq_true h16, decide_eq_true (by omega)]
        · rw [decide_eq_false h16, decide_eq_false (by omega)]
      rw [this]; rfl
theorem name_ok (m : Int) : SpecOk Tryd.prog (globG m) 53 nameS := by
  intro a b v b' h
  unfold nameS at h
  split at h
  · rename_i s
    rcases run_ite h with ⟨hl, hx⟩ | ⟨_, hx⟩ <;> clear h <;> have h := hx <;> clear hx
    · rw [decide_eq_true_eq] at hl
      obtain ⟨rfl, rfl⟩ := run_ret h
      refine specAtQ eqs_ok mix vti_ok Tryd.func53 rfl (by kernel_rfl) .nil (s.size + 1) (Eq.trans (h_name_start m fin2 _ s) ?_)
      rw [h_name_r0]
      have hsz : s.data.toList.length = s.size := rfl
      cases hs : s.data.toList with
      | nil =>
        rw [hs] at hsz
        have h0 : s.size = 0 := hsz.symm
        rw [decide_eq_false (by omega), cond_false, h_name_c2, decide_eq_false (by omega)]; rfl
      | cons c r =>
        rw [hs] at hsz
        simp only [List.length_cons] at hsz
        have hg : s.data.toList[0]? = some c := by rw [hs]; rfl
        try rw [← hs]
        have hw : IntKind.i64.wrap ((0 : Int) + 1) = ((1 : Nat) : Int) := rfl
        have hrec := name_loop m fin2 (s.size + 1) s hl (s.size) 1 (by omega) (by omega) (by omega)
        rw [decide_eq_true (by omega), cond_true, decide_eq_true (by omega), cond_true, show Int.toNat 0 = 0 from rfl, getT_some hg, h_name_c1, hw, hrec, hs]
        have b0 : ((0 : Int) == 0) = true := rfl
        have hr16 : decide (r.length < 16) = decide (s.size ≤ 16) := by
          by_cases h16 : s.size ≤ 16
          · rw [decide_eq_true h16, decide_eq_true (by omega)]
          · rw [decide_eq_false h16, decide_eq_false (by omega)]
        rw [b0]
        simp only [cond_true]
        show _ = fin2 (vb (lowB c && r.all prtB && decide (r.length < 16))) []
        rw [hr16]
        unfold lowB
        by_cases c1 : c.toNat < 97
        · rw [decide_eq_true (show ((c.toNat : Int) < 97) by omega), cond_true, decide_eq_false (show ¬ 97 ≤ c.toNat by omega)]; rfl
        · rw [decide_eq_false (show ¬ ((c.toNat : Int) < 97) by omega), cond_false, decide_eq_true (show 97 ≤ c.toNat by omega)]
          by_cases c5 : c.toNat > 122
          · rw [decide_eq_true (show ((c.toNat : Int) > 122) by omega), cond_true, decide_eq_false (show ¬ c.toNat ≤ 122 by omega)]; rfl
          · rw [decide_eq_false (show ¬ ((c.toNat : Int) > 122) by omega), cond_false, decide_eq_true (show c.toNat ≤ 122 by omega)]; rfl
    · exact (run_no h).elim
  · cases h
theorem word_okB (m : Int) : SpecOk Tryd.prog (globG m) 28 wordBS := by
  intro a b v b' h
  unfold wordBS at h
  split at h
  · rename_i s
    rcases run_ite h with ⟨hl, hx⟩ | ⟨_, hx⟩ <;> clear h <;> have h := hx <;> clear hx
    · refine specAtQ eqs_ok mix vti_ok Tryd.func28 rfl (by kernel_rfl) (.cons (name_ok m) .nil) 0 (Eq.trans (h_word_start m fin2 _ s) ?_)
      rw [hl, cond_true]
      unfold wordB bType bRel bThis at h
      cases h1 : nameB s.data.toList <;> cases h2 : (s.toList == (ByteArray.mk #[116, 121, 112, 101]).toList) <;> cases h3 : (s.toList == (ByteArray.mk #[114, 101, 108]).toList) <;> rw [h1, h2, h3] at h <;> exact h
    · exact (run_no h).elim
  · cases h
/-! Good -/
theorem goodT_parts {n : Nat} {x : Nde} (h : goodT n x = true) : ∃ (n' : Nat) (k : Int) (a b : ByteArray) (l : List (List C)), n = n' + 1 ∧ x = ndC k a b l ∧ l.all (goodT n') = true ∧ l.length < 2000000 ∧ a.size < 1000000 ∧ b.size < 1000000 ∧
      (bif k == 1 then (a.toList == bNo.toList) && (b.toList == bNo.toList) && (l.length == 0)
       else bif k == 2 then wordB a && (b.toList == bNo.toList) && (l.length == 0)
       else bif k == 3 then wordB a && wordB b && (l.length == 0)
       else bif k == 4 || k == 5 then (a.toList == bNo.toList) && (b.toList == bNo.toList) && Nat.ble 2 l.length
       else bif k == 6 then (a.toList == bNo.toList) && (b.toList == bNo.toList) && (l.length == 2)
       else false) = true := by
  unfold goodT at h
  split at h
  · cases h
  · rename_i n' k a b l
    rw [Bool.and_eq_true, Bool.and_eq_true, Bool.and_eq_true, Bool.and_eq_true, decide_eq_true_eq, decide_eq_true_eq, decide_eq_true_eq] at h
    exact ⟨n', k, a, b, l, rfl, rfl, h.1.1.1.1, h.1.1.1.2, h.1.1.2, h.1.2, h.2⟩
  · cases h
theorem good_end {R : Type} (m : Int) (N : Nat) (k : V → Bx → Option R) (F : Nat) (ka : Int) (a b : ByteArray) (l : List (List C)) (ha : a.size < 1000000) (hb : b.size < 1000000)
    (h : (bif ka == 1 then (a.toList == bNo.toList) && (b.toList == bNo.toList) && (l.length == 0)
       else bif ka == 2 then wordB a && (b.toList == bNo.toList) && (l.length == 0)
       else bif ka == 3 then wordB a && wordB b && (l.length == 0)
       else bif ka == 4 || ka == 5 then (a.toList == bNo.toList) && (b.toList == bNo.toList) && Nat.ble 2 l.length
       else bif ka == 6 then (a.toList == bNo.toList) && (b.toList == bNo.toList) && (l.length == 2)
       else false) = true) : h_good_K0 m N k F (.ex 0) (h_good_E1 ka a b l) = k (vb true) [] := by
  have en : (ByteArray.mk #[]).toList = bNo.toList := rfl
  rw [h_good_c1, en, decide_eq_true ha, decide_eq_true hb]
  simp only [cond_true]
  cases k1 : ka == 1 with
  | true =>
    rw [k1, cond_true, Bool.and_eq_true, Bool.and_eq_true] at h
    have : ((l.length : Int) == 0) = true := by have := h.2; rw [beq_iff_eq] at this ⊢; omega
    rw [cond_true, h.1.1, cond_true, h.1.2, cond_true, this]
  | false =>
  rw [k1, cond_false] at h
  rw [cond_false]
  cases k2 : ka == 2 with
  | true =>
    rw [k2, cond_true, Bool.and_eq_true, Bool.and_eq_true] at h
    have : ((l.length : Int) == 0) = true := by have := h.2; rw [beq_iff_eq] at this ⊢; omega
    rw [cond_true, h.1.1, cond_true, h.1.2, cond_true, this]
  | false =>
  rw [k2, cond_false] at h
  rw [cond_false]
  cases k3 : ka == 3 with
  | true =>
    rw [k3, cond_true, Bool.and_eq_true, Bool.and_eq_true] at h
    have : ((l.length : Int) == 0) = true := by have := h.2; rw [beq_iff_eq] at this ⊢; omega
    rw [cond_true, h.1.1, cond_true, h.1.2, cond_true, this]
  | false =>
  rw [k3, cond_false] at h
  rw [cond_false]
  cases k4 : ka == 4 with
  | true =>
    rw [k4, Bool.true_or, cond_true, Bool.and_eq_true, Bool.and_eq_true] at h
    have : decide ((l.length : Int) ≥ 2) = true := by have := h.2; rw [Nat.ble_eq] at this; simp only [decide_eq_true_eq]; omega
    rw [cond_true, cond_true, h.1.1, cond_true, h.1.2, cond_true, this]
  | false =>
  rw [cond_false]
  cases k5 : ka == 5 with
  | true =>
    rw [k4, k5, Bool.or_true, cond_true, Bool.and_eq_true, Bool.and_eq_true] at h
    have : decide ((l.length : Int) ≥ 2) = true := by have := h.2; rw [Nat.ble_eq] at this; simp only [decide_eq_true_eq]; omega
    rw [cond_true, h.1.1, cond_true, h.1.2, cond_true, this]
  | false =>
  rw [k4, k5, Bool.or_self, cond_false] at h
  rw [cond_false]
  cases k6 : ka == 6 with
  | true =>
    rw [k6, cond_true, Bool.and_eq_true, Bool.and_eq_true] at h
    have : ((l.length : Int) == 2) = true := by have := h.2; rw [beq_iff_eq] at this ⊢; omega
    rw [cond_true, h.1.1, cond_true, h.1.2, cond_true, this]
  | false => rw [k6] at h; cases h
theorem good_loop {R : Type} (m : Int) (N : Nat) (k : V → Bx → Option R) (F : Nat) (ka : Int) (a b : ByteArray) (l : List (List C)) (hl : l.all (goodT N) = true) (hlen : l.length < 2000000) : ∀ (n i : Nat), i ≤ l.length → l.length - i < n →
    h_good_L0 m N (h_good_K0 m N k F) F n l ka a b l (i : Int) = h_good_K0 m N k F (.ex 0) (h_good_E1 ka a b l) := by
  intro n
  induction n with
  | zero => intro i h h1; omega
  | succ n ih =>
    intro i h h1
    rw [h_good_r0]
    by_cases hi : i < l.length
    · have hx := List.all_eq_true.1 hl l[i] (List.getElem_mem hi)
      have hg : l[i]? = some l[i] := List.getElem?_eq_getElem hi
      obtain ⟨n', k', a', b', l', hN, he, _⟩ := goodT_parts hx
      rw [he] at hg hx
      rw [decide_eq_true (by omega), cond_true, decide_eq_true (by omega), cond_true, getT_at rfl hg]
      have e1 : List.take 4 (ndC k' a' b' l') = ndC k' a' b' l' := rfl
      have e3 : ((ndC k' a' b' l').length == 4) = true := rfl
      have e4 : shOk [Sh.int IntKind.i64, Sh.str, Sh.str, Sh.sl 4] (ndC k' a' b' l') = true := rfl
      rw [e1, e3, cond_true, e4, cond_true]
      refine Eq.trans (congrArg (fun c => bif c then _ else _) hx) ?_
      rw [cond_true, w64 _ (by omega) (by omega)]
      exact ih (i + 1) (by omega) (by omega)
    · have : i = l.length := by omega
      subst this
      rw [decide_eq_false (by omega), cond_false]
theorem good_ok (m : Int) : ∀ N, SpecOk Tryd.prog (globG m) 23 (goodS N) := by
  intro N
  induction N with
  | zero =>
    intro a b v b' h
    unfold goodS at h
    split at h
    · rename_i x
      rcases run_ite h with ⟨hl, hx⟩ | ⟨_, hx⟩
      · obtain ⟨n', _, _, _, _, hn, _⟩ := goodT_parts hl
        omega
      · exact (run_no hx).elim
    · cases h
  | succ N ih =>
    intro a b v b' h
    unfold goodS at h
    split at h
    · rename_i x
      rcases run_ite h with ⟨hl, hx⟩ | ⟨_, hx⟩ <;> clear h <;> have h := hx <;> clear hx
      · obtain ⟨n', k, a, b, l, hn, rfl, h1, h2, h3, h4, h5⟩ := goodT_parts hl
        obtain rfl : n' = N := by omega
        obtain ⟨rfl, rfl⟩ := run_ret h
        refine specAtQ eqs_ok mix vti_ok Tryd.func23 rfl (by kernel_rfl) (.cons ih (.cons (word_okB m) .nil)) (l.length + 1) (Eq.trans (h_good_start m n' fin2 _ k a b l) ?_)
        rw [show (0 : Int) = ((0 : Nat) : Int) from rfl, good_loop m n' fin2 _ k a b l h1 h2 (l.length + 1) 0 (by omega) (by omega), good_end m n' fin2 _ k a b l h3 h4 h5]
      · exact (run_no h).elim
    · cases h
end Go.Proofs.YtniiimpcakmkbaaDoor
