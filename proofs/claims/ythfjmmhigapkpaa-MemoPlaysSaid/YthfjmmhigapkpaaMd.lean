/- memo: DeleteFunc, tidy, Delete, Put, Drop, last, Equal answer by their trees -/
import Derived.Test.YthfjmmhigapkpaaMc
import Derived.Test.YthfjmmhigapkpaaMv
set_option linter.unusedVariables false
namespace Go.Proofs.Ythfjmmhigapkpaa
open Go Vm
/-! DeleteFunc -/
theorem badAt_none {es : Ents} : ∀ (l : Row) (i : Nat), (badAt es l i == -1) = l.all (cntE es) := by
  intro l
  induction l with
  | nil => intro i; rfl
  | cons e r ih =>
    intro i
    unfold badAt
    rw [List.all_cons]
    cases cntE es e with
    | true => rw [cond_true, Bool.true_and]; exact ih (i + 1)
    | false => rw [cond_false, Bool.false_and]; simp
theorem badAt_at {es : Ents} : ∀ (l : Row) (i : Nat), badAt es l i ≠ -1 → ∃ j : Nat, badAt es l i = ((i + j : Nat) : Int) ∧ j < l.length ∧ (l.take (j + 1)).filter (cntE es) = l.take j := by
  intro l
  induction l with
  | nil => intro i h; exact (h rfl).elim
  | cons e r ih =>
    intro i h
    unfold badAt at h ⊢
    cases hc : cntE es e with
    | true =>
      rw [hc, cond_true] at h
      rw [cond_true]
      obtain ⟨j, h1, h2, h3⟩ := ih (i + 1) h
      refine ⟨j + 1, by rw [h1]; congr 1; omega, by simp; omega, ?_⟩
      rw [List.take_succ_cons, List.filter_cons, hc, if_pos rfl, h3, List.take_succ_cons]
    | false =>
      rw [cond_false]
      exact ⟨0, by simp, by simp, by simp [hc]⟩
theorem filter_take_succ {es : Ents} {l : Row} {i : Nat} {e : List C} (h : l[i]? = some e) : (l.take (i + 1)).filter (cntE es) = (l.take i).filter (cntE es) ++ (bif cntE es e then [e] else []) := by
  rw [List.take_add_one, h, List.filter_append]
  cases hc : cntE es e <;> simp [hc]
theorem delF_loop {R : Type} (K : X → St → Option R) (F : Nat) (es : Ents) (ord : Row) (room clock : Int) (ho : OkM es ord) : ∀ (n i j : Nat) (ord2 : Row), i ≤ ord.length → ord.length - i < n → j ≤ i → ord2.length = ord.length → (∀ e ∈ ord2, oeOk e = true) → ord2.drop i = ord.drop i → ord2.take j = (ord.take i).filter (cntE es) →
    ∃ ord3, ord3.length = ord.length ∧ ord3.take (ord.filter (cntE es)).length = ord.filter (cntE es) ∧ m_delF_L0 K F n es i ord2 room clock j = K (.ex 0) (m_delF_E1 es ord3 room clock (ord.filter (cntE es)).length) := by
  intro n
  induction n with
  | zero => intro i j ord2 hi h; omega
  | succ n ih =>
    intro i j ord2 hi hn hj hl hoe hd ht
    have hol := ho.ol
    rw [m_delF_r0]
    have hok2 : okM es ord2 = true := okM_iff.2 ⟨ho.eo, hoe, by omega, ho.el⟩
    by_cases hlt : i < ord.length
    · have hget0 : ord[i]? = some ord[i] := List.getElem?_eq_getElem hlt
      have he := oeOk_parts (ho.oo _ (List.getElem_mem hlt))
      have hget : ord2[i]? = some ord[i] := by
        have h1 : (ord2.drop i)[0]? = (ord.drop i)[0]? := by rw [hd]
        rw [List.getElem?_drop, List.getElem?_drop, Nat.add_zero, hget0] at h1; exact h1
      have hf := filter_take_succ (es := es) hget0
      have heo := ho.oo _ (List.getElem_mem hlt)
      generalize ord[i] = e at hget he hf hget0 heo
      have hd1 : ord2.drop (i + 1) = ord.drop (i + 1) := by
        rw [drop_cons hget, drop_cons hget0] at hd; exact (List.cons.inj hd).2
      have hget' := hget
      rw [he] at hget
      have d1 : decide ((i : Int) < (ord2.length : Int)) = true := by rw [hl]; simpa using hlt
      have d2 : decide ((0 : Int) ≤ (i : Int)) = true := by simp
      have d3 : decide ((0 : Int) ≤ (j : Int)) = true := by simp
      have hjl : j < ord2.length := by omega
      have hgj : ord2[j]? = some ord2[j] := List.getElem?_eq_getElem hjl
      have hej := oeOk_parts (hoe _ (List.getElem_mem hjl))
      generalize ord2[j] = z at hgj hej
      have hz2 : z.drop 2 = [] := by rw [hej]; rfl
      rw [d1, cond_true, d2, cond_true, getT_at rfl hget, getT_at rfl hget, hok2, w64 _ (by omega) (by omega)]
      change ∃ ord3, _ ∧ _ ∧ (bif !!cntB es (kO e) (wO e) then _ else _) = _
      have hce : cntE es e = cntB es (kO e) (wO e) := rfl
      rw [← hce, Bool.not_not]
      cases hc : cntE es e with
      | true =>
        rw [cond_true, d3, cond_true, getT_at rfl hgj, getT_at rfl hgj, hz2, w64 _ (by omega) (by omega), getD1]
        rw [hc, cond_true] at hf
        have hset : (C.str ((List.take 2 [C.str (kO e), C.int IntKind.i64 (wO e)]).getD 0 C.nf).toStr :: C.int IntKind.i64 ((List.take 2 [C.str (kO e), C.int IntKind.i64 (wO e)]).getD 1 C.nf).toInt :: []) = e := he.symm
        rw [hset]
        refine ih (i + 1) (j + 1) (ord2.set j e) (by omega) (by omega) (by omega) (by rw [List.length_set]; exact hl) ?_ ?_ ?_
        · intro x hx
          rcases List.mem_or_eq_of_mem_set hx with h1 | h1
          · exact hoe x h1
          · rw [h1]; exact heo
        · rw [List.drop_set_of_lt (by omega)]; exact hd1
        · rw [hf, ← ht, List.take_add_one, List.take_set_of_le (Nat.le_refl j), List.getElem?_set_self hjl]; rfl
      | false =>
        rw [cond_false]
        rw [hc, cond_false, List.append_nil] at hf
        exact ih (i + 1) j ord2 (by omega) (by omega) (by omega) hl hoe hd1 (by rw [hf]; exact ht)
    · have : i = ord.length := by omega
      subst this
      have d1 : decide ((ord.length : Int) < (ord2.length : Int)) = false := by rw [hl]; simp
      rw [d1, cond_false]
      rw [List.take_length] at ht
      have hj2 : j = (ord.filter (cntE es)).length := by rw [← ht, List.length_take]; omega
      exact ⟨ord2, hl, by rw [← hj2]; exact ht, by rw [← hj2]⟩
theorem tabM3_ok : TabS Try.prog (fun _ => none) [(21, tid1S), (23, indexS)] := .cons tid1_ok (.cons index_ok .nil)
theorem delF_ok : SpecOk Try.prog (fun _ => none) 20 delFS := by
  intro a b v b' h
  unfold delFS at h
  split at h
  · obtain ⟨room, clock, es, ord, rfl, ho, h⟩ := onRow_run h
    have hok := okM_iff.1 ho
    have hol := hok.ol
    refine specAtD mix vti_ok Try.func20 rfl (by kernel_rfl) tabM3_ok (ord.length + 1) ((m_delF_start _ _ _ _ _ _).trans ?_)
    rw [ho, cond_true, badAt_none]
    rcases run_ite h with ⟨h1, h⟩ | ⟨h1, h⟩
    · rw [h1]; exact h
    · rw [h1, cond_false]
      have hb : badAt es ord 0 ≠ -1 := fun he => by rw [← badAt_none ord 0, he] at h1; cases h1
      obtain ⟨j, hj, hjl, hjf⟩ := badAt_at ord 0 hb
      rw [Nat.zero_add] at hj
      rw [hj, w64 _ (by omega) (by omega)]
      obtain ⟨ord3, h3l, h3t, h3⟩ := delF_loop (m_delF_K0 fin2 (ord.length + 1)) (ord.length + 1) es ord room clock hok (ord.length + 1) (j + 1) j ord (by omega) (by omega) (by omega) rfl hok.oo rfl hjf.symm
      refine h3.trans ?_
      rw [m_delF_c1]
      have hfl : (ord.filter (cntE es)).length ≤ ord.length := List.length_filter_le _ _
      generalize (ord.filter (cntE es)) = fl at *
      have hne : 0 < ord3.length := by omega
      have e1 : List.take (0 + ((fl.length : Int)).toNat - 0) (List.take (0 + ((fl.length : Int)).toNat) ord3 ++ List.replicate (0 + (↑(ord3.length - 0) : Int).toNat - (0 + ((fl.length : Int)).toNat)) [C.str ByteArray.empty, C.int IntKind.i64 0] ++ List.drop (0 + (↑(ord3.length - 0) : Int).toNat) ord3) = fl := by
        rw [Nat.zero_add, Nat.sub_zero, getD1, List.append_assoc, List.take_append_of_le_length (by rw [List.length_take]; omega), List.take_take, Nat.min_self]; exact h3t
      have e2 : (List.take (0 + ((fl.length : Int)).toNat) ord3 ++ List.replicate (0 + (↑(ord3.length - 0) : Int).toNat - (0 + ((fl.length : Int)).toNat)) [C.str ByteArray.empty, C.int IntKind.i64 0] ++ List.drop (0 + (↑(ord3.length - 0) : Int).toNat) ord3).length = ord3.length := by
        simp only [List.length_append, List.length_take, List.length_replicate, List.length_drop]; omega
      rw [e1]
      rw [e2]
      have d1 : decide ((0 : Int) ≤ (fl.length : Int) ∧ (fl.length : Int) ≤ (↑(ord3.length - 0) : Int) ∧ (↑(ord3.length - 0) : Int) ≤ (↑(ord3.length - 0) : Int) ∧ (↑(ord3.length - 0) : Int) ≤ (↑(ord3.length - 0) : Int)) = true := by simp only [decide_eq_true_eq]; omega
      have d2 : decide (0 + ((fl.length : Int)).toNat ≤ 0 + (↑(ord3.length - 0) : Int).toNat ∧ 0 + (↑(ord3.length - 0) : Int).toNat ≤ 0 + (↑(ord3.length - 0) : Int).toNat ∧ 0 + (↑(ord3.length - 0) : Int).toNat ≤ ord3.length ∧ 0 < ord3.length) = true := by simp only [decide_eq_true_eq]; omega
      have d3 : decide ((0 : Int) ≤ 0 ∧ (0 : Int) ≤ (fl.length : Int) ∧ (fl.length : Int) ≤ (↑(ord3.length - 0) : Int) ∧ (↑(ord3.length - 0) : Int) ≤ (↑(ord3.length - 0) : Int)) = true := by simp only [decide_eq_true_eq]; omega
      rw [d1, cond_true, d2, cond_true, d3, cond_true]
      exact h
  · cases h
theorem tabM4_ok : TabS Try.prog (fun _ => none) [(20, delFS)] := .cons delF_ok .nil
theorem tidy_ok : SpecOk Try.prog (fun _ => none) 18 tidyS := by
  intro a b v b' h
  unfold tidyS at h
  split at h
  · obtain ⟨room, clock, es, ord, rfl, ho, h⟩ := onM_run h
    refine specAtD mix vti_ok Try.func18 rfl (by kernel_rfl) tabM4_ok 0 ((m_tidy_start _ _ _ _ _ _).trans ((dup_eq 1 _).trans ?_))
    rw [ho, cond_true]
    rcases run_ite h with ⟨h1, h⟩ | ⟨h1, h⟩
    · rw [h1]; exact h
    · rw [h1]; exact h
  · cases h
theorem erase_take {ord : Row} {i : Nat} (h : i < ord.length) : ord.take i ++ ord.drop (i + 1) = ord.eraseIdx i := (List.eraseIdx_eq_take_drop_succ ord i).symm
theorem delete_ok : SpecOk Try.prog (fun _ => none) 19 deleteS := by
  intro a b v b' h
  unfold deleteS at h
  split at h
  · rename_i i j ord
    rcases run_ite h with ⟨h1, hh⟩ | ⟨h1, hh⟩
    · rw [Bool.and_eq_true, decide_eq_true_eq, decide_eq_true_eq] at h1
      obtain ⟨⟨h0, hj, hjl⟩, hol⟩ := h1
      subst hj
      obtain ⟨m, rfl⟩ : ∃ m : Nat, i = m := ⟨i.toNat, by omega⟩
      refine specAtD mix vti_ok Try.func19 rfl (by kernel_rfl) (l := []) .nil 0 ((m_delete_start _ _ _ _ _).trans ?_)
      have hml : m < ord.length := by omega
      have hd : List.take (0 + (↑(ord.length - 0) : Int).toNat - (0 + ((m : Int) + 1).toNat)) (List.drop (0 + ((m : Int) + 1).toNat) ord) = ord.drop (m + 1) := by
        have : 0 + ((m : Int) + 1).toNat = m + 1 := by omega
        rw [this]; exact List.take_of_length_le (by simp)
      have hdl : (ord.drop (m + 1)).length = ord.length - (m + 1) := List.length_drop
      have hm : 0 + ((m : Int)).toNat = m := by simp
      simp only [hd, hm, hdl]
      have q1 : m + (ord.length - (m + 1)) = ord.length - 1 := by omega
      simp only [q1]
      have q2 : (↑(ord.length - 1 - 0) : Int).toNat = ord.length - 1 := by omega
      have q3 : 0 + (↑(ord.length - 1 - 0) : Int).toNat = ord.length - 1 := by omega
      have q4 : 0 + ((ord.length : Int)).toNat = ord.length := by omega
      simp only [q2, q4, Nat.zero_add]
      have ll : (List.take m ord ++ List.drop (m + 1) ord ++ List.drop (ord.length - 1) ord).length = ord.length := by
        simp only [List.length_append, List.length_take, List.length_drop]; omega
      have lt : List.take (ord.length - 1 - 0) (List.take (ord.length - 1) (List.take m ord ++ List.drop (m + 1) ord ++ List.drop (ord.length - 1) ord) ++ List.replicate (ord.length - (ord.length - 1)) [C.str ByteArray.empty, C.int IntKind.i64 0] ++ List.drop ord.length (List.take m ord ++ List.drop (m + 1) ord ++ List.drop (ord.length - 1) ord)) = ord.eraseIdx m := by
        rw [Nat.sub_zero, List.append_assoc, List.take_append_of_le_length (by rw [List.length_take, ll]; omega), List.take_take, Nat.min_self, List.take_append_of_le_length (by simp only [List.length_append, List.length_take, List.length_drop]; omega)]
        rw [List.take_of_length_le (by simp only [List.length_append, List.length_take, List.length_drop]; omega)]
        exact erase_take hml
      rw [lt, ll]
      have d1 : decide ((0 : Int) ≤ (m : Int) ∧ (m : Int) ≤ (m : Int) + 1 ∧ (m : Int) + 1 ≤ (ord.length : Int) ∧ (ord.length : Int) ≤ (↑(ord.length - 0) : Int)) = true := by simp only [decide_eq_true_eq]; omega
      have d2 : ((m : Int) == (m : Int) + 1) = false := by simp; omega
      have d3 : decide ((0 : Int) ≤ 0 ∧ (0 : Int) ≤ (m : Int) ∧ (m : Int) ≤ (↑(ord.length - 0) : Int) ∧ (↑(ord.length - 0) : Int) ≤ (↑(ord.length - 0) : Int)) = true := by simp only [decide_eq_true_eq]; omega
      have d4 : decide ((0 : Int) ≤ (m : Int) + 1 ∧ (m : Int) + 1 ≤ (↑(ord.length - 0) : Int) ∧ (↑(ord.length - 0) : Int) ≤ (↑(ord.length - 0) : Int) ∧ (↑(ord.length - 0) : Int) ≤ (↑(ord.length - 0) : Int)) = true := by simp only [decide_eq_true_eq]; omega
      rw [d1, cond_true, d2, cond_false, d3, cond_true, d4, cond_true]
      have q5 : (m : Int).toNat = m := by omega
      rw [q5] at hh
      rw [cond_eq_ite, if_pos (by simp only [decide_eq_true_eq]; omega), cond_eq_ite, if_pos (by simp only [decide_eq_true_eq]; omega), cond_eq_ite, if_pos (by simp only [decide_eq_true_eq]; omega)]
      exact hh
    · exact (run_no hh).elim
  · cases h

/-! Put -/
theorem put_get_ok {es : Ents} (h : ∀ e ∈ es, entOk e = true) (k : ByteArray) (y : Bool) (n : Int) : ∀ e ∈ mapPut [.str k] [.bool y, .int .i64 n] es, entOk e = true := by
  induction es with
  | nil => intro e he; simp [mapPut] at he; subst he; rfl
  | cons x r ih =>
    obtain ⟨a, v⟩ := x
    intro e he
    unfold mapPut at he
    cases hk : eqK [.str k] a with
    | true =>
      rw [hk, cond_true] at he
      rcases List.mem_cons.1 he with h1 | h1
      · subst h1; rfl
      · exact h e (List.mem_cons_of_mem _ h1)
    | false =>
      rw [hk, cond_false] at he
      rcases List.mem_cons.1 he with h1 | h1
      · subst h1; exact h _ List.mem_cons_self
      · exact ih (fun e he => h e (List.mem_cons_of_mem _ he)) e h1
theorem put_len (k : ByteArray) (v : List C) : ∀ (es : Ents), (mapPut [.str k] v es).length ≤ es.length + 1 := by
  intro es
  induction es with
  | nil => simp [mapPut]
  | cons x r ih =>
    obtain ⟨a, w⟩ := x
    unfold mapPut
    cases eqK [.str k] a with
    | true => simp
    | false => simp; omega
theorem del_mem {k : List C} : ∀ {es : Ents} {e : List C × List C}, e ∈ mapDel k es → e ∈ es := by
  intro es
  induction es with
  | nil => intro e h; cases h
  | cons x r ih =>
    obtain ⟨a, w⟩ := x
    intro e h
    unfold mapDel at h
    cases hk : eqK k a with
    | true => rw [hk] at h; exact List.mem_cons_of_mem _ h
    | false =>
      rw [hk, cond_false] at h
      rcases List.mem_cons.1 h with h1 | h1
      · subst h1; exact List.mem_cons_self
      · exact List.mem_cons_of_mem _ (ih h1)
theorem put_loop {R : Type} (K : X → St → Option R) (F : Nat) (v1 room : Int) : ∀ (n : Nat) (es : Ents) (ord : Row), (∀ e ∈ ord, oeOk e = true) → (evG room n es ord).1 = true →
    m_put_L0 K F n v1 es ord room = K (.ex 0) (m_put_E1 v1 (evG room n es ord).2.1 (evG room n es ord).2.2 room) := by
  intro n
  induction n with
  | zero => intro es ord ho h; cases h
  | succ n ih =>
    intro es ord ho h
    rw [m_put_r0]
    unfold evG at h ⊢
    cases hd : decide ((es.length : Int) > room) with
    | false => rfl
    | true =>
      rw [hd, cond_true] at h
      rw [cond_true, cond_true]
      cases ord with
      | nil => cases h
      | cons e r =>
        have he := oeOk_parts (ho e List.mem_cons_self)
        have hr : List.take (0 + (↑((e :: r).length - 0) : Int).toNat - 1) (List.drop 1 (e :: r)) = r := List.take_of_length_le (by simp)
        have d1 : decide ((0 : Int) ≤ 1 ∧ (1 : Int) ≤ (↑((e :: r).length - 0) : Int) ∧ (↑((e :: r).length - 0) : Int) ≤ (↑((e :: r).length - 0) : Int) ∧ (↑((e :: r).length - 0) : Int) ≤ (↑((e :: r).length - 0) : Int)) = true := by simp only [decide_eq_true_eq, List.length_cons]; omega
        rw [hr, d1]
        rw [getT_some (x := e) rfl, getT_some (x := e) rfl]
        rw [he]
        rw [he] at h
        exact ih _ r (fun e he => ho e (List.mem_cons_of_mem _ he)) h
theorem tabM5_ok : TabS Try.prog (fun _ => none) [(18, tidyS), (19, deleteS)] := .cons tidy_ok (.cons delete_ok .nil)
theorem put_ok : SpecOk Try.prog (fun _ => none) 7 (putS mfC) := by
  intro a b v b' h
  unfold putS at h
  split at h
  · rename_i k y
    obtain ⟨room, clock, es, ord, rfl, ho, hx⟩ := onMN_run h
    rcases run_ite hx with ⟨h1, hh⟩ | ⟨h1, hh⟩
    · simp only [mfC, Bool.and_eq_true, decide_eq_true_eq] at h1
      obtain ⟨hc, hp, hl1, hl2⟩ := h1
      have hok := okM_iff.1 ho
      refine specAtD mix vti_ok Try.func7 rfl (by kernel_rfl) tabM5_ok ((put1O es ord clock k y).length + 1) ((m_put_start _ _ _ _ _ _ _ _).trans ?_)
      have hes : ∀ e ∈ put1E es clock k y, entOk e = true := put_get_ok hok.eo k y _
      have hel : (put1E es clock k y).length ≤ es.length + 1 := put_len k _ es
      have hor : ∀ e ∈ (ord ++ ([[.str k, .int .i64 (clock + 1)]] : Row)), oeOk e = true := by
        intro e he
        rcases List.mem_append.1 he with h2 | h2
        · exact hok.oo e h2
        · simp at h2; subst h2; rfl
      have hok1 : okM (put1E es clock k y) (ord ++ ([[.str k, .int .i64 (clock + 1)]] : Row)) = true := okM_iff.2 ⟨hes, hor, by simp; omega, by omega⟩
      have hor2 : ∀ e ∈ put1O es ord clock k y, oeOk e = true := fun e he => hor e (List.mem_filter.1 he).1
      have hlen : decide ((ord.length + 1) * 24 ≤ 140737488355328 ∧ ord.length + 1 ≤ 9223372036854775807) = true := by simp only [decide_eq_true_eq]; omega
      rw [hlen, cond_true, w64 _ (by omega) (by omega)]
      have e1 : mapPut [C.str k] [C.bool y, C.int IntKind.i64 (clock + 1)] es = put1E es clock k y := rfl
      rw [e1, hok1, cond_true]
      have e2 : List.filter (cntE (put1E es clock k y)) (ord ++ ([[.str k, .int .i64 (clock + 1)]] : Row)) = put1O es ord clock k y := rfl
      rw [e2]
      have hsame : ∀ {α : Type} (f : Row → α), (bif (ord ++ ([[.str k, .int .i64 (clock + 1)]] : Row)).all (cntE (put1E es clock k y)) then f (ord ++ ([[.str k, .int .i64 (clock + 1)]] : Row)) else f (put1O es ord clock k y)) = f (put1O es ord clock k y) := by
        intro α f
        cases hall : (ord ++ ([[.str k, .int .i64 (clock + 1)]] : Row)).all (cntE (put1E es clock k y)) with
        | false => rfl
        | true =>
          have : put1O es ord clock k y = ord ++ ([[.str k, .int .i64 (clock + 1)]] : Row) := List.filter_eq_self.2 (fun e he => List.all_eq_true.1 hall e he)
          rw [cond_true, this]
      refine (hsame (fun o => m_put_L0 (m_put_K0 fin2 ((put1O es ord clock k y).length + 1)) ((put1O es ord clock k y).length + 1) ((put1O es ord clock k y).length + 1) (clock + 1) (put1E es clock k y) o room)).trans ?_
      rw [put_loop _ _ _ _ _ _ _ hor2 hp, m_put_c1]
      exact hh
    · exact (run_no hh).elim
  · cases h
theorem wrapU (n : Int) : IntKind.u64.wrap n = n % 18446744073709551616 := by
  unfold IntKind.wrap; simp [IntKind.bits, IntKind.signed]
theorem drop_ok : SpecOk Try.prog (fun _ => none) 8 (dropS mfC) := by
  intro a b v b' h
  unfold dropS at h
  split at h
  · rename_i i
    obtain ⟨room, clock, es, ord, rfl, ho, hx⟩ := onMN_run h
    have hok := okM_iff.1 ho
    have hol := hok.ol
    refine specAtD mix vti_ok Try.func8 rfl (by kernel_rfl) tabM5_ok 0 ((m_drop_start _ _ _ _ _ _ _).trans ?_)
    rcases run_ite hx with ⟨h1, hh⟩ | ⟨h1, hh⟩
    · have : ord = [] := List.isEmpty_iff.1 h1
      subst this; exact hh
    · have hne : 0 < ord.length := by
        cases ord with
        | nil => cases h1
        | cons e r => simp
      have d1 : ((ord.length : Int) == 0) = false := beq_eq_false_iff_ne.2 (by omega)
      have hw : IntKind.u64.wrap (ord.length : Int) = ord.length := by rw [wrapU]; omega
      rw [d1, cond_false, hw, d1, cond_false]
      have hdi : (mfC.di i ord.length : Int) = (IntKind.u64.wrap i).tmod ord.length ∧ mfC.di i ord.length < ord.length := by
        have hnn : 0 ≤ IntKind.u64.wrap i := by rw [wrapU]; omega
        have h1 : (IntKind.u64.wrap i).tmod ord.length = (IntKind.u64.wrap i) % ord.length := Int.tmod_eq_emod_of_nonneg hnn
        have h2 := Int.emod_nonneg (IntKind.u64.wrap i) (b := (ord.length : Int)) (by omega)
        have h3 := Int.emod_lt_of_pos (IntKind.u64.wrap i) (b := (ord.length : Int)) (by omega)
        simp only [mfC, dropI]; rw [h1]; omega
      obtain ⟨hd1, hd2⟩ := hdi
      rw [← hd1]
      generalize mfC.di i ord.length = m at *
      have hget : ord[m]? = some ord[m] := List.getElem?_eq_getElem hd2
      have he := oeOk_parts (hok.oo _ (List.getElem_mem hd2))
      have hki : mfC.ki ord m = kO ord[m] := by
        have : ord.getD m [] = ord[m] := by rw [List.getD_eq_getElem?_getD, hget]; rfl
        show ((ord.getD m []).getD 0 .nf).toStr = _
        rw [this]; rfl
      rw [hki] at hh
      generalize ord[m] = e at *
      rw [he] at hget
      rw [w64 _ (by omega) (by omega), w64 _ (by omega) (by omega)]
      have d2 : decide ((0 : Int) ≤ (m : Int)) = true := by simp
      have d3 : (decide ((0 : Int) ≤ (m : Int) ∧ (m : Int) + 1 = (m : Int) + 1 ∧ (m : Int) + 1 ≤ (ord.length : Int)) && decide (ord.length < 1000000)) = true := by
        rw [Bool.and_eq_true, decide_eq_true_eq, decide_eq_true_eq]; refine ⟨⟨?_, rfl, ?_⟩, ?_⟩ <;> omega
      rw [d2, cond_true, getT_at rfl hget, getT_at rfl hget, d3, getD1]
      exact hh
  · cases h

/-! last, Equal -/
theorem act_parts {e : List C} (h : actOk e = true) : ∃ k i s y, e = [.int .i64 k, .int .i64 i, .str s, .bool y] := by
  unfold actOk at h
  split at h
  · exact ⟨_, _, _, _, rfl⟩
  · cases h
theorem last_loop {R : Type} (K : X → St → Option R) (F : Nat) (acts : Row) (key : ByteArray) (ha : ∀ e ∈ acts, actOk e = true) (hl : acts.length < 1000000) : ∀ (n i : Nat) (p q : Bool), i ≤ acts.length → acts.length - i < n →
    m_last_L0 K F n acts key p q i = K (.ex 0) (m_last_E1 (lastG key (acts.drop i) (p, q)).1 (lastG key (acts.drop i) (p, q)).2) := by
  intro n
  induction n with
  | zero => intro i p q hi h; omega
  | succ n ih =>
    intro i p q hi hn
    rw [m_last_r0]
    by_cases hlt : i < acts.length
    · have hget : acts[i]? = some acts[i] := List.getElem?_eq_getElem hlt
      obtain ⟨k, at_, s, y, he⟩ := act_parts (ha _ (List.getElem_mem hlt))
      rw [he] at hget
      have d1 : decide ((i : Int) < (acts.length : Int)) = true := by simpa using hlt
      have d2 : decide ((0 : Int) ≤ (i : Int)) = true := by simp
      rw [d1, cond_true, d2, cond_true, getT_at rfl hget, w64 _ (by omega) (by omega), drop_cons hget]
      show (bif k == 1 then (bif s.toList == key.toList then m_last_L0 K F n acts key y true ((i : Int) + 1) else _) else _) = _
      simp only [lastG]
      show _ = K (.ex 0) (m_last_E1 (lastG key (acts.drop (i + 1)) (bif (k == 1) && (s.toList == key.toList) then (y, true) else (p, q))).1 (lastG key (acts.drop (i + 1)) (bif (k == 1) && (s.toList == key.toList) then (y, true) else (p, q))).2)
      cases k == 1 with
      | true =>
        cases s.toList == key.toList with
        | true => exact ih (i + 1) y true (by omega) (by omega)
        | false => exact ih (i + 1) p q (by omega) (by omega)
      | false => exact ih (i + 1) p q (by omega) (by omega)
    · have : i = acts.length := by omega
      subst this
      have d1 : decide ((acts.length : Int) < (acts.length : Int)) = false := by simp
      rw [d1, cond_false, List.drop_length]
      rfl
theorem last_ok : SpecOk Try.prog (fun _ => none) 12 (lastS mfC) := by
  intro a b v b' h
  unfold lastS at h
  split at h
  · rename_i acts key
    rcases run_ite h with ⟨h1, hh⟩ | ⟨h1, hh⟩
    · simp only [Bool.and_eq_true, List.all_eq_true, decide_eq_true_eq] at h1
      refine specAtD mix vti_ok Try.func12 rfl (by kernel_rfl) (l := []) .nil (acts.length + 1) ((m_last_start _ _ _ _).trans ?_)
      rw [show (0 : Int) = ((0 : Nat) : Int) from rfl, last_loop _ _ _ _ h1.1 h1.2 _ 0 _ _ (by omega) (by omega), m_last_c1]
      exact hh
    · exact (run_no hh).elim
  · cases h
def sO (e : List C) : List UInt8 := (e.getD 0 .nf).toStr.toList
theorem sh1_parts {e : List C} (h : shOk [.str] e = true) : ∃ s, e = [.str s] := by
  unfold shOk at h
  rw [Bool.and_eq_true] at h
  obtain ⟨h1, h2⟩ := h
  have h1 := eq_of_beq h1
  match e, h1, h2 with
  | [.str s], _, _ => exact ⟨s, rfl⟩
theorem equal_loop {R : Type} (K : X → St → Option R) (F : Nat) (a b : Row) (ha : ∀ e ∈ a, shOk [.str] e = true) (hb : ∀ e ∈ b, shOk [.str] e = true) (hal : a.length < 1000000) (hab : a.length = b.length) : ∀ (n i : Nat), i ≤ a.length → a.length - i < n →
    m_equal_L0 K F n a b i = bif decide ((a.drop i).map sO = (b.drop i).map sO) then K (.ex 0) m_equal_E2 else K .rt m_equal_E1 := by
  intro n
  induction n with
  | zero => intro i hi h; omega
  | succ n ih =>
    intro i hi hn
    rw [m_equal_r0]
    by_cases hlt : i < a.length
    · have hga : a[i]? = some a[i] := List.getElem?_eq_getElem hlt
      have hltb : i < b.length := by omega
      have hgb : b[i]? = some b[i] := List.getElem?_eq_getElem hltb
      obtain ⟨s, hs⟩ := sh1_parts (ha _ (List.getElem_mem hlt))
      obtain ⟨t, ht⟩ := sh1_parts (hb _ (List.getElem_mem hltb))
      rw [hs] at hga
      rw [ht] at hgb
      have d1 : decide ((i : Int) < (a.length : Int)) = true := by simpa using hlt
      have d2 : decide ((0 : Int) ≤ (i : Int)) = true := by simp
      rw [d1, cond_true, d2, cond_true, getT_at rfl hga]
      show (getT b ((i : Int)).toNat fun z3 => _) = _
      rw [getT_at rfl hgb, w64 _ (by omega) (by omega), drop_cons hga, drop_cons hgb]
      show (bif !(s.toList == t.toList) then _ else _) = bif decide (s.toList :: (a.drop (i + 1)).map sO = t.toList :: (b.drop (i + 1)).map sO) then _ else _
      cases hst : s.toList == t.toList with
      | true =>
        rw [Bool.not_true, cond_false]
        have := eq_of_beq hst
        rw [this]
        simp only [List.cons.injEq, true_and]
        exact ih (i + 1) (by omega) (by omega)
      | false =>
        have : ¬ s.toList = t.toList := fun e => by rw [e] at hst; simp at hst
        rw [Bool.not_false, cond_true, decide_eq_false (fun e => this (List.cons.inj e).1)]; rfl
    · have : i = a.length := by omega
      subst this
      have d1 : decide ((a.length : Int) < (a.length : Int)) = false := by simp
      have hbl : b.drop a.length = [] := List.drop_eq_nil_of_le (by omega)
      rw [d1, cond_false, List.drop_length, hbl]
      rfl
theorem eql_ok : SpecOk Try.prog (fun _ => none) 17 eqlS := by
  intro a b v b' h
  unfold eqlS at h
  split at h
  · rename_i a b
    rcases run_ite h with ⟨h1, hh⟩ | ⟨h1, hh⟩
    · simp only [Bool.and_eq_true, List.all_eq_true, decide_eq_true_eq] at h1
      obtain ⟨⟨ha, hb⟩, hl⟩ := h1
      refine specAtD mix vti_ok Try.func17 rfl (by kernel_rfl) (l := []) .nil (a.length + 1) ((m_equal_start _ _ _ _).trans ?_)
      by_cases hab : a.length = b.length
      · have d0 : ((a.length : Int) != (b.length : Int)) = false := by rw [hab]; simp
        rw [d0, cond_false, show (0 : Int) = ((0 : Nat) : Int) from rfl, equal_loop _ _ _ _ ha hb hl hab _ 0 (by omega) (by omega), List.drop_zero, List.drop_zero]
        change (Tr.ret (vb (decide (a.map sO = b.map sO))) []).run fin2 = _ at hh
        cases hd : decide (a.map sO = b.map sO) with
        | true => rw [cond_true, m_equal_c2]; rw [hd] at hh; exact hh
        | false => rw [cond_false, m_equal_c1]; rw [hd] at hh; exact hh
      · have d0 : ((a.length : Int) != (b.length : Int)) = true := by simp; omega
        rw [d0]
        change (Tr.ret (vb (decide (a.map sO = b.map sO))) []).run fin2 = _ at hh
        rw [decide_eq_false (fun e => hab (by simpa using congrArg List.length e))] at hh
        exact hh
    · exact (run_no hh).elim
  · cases h
end Go.Proofs.Ythfjmmhigapkpaa
