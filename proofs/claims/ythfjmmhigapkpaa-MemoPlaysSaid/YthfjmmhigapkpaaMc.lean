/- memo: maps by their keys; the small functions answer by their trees -/
import Derived.Test.YthfjmmhigapkpaaMb
import Derived.Test.YthfjmmhigapkpaaMw
set_option linter.unusedVariables false
namespace Go.Proofs.Ythfjmmhigapkpaa
open Go Vm
theorem mix : Try.prog.follows .mixedOrders = true := by kernel_rfl
theorem str_inj {a b : ByteArray} (h : a.toList = b.toList) : a = b := by
  rw [Go.Lib.toList_data, Go.Lib.toList_data] at h
  apply ByteArray.ext; exact Array.toList_inj.1 h
theorem eqK_str {a b : ByteArray} : eqK [.str a] [.str b] = decide (a = b) := by
  simp only [eqK, eqK1, Bool.and_true]
  by_cases h : a = b
  · subst h; simp
  · rw [decide_eq_false h]; cases hb : a.toList == b.toList with
    | false => rfl
    | true => exact (h (str_inj (eq_of_beq hb))).elim
def keyE (e : List C × List C) : ByteArray := (e.1.getD 0 .nf).toStr
def kO (e : List C) : ByteArray := (e.getD 0 .nf).toStr
def wO (e : List C) : Int := (e.getD 1 .nf).toInt
theorem entOk_parts {e : List C × List C} (h : entOk e = true) : ∃ s b n, e = ([.str s], [.bool b, .int .i64 n]) := by
  unfold entOk at h
  split at h
  · exact ⟨_, _, _, rfl⟩
  · cases h
theorem oeOk_parts {e : List C} (h : oeOk e = true) : e = [.str (kO e), .int .i64 (wO e)] := by
  unfold oeOk at h
  split at h
  · rfl
  · cases h
structure OkM (es : Ents) (ord : Row) : Prop where
  eo : ∀ e ∈ es, entOk e = true
  oo : ∀ e ∈ ord, oeOk e = true
  ol : ord.length < 1000000
  el : es.length < 1000000
theorem okM_iff {es : Ents} {ord : Row} : okM es ord = true ↔ OkM es ord := by
  simp only [okM, Bool.and_eq_true, List.all_eq_true, decide_eq_true_eq]
  exact ⟨fun h => ⟨h.1.1.1, h.1.1.2, h.1.2, h.2⟩, fun h => ⟨⟨⟨h.eo, h.oo⟩, h.ol⟩, h.el⟩⟩
theorem mapGet_mem {k : List C} : ∀ {es : Ents} {v : List C}, mapGet k es = some v → ∃ a, (a, v) ∈ es := by
  intro es
  induction es with
  | nil => intro v h; cases h
  | cons e r ih =>
    obtain ⟨a, x⟩ := e
    intro v h
    unfold mapGet at h
    cases hk : eqK k a with
    | true => rw [hk] at h; cases h; exact ⟨a, List.mem_cons_self⟩
    | false => rw [hk, cond_false] at h; obtain ⟨b, hb⟩ := ih h; exact ⟨b, List.mem_cons_of_mem _ hb⟩
theorem get_ok {es : Ents} (h : ∀ e ∈ es, entOk e = true) (k : ByteArray) : (mapGet [.str k] es = none) ∨ ∃ b n, mapGet [.str k] es = some [.bool b, .int .i64 n] := by
  cases hg : mapGet [.str k] es with
  | none => exact .inl rfl
  | some v =>
    obtain ⟨a, ha⟩ := mapGet_mem hg
    obtain ⟨s, b, n, he⟩ := entOk_parts (h _ ha)
    cases he; exact .inr ⟨b, n, rfl⟩

theorem onM_run {b : Bx} {f : Int → Int → Ents → Row → Tr} {R : Type} {k : V → Bx → Option R} {r : R} (h : (onM b f).run k = some r) : ∃ room clock es ord, b = memoB room clock es ord ∧ okM es ord = true ∧ (f room clock es ord).run k = some r := by
  unfold onM at h
  split at h
  · rcases run_ite h with ⟨h1, h⟩ | ⟨h1, h⟩
    · exact ⟨_, _, _, _, rfl, h1, h⟩
    · exact (run_no h).elim
  · cases h
theorem onMN_run {b : Bx} {f : Int → Int → Ents → Row → Tr} {R : Type} {k : V → Bx → Option R} {r : R} (h : (onMN b f).run k = some r) : ∃ room clock es ord, b = memoB room clock es ord ∧ okM es ord = true ∧ (f room clock es ord).run k = some r := by
  unfold onMN at h
  split at h
  · rcases run_ite h with ⟨h1, h⟩ | ⟨h1, h⟩
    · exact ⟨_, _, _, _, rfl, h1, h⟩
    · exact (run_no h).elim
  · cases h
theorem onCell_run {b : Bx} {f : Int → Int → Ents → Row → Tr} {R : Type} {k : V → Bx → Option R} {r : R} (h : (onCell b f).run k = some r) : ∃ room clock es ord, b = cellB room clock es ord ∧ okM es ord = true ∧ (f room clock es ord).run k = some r := by
  unfold onCell at h
  split at h
  · rcases run_ite h with ⟨h1, h⟩ | ⟨h1, h⟩
    · exact ⟨_, _, _, _, rfl, h1, h⟩
    · exact (run_no h).elim
  · cases h
theorem onRow_run {b : Bx} {f : Int → Int → Ents → Row → Tr} {R : Type} {k : V → Bx → Option R} {r : R} (h : (onRow b f).run k = some r) : ∃ room clock es ord, b = rowB room clock es ord ∧ okM es ord = true ∧ (f room clock es ord).run k = some r := by
  unfold onRow at h
  split at h
  · rcases run_ite h with ⟨h1, h⟩ | ⟨h1, h⟩
    · exact ⟨_, _, _, _, rfl, h1, h⟩
    · exact (run_no h).elim
  · cases h

theorem new_ok : SpecOk Try.prog (fun _ => none) 5 newS := by
  intro a b v b' h
  unfold newS at h
  split at h
  · rename_i room
    refine specAtD mix vti_ok Try.func5 rfl (by kernel_rfl) (l := []) .nil 0 ((m_new_start _ _ _).trans ?_)
    rcases run_ite h with ⟨h1, h⟩ | ⟨h1, h⟩
    · simp only [decide_eq_true_eq] at h1
      have d1 : decide (room < (0 : Int)) = false := by simp; omega
      have d2 : decide (room > (1000 : Int)) = false := by simp; omega
      rw [d1, d2]; exact h
    · simp only [decide_eq_false_iff_not] at h1
      by_cases h0 : room < 0
      · rw [decide_eq_true h0]; exact h
      · have d2 : decide (room > (1000 : Int)) = true := by simp; omega
        rw [decide_eq_false h0, d2]; exact h
  · cases h
theorem len_ok : SpecOk Try.prog (fun _ => none) 9 lenS := by
  intro a b v b' h
  unfold lenS at h
  split at h
  · obtain ⟨room, clock, es, ord, rfl, ho, h⟩ := onM_run h
    exact specAtD mix vti_ok Try.func9 rfl (by kernel_rfl) (l := []) .nil 0 ((m_len_start _ _ _ _ _ _).trans h)
  · cases h
theorem clear_ok : SpecOk Try.prog (fun _ => none) 15 clearS := by
  intro a b v b' h
  unfold clearS at h
  split at h
  · obtain ⟨room, clock, es, ord, rfl, ho, h⟩ := onM_run h
    exact specAtD mix vti_ok Try.func15 rfl (by kernel_rfl) (l := []) .nil 0 ((m_clear_start _ _ _ _ _ _).trans h)
  · cases h
theorem get_spec_ok : SpecOk Try.prog (fun _ => none) 11 getS := by
  intro a b v b' h
  unfold getS at h
  split at h
  · rename_i k
    obtain ⟨room, clock, es, ord, rfl, ho, h⟩ := onM_run h
    refine specAtD mix vti_ok Try.func11 rfl (by kernel_rfl) (l := []) .nil 0 ((m_get_start _ _ _ _ _ _ _).trans ?_)
    rcases get_ok (okM_iff.1 ho).eo k with hg | ⟨y, n, hg⟩
    · simp only [vY, vS, hg] at h ⊢; exact h
    · simp only [vY, vS, hg] at h ⊢; exact h
  · cases h
theorem counts_ok : SpecOk Try.prog (fun _ => none) 22 countsS := by
  intro a b v b' h
  unfold countsS at h
  split at h
  · rename_i k wh
    obtain ⟨room, clock, es, ord, rfl, ho, h⟩ := onM_run h
    refine specAtD mix vti_ok Try.func22 rfl (by kernel_rfl) (l := []) .nil 0 ((m_counts_start _ _ _ _ _ _ _ _).trans ?_)
    rcases get_ok (okM_iff.1 ho).eo k with hg | ⟨y, n, hg⟩
    · simp only [cntB, vW, vS, hg] at h ⊢; exact h
    · simp only [cntB, vW, vS, hg] at h ⊢; exact h
  · cases h
theorem tabM1_ok : TabS Try.prog (fun _ => none) [(22, countsS)] := .cons counts_ok .nil
theorem tid1_ok : SpecOk Try.prog (fun _ => none) 21 tid1S := by
  intro a b v b' h
  unfold tid1S at h
  split at h
  · rename_i k wh
    obtain ⟨room, clock, es, ord, rfl, ho, h⟩ := onCell_run h
    refine specAtD mix vti_ok Try.func21 rfl (by kernel_rfl) tabM1_ok 0 ((m_tid1_start _ _ _ _ _ _ _ _).trans ?_)
    rw [ho]; exact h
  · cases h

theorem drop_cons {α : Type} {l : List α} {i : Nat} {e : α} (h : l[i]? = some e) : l.drop i = e :: l.drop (i + 1) := by
  have hl : i < l.length := (List.getElem?_eq_some_iff.1 h).1
  rw [List.drop_eq_getElem_cons hl]
  congr 1
  rw [List.getElem?_eq_getElem hl] at h; exact Option.some.inj h
theorem getD1 (n : Nat) : ((n : Int)).toNat = n := by simp

/-! keys -/
theorem keys_loop {R : Type} (K : X → St → Option R) (F : Nat) (es : Ents) (ord : Row) (room clock : Int) (ho : OkM es ord) : ∀ (n i : Nat) (v4 : Row), i ≤ ord.length → ord.length - i < n → v4.length = i →
    m_keys_L0 K F n es ord room clock ord v4 i = K (.ex 0) (m_keys_E1 es room clock ord (v4 ++ keysE (ord.drop i))) := by
  intro n
  induction n with
  | zero => intro i v4 hi h; omega
  | succ n ih =>
    intro i v4 hi hn hv
    have hol := ho.ol
    rw [m_keys_r0]
    by_cases hlt : i < ord.length
    · have hget : ord[i]? = some ord[i] := List.getElem?_eq_getElem hlt
      have he := oeOk_parts (ho.oo _ (List.getElem_mem hlt))
      generalize ord[i] = e at hget he
      rw [he] at hget
      have d1 : decide ((i : Int) < (ord.length : Int)) = true := by simpa using hlt
      have d2 : decide ((0 : Int) ≤ (i : Int)) = true := by simp
      have d3 : decide ((v4.length + 1) * 16 ≤ 140737488355328 ∧ v4.length + 1 ≤ 9223372036854775807) = true := by simp only [decide_eq_true_eq]; omega
      rw [d1, cond_true, d2, cond_true, getT_at rfl hget, getT_at rfl hget, d3, w64 _ (by omega) (by omega), drop_cons hget]
      refine (ih (i + 1) _ (by omega) (by omega) (by simp; omega)).trans ?_
      rw [List.append_assoc]; rfl
    · have : i = ord.length := by omega
      subst this
      have d1 : decide ((ord.length : Int) < (ord.length : Int)) = false := by simp
      rw [d1, cond_false, List.drop_length]
      simp [keysE]
theorem keys_ok : SpecOk Try.prog (fun _ => none) 10 keysS := by
  intro a b v b' h
  unfold keysS at h
  split at h
  · obtain ⟨room, clock, es, ord, rfl, ho, h⟩ := onM_run h
    refine specAtD mix vti_ok Try.func10 rfl (by kernel_rfl) (l := []) .nil (ord.length + 1) ((m_keys_start _ _ _ _ _ _).trans ?_)
    rw [show (0 : Int) = ((0 : Nat) : Int) from rfl, keys_loop _ _ _ _ _ _ (okM_iff.1 ho) _ 0 _ (by omega) (by omega) rfl, m_keys_c1]
    exact h
  · cases h

/-! IndexFunc -/
theorem badAt_ge (es : Ents) : ∀ (l : Row) (i : Nat), badAt es l i = -1 ∨ (i : Int) ≤ badAt es l i := by
  intro l
  induction l with
  | nil => intro i; exact .inl rfl
  | cons e r ih =>
    intro i
    unfold badAt
    cases cntE es e with
    | true => rw [cond_true]; rcases ih (i + 1) with h | h
              · exact .inl h
              · exact .inr (by omega)
    | false => rw [cond_false]; exact .inr (by omega)
theorem index_loop {R : Type} (K : X → St → Option R) (F : Nat) (es : Ents) (ord : Row) (room clock : Int) (ho : OkM es ord) : ∀ (n i : Nat), i ≤ ord.length → ord.length - i < n →
    m_index_L0 K F n es ord ord room clock i = bif badAt es (ord.drop i) i == -1 then K (.ex 0) (m_index_E2 es ord room clock) else K .rt (m_index_E1 es ord room clock (badAt es (ord.drop i) i)) := by
  intro n
  induction n with
  | zero => intro i hi h; omega
  | succ n ih =>
    intro i hi hn
    have hol := ho.ol
    rw [m_index_r0]
    by_cases hlt : i < ord.length
    · have hget : ord[i]? = some ord[i] := List.getElem?_eq_getElem hlt
      have he := oeOk_parts (ho.oo _ (List.getElem_mem hlt))
      generalize ord[i] = e at hget he
      have hget' := hget
      rw [he] at hget
      have d1 : decide ((i : Int) < (ord.length : Int)) = true := by simpa using hlt
      have d2 : decide ((0 : Int) ≤ (i : Int)) = true := by simp
      rw [d1, cond_true, d2, cond_true, getT_at rfl hget, getT_at rfl hget, okM_iff.2 ho, w64 _ (by omega) (by omega), drop_cons hget']
      show (bif !cntB es (kO e) (wO e) then _ else _) = _
      unfold badAt
      have : cntE es e = cntB es (kO e) (wO e) := rfl
      rw [this]
      cases cntB es (kO e) (wO e) with
      | true => rw [Bool.not_true, cond_false, cond_true]; exact ih (i + 1) (by omega) (by omega)
      | false =>
        rw [Bool.not_false, cond_true, cond_false]
        have : ((i : Int) == -1) = false := by simp
        rw [this, cond_false]
    · have : i = ord.length := by omega
      subst this
      have d1 : decide ((ord.length : Int) < (ord.length : Int)) = false := by simp
      rw [d1, cond_false, List.drop_length]
      rfl
theorem tabM2_ok : TabS Try.prog (fun _ => none) [(21, tid1S)] := .cons tid1_ok .nil
theorem index_ok : SpecOk Try.prog (fun _ => none) 23 indexS := by
  intro a b v b' h
  unfold indexS at h
  split at h
  · obtain ⟨room, clock, es, ord, rfl, ho, h⟩ := onRow_run h
    refine specAtD mix vti_ok Try.func23 rfl (by kernel_rfl) tabM2_ok (ord.length + 1) ((m_index_start _ _ _ _ _ _).trans ?_)
    rw [show (0 : Int) = ((0 : Nat) : Int) from rfl, index_loop _ _ _ _ _ _ (okM_iff.1 ho) _ 0 (by omega) (by omega), List.drop_zero]
    cases hb : badAt es ord 0 == -1 with
    | true =>
      have := eq_of_beq hb
      rw [cond_true, m_index_c2]; rw [this] at h; exact h
    | false => rw [cond_false, m_index_c1]; exact h
  · cases h
end Go.Proofs.Ythfjmmhigapkpaa
