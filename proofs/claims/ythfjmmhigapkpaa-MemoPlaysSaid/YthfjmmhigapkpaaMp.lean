/- memo: the plain law: what holds of a memo -/
import Derived.Test.YthfjmmhigapkpaaMd
set_option linter.unusedVariables false
namespace Go.Proofs.Ythfjmmhigapkpaa
open Go Vm
abbrev gt (es : Ents) (k : ByteArray) : Option (List C) := mapGet [.str k] es
def EO (es : Ents) : Prop := ∀ e ∈ es, entOk e = true
theorem EO.tail {e : List C × List C} {es : Ents} (h : EO (e :: es)) : EO es := fun x hx => h x (List.mem_cons_of_mem _ hx)
theorem get_put {k k' : ByteArray} {v : List C} : ∀ {es : Ents}, EO es → gt (mapPut [.str k] v es) k' = if k' = k then some v else gt es k' := by
  intro es
  induction es with
  | nil => intro h; simp only [gt, mapPut, mapGet, eqK_str]; by_cases hk : k' = k <;> simp [hk]
  | cons e r ih =>
    intro h
    obtain ⟨s, b, n, he⟩ := entOk_parts (h e List.mem_cons_self)
    subst he
    simp only [gt, mapPut, mapGet, eqK_str]
    by_cases hk : k = s
    · subst hk
      simp only [decide_true, cond_true, mapGet, eqK_str]
      by_cases hk' : k' = k <;> simp [hk']
    · simp only [hk, decide_false, cond_false, mapGet, eqK_str]
      by_cases hk' : k' = s
      · subst hk'; simp only [decide_true, cond_true]; rw [if_neg (fun e => hk e.symm)]
      · simp only [hk', decide_false, cond_false]; exact ih h.tail
theorem get_none {k : ByteArray} : ∀ {es : Ents}, EO es → k ∉ es.map keyE → gt es k = none := by
  intro es
  induction es with
  | nil => intro _ _; rfl
  | cons e r ih =>
    intro h hk
    obtain ⟨s, b, n, he⟩ := entOk_parts (h e List.mem_cons_self)
    subst he
    simp only [List.map_cons, List.mem_cons, not_or] at hk
    have h1 : ¬ k = s := hk.1
    simp only [gt, mapGet, eqK_str, h1, decide_false, cond_false]
    exact ih h.tail hk.2
theorem get_del {k k' : ByteArray} : ∀ {es : Ents}, EO es → (es.map keyE).Nodup → gt (mapDel [.str k] es) k' = if k' = k then none else gt es k' := by
  intro es
  induction es with
  | nil => intro _ _; simp [gt, mapDel, mapGet]
  | cons e r ih =>
    intro h hn
    obtain ⟨s, b, n, he⟩ := entOk_parts (h e List.mem_cons_self)
    subst he
    rw [List.map_cons, List.nodup_cons] at hn
    simp only [gt, mapDel, mapGet, eqK_str]
    by_cases hk : k = s
    · subst hk
      simp only [decide_true, cond_true]
      by_cases hk' : k' = k
      · subst hk'; rw [if_pos rfl]; exact get_none h.tail hn.1
      · simp [hk']
    · simp only [hk, decide_false, cond_false, mapGet, eqK_str]
      by_cases hk' : k' = s
      · subst hk'; simp only [decide_true, cond_true]; rw [if_neg (fun e => hk e.symm)]
      · simp only [hk', decide_false, cond_false]; exact ih h.tail hn.2
theorem mem_of_get {k : ByteArray} {es : Ents} (h : EO es) (hs : vS es k = true) : k ∈ es.map keyE := by
  by_cases hk : k ∈ es.map keyE
  · exact hk
  · have := get_none h hk
    simp only [vS] at hs; rw [show mapGet [C.str k] es = none from this] at hs; cases hs
theorem put_keys {k : ByteArray} {v : List C} : ∀ {es : Ents}, EO es → (mapPut [.str k] v es).map keyE = bif vS es k then es.map keyE else es.map keyE ++ [k] := by
  intro es
  induction es with
  | nil => intro _; rfl
  | cons e r ih =>
    intro h
    obtain ⟨s, b, n, he⟩ := entOk_parts (h e List.mem_cons_self)
    subst he
    simp only [vS, mapPut, mapGet, eqK_str]
    by_cases hk : k = s
    · subst hk; simp only [decide_true, cond_true, Option.isSome_some]; rfl
    · simp only [hk, decide_false, cond_false, List.map_cons]
      rw [ih h.tail]
      simp only [vS]
      cases (mapGet [C.str k] r).isSome <;> rfl
theorem del_sub {k : List C} : ∀ (es : Ents), (mapDel k es).Sublist es := by
  intro es
  induction es with
  | nil => exact .slnil
  | cons e r ih =>
    obtain ⟨a, w⟩ := e
    unfold mapDel
    cases eqK k a with
    | true => exact List.Sublist.cons _ (List.Sublist.refl _)
    | false => exact ih.cons_cons _
theorem del_len {k : ByteArray} : ∀ {es : Ents}, vS es k = true → (mapDel [.str k] es).length + 1 = es.length := by
  intro es
  induction es with
  | nil => intro h; cases h
  | cons e r ih =>
    obtain ⟨a, w⟩ := e
    intro h
    unfold vS mapGet at h
    unfold mapDel
    cases hk : eqK [.str k] a with
    | true => rfl
    | false => rw [hk, cond_false] at h; rw [cond_false, List.length_cons, ih h, List.length_cons]

/-- what holds of a memo -/
structure MI (clock : Int) (es : Ents) (ord : Row) : Prop where
  eo : EO es
  oo : ∀ e ∈ ord, oeOk e = true
  cnt : ∀ e ∈ ord, cntE es e = true
  nd : (ord.map kO).Nodup
  ne : (es.map keyE).Nodup
  len : es.length = ord.length
  sub : ∀ k, vS es k = true → k ∈ ord.map kO
  wle : ∀ e ∈ ord, wO e ≤ clock
theorem MI.nil : MI 0 [] [] := ⟨fun _ h => (by cases h), fun _ h => (by cases h), fun _ h => (by cases h), List.nodup_nil, List.nodup_nil, rfl, fun k h => (by cases h), fun _ h => (by cases h)⟩
theorem cnt_vS {es : Ents} {e : List C} (h : cntE es e = true) : vS es (kO e) = true ∧ vW es (kO e) = wO e := by
  have h : cntB es (kO e) (wO e) = true := h
  unfold cntB at h
  rw [Bool.and_eq_true] at h
  exact ⟨h.1, eq_of_beq h.2⟩
theorem vS_cnt {es : Ents} {e : List C} (h : vS es (kO e) = true) (hw : vW es (kO e) = wO e) : cntE es e = true := by
  show cntB es (kO e) (wO e) = true
  unfold cntB; rw [h, hw]; simp
theorem MI.mem {clock : Int} {es : Ents} {ord : Row} (h : MI clock es ord) (k : ByteArray) : vS es k = true ↔ k ∈ ord.map kO := by
  refine ⟨h.sub k, fun hk => ?_⟩
  obtain ⟨e, he, rfl⟩ := List.mem_map.1 hk
  exact (cnt_vS (h.cnt e he)).1
/-- one that counts goes -/
theorem MI.del {clock : Int} {es : Ents} {l1 l2 : Row} {e : List C} (h : MI clock es (l1 ++ e :: l2)) : MI clock (mapDel [.str (kO e)] es) (l1 ++ l2) := by
  have hnd := h.nd
  have hsubl : (l1 ++ l2).Sublist (l1 ++ e :: l2) := (List.Sublist.refl l1).append (List.sublist_cons_self e l2)
  have hmem : ∀ x ∈ l1 ++ l2, x ∈ l1 ++ e :: l2 := fun x hx => hsubl.subset hx
  have hne : ∀ x ∈ l1 ++ l2, kO x ≠ kO e := by
    intro x hx hk
    rw [List.map_append, List.map_cons, List.nodup_append] at hnd
    obtain ⟨_, h2, h3⟩ := hnd
    rcases List.mem_append.1 hx with h4 | h4
    · exact h3 (kO x) (List.mem_map_of_mem h4) (kO e) List.mem_cons_self hk
    · exact (List.nodup_cons.1 h2).1 (hk ▸ List.mem_map_of_mem h4)
  have hg : ∀ k, k ≠ kO e → gt (mapDel [.str (kO e)] es) k = gt es k := fun k hk => by rw [get_del h.eo h.ne, if_neg hk]
  have hself := (cnt_vS (h.cnt e (by simp))).1
  refine ⟨fun x hx => h.eo x (del_mem hx), fun x hx => h.oo x (hmem x hx), fun x hx => ?_, (hsubl.map kO).nodup hnd, ((del_sub es).map keyE).nodup h.ne, ?_, fun k hk => ?_, fun x hx => h.wle x (hmem x hx)⟩
  · have h1 := cnt_vS (h.cnt x (hmem x hx))
    have h2 := hg (kO x) (hne x hx)
    refine vS_cnt ?_ ?_
    · simp only [vS] at h1 ⊢; rw [show mapGet [C.str (kO x)] (mapDel [.str (kO e)] es) = mapGet [C.str (kO x)] es from h2]; exact h1.1
    · simp only [vW] at h1 ⊢; rw [show mapGet [C.str (kO x)] (mapDel [.str (kO e)] es) = mapGet [C.str (kO x)] es from h2]; exact h1.2
  · have h1 := del_len hself
    have h2 := h.len
    rw [List.length_append, List.length_cons] at h2
    rw [List.length_append]; omega
  · have hk2 : k ≠ kO e := by
      intro he; subst he
      simp only [vS] at hk
      rw [show mapGet [C.str (kO e)] (mapDel [.str (kO e)] es) = none from by have := get_del (k := kO e) (k' := kO e) h.eo h.ne; rw [if_pos rfl] at this; exact this] at hk
      cases hk
    have h3 : vS es k = true := by
      simp only [vS] at hk ⊢; rw [← show mapGet [C.str k] (mapDel [.str (kO e)] es) = mapGet [C.str k] es from hg k hk2]; exact hk
    have := h.sub k h3
    rw [List.map_append, List.map_cons, List.mem_append, List.mem_cons] at this
    rw [List.map_append, List.mem_append]
    rcases this with h4 | h4 | h4
    · exact .inl h4
    · exact (hk2 h4).elim
    · exact .inr h4
theorem del_get {clock : Int} {es : Ents} {ord : Row} (h : MI clock es ord) (k0 k : ByteArray) (hs : vS (mapDel [.str k0] es) k = true) : k ≠ k0 ∧ vS es k = true ∧ vY (mapDel [.str k0] es) k = vY es k := by
  have hg := get_del (k := k0) (k' := k) h.eo h.ne
  by_cases hk : k = k0
  · rw [if_pos hk] at hg
    simp only [vS] at hs; rw [show mapGet [C.str k] (mapDel [.str k0] es) = none from hg] at hs; cases hs
  · rw [if_neg hk] at hg
    have hg : mapGet [C.str k] (mapDel [.str k0] es) = mapGet [C.str k] es := hg
    refine ⟨hk, ?_, ?_⟩
    · simp only [vS] at hs ⊢; rw [← hg]; exact hs
    · simp only [vY]; rw [hg]
/-! Put, ahead of what goes -/
def newE (clock : Int) (k : ByteArray) : List C := [.str k, .int .i64 (clock + 1)]
def keepO (k : ByteArray) (ord : Row) : Row := ord.filter fun e => !decide (kO e = k)
theorem keep_len (k : ByteArray) : ∀ (ord : Row), (ord.map kO).Nodup → (k ∈ ord.map kO → (keepO k ord).length + 1 = ord.length) ∧ (k ∉ ord.map kO → (keepO k ord).length = ord.length) := by
  intro ord
  induction ord with
  | nil => intro _; exact ⟨fun h => (by cases h), fun _ => rfl⟩
  | cons e r ih =>
    intro hn
    rw [List.map_cons, List.nodup_cons] at hn
    obtain ⟨i1, i2⟩ := ih hn.2
    unfold keepO at i1 i2 ⊢
    by_cases hk : kO e = k
    · have h1 : k ∉ r.map kO := hk ▸ hn.1
      have hf : List.filter (fun e => !decide (kO e = k)) (e :: r) = List.filter (fun e => !decide (kO e = k)) r := by
        rw [List.filter_cons, hk]; simp
      rw [hf]
      refine ⟨fun _ => by rw [i2 h1, List.length_cons], fun h => (h ?_).elim⟩
      rw [List.map_cons, hk]; exact List.mem_cons_self
    · have hf : List.filter (fun e => !decide (kO e = k)) (e :: r) = e :: List.filter (fun e => !decide (kO e = k)) r := by
        rw [List.filter_cons]; simp [hk]
      rw [hf, List.length_cons, List.length_cons]
      refine ⟨fun h => ?_, fun h => ?_⟩
      · rw [List.map_cons, List.mem_cons] at h
        rw [i1 (h.resolve_left (fun h => hk h.symm))]
      · rw [List.map_cons, List.mem_cons, not_or] at h
        rw [i2 h.2]
theorem MI.put1O {clock : Int} {es : Ents} {ord : Row} (h : MI clock es ord) (k : ByteArray) (y : Bool) : put1O es ord clock k y = keepO k ord ++ [newE clock k] := by
  have hg : ∀ k', gt (put1E es clock k y) k' = if k' = k then some [.bool y, .int .i64 (clock + 1)] else gt es k' := fun k' => get_put h.eo
  unfold Go.Proofs.Ythfjmmhigapkpaa.put1O keepO
  rw [List.filter_append]
  congr 1
  · refine List.filter_congr (fun e he => ?_)
    have hc := cnt_vS (h.cnt e he)
    have hw := h.wle e he
    show cntB (put1E es clock k y) (kO e) (wO e) = _
    by_cases hk : kO e = k
    · have h1 := hg (kO e)
      rw [if_pos hk] at h1
      have h1 : mapGet [C.str (kO e)] (put1E es clock k y) = _ := h1
      have hd : (!decide (kO e = k)) = false := by simp [hk]
      rw [hd]
      simp only [cntB, vS, vW, h1, Bool.and_eq_false_iff]
      right
      show ((clock + 1) == wO e) = false
      simp; omega
    · have h1 := hg (kO e)
      rw [if_neg hk] at h1
      have h1 : mapGet [C.str (kO e)] (put1E es clock k y) = mapGet [C.str (kO e)] es := h1
      have h2 : cntB es (kO e) (wO e) = true := h.cnt e he
      simp only [cntB, vS, vW] at h2 ⊢
      rw [h1, h2]; simp [hk]
  · have h1 := hg k
    rw [if_pos rfl] at h1
    have h1 : mapGet [C.str k] (put1E es clock k y) = _ := h1
    have : cntE (put1E es clock k y) (newE clock k) = true := by
      show cntB (put1E es clock k y) k (clock + 1) = true
      simp only [cntB, vS, vW, h1]
      show (true && ((clock + 1) == (clock + 1))) = true
      simp
    exact List.filter_eq_self.2 (fun e he => by
      have : e = newE clock k := by simpa [newE] using he
      subst this; assumption)
theorem MI.put1 {clock : Int} {es : Ents} {ord : Row} (h : MI clock es ord) (k : ByteArray) (y : Bool) : MI (clock + 1) (put1E es clock k y) (keepO k ord ++ [newE clock k]) := by
  have hg : ∀ k', gt (put1E es clock k y) k' = if k' = k then some [.bool y, .int .i64 (clock + 1)] else gt es k' := fun k' => get_put h.eo
  have hks : (keepO k ord).Sublist ord := List.filter_sublist
  have hkk : ∀ e ∈ keepO k ord, kO e ≠ k := fun e he => by
    have := (List.mem_filter.1 he).2
    simpa using this
  have hkm := h.mem k
  refine ⟨put_get_ok h.eo k y _, ?_, ?_, ?_, ?_, ?_, ?_, ?_⟩
  · intro e he
    rcases List.mem_append.1 he with h1 | h1
    · exact h.oo e (hks.subset h1)
    · simp at h1; subst h1; rfl
  · intro e he
    have := h.put1O k y
    rw [← this] at he
    exact (List.mem_filter.1 he).2
  · rw [List.map_append, List.nodup_append]
    refine ⟨(hks.map kO).nodup h.nd, by simp, ?_⟩
    intro a ha b hb hab
    obtain ⟨e, he, rfl⟩ := List.mem_map.1 ha
    simp [newE] at hb
    exact hkk e he (hab.trans hb)
  · rw [show put1E es clock k y = mapPut [.str k] [.bool y, .int .i64 (clock + 1)] es from rfl, put_keys h.eo]
    cases hv : vS es k with
    | true => exact h.ne
    | false =>
      rw [cond_false, List.nodup_append]
      refine ⟨h.ne, by simp, ?_⟩
      intro a ha b hb hab
      simp at hb
      subst hb; subst hab
      -- a key of the map reads
      exact absurd ((List.mem_map.1 ha)) (fun ⟨e, he, hek⟩ => by
        have : ∀ {es : Ents}, EO es → e ∈ es → vS es (keyE e) = true := by
          intro es
          induction es with
          | nil => intro _ h; cases h
          | cons x r ih =>
            intro hx hm
            obtain ⟨s, b, n, hxe⟩ := entOk_parts (hx x List.mem_cons_self)
            subst hxe
            unfold vS mapGet
            rw [eqK_str]
            by_cases hs : keyE e = s
            · simp [hs]
            · rcases List.mem_cons.1 hm with h1 | h1
              · subst h1; exact (hs rfl).elim
              · simp only [hs, decide_false, cond_false]; exact ih hx.tail h1
        have h2 := this h.eo he
        rw [hek, hv] at h2; cases h2)
  · have h1 := congrArg List.length (put_keys (k := k) (v := [.bool y, .int .i64 (clock + 1)]) h.eo)
    rw [List.length_map] at h1
    have h2 := keep_len k ord h.nd
    have h3 := h.len
    rw [List.length_append]
    show (mapPut [.str k] [.bool y, .int .i64 (clock + 1)] es).length = (keepO k ord).length + 1
    rw [h1]
    cases hv : vS es k with
    | true =>
      have h2 := h2.1 (hkm.1 hv)
      rw [cond_true, List.length_map]; omega
    | false =>
      have h2 := h2.2 (fun hm => by rw [hkm.2 hm] at hv; cases hv)
      rw [cond_false, List.length_append, List.length_map]; simp; omega
  · intro k' hk'
    rw [List.map_append, List.mem_append]
    by_cases hk : k' = k
    · right; subst hk; simp [newE, kO, C.toStr]
    · left
      have h1 := hg k'
      rw [if_neg hk] at h1
      have h1 : mapGet [C.str k'] (put1E es clock k y) = mapGet [C.str k'] es := h1
      have h2 : vS es k' = true := by simp only [vS] at hk' ⊢; rw [← h1]; exact hk'
      obtain ⟨e, he, hek⟩ := List.mem_map.1 (h.sub k' h2)
      exact List.mem_map.2 ⟨e, List.mem_filter.2 ⟨he, by simp [hek, hk]⟩, hek⟩
  · intro e he
    rcases List.mem_append.1 he with h1 | h1
    · have := h.wle e (hks.subset h1); omega
    · simp at h1; subst h1; exact Int.le_refl _
theorem evG_le {room : Int} {n : Nat} {es : Ents} {ord : Row} (h : (es.length : Int) ≤ room) : evG room (n + 1) es ord = (true, es, ord) := by
  unfold evG
  rw [decide_eq_false (by omega)]; rfl
theorem evG_one {room : Int} {n : Nat} {es : Ents} {e : List C} {r : Row} (h : (es.length : Int) > room) (h' : ((mapDel [.str (kO e)] es).length : Int) ≤ room) : evG room (n + 2) es (e :: r) = (true, mapDel [.str (kO e)] es, r) := by
  unfold evG
  rw [decide_eq_true h, cond_true]
  exact evG_le h'
structure PutRes (room clock : Int) (es : Ents) (ord : Row) (k : ByteArray) (y : Bool) (es' : Ents) (ord' : Row) : Prop where
  mi : MI (clock + 1) es' ord'
  le : (es'.length : Int) ≤ room
  get : ∀ k', vS es' k' = true → (k' = k ∧ vY es' k' = y) ∨ (k' ≠ k ∧ vS es k' = true ∧ vY es' k' = vY es k')
  hit : room > 0 → vS es' k = true
  od : ord' = if ((keepO k ord).length : Int) + 1 > room then (keepO k ord ++ [newE clock k]).drop 1 else keepO k ord ++ [newE clock k]
theorem put_res {room clock : Int} {es : Ents} {ord : Row} (h : MI clock es ord) (hr : 0 ≤ room) (hl : (es.length : Int) ≤ room) (k : ByteArray) (y : Bool) : ∃ es' ord', putR room clock es ord k y = (true, es', ord') ∧ PutRes room clock es ord k y es' ord' := by
  have h1 := h.put1 k y
  have hg : ∀ k', gt (put1E es clock k y) k' = if k' = k then some [.bool y, .int .i64 (clock + 1)] else gt es k' := fun k' => get_put h.eo
  have hlen : (put1E es clock k y).length ≤ es.length + 1 := put_len k _ es
  have hl1 := h1.len
  rw [List.length_append, List.length_singleton] at hl1
  have hget : ∀ k', vS (put1E es clock k y) k' = true → (k' = k ∧ vY (put1E es clock k y) k' = y) ∨ (k' ≠ k ∧ vS es k' = true ∧ vY (put1E es clock k y) k' = vY es k') := by
    intro k' hv
    have hgk := hg k'
    by_cases hk : k' = k
    · rw [if_pos hk] at hgk
      have hgk : mapGet [C.str k'] (put1E es clock k y) = _ := hgk
      left; refine ⟨hk, ?_⟩
      simp only [vY]; rw [hgk]; rfl
    · rw [if_neg hk] at hgk
      have hgk : mapGet [C.str k'] (put1E es clock k y) = mapGet [C.str k'] es := hgk
      right
      refine ⟨hk, ?_, ?_⟩
      · simp only [vS] at hv ⊢; rw [← hgk]; exact hv
      · simp only [vY]; rw [hgk]
  have hself : vS (put1E es clock k y) k = true := by
    have hgk := hg k
    rw [if_pos rfl] at hgk
    have hgk : mapGet [C.str k] (put1E es clock k y) = _ := hgk
    simp only [vS]; rw [hgk]; rfl
  unfold putR
  rw [h.put1O]
  by_cases hle : ((put1E es clock k y).length : Int) ≤ room
  · refine ⟨_, _, evG_le hle, h1, hle, hget, fun _ => hself, ?_⟩
    rw [if_neg (by omega)]
  · have hgt : ((put1E es clock k y).length : Int) > room := by omega
    cases ho : keepO k ord ++ [newE clock k] with
    | nil => simp at ho
    | cons e r =>
      rw [ho] at h1
      have hd := (MI.del (l1 := []) h1)
      have hdl : (mapDel [.str (kO e)] (put1E es clock k y)).length + 1 = (put1E es clock k y).length := del_len (cnt_vS (h1.cnt e List.mem_cons_self)).1
      refine ⟨_, _, evG_one hgt (by omega), hd, by omega, ?_, ?_, ?_⟩
      · intro k' hv
        obtain ⟨hk1, hk2, hk3⟩ := del_get h1 (kO e) k' hv
        rcases hget k' hk2 with ⟨ha, hb⟩ | ⟨ha, hb, hc⟩
        · exact .inl ⟨ha, hk3.trans hb⟩
        · exact .inr ⟨ha, hb, hk3.trans hc⟩
      · intro hr0
        -- the one that goes is not the new one
        have hne : k ≠ kO e := by
          intro hke
          have hkl : 0 < (keepO k ord).length := by omega
          cases hkp : keepO k ord with
          | nil => rw [hkp] at hkl; exact absurd hkl (by simp)
          | cons e' r' =>
            rw [hkp] at ho
            have : e' = e := (List.cons.inj ho).1
            have hm : e' ∈ keepO k ord := by rw [hkp]; exact List.mem_cons_self
            have := (List.mem_filter.1 hm).2
            simp at this
            exact this (by rw [(List.cons.inj ho).1]; exact hke.symm)
        have hgd := get_del (k := kO e) (k' := k) h1.eo h1.ne
        rw [if_neg hne] at hgd
        have hgd : mapGet [C.str k] (mapDel [.str (kO e)] (put1E es clock k y)) = mapGet [C.str k] (put1E es clock k y) := hgd
        simp only [vS] at hself ⊢; rw [hgd]; exact hself
      · rw [if_pos (by omega), ho]; rfl
theorem lastG_append (k : ByteArray) (a : List C) : ∀ (l : Row) (p : Bool × Bool), lastG k (l ++ [a]) p = (bif ((a.getD 0 .nf).toInt == 1) && ((a.getD 2 .nf).toStr.toList == k.toList) then ((a.getD 3 .nf).toBool, true) else lastG k l p) := by
  intro l
  induction l with
  | nil => intro p; rfl
  | cons x r ih => intro p; exact ih _
/-- the verdicts are the last puts' -/
def VR (es : Ents) (acts : Row) : Prop := ∀ k, vS es k = true → lastG k acts (false, false) = (vY es k, true)
end Go.Proofs.Ythfjmmhigapkpaa
