/- memo and its reference: the plain law -/
import Derived.Test.YthfjmmhigapkpaaMp
import Derived.Test.YthfjmmhigapkpaaMh
set_option linter.unusedVariables false
namespace Go.Proofs.Ythfjmmhigapkpaa
open Go Vm
def gV (es : Ents) (e : List C) : List C := [.str (kO e), .bool (vY es (kO e))]
/-- the reference's row -/
def refL (es : Ents) (ord : Row) : Row := ord.map (gV es)
theorem refL_ok (es : Ents) (ord : Row) (h : ord.length < 1000000) : okL (refL es ord) = true := by
  refine okL_iff.2 ⟨fun e he => ?_, by unfold refL; rw [List.length_map]; exact h⟩
  obtain ⟨x, _, rfl⟩ := List.mem_map.1 he; rfl
theorem refL_len (es : Ents) (ord : Row) : (refL es ord).length = ord.length := List.length_map _
theorem refL_congr {es es' : Ents} {ord : Row} (h : ∀ e ∈ ord, vY es' (kO e) = vY es (kO e)) : refL es' ord = refL es ord := by
  unfold refL; exact List.map_congr_left (fun e he => by simp only [gV]; rw [h e he])
theorem find_spec (es : Ents) (k : ByteArray) : ∀ (ord : Row) (i : Nat), (findL k (refL es ord) i = -1 ∧ ∀ e ∈ ord, kO e ≠ k) ∨
    (∃ l1 e l2, ord = l1 ++ e :: l2 ∧ kO e = k ∧ (∀ x ∈ l1, kO x ≠ k) ∧ findL k (refL es ord) i = ((i + l1.length : Nat) : Int)) := by
  intro ord
  induction ord with
  | nil => intro i; exact .inl ⟨rfl, fun e he => by cases he⟩
  | cons e r ih =>
    intro i
    have hu : findL k (refL es (e :: r)) i = bif (kO e).toList == k.toList then (i : Int) else findL k (refL es r) (i + 1) := rfl
    rw [hu]
    by_cases hk : kO e = k
    · right
      refine ⟨[], e, r, rfl, hk, fun x hx => (by cases hx), ?_⟩
      rw [hk, beq_self_eq_true]; rfl
    · have : ((kO e).toList == k.toList) = false := by
        cases hb : (kO e).toList == k.toList with
        | false => rfl
        | true => exact (hk (str_inj (eq_of_beq hb))).elim
      rw [this, cond_false]
      rcases ih (i + 1) with ⟨h1, h2⟩ | ⟨l1, e', l2, h1, h2, h3, h4⟩
      · left
        refine ⟨h1, fun x hx => ?_⟩
        rcases List.mem_cons.1 hx with h | h
        · subst h; exact hk
        · exact h2 x h
      · right
        refine ⟨e :: l1, e', l2, by rw [h1]; rfl, h2, fun x hx => ?_, by rw [h4, List.length_cons]; congr 1; omega⟩
        rcases List.mem_cons.1 hx with h | h
        · subst h; exact hk
        · exact h3 x h
theorem keep_all {k : ByteArray} {ord : Row} (h : ∀ e ∈ ord, kO e ≠ k) : keepO k ord = ord :=
  List.filter_eq_self.2 (fun e he => by simp [h e he])
theorem keep_at {k : ByteArray} {l1 l2 : Row} {e : List C} (hn : ((l1 ++ e :: l2).map kO).Nodup) (hk : kO e = k) (h1 : ∀ x ∈ l1, kO x ≠ k) : keepO k (l1 ++ e :: l2) = l1 ++ l2 := by
  have h2 : ∀ x ∈ l2, kO x ≠ k := by
    intro x hx he
    rw [List.map_append, List.map_cons, List.nodup_append] at hn
    exact (List.nodup_cons.1 hn.2.1).1 (by rw [hk, ← he]; exact List.mem_map_of_mem hx)
  have a1 := keep_all h1
  have a2 := keep_all h2
  unfold keepO at a1 a2 ⊢
  rw [List.filter_append, a1, List.filter_cons]
  simp only [hk, decide_true, Bool.not_true, Bool.false_eq_true, if_false]
  rw [a2]
/-- without a key -/
theorem ref_without {clock : Int} {es : Ents} {ord : Row} (h : MI clock es ord) (k : ByteArray) : (bif decide (findL k (refL es ord) 0 ≥ 0) then (refL es ord).eraseIdx (findL k (refL es ord) 0).toNat else refL es ord) = refL es (keepO k ord) := by
  rcases find_spec es k ord 0 with ⟨h1, h2⟩ | ⟨l1, e, l2, h1, h2, h3, h4⟩
  · rw [h1, keep_all h2]; rfl
  · rw [h4, Nat.zero_add]
    have d1 : decide ((l1.length : Int) ≥ 0) = true := by simp
    have q : (l1.length : Int).toNat = l1.length := by omega
    have hn := h.nd
    rw [h1] at hn
    rw [d1, cond_true, q, h1, keep_at hn h2 h3]
    unfold refL
    rw [List.map_append, List.map_cons, List.map_append]
    have hl : (l1.map (gV es)).length = l1.length := List.length_map _
    rw [List.eraseIdx_append_of_length_le (by rw [hl]; omega), hl, Nat.sub_self]
    rfl
theorem ref_put {room clock : Int} {es es' : Ents} {ord ord' : Row} {k : ByteArray} {y : Bool} (h : MI clock es ord) (hp : PutRes room clock es ord k y es' ord') : rputL (refL es ord) room k y = refL es' ord' := by
  rw [rputL_add, ref_without h]
  have hf : ∀ e ∈ ord', gV es' e = [.str (kO e), .bool (bif decide (kO e = k) then y else vY es (kO e))] := by
    intro e he
    have hv : vS es' (kO e) = true := (hp.mi.mem (kO e)).2 (List.mem_map_of_mem he)
    unfold gV
    rcases hp.get (kO e) hv with ⟨h1, h2⟩ | ⟨h1, _, h3⟩
    · rw [h2, decide_eq_true h1]; rfl
    · rw [h3, decide_eq_false h1]; rfl
  have hr : refL es' ord' = ord'.map (fun e => [.str (kO e), .bool (bif decide (kO e = k) then y else vY es (kO e))]) := List.map_congr_left hf
  rw [hr, hp.od]
  have hk : (keepO k ord).map (fun e => [C.str (kO e), C.bool (bif decide (kO e = k) then y else vY es (kO e))]) = refL es (keepO k ord) := by
    refine List.map_congr_left (fun e he => ?_)
    have := (List.mem_filter.1 he).2
    have hne : ¬ kO e = k := by simpa using this
    rw [decide_eq_false hne]; rfl
  have hnew : (fun e => [C.str (kO e), C.bool (bif decide (kO e = k) then y else vY es (kO e))]) (newE clock k) = [C.str k, C.bool y] := by
    have : kO (newE clock k) = k := rfl
    simp only [this, decide_true, cond_true]
  have hall : (keepO k ord ++ [newE clock k]).map (fun e => [C.str (kO e), C.bool (bif decide (kO e = k) then y else vY es (kO e))]) = refL es (keepO k ord) ++ ([[.str k, .bool y]] : Row) := by
    rw [List.map_append, hk]
    exact congrArg (fun q => refL es (keepO k ord) ++ [q]) hnew
  unfold addR
  have hlen : ((refL es (keepO k ord) ++ ([[.str k, .bool y]] : Row)).length : Int) = ((keepO k ord).length : Int) + 1 := by
    rw [List.length_append, refL_len]; simp
  rw [hlen]
  by_cases hgt : ((keepO k ord).length : Int) + 1 > room
  · rw [decide_eq_true hgt, cond_true, if_pos hgt, List.map_drop, hall]
  · rw [decide_eq_false hgt, cond_false, if_neg hgt, hall]
theorem ref_drop {clock : Int} {es : Ents} {ord : Row} {m : Nat} {e : List C} (h : MI clock es ord) (hg : ord[m]? = some e) : MI clock (mapDel [.str (kO e)] es) (ord.eraseIdx m) ∧ refL (mapDel [.str (kO e)] es) (ord.eraseIdx m) = (refL es ord).eraseIdx m := by
  have hsplit : ord = ord.take m ++ e :: ord.drop (m + 1) := by rw [← drop_cons hg, List.take_append_drop]
  have hm' : MI clock (mapDel [.str (kO e)] es) (ord.eraseIdx m) := by
    rw [List.eraseIdx_eq_take_drop_succ]
    have h2 := h
    rw [hsplit] at h2
    exact h2.del
  refine ⟨hm', ?_⟩
  have hc : refL (mapDel [.str (kO e)] es) (ord.eraseIdx m) = refL es (ord.eraseIdx m) := refL_congr (fun x hx => by
    have hv := (hm'.mem (kO x)).2 (List.mem_map_of_mem hx)
    exact (del_get h (kO e) (kO x) hv).2.2)
  rw [hc]
  unfold refL
  rw [List.eraseIdx_eq_take_drop_succ, List.eraseIdx_eq_take_drop_succ, List.map_append, List.map_take, List.map_drop]
/-- a key is there, or not -/
theorem ref_find {clock : Int} {es : Ents} {ord : Row} (h : MI clock es ord) (k : ByteArray) :
    (vS es k = false ∧ findL k (refL es ord) 0 = -1 ∧ vY es k = false) ∨ (vS es k = true ∧ ∃ j : Nat, findL k (refL es ord) 0 = j ∧ (refL es ord)[j]? = some [.str k, .bool (vY es k)]) := by
  rcases find_spec es k ord 0 with ⟨h1, h2⟩ | ⟨l1, e, l2, h1, h2, h3, h4⟩
  · left
    have hv : vS es k = false := by
      cases hv : vS es k with
      | false => rfl
      | true =>
        obtain ⟨e, he, hek⟩ := List.mem_map.1 (h.sub k hv)
        exact (h2 e he hek).elim
    refine ⟨hv, h1, ?_⟩
    unfold vS at hv
    unfold vY
    cases hg : mapGet [C.str k] es with
    | none => rfl
    | some v => rw [hg] at hv; cases hv
  · right
    refine ⟨(h.mem k).2 (by rw [h1, ← h2]; exact List.mem_map_of_mem (by simp)), l1.length, by rw [h4, Nat.zero_add], ?_⟩
    unfold refL
    rw [List.getElem?_map, h1, List.getElem?_append_right (Nat.le_refl _), Nat.sub_self]
    show some (gV es e) = _
    unfold gV; rw [h2]
end Go.Proofs.Ythfjmmhigapkpaa
