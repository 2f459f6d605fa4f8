/- memo: the reference's functions answer by their trees -/
import Derived.Test.YthfjmmhigapkpaaMd
import Derived.Test.YthfjmmhigapkpaaMx
set_option linter.unusedVariables false
namespace Go.Proofs.Ythfjmmhigapkpaa
open Go Vm
theorem vr_parts {e : List C} (h : vrOk e = true) : ∃ s y, e = [.str s, .bool y] := by
  unfold vrOk at h
  split at h
  · exact ⟨_, _, rfl⟩
  · cases h
theorem okL_iff {l : Row} : okL l = true ↔ (∀ e ∈ l, vrOk e = true) ∧ l.length < 1000000 := by
  simp only [okL, Bool.and_eq_true, List.all_eq_true, decide_eq_true_eq]
theorem findL_ge (k : ByteArray) : ∀ (l : Row) (i : Nat), findL k l i = -1 ∨ ∃ j : Nat, findL k l i = ((i + j : Nat) : Int) ∧ j < l.length := by
  intro l
  induction l with
  | nil => intro i; exact .inl rfl
  | cons e r ih =>
    intro i
    unfold findL
    cases (e.getD 0 C.nf).toStr.toList == k.toList with
    | true => exact .inr ⟨0, rfl, by simp⟩
    | false =>
      rw [cond_false]
      rcases ih (i + 1) with h | ⟨j, h, hj⟩
      · exact .inl h
      · exact .inr ⟨j + 1, by rw [h]; congr 1; omega, by simp; omega⟩
theorem find_loop {R : Type} (K : X → St → Option R) (F : Nat) (l : Row) (key : ByteArray) (ho : ∀ e ∈ l, vrOk e = true) (hl : l.length < 1000000) : ∀ (n i : Nat), i ≤ l.length → l.length - i < n →
    r_find_L0 K F n l key i = bif findL key (l.drop i) i == -1 then K (.ex 0) r_find_E2 else K .rt (r_find_E1 (findL key (l.drop i) i)) := by
  intro n
  induction n with
  | zero => intro i hi h; omega
  | succ n ih =>
    intro i hi hn
    rw [r_find_r0]
    by_cases hlt : i < l.length
    · have hget : l[i]? = some l[i] := List.getElem?_eq_getElem hlt
      obtain ⟨s, y, he⟩ := vr_parts (ho _ (List.getElem_mem hlt))
      rw [he] at hget
      have d1 : decide ((i : Int) < (l.length : Int)) = true := by simpa using hlt
      have d2 : decide ((0 : Int) ≤ (i : Int)) = true := by simp
      rw [d1, cond_true, d2, cond_true, getT_at rfl hget, w64 _ (by omega) (by omega), drop_cons hget]
      unfold findL
      show (bif s.toList == key.toList then _ else _) = _
      show _ = bif (bif s.toList == key.toList then (i : Int) else findL key (l.drop (i + 1)) (i + 1)) == -1 then _ else K .rt (r_find_E1 (bif s.toList == key.toList then (i : Int) else findL key (l.drop (i + 1)) (i + 1)))
      cases s.toList == key.toList with
      | true =>
        have : ((i : Int) == -1) = false := by simp
        rw [cond_true, cond_true, this]; rfl
      | false => rw [cond_false, cond_false]; exact ih (i + 1) (by omega) (by omega)
    · have : i = l.length := by omega
      subst this
      have d1 : decide ((l.length : Int) < (l.length : Int)) = false := by simp
      rw [d1, cond_false, List.drop_length]
      rfl
theorem find_ok : SpecOk Try.prog (fun _ => none) 16 (findS mfC) := by
  intro a b v b' h
  unfold findS at h
  split at h
  · rename_i l key
    rcases run_ite h with ⟨h1, hh⟩ | ⟨h1, hh⟩
    · obtain ⟨ho, hl⟩ := okL_iff.1 h1
      refine specAtD mix vti_ok Try.func16 rfl (by kernel_rfl) (l := []) .nil (l.length + 1) ((r_find_start _ _ _ _).trans ?_)
      rw [show (0 : Int) = ((0 : Nat) : Int) from rfl, find_loop _ _ _ _ ho hl _ 0 (by omega) (by omega), List.drop_zero]
      change (Tr.ret (vi (findL key l 0)) _).run fin2 = _ at hh
      cases hb : findL key l 0 == -1 with
      | true =>
        have := eq_of_beq hb
        rw [cond_true, r_find_c2]; rw [this] at hh; exact hh
      | false => rw [cond_false, r_find_c1]; exact hh
    · exact (run_no hh).elim
  · cases h
theorem both_of {R : Type} {a b : Option R} {r : R} (ha : a = some r) (hb : b = some r) : bothL [a, b] = some r := by
  show both a b = some r
  rw [ha, hb]; exact both_self _
theorem without_ok : SpecOk Try.prog (fun _ => none) 14 withoutS := by
  intro a b v b' h
  unfold withoutS at h
  split at h
  · rename_i l i
    rcases run_ite h with ⟨h1, hh⟩ | ⟨h1, hh⟩
    · rw [Bool.and_eq_true, decide_eq_true_eq] at h1
      obtain ⟨⟨h0, hil⟩, hok⟩ := h1
      obtain ⟨ho, hl⟩ := okL_iff.1 hok
      obtain ⟨m, rfl⟩ : ∃ m : Nat, i = m := ⟨i.toNat, by omega⟩
      have hml : m < l.length := by omega
      refine specAtD mix vti_ok Try.func14 rfl (by kernel_rfl) (l := []) .nil 0 ((r_without_start _ _ _ _).trans ?_)
      have hw : IntKind.i64.wrap ((m : Int) + 1) = (m : Int) + 1 := w64 _ (by omega) (by omega)
      have e1 : List.take (((m : Int)).toNat - 0) l = l.take m := by congr 1
      have e2 : List.take ((l.length : Int).toNat - ((m : Int) + 1).toNat) (List.drop ((m : Int) + 1).toNat l) = l.drop (m + 1) := by
        have : ((m : Int) + 1).toNat = m + 1 := by omega
        rw [this]; exact List.take_of_length_le (by simp)
      have d1 : decide ((0 : Int) ≤ 0 ∧ (0 : Int) ≤ (m : Int) ∧ (m : Int) ≤ (l.length : Int)) = true := by simp only [decide_eq_true_eq]; omega
      have d2 : decide ((0 : Int) ≤ (m : Int) + 1 ∧ (m : Int) + 1 ≤ (l.length : Int) ∧ (l.length : Int) ≤ (l.length : Int)) = true := by simp only [decide_eq_true_eq]; omega
      have d3 : decide ((l.take m).length * 24 ≤ 140737488355328 ∧ (l.take m).length ≤ 9223372036854775807) = true := by simp only [decide_eq_true_eq, List.length_take]; omega
      have d4 : decide ((l.drop (m + 1)).length * 24 ≤ 140737488355328 ∧ (l.drop (m + 1)).length ≤ 9223372036854775807) = true := by simp only [decide_eq_true_eq, List.length_drop]; omega
      have d5 : decide (((l.take m).length + (l.drop (m + 1)).length) * 24 ≤ 140737488355328 ∧ (l.take m).length + (l.drop (m + 1)).length ≤ 9223372036854775807) = true := by simp only [decide_eq_true_eq, List.length_drop, List.length_take]; omega
      have hcore : (bif (l.take m).isEmpty then (bif (l.drop (m + 1)).isEmpty then fin2 (vc (.sl 2 [])) [] else fin2 (vc (.sl 2 (l.drop (m + 1)))) []) else fin2 (vc (.sl 2 (l.take m ++ l.drop (m + 1)))) []) = some (v, b') := by
        have q5 : (m : Int).toNat = m := by omega
        rw [q5, List.eraseIdx_eq_take_drop_succ] at hh
        cases ht : l.take m with
        | nil =>
          rw [ht] at hh
          cases hd : l.drop (m + 1) with
          | nil => rw [hd] at hh; exact hh
          | cons e r => rw [hd] at hh; exact hh
        | cons e r => rw [ht] at hh; exact hh
      rw [hw, e1, e2, d1, d2, d3, d4, d5]
      simp only [cond_true]
      exact both_of hcore hcore
    · exact (run_no hh).elim
  · cases h
theorem tabMR_ok : TabS Try.prog (fun _ => none) [(16, findS mfC), (14, withoutS)] := .cons find_ok (.cons without_ok .nil)
/-- a row, one more behind it, cut to its room -/
def addR (q : Row) (room : Int) (key : ByteArray) (y : Bool) : Row := bif decide (((q ++ ([[.str key, .bool y]] : Row)).length : Int) > room) then (q ++ ([[.str key, .bool y]] : Row)).drop 1 else q ++ ([[.str key, .bool y]] : Row)
theorem add_run {q : Row} {room : Int} {key : ByteArray} {y : Bool} {v : V} {b' : Bx} (hq : q.length < 1000000) (hh : fin2 (vc (.sl 2 (addR q room key y))) [] = some (v, b')) :
    (bif decide ((0 + q.length) * 24 ≤ 140737488355328 ∧ 0 + q.length ≤ 9223372036854775807) then
      (bif decide ((q.length + 1) * 24 ≤ 140737488355328 ∧ q.length + 1 ≤ 9223372036854775807) then
        (bif decide (((q ++ ([[.str key, .bool y]] : Row)).length : Int) > room) then
          (bif decide ((0 : Int) ≤ (1 : Int) ∧ (1 : Int) ≤ ((q ++ ([[.str key, .bool y]] : Row)).length : Int) ∧ ((q ++ ([[.str key, .bool y]] : Row)).length : Int) ≤ ((q ++ ([[.str key, .bool y]] : Row)).length : Int)) then
            fin2 (vc (.sl 2 (List.take (((q ++ ([[.str key, .bool y]] : Row)).length : Int).toNat - 1) (List.drop 1 (q ++ ([[.str key, .bool y]] : Row)))))) []
          else none)
        else fin2 (vc (.sl 2 (q ++ ([[.str key, .bool y]] : Row)))) [])
      else none)
    else none) = some (v, b') := by
  have d1 : decide ((0 + q.length) * 24 ≤ 140737488355328 ∧ 0 + q.length ≤ 9223372036854775807) = true := by simp only [decide_eq_true_eq]; omega
  have d2 : decide ((q.length + 1) * 24 ≤ 140737488355328 ∧ q.length + 1 ≤ 9223372036854775807) = true := by simp only [decide_eq_true_eq]; omega
  rw [d1, cond_true, d2, cond_true]
  unfold addR at hh
  have hne : 1 ≤ (q ++ ([[.str key, .bool y]] : Row)).length := by simp
  generalize (q ++ ([[.str key, .bool y]] : Row)) = w at hh hne ⊢
  cases hd : decide ((w.length : Int) > room) with
  | false => rw [hd] at hh; exact hh
  | true =>
    rw [hd, cond_true] at hh
    have d3 : decide ((0 : Int) ≤ (1 : Int) ∧ (1 : Int) ≤ (w.length : Int) ∧ (w.length : Int) ≤ (w.length : Int)) = true := by simp only [decide_eq_true_eq]; omega
    have e3 : List.take ((w.length : Int).toNat - 1) (List.drop 1 w) = List.drop 1 w := List.take_of_length_le (by rw [List.length_drop]; omega)
    rw [cond_true, d3, cond_true, e3]; exact hh
theorem rputL_add (l : Row) (room : Int) (key : ByteArray) (y : Bool) : rputL l room key y = addR (bif decide (findL key l 0 ≥ 0) then l.eraseIdx (findL key l 0).toNat else l) room key y := rfl
theorem rput_ok : SpecOk Try.prog (fun _ => none) 13 (rputS mfC) := by
  intro a b v b' h
  unfold rputS at h
  split at h
  · rename_i l room key y
    rcases run_ite h with ⟨h1, hh⟩ | ⟨h1, hh⟩
    · obtain ⟨ho, hl⟩ := okL_iff.1 h1
      refine specAtD mix vti_ok Try.func13 rfl (by kernel_rfl) tabMR_ok 0 ((r_put_start mfC _ _ _ _ _ _).trans ?_)
      have hfi : mfC.fi l key = findL key l 0 := rfl
      change fin2 (vc (.sl 2 (rputL l room key y))) [] = some (v, b') at hh
      rw [rputL_add] at hh
      rw [h1, cond_true, hfi]
      rcases findL_ge key l 0 with hf | ⟨j, hf, hj⟩
      · rw [hf] at hh ⊢
        exact add_run (q := l) hl hh
      · rw [Nat.zero_add] at hf
        rw [hf] at hh ⊢
        have d1 : decide ((j : Int) ≥ 0) = true := by simp
        have d2 : decide ((0 : Int) ≤ (j : Int) ∧ (j : Int) < (l.length : Int)) = true := by rw [decide_eq_true_eq]; omega
        rw [d1, cond_true] at hh
        rw [d1, cond_true, d2, Bool.and_self, cond_true]
        have hle := List.length_eraseIdx_le l (j : Int).toNat
        exact add_run (q := l.eraseIdx (j : Int).toNat) (by omega) hh
    · exact (run_no hh).elim
  · cases h
end Go.Proofs.Ythfjmmhigapkpaa
