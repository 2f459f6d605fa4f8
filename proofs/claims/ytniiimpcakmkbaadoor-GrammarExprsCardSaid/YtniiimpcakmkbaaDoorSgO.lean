/- the reference of sigil: among, place, part, text answer by their trees -/
import Derived.Test.YtniiimpcakmkbaaDoorSgN
import Derived.Test.YtniiimpcakmkbaaDoorSgC
set_option linter.unusedVariables false
namespace Go.Proofs.YtniiimpcakmkbaaDoor
open Go Vm Go.RowKit
theorem isI_parts {e : List C} (h : isI e = true) : ∃ n : Int, e = [C.int .i64 n] := by
  match e, h with
  | [.int .i64 n], _ => exact ⟨n, rfl⟩
theorem drop_get {α : Type} {l : List α} {i : Nat} {x : α} (h : l[i]? = some x) : l.drop i = x :: l.drop (i + 1) := by
  have hlt := (List.getElem?_eq_some_iff.1 h).1
  rw [List.drop_eq_getElem_cons hlt]
  have := (List.getElem?_eq_some_iff.1 h).2
  rw [this]
theorem r_among_loop {R : Type} (m : Int) (K : X → St → Option R) (F : Nat) (v : Int) (l : List (List C)) (hI : l.all isI = true) (hl : l.length < 1000000) : ∀ (n i : Nat), i ≤ l.length → l.length - i < n →
    r_among_L0 m K F n v l i = bif amongP v (l.drop i) then K .rt r_among_E1 else K (.ex 0) r_among_E2 := by
  intro n
  induction n with
  | zero => intro i _ h; omega
  | succ n ih =>
    intro i hi h
    rw [r_among_r0]
    by_cases hlt : i < l.length
    · have hget : l[i]? = some l[i] := List.getElem?_eq_getElem hlt
      obtain ⟨x, hx⟩ := isI_parts (List.all_eq_true.1 hI _ (List.getElem_mem hlt))
      rw [hx] at hget
      rw [drop_get hget]
      have d1 : decide ((i : Int) < (l.length : Int)) = true := by simpa using hlt
      have d2 : decide ((0 : Int) ≤ (i : Int)) = true := by simp
      have e1 : ∀ {γ : Type} (k : C → Option γ), getT [C.int .i64 x] 0 k = k (C.int .i64 x) := fun k => rfl
      have e2 : shOk [Sh.int IntKind.i64] [C.int .i64 x] = true := rfl
      have e3 : ([C.int IntKind.i64 x].getD 0 C.nf).toInt = x := rfl
      have e4 : numE [C.int IntKind.i64 x] = x := rfl
      rw [d1, cond_true, d2, cond_true, getT_at rfl hget, e1, e2, cond_true, e3, w64 _ (by omega) (by omega)]
      simp only [amongP, e4]
      cases hv : x == v with
      | true => simp only [Bool.true_or, cond_true]
      | false => simp only [Bool.false_or, cond_false]; exact ih (i + 1) (by omega) (by omega)
    · have : i = l.length := by omega
      subst this
      have d1 : decide ((l.length : Int) < (l.length : Int)) = false := by simp
      rw [d1, cond_false, List.drop_length]; rfl
theorem among_ok (m : Int) : SpecOk Tryd.prog (globT m) 33 amongS := by
  intro a b v b' h
  unfold amongS at h
  split at h
  · rename_i x l
    rcases run_ite h with ⟨hl, h⟩ | ⟨_, h⟩
    · simp only [Bool.and_eq_true, decide_eq_true_eq] at hl
      obtain ⟨rfl, rfl⟩ := run_ret h
      refine specAtG mix vti_ok Tryd.func33 rfl (by kernel_rfl) .nil (l.length + 1) ((r_among_start m fin2 _ x l).trans ?_)
      rw [show (0 : Int) = ((0 : Nat) : Int) from rfl, r_among_loop m _ _ x l hl.1 hl.2 _ 0 (by omega) (by omega), List.drop_zero]
      cases amongP x l with
      | true => rw [cond_true, r_among_c1]
      | false => rw [cond_false, r_among_c2]
    · exact (run_no h).elim
  · cases h
theorem part_ok (m : Int) : SpecOk Tryd.prog (globT m) 35 partS := by
  intro a b v b' h
  unfold partS at h
  split at h
  · rename_i r f
    refine specAtG mix vti_ok Tryd.func35 rfl (by kernel_rfl) .nil 0 ((r_part_start m fin2 0 r f).trans ?_)
    unfold letterP at h
    cases h1 : decide (r ≥ 97) <;> cases h2 : decide (r ≤ 122) <;> cases h3 : decide (r ≥ 48) <;> cases h4 : decide (r ≤ 57) <;> cases f <;> rw [h1, h2, h3, h4] at h <;> cases h5 : r == 95 <;> rw [h5] at h <;> exact h
  · cases h
theorem r_place_loop {R : Type} (m : Int) (K : X → St → Option R) (F : Nat) (l : List (List C)) (hI : l.all isI = true) (hl : l.length < 1000000) (at_ : Nat) (hat : at_ ≤ l.length) : ∀ (n i : Nat) (x y : Int), i ≤ at_ → at_ - i < n →
    r_place_L0 m K F n l at_ x y i = K (.ex 0) (r_place_E1 (placeP ((l.take at_).drop i) x y).1 (placeP ((l.take at_).drop i) x y).2) := by
  intro n
  induction n with
  | zero => intro i x y _ h; omega
  | succ n ih =>
    intro i x y hi h
    rw [r_place_r0]
    by_cases hlt : i < at_
    · have hget : l[i]? = some l[i] := List.getElem?_eq_getElem (by omega)
      obtain ⟨z, hz⟩ := isI_parts (List.all_eq_true.1 hI _ (List.getElem_mem (by omega : i < l.length)))
      rw [hz] at hget
      have hget2 : (l.take at_)[i]? = some [C.int .i64 z] := by rw [List.getElem?_take, if_pos hlt]; exact hget
      rw [drop_get hget2]
      have d1 : decide ((i : Int) < (at_ : Int)) = true := by simpa using hlt
      have d2 : decide ((0 : Int) ≤ (i : Int)) = true := by simp
      have e1 : ∀ {γ : Type} (k : C → Option γ), getT [C.int .i64 z] 0 k = k (C.int .i64 z) := fun k => rfl
      have e2 : shOk [Sh.int IntKind.i64] [C.int .i64 z] = true := rfl
      have e3 : ([C.int IntKind.i64 z].getD 0 C.nf).toInt = z := rfl
      have e4 : numE [C.int IntKind.i64 z] = z := rfl
      rw [d1, cond_true, d2, cond_true, getT_at rfl hget, e1, e2, cond_true, e3, w64 ((i : Int) + 1) (by omega) (by omega)]
      simp only [placeP, e4, nextL, nextC]
      cases hv : z == 10 with
      | true => simp only [cond_true]; exact ih (i + 1) _ _ (by omega) (by omega)
      | false => simp only [cond_false]; exact ih (i + 1) _ _ (by omega) (by omega)
    · have : i = at_ := by omega
      subst this
      have d1 : decide ((i : Int) < (i : Int)) = false := by simp
      have hd : (l.take i).drop i = [] := List.drop_eq_nil_of_le (by rw [List.length_take]; omega)
      rw [d1, cond_false, hd]; rfl
theorem place_ok (m : Int) : SpecOk Tryd.prog (globT m) 34 placeS := by
  intro a b v b' h
  unfold placeS at h
  split at h
  · rename_i l at_
    rcases run_ite h with ⟨hl, h⟩ | ⟨_, h⟩
    · simp only [Bool.and_eq_true, decide_eq_true_eq] at hl
      obtain ⟨⟨⟨h1, h2⟩, h3⟩, h4⟩ := hl
      obtain ⟨rfl, rfl⟩ := run_ret h
      obtain ⟨k, rfl⟩ : ∃ k : Nat, at_ = k := ⟨at_.toNat, by omega⟩
      rw [Int.toNat_natCast]
      refine specAtG mix vti_ok Tryd.func34 rfl (by kernel_rfl) .nil (k + 1) ((r_place_start m fin2 _ l k).trans ?_)
      rw [show (0 : Int) = ((0 : Nat) : Int) from rfl, r_place_loop m _ _ l h1 h2 k (by omega) _ 0 _ _ (by omega) (by omega), List.drop_zero, r_place_c1]
    · exact (run_no h).elim
  · cases h
theorem okBytes_u8 : ∀ (l : List (List C)), okBytes (l.map u8E) = true := by
  intro l
  induction l with
  | nil => rfl
  | cons e r ih =>
    have hw : 0 ≤ IntKind.u8.wrap (numE e) ∧ IntKind.u8.wrap (numE e) < 256 := by
      have : IntKind.u8.wrap (numE e) = numE e % 256 := by simp [IntKind.wrap, IntKind.bits, IntKind.signed]
      rw [this]; omega
    simp only [List.map_cons, u8E, okBytes, decide_eq_true hw, Bool.true_and]; exact ih
theorem r_text_loop {R : Type} (m : Int) (K : X → St → Option R) (F : Nat) (l : List (List C)) (hI : l.all isI = true) (hl : l.length < 1000000) : ∀ (n i : Nat) (out : List (List C)), i ≤ l.length → l.length - i < n → out.length + (l.length - i) < 2000000 →
    r_text_L0 m K F n l out i = K (.ex 0) (r_text_E1 (out ++ (l.drop i).map u8E)) := by
  intro n
  induction n with
  | zero => intro i out _ h; omega
  | succ n ih =>
    intro i out hi h ho
    rw [r_text_r0]
    by_cases hlt : i < l.length
    · have hget : l[i]? = some l[i] := List.getElem?_eq_getElem hlt
      obtain ⟨z, hz⟩ := isI_parts (List.all_eq_true.1 hI _ (List.getElem_mem hlt))
      rw [hz] at hget
      rw [drop_get hget]
      have d1 : decide ((i : Int) < (l.length : Int)) = true := by simpa using hlt
      have d2 : decide ((0 : Int) ≤ (i : Int)) = true := by simp
      have e1 : ∀ {γ : Type} (k : C → Option γ), getT [C.int .i64 z] 0 k = k (C.int .i64 z) := fun k => rfl
      have e2 : shOk [Sh.int IntKind.i64] [C.int .i64 z] = true := rfl
      have e3 : ([C.int IntKind.i64 z].getD 0 C.nf).toInt = z := rfl
      have d3 : decide ((out.length + 1) * 1 ≤ 140737488355328 ∧ out.length + 1 ≤ 9223372036854775807) = true := by simp only [decide_eq_true_eq]; omega
      rw [d1, cond_true, d2, cond_true, getT_at rfl hget, e1, e2, cond_true, e3, d3, cond_true, w64 ((i : Int) + 1) (by omega) (by omega)]
      have := ih (i + 1) (out ++ [[C.int IntKind.u8 (IntKind.u8.wrap z)]]) (by omega) (by omega) (by simp; omega)
      rw [show ((i + 1 : Nat) : Int) = (i : Int) + 1 from rfl] at this
      rw [this, List.map_cons, List.append_assoc]
      rfl
    · have : i = l.length := by omega
      subst this
      have d1 : decide ((l.length : Int) < (l.length : Int)) = false := by simp
      rw [d1, cond_false, List.drop_length, List.map_nil, List.append_nil]
theorem text_ok (m : Int) : SpecOk Tryd.prog (globT m) 36 textS := by
  intro a b v b' h
  unfold textS at h
  split at h
  · rename_i l
    rcases run_ite h with ⟨hl, h⟩ | ⟨_, h⟩
    · simp only [Bool.and_eq_true, decide_eq_true_eq] at hl
      obtain ⟨rfl, rfl⟩ := run_ret h
      refine specAtG mix vti_ok Tryd.func36 rfl (by kernel_rfl) .nil (l.length + 1) ((r_text_start m fin2 _ l).trans ?_)
      rw [show (0 : Int) = ((0 : Nat) : Int) from rfl, r_text_loop m _ _ l hl.1 hl.2 _ 0 [] (by omega) (by omega) (by simp; omega), List.drop_zero, r_text_c1, List.nil_append, okBytes_u8, cond_true]
    · exact (run_no h).elim
  · cases h
end Go.Proofs.YtniiimpcakmkbaaDoor
