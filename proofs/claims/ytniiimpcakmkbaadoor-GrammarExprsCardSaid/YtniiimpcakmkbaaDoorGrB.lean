/- grammar: plain facts on the parts -/
import Derived.Test.YtniiimpcakmkbaaDoorGrA
set_option linter.unusedVariables false
namespace Go.Proofs.YtniiimpcakmkbaaDoor
open Go Vm
theorem PS.eta (s : PS) : (⟨s.at_, s.op, s.er⟩ : PS) = s := rfl
structure St8 (L : List (List C)) (s : PS) : Prop where
  tk : L.all isTok = true
  len : L.length < 1000000
  a0 : 0 ≤ s.at_
  a1 : s.at_ ≤ L.length
  o0 : 0 ≤ s.op
  o1 : s.op ≤ 8
  e2 : s.er ≤ 2
theorem stOk_iff {L : List (List C)} {s : PS} : stOk L s = true ↔ St8 L s := by
  unfold stOk
  simp only [Bool.and_eq_true, decide_eq_true_eq]
  exact ⟨fun ⟨⟨⟨⟨⟨⟨h1, h2⟩, h3⟩, h4⟩, h5⟩, h6⟩, h7⟩ => ⟨h1, h2, h3, h4, h5, h6, h7⟩, fun h => ⟨⟨⟨⟨⟨⟨h.tk, h.len⟩, h.a0⟩, h.a1⟩, h.o0⟩, h.o1⟩, h.e2⟩⟩
theorem beq0 (n : Nat) : Nat.beq n 0 = decide (n = 0) := by cases n <;> rfl
theorem kind_some {L : List (List C)} {s : PS} {k : Int} (hk : k ≠ 0) (h : (kindG L s == k) = true) : s.er = 0 ∧ s.at_ < L.length ∧ tkK L s.at_ = k := by
  unfold kindG at h
  rw [beq0] at h
  by_cases h1 : s.er = 0
  · by_cases h2 : s.at_ ≥ (L.length : Int)
    · rw [decide_eq_true h1, decide_eq_true h2] at h
      simp at h; omega
    · rw [decide_eq_true h1, decide_eq_false h2] at h
      exact ⟨h1, by omega, by simpa using h⟩
  · rw [decide_eq_false h1] at h
    simp at h; omega
/-- s is at s0 or behind it, with as many brackets open -/
structure Fol (s0 s : PS) : Prop where
  a : s0.at_ ≤ s.at_
  o : s.op = s0.op
theorem Fol.refl (s : PS) : Fol s s := ⟨Int.le_refl _, rfl⟩
theorem Fol.trans {a b c : PS} (h : Fol a b) (g : Fol b c) : Fol a c := ⟨Int.le_trans h.a g.a, g.o.trans h.o⟩
theorem gnext_ok {L : List (List C)} {s : PS} (h : St8 L s) (hl : s.at_ < L.length) : St8 L (nextG s) ∧ Fol s (nextG s) :=
  ⟨⟨h.tk, h.len, by have := h.a0; show 0 ≤ s.at_ + 1; omega, by show s.at_ + 1 ≤ _; omega, h.o0, h.o1, h.e2⟩, ⟨by show s.at_ ≤ s.at_ + 1; omega, rfl⟩⟩
theorem gfail_ok {L : List (List C)} {s : PS} (h : St8 L s) {n : Nat} (hn : n ≤ 2) : St8 L (failG n s) ∧ Fol s (failG n s) := by
  refine ⟨⟨h.tk, h.len, h.a0, h.a1, h.o0, h.o1, ?_⟩, ⟨Int.le_refl _, rfl⟩⟩
  unfold failG
  simp only
  cases Nat.beq s.er 0 with
  | true => exact hn
  | false => exact h.e2
theorem gtake_ok {L : List (List C)} {s : PS} (h : St8 L s) {k : Int} (hk : k ≠ 0) : St8 L (takeG L k s).1 ∧ Fol s (takeG L k s).1 := by
  unfold takeG
  cases hc : kindG L s == k with
  | true => exact gnext_ok h (kind_some hk hc).2.1
  | false => exact gfail_ok h (by omega)
theorem gmay_ok {L : List (List C)} {s : PS} (h : St8 L s) {k : Int} (hk : k ≠ 0) : St8 L (mayG L k s) ∧ Fol s (mayG L k s) := by
  unfold mayG
  cases hc : kindG L s == k with
  | true => exact gnext_ok h (kind_some hk hc).2.1
  | false => exact ⟨h, Fol.refl s⟩
theorem may_yes {L : List (List C)} {s : PS} {k : Int} (hc : (kindG L s == k) = true) : mayG L k s = nextG s := by unfold mayG; rw [hc]; rfl
theorem may_no {L : List (List C)} {s : PS} {k : Int} (hc : (kindG L s == k) = false) : mayG L k s = s := by unfold mayG; rw [hc]; rfl
/-- a reader that goes on from a state to one behind it, with a node -/
def Good (L : List (List C)) (f : Rd) (d : Nat) : Prop := ∀ s, St8 L s → lvl s = d → St8 L (f s).1 ∧ Fol s (f s).1 ∧ isNd (f s).2 = true
theorem lvl_fol {a b : PS} (h : Fol a b) : lvl b = lvl a := by unfold lvl; rw [h.o]
theorem atom_good {L : List (List C)} {un : Rd} {d : Nat} (hu : ∀ d', d = d' + 1 → Good L un d') : Good L (atomG L un) d := by
  intro s h hd
  unfold atomG
  cases h40 : kindG L s == 40 with
  | true =>
    rw [cond_true]
    by_cases h8 : s.op ≥ 8
    · rw [decide_eq_true h8, cond_true]
      obtain ⟨h1, h2⟩ := gfail_ok h (n := 2) (by omega)
      exact ⟨h1, h2, rfl⟩
    · rw [decide_eq_false h8, cond_false]
      have ho := h.o0
      have h1 : St8 L ⟨s.at_, s.op + 1, s.er⟩ := ⟨h.tk, h.len, h.a0, h.a1, by simp only; omega, by simp only; omega, h.e2⟩
      obtain ⟨h2, f2⟩ := gtake_ok h1 (k := 40) (by decide)
      have hd1 : ∃ d', d = d' + 1 ∧ lvl (takeG L 40 ⟨s.at_, s.op + 1, s.er⟩).1 = d' := by
        refine ⟨(7 - s.op).toNat, ?_, ?_⟩
        · rw [← hd]; unfold lvl; omega
        · rw [lvl_fol f2]; unfold lvl; simp only; omega
      obtain ⟨d', hd', hl⟩ := hd1
      obtain ⟨h3, f3, n3⟩ := hu d' hd' _ h2 hl
      obtain ⟨h4, f4⟩ := gtake_ok h3 (k := 41) (by decide)
      have f5 := (f2.trans f3).trans f4
      have e5 : (takeG L 41 (un (takeG L 40 ⟨s.at_, s.op + 1, s.er⟩).1).1).1.op = s.op + 1 := f5.o
      have a5 : s.at_ ≤ (takeG L 41 (un (takeG L 40 ⟨s.at_, s.op + 1, s.er⟩).1).1).1.at_ := f5.a
      exact ⟨⟨h4.tk, h4.len, h4.a0, h4.a1, by simp only; omega, by simp only; omega, h4.e2⟩, ⟨a5, by simp only; omega⟩, n3⟩
  | false =>
    rw [cond_false]
    cases h4 : kindG L s == 4 with
    | true =>
      obtain ⟨h1, h2⟩ := gnext_ok h (kind_some (by decide) h4).2.1
      exact ⟨h1, h2, rfl⟩
    | false =>
      rw [cond_false]
      obtain ⟨h1, f1⟩ := gtake_ok h (k := 1) (by decide)
      cases h5 : kindG L (takeG L 1 s).1 == 5 with
      | true =>
        obtain ⟨h2, f2⟩ := gnext_ok h1 (kind_some (by decide) h5).2.1
        obtain ⟨h3, f3⟩ := gtake_ok h2 (k := 1) (by decide)
        exact ⟨h3, (f1.trans f2).trans f3, rfl⟩
      | false => exact ⟨h1, f1, rfl⟩
theorem less_good {L : List (List C)} {un : Rd} {d : Nat} (hu : ∀ d', d = d' + 1 → Good L un d') : Good L (lessG L un) d := by
  intro s h hd
  unfold lessG
  obtain ⟨h1, f1, n1⟩ := atom_good hu s h hd
  cases hk : kindG L (atomG L un s).1 == 45 with
  | true =>
    obtain ⟨h2, f2⟩ := gnext_ok h1 (kind_some (by decide) hk).2.1
    obtain ⟨h3, f3, _⟩ := atom_good hu _ h2 ((lvl_fol (f1.trans f2)).trans hd)
    exact ⟨h3, (f1.trans f2).trans f3, rfl⟩
  | false => exact ⟨h1, f1, n1⟩
theorem more_good {L : List (List C)} {one : Rd} {d : Nat} (ho : Good L one d) {sg : Int} (hsg : sg ≠ 0) : ∀ (n : Nat) (s : PS) (out : List Nde), St8 L s → lvl s = d → out.all isNd = true →
    St8 L (moreG L one sg n s out).1 ∧ Fol s (moreG L one sg n s out).1 ∧ (moreG L one sg n s out).2.all isNd = true ∧ ((moreG L one sg n s out).2.length : Int) ≤ out.length + (L.length - s.at_) := by
  intro n
  induction n with
  | zero => intro s out h hd hn; have := h.a1; exact ⟨h, Fol.refl s, hn, by simp only [moreG]; omega⟩
  | succ n ih =>
    intro s out h hd hn
    unfold moreG
    cases hk : kindG L s == sg with
    | true =>
      rw [cond_true]
      obtain ⟨_, hlt, _⟩ := kind_some hsg hk
      obtain ⟨h2, f2⟩ := gnext_ok h hlt
      obtain ⟨h3, f3, n3⟩ := ho _ h2 ((lvl_fol f2).trans hd)
      have hn' : (out ++ [(one (nextG s)).2]).all isNd = true := by rw [List.all_append, hn]; simp [n3]
      obtain ⟨x1, x2, x3, x4⟩ := ih (one (nextG s)).1 (out ++ [(one (nextG s)).2]) h3 ((lvl_fol (f2.trans f3)).trans hd) hn'
      refine ⟨x1, (f2.trans f3).trans x2, x3, ?_⟩
      have e1 := f3.a
      have e2 : (nextG s).at_ = s.at_ + 1 := rfl
      simp only [List.length_append, List.length_cons, List.length_nil] at x4
      push_cast at x4
      omega
    | false => have := h.a1; rw [cond_false]; exact ⟨h, Fol.refl s, hn, by simp only; omega⟩
theorem more_fuel {L : List (List C)} {one : Rd} {d : Nat} (ho : Good L one d) {sg : Int} (hsg : sg ≠ 0) : ∀ (n n' : Nat) (s : PS) (out : List Nde), St8 L s → lvl s = d → (L.length : Int) - s.at_ < n → (L.length : Int) - s.at_ < n' →
    moreG L one sg n s out = moreG L one sg n' s out := by
  intro n
  induction n with
  | zero => intro n' s out h _ h1; have := h.a1; omega
  | succ n ih =>
    intro n' s out h hd h1 h2
    cases n' with
    | zero => have := h.a1; omega
    | succ n' =>
      unfold moreG
      cases hk : kindG L s == sg with
      | true =>
        rw [cond_true, cond_true]
        obtain ⟨_, hlt, _⟩ := kind_some hsg hk
        obtain ⟨g2, f2⟩ := gnext_ok h hlt
        obtain ⟨g3, f3, n3⟩ := ho _ g2 ((lvl_fol f2).trans hd)
        have e1 := f3.a
        have e2 : (nextG s).at_ = s.at_ + 1 := rfl
        exact ih n' _ _ g3 ((lvl_fol (f2.trans f3)).trans hd) (by push_cast at h1; omega) (by push_cast at h2; omega)
      | false => rfl
theorem list_good {L : List (List C)} {one : Rd} {d : Nat} (ho : Good L one d) {sg : Int} (hsg : sg ≠ 0) {s : PS} (h : St8 L s) (hd : lvl s = d) :
    St8 L (listG L one sg s).1 ∧ Fol s (listG L one sg s).1 ∧ (listG L one sg s).2.all isNd = true ∧ (listG L one sg s).2.length < 1000002 := by
  obtain ⟨h1, f1, n1⟩ := ho s h hd
  obtain ⟨x1, x2, x3, x4⟩ := more_good ho hsg (L.length + 1) (one s).1 [(one s).2] h1 ((lvl_fol f1).trans hd) (by simp [n1])
  have := h.len; have := h1.a0
  refine ⟨x1, f1.trans x2, x3, ?_⟩
  unfold listG
  simp only [List.length_cons, List.length_nil] at x4
  push_cast at x4
  omega
theorem of_nd {k : Int} {l : List Nde} (h : l.all isNd = true) : isNd (ofG k l) = true := by
  unfold ofG
  cases hl : l.length == 1 with
  | false => rfl
  | true =>
    match l, hl with
    | [x], _ => simpa using h
theorem meet_good {L : List (List C)} {un : Rd} {d : Nat} (hu : ∀ d', d = d' + 1 → Good L un d') : Good L (meetG L un) d := by
  intro s h hd
  obtain ⟨x1, x2, x3, _⟩ := list_good (less_good hu) (sg := 38) (by decide) h hd
  exact ⟨x1, x2, of_nd x3⟩
theorem union_good {L : List (List C)} {un : Rd} {d : Nat} (hu : ∀ d', d = d' + 1 → Good L un d') : Good L (unionL L un) d := by
  intro s h hd
  obtain ⟨x1, x2, x3, _⟩ := list_good (meet_good hu) (sg := 124) (by decide) h hd
  exact ⟨x1, x2, of_nd x3⟩
theorem unionN_good (L : List (List C)) : ∀ d, Good L (unionN L d) d := by
  intro d
  induction d with
  | zero => exact union_good (fun d' h => by omega)
  | succ d ih => exact union_good (fun d' h => by have : d' = d := by omega
                                                  subst this; exact ih)
theorem inner_good (L : List (List C)) (d : Nat) : ∀ d', d = d' + 1 → Good L (innerN L d) d' := by
  intro d' h; subst h; exact unionN_good L d'
theorem atomA_good {L : List (List C)} {s : PS} (h : St8 L s) : St8 L (atomA L s).1 ∧ Fol s (atomA L s).1 ∧ isNd (atomA L s).2 = true := by
  rw [atomA_eq]; exact atom_good (inner_good L _) s h rfl
theorem lessA_good {L : List (List C)} {s : PS} (h : St8 L s) : St8 L (lessA L s).1 ∧ Fol s (lessA L s).1 ∧ isNd (lessA L s).2 = true := by
  rw [lessA_eq]; exact less_good (inner_good L _) s h rfl
theorem meetA_good {L : List (List C)} {s : PS} (h : St8 L s) : St8 L (meetA L s).1 ∧ Fol s (meetA L s).1 ∧ isNd (meetA L s).2 = true := by
  rw [meetA_eq]; exact meet_good (inner_good L _) s h rfl
theorem unionA_good {L : List (List C)} {s : PS} (h : St8 L s) : St8 L (unionA L s).1 ∧ Fol s (unionA L s).1 ∧ isNd (unionA L s).2 = true := by
  rw [unionA_eq]; exact union_good (inner_good L _) s h rfl
theorem listLess_good {L : List (List C)} {s : PS} (h : St8 L s) {sg : Int} (hsg : sg ≠ 0) : St8 L (listLess L sg s).1 ∧ Fol s (listLess L sg s).1 ∧ (listLess L sg s).2.all isNd = true ∧ (listLess L sg s).2.length < 1000002 := by
  rw [listLess_eq]; exact list_good (less_good (inner_good L _)) hsg h rfl
theorem listMeet_good {L : List (List C)} {s : PS} (h : St8 L s) {sg : Int} (hsg : sg ≠ 0) : St8 L (listMeet L sg s).1 ∧ Fol s (listMeet L sg s).1 ∧ (listMeet L sg s).2.all isNd = true ∧ (listMeet L sg s).2.length < 1000002 := by
  rw [listMeet_eq]; exact list_good (meet_good (inner_good L _)) hsg h rfl
/-! the sealed parts in terms of each other -/
theorem lessA_step {L : List (List C)} {s : PS} (h : St8 L s) : lessA L s = bif kindG L (atomA L s).1 == 45 then ((atomA L (nextG (atomA L s).1)).1, ndC 6 bE bE [(atomA L s).2, (atomA L (nextG (atomA L s).1)).2]) else ((atomA L s).1, (atomA L s).2) := by
  obtain ⟨h1, f1, _⟩ := atomA_good h
  have e : lvl (nextG (atomA L s).1) = lvl s := by show lvl (atomA L s).1 = _; exact lvl_fol f1
  rw [lessA_eq, atomA_eq L (nextG (atomA L s).1), e]
  unfold lessG
  rw [← atomA_eq]
theorem meetA_step {L : List (List C)} {s : PS} : meetA L s = ((listLess L 38 s).1, ofG 5 (listLess L 38 s).2) := by rw [meetA_eq, listLess_eq]; rfl
theorem unionA_step {L : List (List C)} {s : PS} : unionA L s = ((listMeet L 124 s).1, ofG 4 (listMeet L 124 s).2) := by rw [unionA_eq, listMeet_eq]; rfl
end Go.Proofs.YtniiimpcakmkbaaDoor
