/- grammar: what Parse reads has a configuration's shape (plain) -/
import Derived.Test.YtniiimpcakmkbaaDoorGrCs
set_option linter.unusedVariables false
namespace Go.Proofs.YtniiimpcakmkbaaDoor
open Go Vm
theorem more_ok {L : List (List C)} {one : Rd} {P : Nde → Bool} {sg : Int} (hsg : sg ≠ 0) (ho : ∀ s, St8 L s → St8 L (one s).1 ∧ Fol s (one s).1 ∧ P (one s).2 = true) : ∀ (n : Nat) (s : PS) (out : List Nde), St8 L s → out.all P = true →
    (moreG L one sg n s out).2.all P = true ∧ ((moreG L one sg n s out).2.length : Int) ≤ out.length + (L.length - s.at_) := by
  intro n
  induction n with
  | zero => intro s out h ha; have := h.a1; exact ⟨ha, by simp only [moreG]; omega⟩
  | succ n ih =>
    intro s out h ha
    have h1 := h.a1
    unfold moreG
    cases hk : kindG L s == sg with
    | true =>
      obtain ⟨_, hlt, _⟩ := kind_some hsg hk
      obtain ⟨g2, f2⟩ := gnext_ok h hlt
      obtain ⟨g3, f3, p3⟩ := ho _ g2
      obtain ⟨r1, r2⟩ := ih (one (nextG s)).1 (out ++ [(one (nextG s)).2]) g3 (by rw [List.all_append, ha]; simp [p3])
      have e1 := f3.a
      have e2 : (nextG s).at_ = s.at_ + 1 := rfl
      refine ⟨r1, ?_⟩
      simp only [List.length_append, List.length_cons, List.length_nil] at r2
      rw [cond_true]
      push_cast at r2; omega
    | false => rw [cond_false]; exact ⟨ha, by simp only; omega⟩
theorem wh_ok {L : List (List C)} {one : Rd} {P : Nde → Bool} {k : Int} (hk0 : k ≠ 0) (ho : ∀ s, St8 L s → St8 L (one s).1 ∧ Fol (takeG L k s).1 (one s).1 ∧ P (one s).2 = true) : ∀ (n : Nat) (s : PS) (out : List Nde), St8 L s → out.all P = true →
    (whG L one k n s out).2.all P = true ∧ ((whG L one k n s out).2.length : Int) ≤ out.length + (L.length - s.at_) := by
  intro n
  induction n with
  | zero => intro s out h ha; have := h.a1; exact ⟨ha, by simp only [whG]; omega⟩
  | succ n ih =>
    intro s out h ha
    have h1 := h.a1
    unfold whG
    cases hk : kindG L s == k with
    | true =>
      obtain ⟨g3, f3, p3⟩ := ho _ h
      rw [take_next hk] at f3
      obtain ⟨r1, r2⟩ := ih (one s).1 (out ++ [(one s).2]) g3 (by rw [List.all_append, ha]; simp [p3])
      have e1 := f3.a
      have e2 : (nextG s).at_ = s.at_ + 1 := rfl
      refine ⟨r1, ?_⟩
      simp only [List.length_append, List.length_cons, List.length_nil] at r2
      rw [cond_true]
      push_cast at r2; omega
    | false => rw [cond_false]; exact ⟨ha, by simp only; omega⟩
theorem al_okP (L : List (List C)) (s : PS) : alOk (alA L s).2 = true := by obtain ⟨_, _, _, e⟩ := al_parts L s; rw [e]; rfl
theorem listAl_ok {L : List (List C)} {s : PS} (h : St8 L s) : (listAl L s).2.all alOk = true ∧ (listAl L s).2.length < 2000000 := by
  obtain ⟨g1, f1⟩ := al_good h
  rw [listAl_eq]; unfold listG
  obtain ⟨r1, r2⟩ := more_ok (L := L) (one := alA L) (P := alOk) (sg := 44) (by decide) (fun s hs => ⟨(al_good hs).1, (al_good hs).2, al_okP L s⟩) (L.length + 1) (alA L s).1 [(alA L s).2] g1 (by simp [al_okP])
  have := h.len; have := g1.a0
  refine ⟨r1, ?_⟩
  simp only [List.length_cons, List.length_nil] at r2
  push_cast at r2; omega
theorem rel_okP {L : List (List C)} {s : PS} (h : St8 L s) : relOk (relA L s).2 = true := by
  rw [relA_eq]; unfold relG
  obtain ⟨h1, f1⟩ := gtake_ok h (k := 3) (by decide)
  obtain ⟨h2, f2⟩ := gtake_ok h1 (k := 1) (by decide)
  have fin : ∀ (nm : ByteArray) (al : List (List C)) (t : PS), St8 L t → al.all alOk = true → al.length < 2000000 → relOk (relE L nm al t).2 = true := by
    intro nm al t ht ha hl
    obtain ⟨h6, f6⟩ := gtake_ok ht (k := 61) (by decide)
    have tr := unionA_tree h6
    obtain ⟨_, _, n7⟩ := unionA_good h6
    obtain ⟨k, a, b, l, e⟩ := isNd_parts n7
    unfold relE
    rw [e] at tr ⊢
    show (al.all alOk && decide (al.length < 2000000) && tree 30 (ndC k a b l)) = true
    rw [ha, decide_eq_true hl, tr]; rfl
  cases h91 : kindG L (takeG L 1 (takeG L 3 s).1).1 == 91 with
  | true =>
    obtain ⟨h3, f3⟩ := gnext_ok h2 (kind_some (by decide) h91).2.1
    obtain ⟨h4, f4⟩ := listAl_good h3
    obtain ⟨h5, f5⟩ := gtake_ok h4 (k := 93) (by decide)
    obtain ⟨a1, a2⟩ := listAl_ok h3
    exact fin _ _ _ h5 a1 a2
  | false => exact fin _ _ _ h2 rfl (by decide)
theorem typ_okP {L : List (List C)} {s : PS} (h : St8 L s) : tyOk (typA L s).2 = true := by
  rw [typA_eq]; unfold typG
  obtain ⟨h1, f1⟩ := gtake_ok h (k := 2) (by decide)
  obtain ⟨h2, f2⟩ := gtake_ok h1 (k := 1) (by decide)
  obtain ⟨h3, f3⟩ := gtake_ok h2 (k := 123) (by decide)
  obtain ⟨r1, r2⟩ := wh_ok (L := L) (one := relA L) (P := relOk) (k := 3) (by decide) (fun s hs => ⟨(rel_good hs).1, (rel_good hs).2, rel_okP hs⟩) (L.length + 1) _ [] h3 rfl
  rw [← relsA_eq] at r1 r2
  have := h.len; have := h3.a0
  show ((relsA L (takeG L 123 (takeG L 1 (takeG L 2 s).1).1).1).2.all relOk && decide ((relsA L (takeG L 123 (takeG L 1 (takeG L 2 s).1).1).1).2.length < 2000000)) = true
  rw [r1, decide_eq_true (by simp only [List.length_nil] at r2; push_cast at r2; omega)]; rfl
theorem cfg_okP {L : List (List C)} {s : PS} (h : St8 L s) : cfgOk (cfgA L s).2 = true := by
  rw [cfgA_eq]; unfold cfgG
  obtain ⟨r1, r2⟩ := wh_ok (L := L) (one := typA L) (P := tyOk) (k := 2) (by decide) (fun s hs => ⟨(typ_good hs).1, (typ_good hs).2, typ_okP hs⟩) (L.length + 1) s [] h rfl
  have := h.len; have := h.a0
  show ((whG L (typA L) 2 (L.length + 1) s []).2.all tyOk && decide ((whG L (typA L) 2 (L.length + 1) s []).2.length < 2000000)) = true
  rw [r1, decide_eq_true (by simp only [List.length_nil] at r2; push_cast at r2; omega)]; rfl
theorem parN_ok {s : ByteArray} (hz : s.size < 1000000) : cfgOk (parN s) = true := by
  obtain ⟨h1, h2⟩ := lexP_toks s hz
  unfold parN
  cases ((lexP s).2.2.2 == 0 && Nat.beq (endP s).er 0) with
  | true => exact cfg_okP (st0 h1 h2)
  | false => rfl
end Go.Proofs.YtniiimpcakmkbaaDoor

/- grammar: what Parse reads without an error is good (plain) -/
set_option linter.unusedVariables false
namespace Go.Proofs.YtniiimpcakmkbaaDoor
open Go Vm
def wd (a : ByteArray) : Bool := wordB a && decide (a.size < 1000000)
def alGd : List C → Bool
  | [.str a, .str b, .bool w] => wd a && (b.toList == bNo.toList || (!w && wd b))
  | _ => false
def relGd : List C → Bool
  | [.str nm, .sl 3 al, .int .i64 k, .str a, .str b, .sl 4 l] => wd nm && al.all alGd && goodT 30 (ndC k a b l)
  | _ => false
def tyGd : List C → Bool
  | [.str nm, .sl 6 rs] => wd nm && rs.all relGd
  | _ => false
theorem take_wd {L : List (List C)} (hw : TokW L) {s : PS} (h : St8 L s) (he : (takeG L 1 s).1.er = 0) : s.er = 0 ∧ wd (takeG L 1 s).2 = true := by
  obtain ⟨p1, _, p3, p4, p5⟩ := take_er (L := L) (s := s) (k := 1) (by decide) he
  obtain ⟨w1, w2⟩ := hw s.at_ h.a0 p4 p5
  refine ⟨p1, ?_⟩
  rw [p3]; unfold wd; rw [w1, decide_eq_true w2]; rfl
theorem al_gd {L : List (List C)} (hw : TokW L) {s : PS} (h : St8 L s) (he : (alA L s).1.er = 0) : s.er = 0 ∧ alGd (alA L s).2 = true := by
  rw [alA_eq] at he ⊢
  unfold alG at he ⊢
  obtain ⟨h1, f1⟩ := gtake_ok h (k := 1) (by decide)
  cases h35 : kindG L (takeG L 1 s).1 == 35 with
  | true =>
    rw [h35, cond_true] at he
    rw [cond_true]
    obtain ⟨h2, f2⟩ := gnext_ok h1 (kind_some (by decide) h35).2.1
    obtain ⟨q1, q2⟩ := take_wd hw h2 he
    obtain ⟨p1, p2⟩ := take_wd hw h q1
    refine ⟨p1, ?_⟩
    show (wd (takeG L 1 s).2 && ((takeG L 1 (nextG (takeG L 1 s).1)).2.toList == bNo.toList || (!false && wd (takeG L 1 (nextG (takeG L 1 s).1)).2))) = true
    rw [p2, q2]; simp
  | false =>
    rw [h35, cond_false] at he
    rw [cond_false]
    have eb : (bE.toList == bNo.toList) = true := by rw [bE_toList, bNo_toList]; rfl
    cases h58 : kindG L (takeG L 1 s).1 == 58 with
    | true =>
      rw [h58, cond_true] at he
      rw [cond_true]
      obtain ⟨q1, _⟩ := take_er (L := L) (k := 42) (by decide) he
      obtain ⟨p1, p2⟩ := take_wd hw h q1
      refine ⟨p1, ?_⟩
      show (wd (takeG L 1 s).2 && (bE.toList == bNo.toList || (!true && wd bE))) = true
      rw [p2, eb]; rfl
    | false =>
      rw [h58, cond_false] at he
      rw [cond_false]
      obtain ⟨p1, p2⟩ := take_wd hw h he
      refine ⟨p1, ?_⟩
      show (wd (takeG L 1 s).2 && (bE.toList == bNo.toList || (!false && wd bE))) = true
      rw [p2, eb]; rfl
theorem more_gd {L : List (List C)} {one : Rd} {P : Nde → Bool} {sg : Int} (hsg : sg ≠ 0) (ho : ∀ s, St8 L s → St8 L (one s).1) (hp : ∀ s, St8 L s → (one s).1.er = 0 → s.er = 0 ∧ P (one s).2 = true) : ∀ (n : Nat) (s : PS) (out : List Nde), St8 L s → (moreG L one sg n s out).1.er = 0 →
    s.er = 0 ∧ (out.all P = true → (moreG L one sg n s out).2.all P = true) := by
  intro n
  induction n with
  | zero => intro s out h he; exact ⟨he, fun h => h⟩
  | succ n ih =>
    intro s out h he
    unfold moreG at he ⊢
    cases hk : kindG L s == sg with
    | true =>
      rw [hk, cond_true] at he
      rw [cond_true]
      obtain ⟨_, hlt, _⟩ := kind_some hsg hk
      obtain ⟨g2, f2⟩ := gnext_ok h hlt
      obtain ⟨q1, q2⟩ := ih _ _ (ho _ g2) he
      obtain ⟨p1, p2⟩ := hp _ g2 q1
      exact ⟨p1, fun ha => q2 (by rw [List.all_append, ha]; simp [p2])⟩
    | false => rw [hk, cond_false] at he; rw [cond_false]; exact ⟨he, fun h => h⟩
theorem wh_gd {L : List (List C)} {one : Rd} {P : Nde → Bool} {k : Int} (ho : ∀ s, St8 L s → St8 L (one s).1) (hp : ∀ s, St8 L s → (one s).1.er = 0 → s.er = 0 ∧ P (one s).2 = true) : ∀ (n : Nat) (s : PS) (out : List Nde), St8 L s → (whG L one k n s out).1.er = 0 →
    s.er = 0 ∧ (out.all P = true → (whG L one k n s out).2.all P = true) := by
  intro n
  induction n with
  | zero => intro s out h he; exact ⟨he, fun h => h⟩
  | succ n ih =>
    intro s out h he
    unfold whG at he ⊢
    cases hk : kindG L s == k with
    | true =>
      rw [hk, cond_true] at he
      rw [cond_true]
      obtain ⟨q1, q2⟩ := ih _ _ (ho _ h) he
      obtain ⟨p1, p2⟩ := hp _ h q1
      exact ⟨p1, fun ha => q2 (by rw [List.all_append, ha]; simp [p2])⟩
    | false => rw [hk, cond_false] at he; rw [cond_false]; exact ⟨he, fun h => h⟩
end Go.Proofs.YtniiimpcakmkbaaDoor

/- grammar: what Parse reads without an error is good: relations, types, configurations (plain) -/
set_option linter.unusedVariables false
namespace Go.Proofs.YtniiimpcakmkbaaDoor
open Go Vm
theorem rel_gd {L : List (List C)} (hw : TokW L) {s : PS} (h : St8 L s) (he : (relA L s).1.er = 0) : s.er = 0 ∧ relGd (relA L s).2 = true := by
  rw [relA_eq] at he ⊢
  unfold relG at he ⊢
  obtain ⟨h1, f1⟩ := gtake_ok h (k := 3) (by decide)
  obtain ⟨h2, f2⟩ := gtake_ok h1 (k := 1) (by decide)
  have fin : ∀ (nm : ByteArray) (al : List (List C)) (t : PS), St8 L t → (relE L nm al t).1.er = 0 → t.er = 0 ∧ (wd nm = true → al.all alGd = true → relGd (relE L nm al t).2 = true) := by
    intro nm al t ht hte
    obtain ⟨h6, f6⟩ := gtake_ok ht (k := 61) (by decide)
    unfold relE at hte ⊢
    obtain ⟨q1, _⟩ := take_er (L := L) (k := 59) (by decide) hte
    obtain ⟨u1, u2⟩ := unionA_goodR hw h6 q1
    obtain ⟨t1, _⟩ := take_er (L := L) (k := 61) (by decide) u1
    refine ⟨t1, fun hn ha => ?_⟩
    obtain ⟨_, _, n7⟩ := unionA_good h6
    obtain ⟨k, a, b, l, e⟩ := isNd_parts n7
    rw [e] at u2 ⊢
    show (wd nm && al.all alGd && goodT 30 (ndC k a b l)) = true
    rw [hn, ha, u2]; rfl
  have nm : ∀ (he2 : (takeG L 1 (takeG L 3 s).1).1.er = 0), s.er = 0 ∧ wd (takeG L 1 (takeG L 3 s).1).2 = true := fun he2 => by
    obtain ⟨p1, p2⟩ := take_wd hw h1 he2
    obtain ⟨p3, _⟩ := take_er (L := L) (k := 3) (by decide) p1
    exact ⟨p3, p2⟩
  cases h91 : kindG L (takeG L 1 (takeG L 3 s).1).1 == 91 with
  | true =>
    rw [h91, cond_true] at he
    rw [cond_true]
    obtain ⟨h3, f3⟩ := gnext_ok h2 (kind_some (by decide) h91).2.1
    obtain ⟨h4, f4⟩ := listAl_good h3
    obtain ⟨h5, f5⟩ := gtake_ok h4 (k := 93) (by decide)
    obtain ⟨r1, r2⟩ := fin _ _ _ h5 he
    obtain ⟨q1, _⟩ := take_er (L := L) (k := 93) (by decide) r1
    rw [listAl_eq] at q1
    unfold listG at q1
    obtain ⟨g1, _⟩ := al_good h3
    obtain ⟨m1, m2⟩ := more_gd (L := L) (one := alA L) (P := alGd) (sg := 44) (by decide) (fun s hs => (al_good hs).1) (fun s hs he => al_gd hw hs he) _ _ _ g1 q1
    obtain ⟨a1, a2⟩ := al_gd hw h3 m1
    obtain ⟨n1, n2⟩ := nm a1
    refine ⟨n1, r2 n2 ?_⟩
    rw [listAl_eq]; unfold listG
    exact m2 (by simp [a2])
  | false =>
    rw [h91, cond_false] at he
    rw [cond_false]
    obtain ⟨r1, r2⟩ := fin _ _ _ h2 he
    obtain ⟨n1, n2⟩ := nm r1
    exact ⟨n1, r2 n2 rfl⟩
theorem typ_gd {L : List (List C)} (hw : TokW L) {s : PS} (h : St8 L s) (he : (typA L s).1.er = 0) : s.er = 0 ∧ tyGd (typA L s).2 = true := by
  rw [typA_eq] at he ⊢
  unfold typG at he ⊢
  obtain ⟨h1, f1⟩ := gtake_ok h (k := 2) (by decide)
  obtain ⟨h2, f2⟩ := gtake_ok h1 (k := 1) (by decide)
  obtain ⟨h3, f3⟩ := gtake_ok h2 (k := 123) (by decide)
  obtain ⟨q1, _⟩ := take_er (L := L) (k := 125) (by decide) he
  have q2 := q1
  rw [relsA_eq] at q2
  obtain ⟨m1, m2⟩ := wh_gd (L := L) (one := relA L) (P := relGd) (k := 3) (fun s hs => (rel_good hs).1) (fun s hs he => rel_gd hw hs he) _ _ _ h3 q2
  obtain ⟨p1, _⟩ := take_er (L := L) (k := 123) (by decide) m1
  obtain ⟨n1, n2⟩ := take_wd hw h1 p1
  obtain ⟨n3, _⟩ := take_er (L := L) (k := 2) (by decide) n1
  refine ⟨n3, ?_⟩
  have m3 := m2 rfl
  rw [← relsA_eq] at m3
  show (wd (takeG L 1 (takeG L 2 s).1).2 && (relsA L (takeG L 123 (takeG L 1 (takeG L 2 s).1).1).1).2.all relGd) = true
  rw [n2, m3]; rfl
theorem parT_good {s : ByteArray} (hz : s.size < 1000000) (h : parE s = 0) : (parT s).all tyGd = true := by
  obtain ⟨h1, h2⟩ := lexP_toks s hz
  obtain ⟨g1, ts, e⟩ := rdP_good hz
  unfold parE at h
  unfold parT parN
  cases he : (lexP s).2.2.2 == 0 with
  | false => rw [he] at h; rw [beq_eq_false_iff_ne] at he; exact absurd h he
  | true =>
    rw [he, cond_true] at h
    have g3 := end_good g1
    have hr : (endP s).er = 0 := by
      rcases er3 (show (endP s).er ≤ 2 from g3.e2) with h3 | h3 | h3
      · exact h3
      · rw [h3] at h; cases h
      · rw [h3] at h; cases h
    have hr2 : (rdP s).1.er = 0 := by
      unfold endP endG at hr
      by_cases hlt : (rdP s).1.at_ < ((lexP s).1.length : Int)
      · rw [decide_eq_true hlt, cond_true] at hr; exact (fail_er (by decide) hr).elim
      · rw [decide_eq_false hlt, cond_false] at hr; exact hr
    rw [hr]
    have hr3 : (whG (lexP s).1 (typA (lexP s).1) 2 ((lexP s).1.length + 1) ⟨0, 0, 0⟩ []).1.er = 0 := by
      unfold rdP at hr2; rw [cfgA_eq] at hr2; exact hr2
    obtain ⟨_, m2⟩ := wh_gd (L := (lexP s).1) (one := typA (lexP s).1) (P := tyGd) (k := 2) (fun s hs => (typ_good hs).1) (fun t hs he => typ_gd (lexP_words s hz) hs he) _ _ _ (st0 h1 h2) hr3
    have m3 := m2 rfl
    show ((rdP s).2.getD 0 .nf).toEls.all tyGd = true
    unfold rdP
    rw [cfgA_eq]
    exact m3
end Go.Proofs.YtniiimpcakmkbaaDoor

/- grammar: the law of configurations -/
set_option linter.unusedVariables false
namespace Go.Proofs.YtniiimpcakmkbaaDoor
open Go Vm Go.RowKit
theorem parT_none {s : ByteArray} (h : parE s ≠ 0) : parT s = [] := by
  have hn : ((lexP s).2.2.2 == 0 && Nat.beq (endP s).er 0) = false := by
    rw [← Bool.not_eq_true]; intro hb
    rw [Bool.and_eq_true] at hb
    refine h ?_
    unfold parE
    rw [hb.1, cond_true]
    unfold erC; rw [hb.2]; rfl
  unfold parT parN
  rw [hn]; rfl
theorem parT_gd {s : ByteArray} (hz : s.size < 1000000) : (parT s).all tyGd = true := by
  by_cases h : parE s = 0
  · exact parT_good hz h
  · rw [parT_none h]; rfl
theorem parT_ok {s : ByteArray} (hz : s.size < 1000000) : (parT s).all tyOk = true ∧ (parT s).length < 2000000 := by
  have h := parN_ok hz
  rw [parN_sl hz] at h
  obtain ⟨ts, e, h1, h2⟩ := cfgOk_parts h
  cases e; exact ⟨h1, h2⟩
theorem wd_parts {a : ByteArray} (h : wd a = true) : wordB a = true ∧ a.size < 1000000 := by
  unfold wd at h; rw [Bool.and_eq_true, decide_eq_true_eq] at h; exact h
theorem lp_al {R : Type} (m : Int) (K : X → St → Option R) (F : Nat) (s : ByteArray) (v1 : Int) (v2 : List (List C)) (v3 v4 : Int) (al : List (List C)) (h : al.all alOk = true) (hl : al.length < 2000000) (hg : al.all alGd = true) : ∀ (n i : Nat), i ≤ al.length → al.length - i < n →
    lParses_L2 m K F n s v1 v2 v3 v4 al (al.length : Int) (i : Int) = K (.ex 4) (lParses_E4 s v1 v2 v3 v4) := by
  intro n
  induction n with
  | zero => intro i h1 h2; omega
  | succ n ih =>
    intro i h1 h2
    rw [lParses_r2]
    by_cases hi : i < al.length
    · obtain ⟨a, b, w, he⟩ := alOk_parts (List.all_eq_true.1 h al[i] (List.getElem_mem hi))
      have hgd := List.all_eq_true.1 hg al[i] (List.getElem_mem hi)
      rw [he] at hgd
      have hgd' : (wd a && (b.toList == bNo.toList || (!w && wd b))) = true := hgd
      rw [Bool.and_eq_true] at hgd'
      obtain ⟨ha, hb⟩ := hgd'
      obtain ⟨a1, a2⟩ := wd_parts ha
      have hgt : al[i]? = some [.str a, .str b, .bool w] := by rw [List.getElem?_eq_getElem hi, he]
      rw [decide_eq_true (by omega), cond_true, decide_eq_true (by omega), cond_true, getT_at rfl hgt]
      have e1 : List.take 3 ([.str a, .str b, .bool w] : List C) = [.str a, .str b, .bool w] := rfl
      have e3 : (([.str a, .str b, .bool w] : List C).length == 3) = true := rfl
      have e4 : shOk [Sh.str, Sh.str, Sh.bool] ([.str a, .str b, .bool w] : List C) = true := rfl
      have f0 : (([.str a, .str b, .bool w] : List C).getD 0 C.nf).toStr = a := rfl
      have f1 : (([.str a, .str b, .bool w] : List C).getD 1 C.nf).toStr = b := rfl
      have f2 : (([.str a, .str b, .bool w] : List C).getD 2 C.nf).toBool = w := rfl
      have fb : (ByteArray.mk #[]).toList = bNo.toList := rfl
      have nx : lParses_L2 m K F n s v1 v2 v3 v4 al (al.length : Int) (IntKind.i64.wrap ((i : Int) + 1)) = K (.ex 4) (lParses_E4 s v1 v2 v3 v4) := by
        rw [w64 _ (by omega) (by omega)]; exact ih (i + 1) (by omega) (by omega)
      rw [e1, e3, cond_true, e4, cond_true, f0, f1, f2, fb, decide_eq_true a2, cond_true, a1, Bool.not_true, cond_false, nx]
      cases hbb : b.toList == bNo.toList with
      | true => rfl
      | false =>
        rw [hbb, Bool.false_or, Bool.and_eq_true] at hb
        obtain ⟨hw, hwb⟩ := hb
        obtain ⟨b1, b2⟩ := wd_parts hwb
        have hw' : w = false := by simpa using hw
        rw [hw', Bool.not_false, cond_true, cond_false, decide_eq_true b2, cond_true, b1]; rfl
    · have : i = al.length := by omega
      subst this
      rw [decide_eq_false (by omega), cond_false]
end Go.Proofs.YtniiimpcakmkbaaDoor

/- grammar: the law of configurations, its run -/
set_option linter.unusedVariables false
namespace Go.Proofs.YtniiimpcakmkbaaDoor
open Go Vm Go.RowKit
theorem lp_rel {R : Type} (m : Int) (K : X → St → Option R) (F : Nat) (hF : 2000000 ≤ F) (s : ByteArray) (v1 : Int) (rs : List (List C)) (h : rs.all relOk = true) (hl : rs.length < 2000000) (hg : rs.all relGd = true) : ∀ (n i : Nat), i ≤ rs.length → rs.length - i < n →
    lParses_L1 m K F n s v1 rs (rs.length : Int) (i : Int) = K (.ex 2) (lParses_E5 s v1) := by
  intro n
  induction n with
  | zero => intro i h1 h2; omega
  | succ n ih =>
    intro i h1 h2
    rw [lParses_r1]
    by_cases hi : i < rs.length
    · obtain ⟨nm, al, k, a, b, l, he, ha, hal, ht⟩ := relOk_parts (List.all_eq_true.1 h rs[i] (List.getElem_mem hi))
      have hgd := List.all_eq_true.1 hg rs[i] (List.getElem_mem hi)
      rw [he] at hgd
      have hgd' : (wd nm && al.all alGd && goodT 30 (ndC k a b l)) = true := hgd
      rw [Bool.and_eq_true, Bool.and_eq_true] at hgd'
      obtain ⟨⟨hn, hag⟩, hgt⟩ := hgd'
      obtain ⟨n1, n2⟩ := wd_parts hn
      have hget : rs[i]? = some [.str nm, .sl 3 al, .int .i64 k, .str a, .str b, .sl 4 l] := by rw [List.getElem?_eq_getElem hi, he]
      rw [decide_eq_true (by omega), cond_true, decide_eq_true (by omega), cond_true, getT_at rfl hget]
      have e1 : List.take 6 ([.str nm, .sl 3 al, .int .i64 k, .str a, .str b, .sl 4 l] : List C) = [.str nm, .sl 3 al, .int .i64 k, .str a, .str b, .sl 4 l] := rfl
      have e3 : (([.str nm, .sl 3 al, .int .i64 k, .str a, .str b, .sl 4 l] : List C).length == 6) = true := rfl
      have e4 : shOk [Sh.str, Sh.sl (3 : Nat), Sh.int IntKind.i64, Sh.str, Sh.str, Sh.sl (4 : Nat)] ([.str nm, .sl 3 al, .int .i64 k, .str a, .str b, .sl 4 l] : List C) = true := rfl
      have f0 : (([.str nm, .sl 3 al, .int .i64 k, .str a, .str b, .sl 4 l] : List C).getD 0 C.nf).toStr = nm := rfl
      rw [e1, e3, cond_true, e4, cond_true, f0, decide_eq_true n2, cond_true, n1, Bool.not_true, cond_false]
      refine Eq.trans (congrArg (fun c => bif c then _ else none) hgt) ?_
      refine Eq.trans (lp_al m (lParses_K2 m K F n) F s v1 rs (rs.length : Int) (i : Int) al ha hal hag F 0 (by omega) (by omega)) ?_
      rw [lParses_c4, w64 _ (by omega) (by omega)]
      exact ih (i + 1) (by omega) (by omega)
    · have : i = rs.length := by omega
      subst this
      rw [decide_eq_false (by omega), cond_false]
theorem lp_ty {R : Type} (m : Int) (k : V → Bx → Option R) (F : Nat) (hF : 2000000 ≤ F) (s : ByteArray) (hz : s.size < 1000000) : ∀ (n i : Nat), i ≤ (parT s).length → (parT s).length - i < n →
    lParses_L0 m (lParses_K0 m k F) F n s (i : Int) = k (vb true) [] := by
  obtain ⟨h, hl⟩ := parT_ok hz
  have hg := parT_gd hz
  intro n
  induction n with
  | zero => intro i h1 h2; omega
  | succ n ih =>
    intro i h1 h2
    rw [lParses_r0]
    by_cases hi : i < (parT s).length
    · obtain ⟨nm, rs, he, ha, hal⟩ := tyOk_parts (List.all_eq_true.1 h (parT s)[i] (List.getElem_mem hi))
      have hgd := List.all_eq_true.1 hg (parT s)[i] (List.getElem_mem hi)
      rw [he] at hgd
      have hgd' : (wd nm && rs.all relGd) = true := hgd
      rw [Bool.and_eq_true] at hgd'
      obtain ⟨hn, hrg⟩ := hgd'
      obtain ⟨n1, n2⟩ := wd_parts hn
      have hget : (parT s)[i]? = some [.str nm, .sl 6 rs] := by rw [List.getElem?_eq_getElem hi, he]
      rw [decide_eq_true (by omega), cond_true, decide_eq_true (by omega), cond_true, getT_at rfl hget]
      have e1 : List.take 2 ([.str nm, .sl 6 rs] : List C) = [.str nm, .sl 6 rs] := rfl
      have e3 : (([.str nm, .sl 6 rs] : List C).length == 2) = true := rfl
      have e4 : shOk [Sh.str, Sh.sl (6 : Nat)] ([.str nm, .sl 6 rs] : List C) = true := rfl
      have f0 : (([.str nm, .sl 6 rs] : List C).getD 0 C.nf).toStr = nm := rfl
      rw [e1, e3, cond_true, e4, cond_true, f0, decide_eq_true n2, cond_true, n1, Bool.not_true, cond_false]
      refine Eq.trans (lp_rel m (lParses_K1 m (lParses_K0 m k F) F n) F hF s (i : Int) rs ha hal hrg F 0 (by omega) (by omega)) ?_
      rw [lParses_c5, w64 _ (by omega) (by omega)]
      exact ih (i + 1) (by omega) (by omega)
    · have : i = (parT s).length := by omega
      subst this
      rw [decide_eq_false (by omega), cond_false, lParses_c6]
theorem lParses_run (m : Int) (s : ByteArray) (F : Nat) (hF : 2000000 ≤ F) : runFn (lParses_cf m) F Tryd.f10 (bd Tryd.f10) [vs s] [] fin2 = some (vb true, []) := by
  rw [lParses_start]
  cases h : decide ((s.size : Int) > 4000) with
  | true => rfl
  | false =>
    simp only [decide_eq_false_iff_not] at h
    have hz : s.size < 1000000 := by omega
    have hq : sameQ [C.sl (2 : Nat) (parT s)] [C.sl (2 : Nat) (parT s)] = true := by
      rw [sameQ_eq, eqN_refl, ← parN_sl hz, parN_ok hz]; rfl
    rw [cond_false, decide_eq_true hz, cond_true, cond_true, bne_self_eq_false, cond_false, beq_self_eq_true, beq_self_eq_true, hq]
    exact lp_ty m fin2 F hF s hz F 0 (by omega) (by have := (parT_ok hz).2; omega)
theorem parses_res (m : Int) (xs : List V) (h : argVs Tryd.prog [9] xs) : ∃ b, FnRes Tryd.prog (globG m) 10 xs [] (vb true) b := by
  obtain ⟨x, rfl, h1⟩ := argVs1 h
  obtain ⟨s, rfl, _⟩ := str_arg h1
  exact ⟨[], specAtQ eqs_ok mix vti_ok Tryd.func10 rfl (by kernel_rfl) (tabCL_ok m) 2000000 (lParses_run m s 2000000 (Nat.le_refl _))⟩
end Go.Proofs.YtniiimpcakmkbaaDoor
