/- grammar: what is read without an error is a good node (plain) -/
import Derived.Test.YtniiimpcakmkbaaDoorGrV
set_option linter.unusedVariables false
namespace Go.Proofs.YtniiimpcakmkbaaDoor
open Go Vm
/-! ### trees -/
theorem tree_ndC (n : Nat) (k : Int) (a b : ByteArray) (l : List Nde) : tree (n + 1) (ndC k a b l) = (l.all (tree n) && decide (l.length < 2000000)) := rfl
theorem goodT_ndC (n : Nat) (k : Int) (a b : ByteArray) (l : List Nde) : goodT (n + 1) (ndC k a b l) = (l.all (goodT n) && decide (l.length < 2000000) && decide (a.size < 1000000) && decide (b.size < 1000000) &&
      (bif k == 1 then (a.toList == bNo.toList) && (b.toList == bNo.toList) && (l.length == 0)
       else bif k == 2 then wordB a && (b.toList == bNo.toList) && (l.length == 0)
       else bif k == 3 then wordB a && wordB b && (l.length == 0)
       else bif k == 4 || k == 5 then (a.toList == bNo.toList) && (b.toList == bNo.toList) && Nat.ble 2 l.length
       else bif k == 6 then (a.toList == bNo.toList) && (b.toList == bNo.toList) && (l.length == 2)
       else false)) := rfl
theorem bE_toList : bE.toList = [] := by rw [Go.Lib.toList_data]; rfl
theorem bNo_toList : bNo.toList = [] := by rw [Go.Lib.toList_data]; rfl
theorem tree_up : ∀ (n : Nat) (x : Nde), tree n x = true → tree (n + 1) x = true := by
  intro n
  induction n with
  | zero => intro x h; unfold tree at h; cases h
  | succ n ih =>
    intro x h
    obtain ⟨n', k, a, b, l, hn, rfl, h1, h2⟩ := tree_parts h
    obtain rfl : n' = n := by omega
    rw [tree_ndC, Bool.and_eq_true, decide_eq_true_eq]
    exact ⟨List.all_eq_true.2 fun x hx => ih x (List.all_eq_true.1 h1 x hx), h2⟩
theorem tree_le {n n' : Nat} (hn : n ≤ n') {x : Nde} (h : tree n x = true) : tree n' x = true := by
  induction hn with
  | refl => exact h
  | step _ ih => exact tree_up _ _ ih
theorem tree_mk {n : Nat} {k : Int} {a b : ByteArray} {l : List Nde} (h : l.all (tree n) = true) (hl : l.length < 2000000) : tree (n + 1) (ndC k a b l) = true := by
  rw [tree_ndC, h, decide_eq_true hl]; rfl
theorem tree_of {n : Nat} {k : Int} {l : List Nde} (h : l.all (tree n) = true) (hl : l.length < 2000000) : tree (n + 1) (ofG k l) = true := by
  unfold ofG
  cases h1 : l.length == 1 with
  | true =>
    match l, h1 with
    | [x], _ => exact tree_up _ _ (by simpa using h)
  | false => exact tree_mk h hl
def TreeR (L : List (List C)) (f : Rd) (d N : Nat) : Prop := ∀ s, St8 L s → lvl s = d → tree N (f s).2 = true
theorem atom_tree {L : List (List C)} {un : Rd} {d N : Nat} (hN : 1 ≤ N) (hu : ∀ d', d = d' + 1 → TreeR L un d' N) : TreeR L (atomG L un) d N := by
  intro s h hd
  have z : ∀ k a b, tree N (ndC k a b []) = true := fun k a b => tree_le hN (by unfold tree; rfl)
  unfold atomG
  cases h40 : kindG L s == 40 with
  | true =>
    rw [cond_true]
    by_cases h8 : s.op ≥ 8
    · rw [decide_eq_true h8, cond_true]; exact z _ _ _
    · rw [decide_eq_false h8, cond_false]
      have ho := h.o0
      have h1 : St8 L ⟨s.at_, s.op + 1, s.er⟩ := ⟨h.tk, h.len, h.a0, h.a1, by simp only; omega, by simp only; omega, h.e2⟩
      obtain ⟨h2, f2⟩ := gtake_ok h1 (k := 40) (by decide)
      refine hu (7 - s.op).toNat ?_ _ h2 ?_
      · rw [← hd]; unfold lvl; omega
      · rw [lvl_fol f2]; unfold lvl; simp only; omega
  | false =>
    rw [cond_false]
    cases h4 : kindG L s == 4 with
    | true => exact z _ _ _
    | false =>
      rw [cond_false]
      cases h5 : kindG L (takeG L 1 s).1 == 5 with
      | true => exact z _ _ _
      | false => exact z _ _ _
theorem less_tree {L : List (List C)} {un : Rd} {d N : Nat} (hg : ∀ d', d = d' + 1 → Good L un d') (hN : 1 ≤ N) (hu : ∀ d', d = d' + 1 → TreeR L un d' N) : TreeR L (lessG L un) d (N + 1) := by
  intro s h hd
  unfold lessG
  obtain ⟨h1, f1, n1⟩ := atom_good hg s h hd
  have t1 := atom_tree hN hu s h hd
  cases hk : kindG L (atomG L un s).1 == 45 with
  | true =>
    obtain ⟨h2, f2⟩ := gnext_ok h1 (kind_some (by decide) hk).2.1
    have t2 := atom_tree hN hu _ h2 ((lvl_fol (f1.trans f2)).trans hd)
    exact tree_mk (by simp [t1, t2]) (by simp)
  | false => exact tree_up _ _ t1
theorem more_tree {L : List (List C)} {one : Rd} {d N : Nat} (ho : Good L one d) (ht : TreeR L one d N) {sg : Int} (hsg : sg ≠ 0) : ∀ (n : Nat) (s : PS) (out : List Nde), St8 L s → lvl s = d → out.all (tree N) = true → (moreG L one sg n s out).2.all (tree N) = true := by
  intro n
  induction n with
  | zero => intro s out _ _ h; exact h
  | succ n ih =>
    intro s out h hd hall
    unfold moreG
    cases hk : kindG L s == sg with
    | true =>
      obtain ⟨_, hlt, _⟩ := kind_some hsg hk
      obtain ⟨h2, f2⟩ := gnext_ok h hlt
      have hd2 := (lvl_fol f2).trans hd
      obtain ⟨h3, f3, n3⟩ := ho _ h2 hd2
      rw [cond_true]
      exact ih _ _ h3 ((lvl_fol f3).trans hd2) (by rw [List.all_append, hall]; simp [ht _ h2 hd2])
    | false => exact hall
theorem list_tree {L : List (List C)} {one : Rd} {d N : Nat} (ho : Good L one d) (ht : TreeR L one d N) {sg : Int} (hsg : sg ≠ 0) {s : PS} (h : St8 L s) (hd : lvl s = d) : (listG L one sg s).2.all (tree N) = true := by
  obtain ⟨h1, f1, n1⟩ := ho s h hd
  exact more_tree ho ht hsg _ _ _ h1 ((lvl_fol f1).trans hd) (by simp [ht s h hd])
theorem meet_tree {L : List (List C)} {un : Rd} {d N : Nat} (hg : ∀ d', d = d' + 1 → Good L un d') (hN : 1 ≤ N) (hu : ∀ d', d = d' + 1 → TreeR L un d' N) : TreeR L (meetG L un) d (N + 2) := by
  intro s h hd
  have := (list_good (less_good hg) (sg := 38) (by decide) h hd).2.2.2
  exact tree_of (list_tree (less_good hg) (less_tree hg hN hu) (by decide) h hd) (by omega)
theorem union_tree {L : List (List C)} {un : Rd} {d N : Nat} (hg : ∀ d', d = d' + 1 → Good L un d') (hN : 1 ≤ N) (hu : ∀ d', d = d' + 1 → TreeR L un d' N) : TreeR L (unionL L un) d (N + 3) := by
  intro s h hd
  have := (list_good (meet_good hg) (sg := 124) (by decide) h hd).2.2.2
  exact tree_of (list_tree (meet_good hg) (meet_tree hg hN hu) (by decide) h hd) (by omega)
theorem unionN_tree (L : List (List C)) : ∀ d, TreeR L (unionN L d) d (3 * d + 4) := by
  intro d
  induction d with
  | zero => exact union_tree (N := 1) (fun d' h => by omega) (by omega) (fun d' h => by omega)
  | succ d ih =>
    have := union_tree (L := L) (un := unionN L d) (d := d + 1) (N := 3 * d + 4) (fun d' h => (show d = d' by omega) ▸ unionN_good L d) (by omega) (fun d' h => (show d = d' by omega) ▸ ih)
    rw [show 3 * (d + 1) + 4 = 3 * d + 4 + 3 by omega]; exact this
theorem unionA_tree {L : List (List C)} {s : PS} (h : St8 L s) : tree 30 (unionA L s).2 = true := by
  have ho := h.o0
  rw [unionA_eq, ← unionN_eq]
  exact tree_le (by unfold lvl; omega) (unionN_tree L (lvl s) s h rfl)
theorem exprN_tree {s : ByteArray} (hz : s.size < 1000000) : tree 30 (exprN s) = true := by
  obtain ⟨h1, h2⟩ := lexP_toks s hz
  unfold exprN
  cases ((lexP s).2.2.2 == 0 && Nat.beq (endW s).er 0) with
  | true => exact unionA_tree (st0 h1 h2)
  | false => exact tree_le (n := 1) (by omega) rfl
/-! ### good nodes -/
theorem goodT_up : ∀ (n : Nat) (x : Nde), goodT n x = true → goodT (n + 1) x = true := by
  intro n
  induction n with
  | zero => intro x h; unfold goodT at h; cases h
  | succ n ih =>
    intro x h
    obtain ⟨n', k, a, b, l, hn, rfl, h1, h2, h3, h4, h5⟩ := goodT_parts h
    obtain rfl : n' = n := by omega
    rw [goodT_ndC]
    rw [h5, decide_eq_true h2, decide_eq_true h3, decide_eq_true h4, List.all_eq_true.2 fun x hx => ih x (List.all_eq_true.1 h1 x hx)]; rfl
theorem goodT_le {n n' : Nat} (hn : n ≤ n') {x : Nde} (h : goodT n x = true) : goodT n' x = true := by
  induction hn with
  | refl => exact h
  | step _ ih => exact goodT_up _ _ ih
theorem goodT_mk {n : Nat} {k : Int} {l : List Nde} (h : l.all (goodT n) = true) (hl : l.length < 2000000) (hk : ((k = 4 ∨ k = 5) ∧ 2 ≤ l.length) ∨ (k = 6 ∧ l.length = 2)) : goodT (n + 1) (ndC k bE bE l) = true := by
  have e1 : (bE.toList == bNo.toList) = true := by rw [bE_toList, bNo_toList]; rfl
  have e2 : decide (bE.size < 1000000) = true := rfl
  rw [goodT_ndC, h, decide_eq_true hl, e1, e2]
  rcases hk with ⟨rfl | rfl, h2⟩ | ⟨rfl, h2⟩
  · have : Nat.ble 2 l.length = true := by rw [Nat.ble_eq]; exact h2
    rw [this]; rfl
  · have : Nat.ble 2 l.length = true := by rw [Nat.ble_eq]; exact h2
    rw [this]; rfl
  · have : (l.length == 2) = true := by simpa using h2
    rw [this]; rfl
theorem goodT_of {n : Nat} {k : Int} {l : List Nde} (h : l.all (goodT n) = true) (hl : l.length < 2000000) (h0 : 0 < l.length) (hk : k = 4 ∨ k = 5) : goodT (n + 1) (ofG k l) = true := by
  unfold ofG
  cases h1 : l.length == 1 with
  | true =>
    match l, h1 with
    | [x], _ => exact goodT_up _ _ (by simpa using h)
  | false => exact goodT_mk h hl (.inl ⟨hk, by rw [beq_eq_false_iff_ne] at h1; omega⟩)
/-- words are the texts of the tokens of that kind -/
def TokW (L : List (List C)) : Prop := ∀ i : Int, 0 ≤ i → i < L.length → tkK L i = 1 → wordB (tkT L i) = true ∧ (tkT L i).size < 1000000
theorem fail_er {n : Nat} (hn : n ≠ 0) {s : PS} (h : (failG n s).er = 0) : False := by
  unfold failG at h
  simp only at h
  rw [beq0] at h
  by_cases h0 : s.er = 0
  · rw [decide_eq_true h0] at h; exact hn h
  · rw [decide_eq_false h0] at h; exact h0 h
theorem take_er {L : List (List C)} {s : PS} {k : Int} (hk : k ≠ 0) (h : (takeG L k s).1.er = 0) : s.er = 0 ∧ (kindG L s == k) = true ∧ (takeG L k s).2 = tkT L s.at_ ∧ s.at_ < L.length ∧ tkK L s.at_ = k := by
  unfold takeG at h ⊢
  cases hc : kindG L s == k with
  | true =>
    rw [hc] at h
    obtain ⟨h1, h2, h3⟩ := kind_some hk hc
    exact ⟨h1, rfl, rfl, h2, h3⟩
  | false => rw [hc] at h; exact (fail_er (by decide) h).elim
def GoodR (L : List (List C)) (f : Rd) (d N : Nat) : Prop := ∀ s, St8 L s → lvl s = d → (f s).1.er = 0 → s.er = 0 ∧ goodT N (f s).2 = true
theorem atom_goodR {L : List (List C)} (hw : TokW L) {un : Rd} {d N : Nat} (hg : ∀ d', d = d' + 1 → Good L un d') (hN : 1 ≤ N) (hu : ∀ d', d = d' + 1 → GoodR L un d' N) : GoodR L (atomG L un) d N := by
  intro s h hd
  unfold atomG
  cases h40 : kindG L s == 40 with
  | true =>
    rw [cond_true]
    by_cases h8 : s.op ≥ 8
    · rw [decide_eq_true h8, cond_true]; intro he; exact (fail_er (by decide) he).elim
    · rw [decide_eq_false h8, cond_false]
      have ho := h.o0
      have h1 : St8 L ⟨s.at_, s.op + 1, s.er⟩ := ⟨h.tk, h.len, h.a0, h.a1, by simp only; omega, by simp only; omega, h.e2⟩
      obtain ⟨h2, f2⟩ := gtake_ok h1 (k := 40) (by decide)
      intro he
      have hl2 : lvl (takeG L 40 ⟨s.at_, s.op + 1, s.er⟩).1 = (7 - s.op).toNat := by rw [lvl_fol f2]; unfold lvl; simp only; omega
      have hdd : d = (7 - s.op).toNat + 1 := by rw [← hd]; unfold lvl; omega
      obtain ⟨h3, f3, _⟩ := hg _ hdd _ h2 hl2
      have h41 := (take_er (L := L) (k := 41) (by decide) he).1
      obtain ⟨hu1, hu2⟩ := hu _ hdd _ h2 hl2 h41
      exact ⟨(take_er (L := L) (k := 40) (by decide) hu1).1, hu2⟩
  | false =>
    rw [cond_false]
    cases h4 : kindG L s == 4 with
    | true =>
      rw [cond_true]; intro he; exact ⟨he, goodT_le hN (by rw [goodT_ndC, bE_toList, bNo_toList]; rfl)⟩
    | false =>
      rw [cond_false]
      obtain ⟨h1, f1⟩ := gtake_ok h (k := 1) (by decide)
      have ha0 := h.a0
      cases h5 : kindG L (takeG L 1 s).1 == 5 with
      | true =>
        intro he
        obtain ⟨h2, f2⟩ := gnext_ok h1 (kind_some (by decide) h5).2.1
        obtain ⟨q1, _, q3, q4, q5⟩ := take_er (L := L) (k := 1) (by decide) he
        obtain ⟨p1, _, p3, p4, p5⟩ := take_er (L := L) (s := s) (k := 1) (by decide) q1
        refine ⟨p1, goodT_le hN ?_⟩
        rw [cond_true, p3, q3]
        obtain ⟨w1, w2⟩ := hw s.at_ ha0 p4 p5
        obtain ⟨w3, w4⟩ := hw (nextG (takeG L 1 s).1).at_ h2.a0 q4 q5
        rw [goodT_ndC, w1, w3, decide_eq_true w2, decide_eq_true w4]; rfl
      | false =>
        intro he
        obtain ⟨p1, _, p3, p4, p5⟩ := take_er (L := L) (s := s) (k := 1) (by decide) he
        refine ⟨p1, goodT_le hN ?_⟩
        rw [cond_false, p3]
        obtain ⟨w1, w2⟩ := hw s.at_ ha0 p4 p5
        rw [goodT_ndC, w1, decide_eq_true w2, bE_toList, bNo_toList]; rfl
theorem less_goodR {L : List (List C)} (hw : TokW L) {un : Rd} {d N : Nat} (hg : ∀ d', d = d' + 1 → Good L un d') (hN : 1 ≤ N) (hu : ∀ d', d = d' + 1 → GoodR L un d' N) : GoodR L (lessG L un) d (N + 1) := by
  intro s h hd
  unfold lessG
  obtain ⟨h1, f1, n1⟩ := atom_good hg s h hd
  have t1 := atom_goodR hw hg hN hu s h hd
  cases hk : kindG L (atomG L un s).1 == 45 with
  | true =>
    intro he
    obtain ⟨h2, f2⟩ := gnext_ok h1 (kind_some (by decide) hk).2.1
    obtain ⟨q1, q2⟩ := atom_goodR hw hg hN hu _ h2 ((lvl_fol (f1.trans f2)).trans hd) he
    obtain ⟨p1, p2⟩ := t1 q1
    exact ⟨p1, goodT_mk (by simp [p2, q2]) (by simp) (.inr ⟨rfl, rfl⟩)⟩
  | false => intro he; obtain ⟨p1, p2⟩ := t1 he; exact ⟨p1, goodT_up _ _ p2⟩
theorem more_goodR {L : List (List C)} {one : Rd} {d N : Nat} (ho : Good L one d) (ht : GoodR L one d N) {sg : Int} (hsg : sg ≠ 0) : ∀ (n : Nat) (s : PS) (out : List Nde), St8 L s → lvl s = d → (moreG L one sg n s out).1.er = 0 →
    s.er = 0 ∧ (out.all (goodT N) = true → (moreG L one sg n s out).2.all (goodT N) = true) ∧ out.length ≤ (moreG L one sg n s out).2.length := by
  intro n
  induction n with
  | zero => intro s out _ _ h; exact ⟨h, fun h => h, Nat.le_refl _⟩
  | succ n ih =>
    intro s out h hd
    unfold moreG
    cases hk : kindG L s == sg with
    | true =>
      rw [cond_true]
      intro he
      obtain ⟨_, hlt, _⟩ := kind_some hsg hk
      obtain ⟨h2, f2⟩ := gnext_ok h hlt
      have hd2 := (lvl_fol f2).trans hd
      obtain ⟨h3, f3, n3⟩ := ho _ h2 hd2
      obtain ⟨q1, q2, q3⟩ := ih _ _ h3 ((lvl_fol f3).trans hd2) he
      obtain ⟨p1, p2⟩ := ht _ h2 hd2 q1
      refine ⟨p1, fun hall => q2 (by rw [List.all_append, hall]; simp [p2]), ?_⟩
      simp only [List.length_append, List.length_cons, List.length_nil] at q3
      omega
    | false => rw [cond_false]; intro he; exact ⟨he, fun h => h, Nat.le_refl _⟩
theorem list_goodR {L : List (List C)} {one : Rd} {d N : Nat} (ho : Good L one d) (ht : GoodR L one d N) {sg : Int} (hsg : sg ≠ 0) {s : PS} (h : St8 L s) (hd : lvl s = d) (he : (listG L one sg s).1.er = 0) :
    s.er = 0 ∧ (listG L one sg s).2.all (goodT N) = true ∧ 0 < (listG L one sg s).2.length := by
  obtain ⟨h1, f1, n1⟩ := ho s h hd
  obtain ⟨q1, q2, q3⟩ := more_goodR ho ht hsg _ _ _ h1 ((lvl_fol f1).trans hd) he
  obtain ⟨p1, p2⟩ := ht s h hd q1
  exact ⟨p1, q2 (by simp [p2]), by simp only [List.length_cons, List.length_nil] at q3; exact q3⟩
theorem meet_goodR {L : List (List C)} (hw : TokW L) {un : Rd} {d N : Nat} (hg : ∀ d', d = d' + 1 → Good L un d') (hN : 1 ≤ N) (hu : ∀ d', d = d' + 1 → GoodR L un d' N) : GoodR L (meetG L un) d (N + 2) := by
  intro s h hd he
  have := (list_good (less_good hg) (sg := 38) (by decide) h hd).2.2.2
  obtain ⟨q1, q2, q3⟩ := list_goodR (less_good hg) (less_goodR hw hg hN hu) (sg := 38) (by decide) h hd he
  exact ⟨q1, goodT_of q2 (by omega) q3 (.inr rfl)⟩
theorem union_goodR {L : List (List C)} (hw : TokW L) {un : Rd} {d N : Nat} (hg : ∀ d', d = d' + 1 → Good L un d') (hN : 1 ≤ N) (hu : ∀ d', d = d' + 1 → GoodR L un d' N) : GoodR L (unionL L un) d (N + 3) := by
  intro s h hd he
  have := (list_good (meet_good hg) (sg := 124) (by decide) h hd).2.2.2
  obtain ⟨q1, q2, q3⟩ := list_goodR (meet_good hg) (meet_goodR hw hg hN hu) (sg := 124) (by decide) h hd he
  exact ⟨q1, goodT_of q2 (by omega) q3 (.inl rfl)⟩
theorem unionN_goodR {L : List (List C)} (hw : TokW L) : ∀ d, GoodR L (unionN L d) d (3 * d + 4) := by
  intro d
  induction d with
  | zero => exact union_goodR hw (N := 1) (fun d' h => by omega) (by omega) (fun d' h => by omega)
  | succ d ih =>
    have := union_goodR hw (un := unionN L d) (d := d + 1) (N := 3 * d + 4) (fun d' h => (show d = d' by omega) ▸ unionN_good L d) (by omega) (fun d' h => (show d = d' by omega) ▸ ih)
    rw [show 3 * (d + 1) + 4 = 3 * d + 4 + 3 by omega]; exact this
theorem unionA_goodR {L : List (List C)} (hw : TokW L) {s : PS} (h : St8 L s) (he : (unionA L s).1.er = 0) : s.er = 0 ∧ goodT 30 (unionA L s).2 = true := by
  have ho := h.o0
  rw [unionA_eq, ← unionN_eq] at he ⊢
  obtain ⟨h1, h2⟩ := unionN_goodR hw (lvl s) s h rfl he
  exact ⟨h1, goodT_le (by unfold lvl; omega) h2⟩
/-! ### the lexer's words -/
theorem tokN_word {ns : List Nat} {t : List Nat} (h : tokN ns = some (1, t)) : t = wordN ns ∧ t ≠ [] ∧ t.length ≤ 16 ∧ kindN t = 1 := by
  unfold tokN at h
  by_cases hw : wordN ns ≠ []
  · rw [if_pos hw] at h
    split at h
    · rename_i hl
      have h9 := Prod.mk.inj (Option.some.inj h)
      rw [← h9.2]
      exact ⟨rfl, hw, hl, h9.1⟩
    · cases h
  · rw [if_neg hw] at h
    split at h
    · cases h
    · cases ns with
      | nil => cases h
      | cons c r =>
        simp only at h
        split at h
        · rename_i hc
          have h9 := Prod.mk.inj (Option.some.inj h)
          have : ∀ x ∈ signsN, x ≠ 1 := by decide
          exact absurd (by have := h9.1; omega) (this c hc)
        · cases h
theorem tok_low {ns : List Nat} {k : Int} {t : List Nat} (h : tokN ns = some (k, t)) : ∀ x ∈ t, x < 128 := by
  unfold tokN at h
  by_cases hw : wordN ns ≠ []
  · rw [if_pos hw] at h
    split at h
    · cases h; exact word_ascii ns
    · cases h
  · rw [if_neg hw] at h
    split at h
    · cases h; decide
    · cases ns with
      | nil => cases h
      | cons c r =>
        simp only at h
        split at h
        · rename_i hc
          cases h
          have : ∀ x ∈ signsN, x < 128 := by decide
          intro x hx
          simp only [List.mem_cons, List.mem_nil_iff, or_false] at hx
          subst hx; exact this _ hc
        · cases h
theorem lowB_N {c : Nat} (h : c < 128) : lowB (UInt8.ofNat c) = lowN c := by unfold lowB lowN; rw [u8 c (by omega)]
theorem prtB_N {c : Nat} (h : c < 128) : prtB (UInt8.ofNat c) = partN c := by
  unfold prtB partN; rw [lowB_N h, u8 c (by omega)]
  congr 1
theorem word_good {ns : List Nat} {t : List Nat} (h : tokN ns = some (1, t)) : wordB (bsN t) = true ∧ (bsN t).size < 1000000 := by
  obtain ⟨ht, hne, hl, hk⟩ := tokN_word h
  have ha := tok_low h
  have hsz : (bsN t).size = t.length := by rw [bsN_size, encs_ascii t ha]; simp
  refine ⟨?_, by omega⟩
  unfold wordB
  have sw := SC_low ha
  have e1 : bType = bsN [116, 121, 112, 101] := rfl
  have e2 : bRel = bsN [114, 101, 108] := rfl
  have e3 : bThis = bsN [116, 104, 105, 115] := rfl
  rw [e1, e2, e3, eqb_encs sw (SC_low (by decide)), eqb_encs sw (SC_low (by decide)), eqb_encs sw (SC_low (by decide))]
  unfold kindN at hk
  have n1 : ¬ t = [116, 121, 112, 101] := fun e => by rw [if_pos e] at hk; cases hk
  have n2 : ¬ t = [114, 101, 108] := fun e => by rw [if_neg n1, if_pos e] at hk; cases hk
  have n3 : ¬ t = [116, 104, 105, 115] := fun e => by rw [if_neg n1, if_neg n2, if_pos e] at hk; cases hk
  rw [decide_eq_false n1, decide_eq_false n2, decide_eq_false n3, bsN_data, encs_ascii t ha]
  simp only [Bool.not_false, Bool.and_true]
  cases ns with
  | nil => rw [ht] at hne; exact absurd rfl hne
  | cons c r =>
    rw [wordN_cons] at ht
    split at ht
    · rename_i hc
      rw [ht] at ha hl ⊢
      have h2 : ∀ x ∈ r.takeWhile partN, partN x = true := fun x hx => mem_takeW hx
      simp only [List.map_cons, nameB]
      rw [lowB_N (ha c (by simp)), hc]
      have h3 : ((r.takeWhile partN).map UInt8.ofNat).all prtB = true := by
        rw [List.all_eq_true]
        intro y hy
        obtain ⟨x, hx, rfl⟩ := List.mem_map.1 hy
        rw [prtB_N (ha x (by simp [hx]))]; exact h2 x hx
      rw [h3]
      simp only [List.length_cons] at hl
      simp only [Bool.true_and, List.length_map, decide_eq_true_eq]
      omega
    · exact absurd ht hne
theorem lx_words {p ns o q e} (h : Lx p ns o q e) : ∀ x ∈ o, x.1 = 1 → wordB (bsN x.2.1) = true ∧ (bsN x.2.1).size < 1000000 := by
  induction h with
  | nil p => intro x hx; cases hx
  | blank _ _ ih => exact ih
  | rem _ _ ih => exact ih
  | @tok p c r o q e k t r' hb hr ht hsp _ ih =>
    intro x hx h1
    rcases List.mem_cons.1 hx with rfl | hx
    · simp only at h1
      subst h1
      exact word_good ht
    · exact ih x hx h1
  | bad => intro x hx; cases hx
theorem tokW_map {o : List Tok} (h : ∀ x ∈ o, x.1 = 1 → wordB (bsN x.2.1) = true ∧ (bsN x.2.1).size < 1000000) : TokW (o.map tokC) := by
  intro i h0 h1 hk
  obtain ⟨j, rfl⟩ : ∃ j : Nat, i = j := ⟨i.toNat, by omega⟩
  have hj : j < o.length := by rw [List.length_map] at h1; omega
  have hg : (o.map tokC)[j]? = some (tokC o[j]) := by simp [hj]
  unfold tkK at hk
  unfold tkT
  rw [Int.toNat_natCast, List.getD_eq_getElem?_getD (l := o.map tokC), hg] at hk ⊢
  exact h o[j] (List.getElem_mem hj) hk
theorem lexP_words (s : ByteArray) (hz : s.size < 1000000) : TokW (lexP s).1 := by
  have hnil : TokW [] := fun i h0 h1 => by simp at h1; omega
  cases hv : validP s with
  | false => rw [lexP_bad hv]; exact hnil
  | true =>
    obtain ⟨ns, hs, rfl⟩ := valid_bsN hv
    have hel := encs_len ns
    have hbs := bsN_size ns
    by_cases hl : ns.length ≤ 3000
    · obtain ⟨o, q, e, hx⟩ := Lx.total _ ns (1, 1) (Nat.lt_succ_self _)
      rw [lexP_encs hs hl hx]
      unfold lexRes
      split
      · exact tokW_map (lx_words hx)
      · exact hnil
    · rw [lexP_big hs (by omega) (by omega)]; exact hnil
theorem exprN_good {s : ByteArray} (hz : s.size < 1000000) (h : exprE s = 0) : goodT 30 (exprN s) = true := by
  obtain ⟨h1, h2⟩ := lexP_toks s hz
  unfold exprE at h
  unfold exprN
  cases he : (lexP s).2.2.2 == 0 with
  | false => rw [he] at h; rw [beq_eq_false_iff_ne] at he; exact absurd h he
  | true =>
    rw [he, cond_true] at h
    have g3 := end_good (rd0_good hz).1
    have hr : (endW s).er = 0 := by
      rcases er3 (show (endW s).er ≤ 2 from g3.e2) with h3 | h3 | h3
      · exact h3
      · rw [h3] at h; cases h
      · rw [h3] at h; cases h
    have hr2 : (rd0 s).1.er = 0 := by
      unfold endW endG at hr
      by_cases hlt : (rd0 s).1.at_ < ((lexP s).1.length : Int)
      · rw [decide_eq_true hlt, cond_true] at hr; exact (fail_er (by decide) hr).elim
      · rw [decide_eq_false hlt, cond_false] at hr; exact hr
    rw [hr]
    exact (unionA_goodR (lexP_words s hz) (st0 h1 h2) hr2).2
end Go.Proofs.YtniiimpcakmkbaaDoor
