/- grammar: an expression within brackets is read as it is alone (plain) -/
import Derived.Test.YtniiimpcakmkbaaDoorGrU
import Derived.Test.YtniiimpcakmkbaaDoorSgT
set_option linter.unusedVariables false
namespace Go.Proofs.YtniiimpcakmkbaaDoor
open Go Vm
/-! ### the tokens -/
theorem tokN_br {ns : List Nat} {k : Int} {t : List Nat} (h : tokN ns = some (k, t)) (q : List Nat) : tokN (t ++ 41 :: q) = some (k, t) := by
  obtain ⟨htn, r, hr⟩ := tokN_split h
  unfold tokN at h ⊢
  by_cases hw : wordN ns ≠ []
  · rw [if_pos hw] at h
    split at h
    · rename_i hl
      have ht : t = wordN ns := by cases h; rfl
      have hk : k = kindN (wordN ns) := by cases h; rfl
      have h1 : wordN (t ++ 41 :: q) = t := wordN_app (r := r) (by rw [← hr]; exact ht.symm) htn rfl q
      rw [h1, if_pos htn, ht, if_pos hl, hk]
    · cases h
  · rw [if_neg hw] at h
    have hw' : wordN ns = [] := by simpa using hw
    split at h
    · cases h; rfl
    · rename_i h2
      cases ns with
      | nil => cases h
      | cons c r0 =>
        simp only at h
        split at h
        · rename_i hc
          cases h
          have hw2 := wordN_none (r' := 41 :: q) hw'
          simp only [List.cons_append, List.nil_append]
          rw [hw2]
          have h3 : isTo (c :: 41 :: q) = false := by
            unfold isTo
            split
            · rename_i heq; cases heq
            · rfl
          rw [h3]
          simp [hc]
        · cases h
theorem lx_br {p a o q e} (h : Lx p a o q e) : e = 0 → (∀ x, x <:+ a → isRem x = false) → ∀ p', ∃ p'' o', kt o' = kt o ∧ ∀ r o2 q2 e2, Lx p'' (41 :: r) o2 q2 e2 → Lx p' (a ++ 41 :: r) (o' ++ o2) q2 e2 := by
  induction h with
  | nil p => intro _ _ p'; exact ⟨p', [], rfl, fun r o2 q2 e2 h => h⟩
  | @blank p c r o q e hb _ ih =>
    intro he hn p'
    obtain ⟨p'', o', h1, h2⟩ := ih he (fun x hx => hn x (hx.trans (List.suffix_cons _ _))) (advN p' c)
    exact ⟨p'', o', h1, fun r o2 q2 e2 h => .blank hb (h2 r o2 q2 e2 h)⟩
  | @rem p ns o q e hr _ ih => intro _ hn; have := hn ns (List.suffix_refl _); rw [hr] at this; cases this
  | @tok p c r o q e k t r' hb hr ht hs _ ih =>
    intro he hn p'
    obtain ⟨p'', o', h1, h2⟩ := ih he (fun x hx => hn x (by rw [hs]; exact hx.trans (List.suffix_append _ _))) (advs p' t)
    refine ⟨p'', (k, t, p') :: o', by simp only [kt, List.map_cons] at h1 ⊢; rw [h1], fun q0 o2 q2 e2 h => ?_⟩
    obtain ⟨t', htt, h47, _⟩ := tok_head ht
    have e5 : c :: (r ++ 41 :: q0) = t ++ (r' ++ 41 :: q0) := by
      have := congrArg (fun z => z ++ 41 :: q0) hs
      simpa using this
    have h5 : tokN (c :: (r ++ 41 :: q0)) = some (k, t) := by
      rw [e5]
      cases r' with
      | nil => exact tokN_br ht q0
      | cons d r'' => rw [hs] at ht; exact tokN_next ht (r'' ++ 41 :: q0)
    exact .tok hb (notRem h47) h5 e5 (h2 q0 o2 q2 e2 h)
  | bad => intro he; cases he
/-- the signs between -/
def sgN : List (List Nat × Int) := [([124], 124), ([38], 38), ([32, 45, 32], 45)]
theorem lx_sign {c : Nat} {r : List Nat} (h1 : lowN c = false) (h2 : c ∈ signsN) (h3 : c = 45 → ∃ d q, r = d :: q ∧ d ≠ 62) : tokN (c :: r) = some ((c : Int), [c]) := by
  unfold tokN
  have hw : wordN (c :: r) = [] := by rw [wordN_cons, h1]; rfl
  rw [hw, if_neg (by simp)]
  have ht : isTo (c :: r) = false := by
    rw [← Bool.not_eq_true]; intro h
    obtain ⟨x, hx⟩ := isTo_eq h
    cases hx
    obtain ⟨d, q, hd, hn⟩ := h3 rfl
    cases hd; exact hn rfl
  rw [ht]
  simp [h2]
theorem lx_sg1 {c : Nat} {r : List Nat} (h1 : lowN c = false) (h2 : c ∈ signsN) (h3 : c = 45 → ∃ d q, r = d :: q ∧ d ≠ 62) (hb : blankN c = false) (h47 : c ≠ 47) {p : Int × Int} {o q e} (h : Lx (advs p [c]) r o q e) :
    Lx p (c :: r) (((c : Int), [c], p) :: o) q e :=
  .tok (r' := r) hb (notRem h47) (lx_sign h1 h2 h3) rfl h
theorem joint_lex {a b : List Nat} {o1 o2 : List Tok} {q1 q2 : Int × Int} (h1 : Lx (1, 1) a o1 q1 0) (h2 : Lx (1, 1) b o2 q2 0) (n1 : ∀ x, x <:+ a → isRem x = false) (n2 : ∀ x, x <:+ b → isRem x = false) {sg : List Nat} {sk : Int} (hsg : (sg, sk) ∈ sgN) :
    ∃ O q, Lx (1, 1) (40 :: (a ++ 41 :: (sg ++ 40 :: (b ++ [41])))) O q 0 ∧ kt O = (40, [40]) :: (kt o1 ++ (41, [41]) :: (sk, [sk.toNat]) :: (40, [40]) :: (kt o2 ++ [(41, [41])])) := by
  obtain ⟨p1, o1', k1, f1⟩ := lx_br h1 rfl n1 (advs (1, 1) [40])
  have go : ∀ p, ∃ O q, Lx p (40 :: (b ++ [41])) O q 0 ∧ kt O = (40, [40]) :: (kt o2 ++ [(41, [41])]) := by
    intro p
    obtain ⟨p2, o2', k2, f2⟩ := lx_br h2 rfl n2 (advs p [40])
    refine ⟨_, _, lx_sg1 rfl (by decide) (fun h => absurd h (by decide)) rfl (by decide) (f2 [] _ _ _ (lx_sg1 rfl (by decide) (fun h => absurd h (by decide)) rfl (by decide) (.nil _))), ?_⟩
    simp only [kt, List.map_cons, List.map_append, List.map_nil] at k2 ⊢
    rw [k2]; rfl
  have gs : ∀ p, ∃ O q, Lx p (sg ++ 40 :: (b ++ [41])) O q 0 ∧ kt O = (sk, [sk.toNat]) :: (40, [40]) :: (kt o2 ++ [(41, [41])]) := by
    intro p
    simp only [sgN, List.mem_cons, List.mem_nil_iff, or_false, Prod.mk.injEq] at hsg
    rcases hsg with ⟨rfl, rfl⟩ | ⟨rfl, rfl⟩ | ⟨rfl, rfl⟩
    · obtain ⟨O, q, hO, hk⟩ := go (advs p [124])
      exact ⟨_, q, lx_sg1 rfl (by decide) (fun h => absurd h (by decide)) rfl (by decide) hO, by simp only [kt, List.map_cons] at hk ⊢; rw [hk]; rfl⟩
    · obtain ⟨O, q, hO, hk⟩ := go (advs p [38])
      exact ⟨_, q, lx_sg1 rfl (by decide) (fun h => absurd h (by decide)) rfl (by decide) hO, by simp only [kt, List.map_cons] at hk ⊢; rw [hk]; rfl⟩
    · obtain ⟨O, q, hO, hk⟩ := go (advN (advs (advN p 32) [45]) 32)
      exact ⟨_, q, .blank rfl (lx_sg1 rfl (by decide) (fun _ => ⟨32, _, rfl, by decide⟩) rfl (by decide) (.blank rfl hO)), by simp only [kt, List.map_cons] at hk ⊢; rw [hk]; rfl⟩
  obtain ⟨O2, q2', hO2, hk2⟩ := gs (advs p1 [41])
  refine ⟨_, q2', lx_sg1 rfl (by decide) (fun h => absurd h (by decide)) rfl (by decide) (f1 _ _ _ _ (lx_sg1 rfl (by decide) (fun h => absurd h (by decide)) rfl (by decide) hO2)), ?_⟩
  simp only [kt, List.map_cons, List.map_append] at k1 hk2 ⊢
  rw [k1, hk2]; rfl
end Go.Proofs.YtniiimpcakmkbaaDoor

/- grammar: the parts of the grammar within other tokens (plain) -/
set_option linter.unusedVariables false
namespace Go.Proofs.YtniiimpcakmkbaaDoor
open Go Vm
/-- the tokens of L1 stand in L behind n0 others, a closing bracket behind them -/
structure InL (L1 L : List (List C)) (n0 : Int) : Prop where
  n : 0 ≤ n0
  kt : ∀ i : Int, 0 ≤ i → i < L1.length → tkK L (n0 + i) = tkK L1 i ∧ tkT L (n0 + i) = tkT L1 i
  br : tkK L (n0 + L1.length) = 41
  le : n0 + L1.length < L.length
abbrev sh (n0 o : Int) (s : PS) : PS := ⟨n0 + s.at_, o, 0⟩
theorem kindG_lt {L : List (List C)} {s : PS} (he : s.er = 0) (h : s.at_ < L.length) : kindG L s = tkK L s.at_ := by
  unfold kindG; rw [he, decide_eq_false (show ¬ s.at_ ≥ (L.length : Int) by omega)]; rfl
theorem kindG_end {L : List (List C)} {s : PS} (h : s.at_ ≥ (L.length : Int)) : kindG L s = 0 := by
  unfold kindG; rw [decide_eq_true h]; cases Nat.beq s.er 0 <;> rfl
theorem kindG_er {L : List (List C)} {s : PS} (h : s.er = 2) : kindG L s = 0 := by unfold kindG; rw [h]; rfl
section
variable {L1 L : List (List C)} {n0 : Int} (E : InL L1 L n0) {s : PS} {o : Int}
include E
theorem kq (hs : St8 L1 s) (he : s.er = 0) {k : Int} (h0 : k ≠ 0) (h41 : k ≠ 41) : (kindG L (sh n0 o s) == k) = (kindG L1 s == k) := by
  have := hs.a1; have := E.le; have := hs.a0
  by_cases hlt : s.at_ < L1.length
  · rw [kindG_lt he hlt, kindG_lt rfl (show n0 + s.at_ < (L.length : Int) by omega)]
    rw [(E.kt s.at_ hs.a0 hlt).1]
  · have e : s.at_ = L1.length := by omega
    rw [kindG_end (L := L1) (s := s) (by omega), kindG_lt (L := L) rfl (show n0 + s.at_ < (L.length : Int) by omega)]
    show (tkK L (n0 + s.at_) == k) = _
    rw [e, E.br]
    have e1 : ((41 : Int) == k) = false := by rw [beq_eq_false_iff_ne]; omega
    have e2 : ((0 : Int) == k) = false := by rw [beq_eq_false_iff_ne]; omega
    rw [e1, e2]
theorem kyes (hs : St8 L1 s) {k : Int} (h0 : k ≠ 0) (h : (kindG L1 s == k) = true) : (kindG L (sh n0 o s) == k) = true := by
  obtain ⟨he, hlt, hk⟩ := kind_some h0 h
  have := E.le
  rw [kindG_lt rfl (show n0 + s.at_ < (L.length : Int) by omega)]
  show (tkK L (n0 + s.at_) == k) = true
  rw [(E.kt s.at_ hs.a0 hlt).1, hk]; simp
omit E in
theorem next_sh : nextG (sh n0 o s) = sh n0 o (nextG s) := by
  show (⟨n0 + s.at_ + 1, o, 0⟩ : PS) = ⟨n0 + (s.at_ + 1), o, 0⟩
  rw [Int.add_assoc]
theorem take_sh (hs : St8 L1 s) {k : Int} (h0 : k ≠ 0) (h : (kindG L1 s == k) = true) : takeG L k (sh n0 o s) = (sh n0 o (nextG s), tkT L1 s.at_) ∧ takeG L1 k s = (nextG s, tkT L1 s.at_) := by
  obtain ⟨he, hlt, hk⟩ := kind_some h0 h
  refine ⟨?_, ?_⟩
  · unfold takeG
    rw [kyes E hs h0 h, cond_true, next_sh]
    show (_, tkT L (n0 + s.at_)) = _
    rw [(E.kt s.at_ hs.a0 hlt).2]
  · unfold takeG; rw [h, cond_true]
end
/-- what is read alone is read within brackets, or these are too many -/
def Sim (L1 L : List (List C)) (n0 : Int) (f f' : Rd) (d d' : Nat) : Prop :=
  ∀ s, St8 L1 s → lvl s = d → s.er = 0 → (f s).1.er = 0 → ∀ o : Int, 0 ≤ o → o ≤ 8 → (8 - o).toNat = d' →
    (f' (sh n0 o s)).1.er = 2 ∨ f' (sh n0 o s) = (sh n0 o (f s).1, (f s).2)
theorem fail_er2 {n : Nat} {s : PS} (h : s.er = 2) : (failG n s).er = 2 := by unfold failG; rw [h]; rfl
theorem take_er2 {L : List (List C)} {k : Int} (h0 : k ≠ 0) {s : PS} (h : s.er = 2) : (takeG L k s).1.er = 2 := by
  unfold takeG
  rw [kindG_er h]
  have e : ((0 : Int) == k) = false := by rw [beq_eq_false_iff_ne]; omega
  rw [e]; exact fail_er2 h
theorem atom_sim {L1 L : List (List C)} {n0 : Int} (E : InL L1 L n0) {un un' : Rd} {d d' : Nat} (hg : ∀ e, d = e + 1 → Good L1 un e) (hu : ∀ e e', d = e + 1 → d' = e' + 1 → Sim L1 L n0 un un' e e') : Sim L1 L n0 (atomG L1 un) (atomG L un') d d' := by
  intro s h hd he hr o h0 h8 hd'
  unfold atomG at hr ⊢
  rw [kq E h he (by decide) (by decide), kq E h he (by decide) (by decide)]
  cases h40 : kindG L1 s == 40 with
  | true =>
    rw [h40, cond_true] at hr
    rw [cond_true, cond_true]
    by_cases ho : s.op ≥ 8
    · rw [decide_eq_true ho, cond_true] at hr; exact (fail_er (by decide) hr).elim
    · rw [decide_eq_false ho, cond_false] at hr ⊢
      by_cases ho' : o ≥ 8
      · left
        show (bif decide (o ≥ 8) then _ else _ : PS × Nde).1.er = 2
        rw [decide_eq_true ho', cond_true]; rfl
      · have hso := h.o0
        have h1 : St8 L1 ⟨s.at_, s.op + 1, s.er⟩ := ⟨h.tk, h.len, h.a0, h.a1, by simp only; omega, by simp only; omega, h.e2⟩
        have hk1 : (kindG L1 ⟨s.at_, s.op + 1, s.er⟩ == 40) = true := h40
        obtain ⟨t1, t2⟩ := take_sh E (o := o + 1) h1 (k := 40) (by decide) hk1
        obtain ⟨hn1, fn1⟩ := gnext_ok h1 (kind_some (by decide) hk1).2.1
        have hl2 : lvl (nextG ⟨s.at_, s.op + 1, s.er⟩) = (7 - s.op).toNat := by unfold lvl nextG; simp only; omega
        have hdd : d = (7 - s.op).toNat + 1 := by rw [← hd]; unfold lvl; omega
        have hdd' : d' = (7 - o).toNat + 1 := by omega
        rw [t2] at hr ⊢
        have hr0 : (takeG L1 41 (un (nextG ⟨s.at_, s.op + 1, s.er⟩)).1).1.er = 0 := hr
        obtain ⟨hu0, hk41, _, _, _⟩ := take_er (L := L1) (k := 41) (by decide) hr0
        obtain ⟨g1, g2, _⟩ := hg _ hdd _ hn1 hl2
        obtain ⟨t3, t4⟩ := take_sh E (o := o + 1) g1 (k := 41) (by decide) hk41
        have hsim := hu _ _ hdd hdd' _ hn1 hl2 he hu0 (o + 1) (by omega) (by omega) (by omega)
        show (bif decide (o ≥ 8) then (failG 2 (sh n0 o s), zeroN) else
            ((⟨(takeG L 41 (un' (takeG L 40 (sh n0 (o + 1) s)).1).1).1.at_, (takeG L 41 (un' (takeG L 40 (sh n0 (o + 1) s)).1).1).1.op - 1, (takeG L 41 (un' (takeG L 40 (sh n0 (o + 1) s)).1).1).1.er⟩ : PS), (un' (takeG L 40 (sh n0 (o + 1) s)).1).2) : PS × Nde).1.er = 2 ∨
          (bif decide (o ≥ 8) then (failG 2 (sh n0 o s), zeroN) else
            ((⟨(takeG L 41 (un' (takeG L 40 (sh n0 (o + 1) s)).1).1).1.at_, (takeG L 41 (un' (takeG L 40 (sh n0 (o + 1) s)).1).1).1.op - 1, (takeG L 41 (un' (takeG L 40 (sh n0 (o + 1) s)).1).1).1.er⟩ : PS), (un' (takeG L 40 (sh n0 (o + 1) s)).1).2) : PS × Nde) = _
        have t1' : takeG L 40 (sh n0 (o + 1) s) = (sh n0 (o + 1) (nextG ⟨s.at_, s.op + 1, s.er⟩), tkT L1 s.at_) := t1
        rw [decide_eq_false ho', cond_false, t1']
        rcases hsim with h2 | h2
        · left; exact take_er2 (by decide) h2
        · right
          rw [h2]
          simp only
          rw [t3, t4]
          refine Prod.ext ?_ rfl
          show (⟨n0 + ((un (nextG ⟨s.at_, s.op + 1, s.er⟩)).1.at_ + 1), o + 1 - 1, 0⟩ : PS) = ⟨_, o, 0⟩
          rw [show o + 1 - 1 = o by omega]; rfl
  | false =>
    rw [h40, cond_false] at hr
    rw [cond_false, cond_false]
    cases h4 : kindG L1 s == 4 with
    | true => right; rw [cond_true, cond_true, next_sh]
    | false =>
      rw [h4, cond_false] at hr
      rw [cond_false, cond_false]
      cases h5 : kindG L1 (takeG L1 1 s).1 == 5 with
      | true =>
        rw [h5, cond_true] at hr
        rw [cond_true]
        obtain ⟨q1, q2, _, _, _⟩ := take_er (L := L1) (k := 1) (by decide) hr
        have q3 : (takeG L1 1 s).1.er = 0 := q1
        obtain ⟨_, p2, _, _, _⟩ := take_er (L := L1) (s := s) (k := 1) (by decide) q3
        obtain ⟨t1, t2⟩ := take_sh E (o := o) h (k := 1) (by decide) p2
        rw [t2] at h5 q2 hr ⊢
        obtain ⟨hn1, _⟩ := gnext_ok h (kind_some (by decide) p2).2.1
        rw [t1]
        simp only at h5 q2 hr ⊢
        rw [kyes E hn1 (by decide) h5, cond_true]
        obtain ⟨hn2, _⟩ := gnext_ok hn1 (kind_some (by decide) h5).2.1
        rw [next_sh]
        obtain ⟨t3, t4⟩ := take_sh E (o := o) hn2 (k := 1) (by decide) q2
        rw [t3, t4]; exact .inr rfl
      | false =>
        rw [h5, cond_false] at hr
        rw [cond_false]
        have q3 : (takeG L1 1 s).1.er = 0 := hr
        obtain ⟨_, p2, _, _, _⟩ := take_er (L := L1) (s := s) (k := 1) (by decide) q3
        obtain ⟨t1, t2⟩ := take_sh E (o := o) h (k := 1) (by decide) p2
        obtain ⟨hn1, _⟩ := gnext_ok h (kind_some (by decide) p2).2.1
        rw [t2] at h5 ⊢
        rw [t1]
        simp only at h5 ⊢
        have hne : (nextG s).er = 0 := he
        rw [kq E hn1 hne (by decide) (by decide), h5]; exact .inr rfl
theorem less_er2 {L : List (List C)} {un : Rd} {s : PS} (h : (atomG L un s).1.er = 2) : (lessG L un s).1.er = 2 := by
  unfold lessG; rw [kindG_er h]; exact h
theorem more_er2 {L : List (List C)} {one : Rd} {sg : Int} (hs : sg ≠ 0) {s : PS} (h : s.er = 2) : ∀ (n : Nat) out, moreG L one sg n s out = (s, out) := by
  intro n out
  cases n with
  | zero => rfl
  | succ n =>
    unfold moreG
    rw [kindG_er h]
    have e : ((0 : Int) == sg) = false := by rw [beq_eq_false_iff_ne]; omega
    rw [e]; rfl
theorem list_er2 {L : List (List C)} {one : Rd} {sg : Int} (hs : sg ≠ 0) {s : PS} (h : (one s).1.er = 2) : (listG L one sg s).1.er = 2 := by
  unfold listG; rw [more_er2 hs h]; exact h
theorem meet_er2 {L : List (List C)} {un : Rd} {s : PS} (h : (lessG L un s).1.er = 2) : (meetG L un s).1.er = 2 := list_er2 (by decide) h
theorem union_er2 {L : List (List C)} {un : Rd} {s : PS} (h : (meetG L un s).1.er = 2) : (unionL L un s).1.er = 2 := list_er2 (by decide) h
theorem er_atom {L : List (List C)} {un : Rd} {s : PS} (h : s.er ≠ 0) : (atomG L un s).1.er ≠ 0 := by
  unfold atomG
  have hk : kindG L s = 0 := by unfold kindG; rw [beq0, decide_eq_false h]; rfl
  have ht : (takeG L 1 s).1.er ≠ 0 := by
    unfold takeG; rw [hk]
    show (failG 1 s).er ≠ 0
    unfold failG; simp only; rw [beq0, decide_eq_false h]; exact h
  have hk2 : kindG L (takeG L 1 s).1 = 0 := by unfold kindG; rw [beq0, decide_eq_false ht]; rfl
  rw [hk, hk2]; exact ht
theorem less_sim {L1 L : List (List C)} {n0 : Int} (E : InL L1 L n0) {un un' : Rd} {d d' : Nat} (hg : ∀ e, d = e + 1 → Good L1 un e) (hu : ∀ e e', d = e + 1 → d' = e' + 1 → Sim L1 L n0 un un' e e') : Sim L1 L n0 (lessG L1 un) (lessG L un') d d' := by
  intro s h hd he hr o h0 h8 hd'
  obtain ⟨h1, f1, _⟩ := atom_good hg s h hd
  have sim := atom_sim E hg hu
  unfold lessG at hr ⊢
  cases hk : kindG L1 (atomG L1 un s).1 == 45 with
  | true =>
    obtain ⟨he1, hlt, _⟩ := kind_some (by decide) hk
    obtain ⟨h2, f2⟩ := gnext_ok h1 hlt
    rw [hk, cond_true] at hr
    rw [cond_true]
    rcases sim s h hd he he1 o h0 h8 hd' with e | e
    · left; rw [kindG_er e]; exact e
    · rw [e]
      simp only
      rw [kyes E h1 (by decide) hk, cond_true, next_sh]
      rcases sim _ h2 ((lvl_fol (f1.trans f2)).trans hd) he1 hr o h0 h8 hd' with e2 | e2
      · left; exact e2
      · right; rw [e2]
  | false =>
    rw [hk, cond_false] at hr
    rw [cond_false]
    rcases sim s h hd he hr o h0 h8 hd' with e | e
    · left; rw [kindG_er e]; exact e
    · right; rw [e]
      simp only
      rw [kq E h1 hr (by decide) (by decide), hk, cond_false]
theorem more_sim {L1 L : List (List C)} {n0 : Int} (E : InL L1 L n0) {one one' : Rd} {d d' : Nat} (ho : Good L1 one d) (hsim : Sim L1 L n0 one one' d d') (her : ∀ s, s.er ≠ 0 → (one s).1.er ≠ 0) {sg : Int} (hsg : sg ≠ 0) (h41 : sg ≠ 41) {o : Int} (h0 : 0 ≤ o) (h8 : o ≤ 8) (hd' : (8 - o).toNat = d') :
    ∀ (n n' : Nat) (s : PS) (out : List Nde), St8 L1 s → lvl s = d → s.er = 0 → (L1.length : Int) - s.at_ < n → (L.length : Int) - (n0 + s.at_) < n' → (moreG L1 one sg n s out).1.er = 0 →
      (moreG L one' sg n' (sh n0 o s) out).1.er = 2 ∨ moreG L one' sg n' (sh n0 o s) out = (sh n0 o (moreG L1 one sg n s out).1, (moreG L1 one sg n s out).2) := by
  intro n
  induction n with
  | zero => intro n' s out h hd he hn; have := h.a1; omega
  | succ n ih =>
    intro n' s out h hd he hn hn' hr
    have hle := E.le
    have ha1 := h.a1
    cases n' with
    | zero => omega
    | succ n' =>
      unfold moreG at hr ⊢
      rw [kq E h he hsg h41]
      cases hk : kindG L1 s == sg with
      | true =>
        rw [hk, cond_true] at hr
        rw [cond_true, cond_true, next_sh]
        obtain ⟨_, hlt, _⟩ := kind_some hsg hk
        obtain ⟨h2, f2⟩ := gnext_ok h hlt
        have hd2 := (lvl_fol f2).trans hd
        obtain ⟨h3, f3, _⟩ := ho _ h2 hd2
        have hat : s.at_ + 1 ≤ (one (nextG s)).1.at_ := f3.a
        have he1 : (one (nextG s)).1.er = 0 := by
          by_cases h5 : (one (nextG s)).1.er = 0
          · exact h5
          · exfalso
            have hk0 : kindG L1 (one (nextG s)).1 = 0 := by unfold kindG; rw [beq0, decide_eq_false h5]; rfl
            have : moreG L1 one sg n (one (nextG s)).1 (out ++ [(one (nextG s)).2]) = ((one (nextG s)).1, out ++ [(one (nextG s)).2]) := by
              cases n with
              | zero => rfl
              | succ n =>
                unfold moreG; rw [hk0]
                have e : ((0 : Int) == sg) = false := by rw [beq_eq_false_iff_ne]; omega
                rw [e]; rfl
            rw [this] at hr; exact h5 hr
        rcases hsim _ h2 hd2 he he1 o h0 h8 hd' with e | e
        · left; rw [more_er2 hsg e]; exact e
        · rw [e]
          exact ih n' _ _ h3 ((lvl_fol f3).trans hd2) he1 (by push_cast at hn; omega) (by push_cast at hn'; omega) hr
      | false => right; rw [cond_false, cond_false]
theorem list_sim {L1 L : List (List C)} {n0 : Int} (E : InL L1 L n0) {one one' : Rd} {d d' : Nat} (ho : Good L1 one d) (hsim : Sim L1 L n0 one one' d d') (her : ∀ s, s.er ≠ 0 → (one s).1.er ≠ 0) {sg : Int} (hsg : sg ≠ 0) (h41 : sg ≠ 41) {o : Int} (h0 : 0 ≤ o) (h8 : o ≤ 8) (hd' : (8 - o).toNat = d')
    {s : PS} (h : St8 L1 s) (hd : lvl s = d) (he : s.er = 0) (hr : (listG L1 one sg s).1.er = 0) :
    (listG L one' sg (sh n0 o s)).1.er = 2 ∨ listG L one' sg (sh n0 o s) = (sh n0 o (listG L1 one sg s).1, (listG L1 one sg s).2) := by
  obtain ⟨h3, f3, _⟩ := ho _ h hd
  have ha0 := h3.a0
  have hn := E.n
  unfold listG at hr ⊢
  have he1 : (one s).1.er = 0 := by
    by_cases h5 : (one s).1.er = 0
    · exact h5
    · exfalso
      have hk0 : kindG L1 (one s).1 = 0 := by unfold kindG; rw [beq0, decide_eq_false h5]; rfl
      have : moreG L1 one sg (L1.length + 1) (one s).1 [(one s).2] = ((one s).1, [(one s).2]) := by
        unfold moreG; rw [hk0]
        have e : ((0 : Int) == sg) = false := by rw [beq_eq_false_iff_ne]; omega
        rw [e]; rfl
      rw [this] at hr; exact h5 hr
  rcases hsim _ h hd he he1 o h0 h8 hd' with e | e
  · left; rw [more_er2 hsg e]; exact e
  · rw [e]
    exact more_sim E ho hsim her hsg h41 h0 h8 hd' _ _ _ _ h3 ((lvl_fol f3).trans hd) he1 (by push_cast; omega) (by push_cast; omega) hr
theorem meet_sim {L1 L : List (List C)} {n0 : Int} (E : InL L1 L n0) {un un' : Rd} {d d' : Nat} (hg : ∀ e, d = e + 1 → Good L1 un e) (hu : ∀ e e', d = e + 1 → d' = e' + 1 → Sim L1 L n0 un un' e e') : Sim L1 L n0 (meetG L1 un) (meetG L un') d d' := by
  intro s h hd he hr o h0 h8 hd'
  have her : ∀ s, s.er ≠ 0 → (lessG L1 un s).1.er ≠ 0 := fun s h => by
    have h1 := er_atom (L := L1) (un := un) h
    unfold lessG
    have hk0 : kindG L1 (atomG L1 un s).1 = 0 := by unfold kindG; rw [beq0, decide_eq_false h1]; rfl
    rw [hk0]; exact h1
  rcases list_sim E (less_good hg) (less_sim E hg hu) her (sg := 38) (by decide) (by decide) h0 h8 hd' h hd he hr with e | e
  · exact .inl e
  · right
    unfold meetG
    rw [e]
theorem union_sim {L1 L : List (List C)} {n0 : Int} (E : InL L1 L n0) {un un' : Rd} {d d' : Nat} (hg : ∀ e, d = e + 1 → Good L1 un e) (hu : ∀ e e', d = e + 1 → d' = e' + 1 → Sim L1 L n0 un un' e e') : Sim L1 L n0 (unionL L1 un) (unionL L un') d d' := by
  intro s h hd he hr o h0 h8 hd'
  have her : ∀ s, s.er ≠ 0 → (meetG L1 un s).1.er ≠ 0 := fun s h => by
    have h1 := er_atom (L := L1) (un := un) h
    have hk0 : kindG L1 (atomG L1 un s).1 = 0 := by unfold kindG; rw [beq0, decide_eq_false h1]; rfl
    have h2 : (lessG L1 un s).1.er ≠ 0 := by unfold lessG; rw [hk0]; exact h1
    have hk2 : kindG L1 (lessG L1 un s).1 = 0 := by unfold kindG; rw [beq0, decide_eq_false h2]; rfl
    unfold meetG listG moreG
    rw [hk2]; exact h2
  rcases list_sim E (meet_good hg) (meet_sim E hg hu) her (sg := 124) (by decide) (by decide) h0 h8 hd' h hd he hr with e | e
  · exact .inl e
  · right
    unfold unionL
    rw [e]
theorem unionN_sim {L1 L : List (List C)} {n0 : Int} (E : InL L1 L n0) : ∀ d' d, Sim L1 L n0 (unionN L1 d) (unionN L d') d d' := by
  intro d'
  induction d' with
  | zero => intro d; rw [unionN_eq, unionN_eq]; exact union_sim E (inner_good L1 d) (fun e e' _ h => by omega)
  | succ d' ih =>
    intro d
    rw [unionN_eq, unionN_eq]
    refine union_sim E (inner_good L1 d) (fun e e' h h' => ?_)
    subst h
    obtain rfl : e' = d' := by omega
    exact ih e
end Go.Proofs.YtniiimpcakmkbaaDoor

/- grammar: two expressions with a sign between (plain) -/
set_option linter.unusedVariables false
namespace Go.Proofs.YtniiimpcakmkbaaDoor
open Go Vm
theorem less_no {L : List (List C)} {un : Rd} {s s1 : PS} {a : Nde} (h : atomG L un s = (s1, a)) (hk : (kindG L s1 == 45) = false) : lessG L un s = (s1, a) := by
  unfold lessG; rw [h]; simp only; rw [hk]; rfl
theorem less_yes {L : List (List C)} {un : Rd} {s s1 s2 : PS} {a b : Nde} (h : atomG L un s = (s1, a)) (hk : (kindG L s1 == 45) = true) (h2 : atomG L un (nextG s1) = (s2, b)) : lessG L un s = (s2, ndC 6 bE bE [a, b]) := by
  unfold lessG; rw [h]; simp only; rw [hk, h2]; rfl
theorem more_no {L : List (List C)} {one : Rd} {sg : Int} {s : PS} (hk : (kindG L s == sg) = false) (n : Nat) (out : List Nde) : moreG L one sg n s out = (s, out) := by
  cases n with
  | zero => rfl
  | succ n => unfold moreG; rw [hk]; rfl
theorem list_no {L : List (List C)} {one : Rd} {sg : Int} {s s1 : PS} {a : Nde} (h : one s = (s1, a)) (hk : (kindG L s1 == sg) = false) : listG L one sg s = (s1, [a]) := by
  unfold listG; rw [h]; exact more_no hk _ _
theorem list_two {L : List (List C)} {one : Rd} {sg : Int} {s s1 s2 : PS} {a b : Nde} (h : one s = (s1, a)) (hk : (kindG L s1 == sg) = true) (h2 : one (nextG s1) = (s2, b)) (hk2 : (kindG L s2 == sg) = false) : listG L one sg s = (s2, [a, b]) := by
  unfold listG; rw [h]; unfold moreG; simp only; rw [hk, cond_true, h2]; exact more_no hk2 _ _
theorem list_two2 {L : List (List C)} {one : Rd} {sg : Int} (hs : sg ≠ 0) {s s1 : PS} {a : Nde} (h : one s = (s1, a)) (hk : (kindG L s1 == sg) = true) (h2 : (one (nextG s1)).1.er = 2) : (listG L one sg s).1.er = 2 := by
  unfold listG; rw [h]; unfold moreG; simp only; rw [hk, cond_true, more_er2 hs h2]; exact h2
theorem grp {L1 L : List (List C)} {n0 : Int} (E : InL L1 L n0) (h1 : 1 ≤ n0) (hk : tkK L (n0 - 1) = 40) (hs : St8 L1 ⟨0, 0, 0⟩) {a : Nde} (hu : unionN L1 8 ⟨0, 0, 0⟩ = (⟨L1.length, 0, 0⟩, a)) :
    (atomG L (innerN L 8) ⟨n0 - 1, 0, 0⟩).1.er = 2 ∨ atomG L (innerN L 8) ⟨n0 - 1, 0, 0⟩ = (⟨n0 + L1.length + 1, 0, 0⟩, a) := by
  have hle := E.le
  have k40 : ∀ o, (kindG L ⟨n0 - 1, o, 0⟩ == 40) = true := fun o => by
    rw [kindG_lt rfl (show n0 - 1 < (L.length : Int) by omega)]
    show (tkK L (n0 - 1) == 40) = true
    rw [hk]; rfl
  have t40 : takeG L 40 ⟨n0 - 1, 0 + 1, 0⟩ = (⟨n0 + 0, 1, 0⟩, tkT L (n0 - 1)) := by
    unfold takeG; rw [k40, cond_true]
    refine Prod.ext ?_ rfl
    show (⟨n0 - 1 + 1, 0 + 1, 0⟩ : PS) = _
    rw [show n0 - 1 + 1 = n0 + 0 by omega]; rfl
  have sim := unionN_sim E 7 8 ⟨0, 0, 0⟩ hs rfl rfl (by rw [hu]) 1 (by decide) (by decide) rfl
  rw [hu] at sim
  unfold atomG
  rw [k40, cond_true]
  rw [show decide ((⟨n0 - 1, 0, 0⟩ : PS).op ≥ 8) = false from rfl, cond_false]
  simp only
  rw [t40]
  have hin : innerN L 8 = unionN L 7 := rfl
  rw [hin]
  simp only
  rcases sim with e | e
  · left; exact take_er2 (by decide) e
  · right
    have e' : unionN L 7 ⟨n0 + 0, 1, 0⟩ = (⟨n0 + L1.length, 1, 0⟩, a) := e
    rw [e']
    have t41 : takeG L 41 ⟨n0 + L1.length, 1, 0⟩ = (⟨n0 + L1.length + 1, 1, 0⟩, tkT L (n0 + L1.length)) := by
      unfold takeG
      rw [kindG_lt rfl (show n0 + L1.length < (L.length : Int) by omega)]
      show (bif tkK L (n0 + L1.length) == 41 then _ else _ : PS × ByteArray) = _
      rw [E.br]; rfl
    rw [t41]; rfl
def kdN (sk : Int) : Int := bif sk == 124 then 4 else bif sk == 38 then 5 else 6
theorem joint_read {L1 L2 L : List (List C)} (E1 : InL L1 L 1) (E2 : InL L2 L (L1.length + 4)) (s1 : St8 L1 ⟨0, 0, 0⟩) (s2 : St8 L2 ⟨0, 0, 0⟩) {a b : Nde} (u1 : unionN L1 8 ⟨0, 0, 0⟩ = (⟨L1.length, 0, 0⟩, a)) (u2 : unionN L2 8 ⟨0, 0, 0⟩ = (⟨L2.length, 0, 0⟩, b))
    (k0 : tkK L 0 = 40) {sk : Int} (hsk : sk = 124 ∨ sk = 38 ∨ sk = 45) (k2 : tkK L (L1.length + 2) = sk) (k3 : tkK L (L1.length + 3) = 40) (hl : (L.length : Int) = L1.length + L2.length + 5) :
    (unionN L 8 ⟨0, 0, 0⟩).1.er = 2 ∨ unionN L 8 ⟨0, 0, 0⟩ = (⟨L.length, 0, 0⟩, ndC (kdN sk) bE bE [a, b]) := by
  rw [unionN_eq]
  have g1 := grp E1 (by decide) k0 s1 u1
  have g2 := grp E2 (by omega) (by rw [show (L1.length : Int) + 4 - 1 = L1.length + 3 by omega]; exact k3) s2 u2
  have e0 : (1 : Int) - 1 = 0 := rfl
  rw [e0] at g1
  rw [show (L1.length : Int) + 4 - 1 = L1.length + 3 by omega, show (L1.length : Int) + 4 + L2.length + 1 = L.length by omega] at g2
  rw [show (1 : Int) + L1.length + 1 = L1.length + 2 by omega] at g1
  have km : kindG L ⟨L1.length + 2, 0, 0⟩ = sk := by rw [kindG_lt rfl (show (L1.length : Int) + 2 < (L.length : Int) by omega)]; exact k2
  have ke : kindG L ⟨L.length, 0, 0⟩ = 0 := kindG_end (Int.le_refl _)
  have nx : nextG ⟨L1.length + 2, 0, 0⟩ = ⟨L1.length + 3, 0, 0⟩ := by
    show (⟨(L1.length : Int) + 2 + 1, 0, 0⟩ : PS) = _
    rw [show (L1.length : Int) + 2 + 1 = L1.length + 3 by omega]
  rcases g1 with g1 | g1
  · exact .inl (union_er2 (meet_er2 (less_er2 g1)))
  · rcases hsk with rfl | rfl | rfl
    · have l1 := less_no g1 (by rw [km]; rfl)
      have m1 : meetG L (innerN L 8) ⟨0, 0, 0⟩ = (⟨L1.length + 2, 0, 0⟩, a) := by unfold meetG; rw [list_no l1 (by rw [km]; rfl)]; rfl
      rcases g2 with g2 | g2
      · left; exact list_two2 (by decide) m1 (by rw [km]; rfl) (by rw [nx]; exact meet_er2 (less_er2 g2))
      · right
        have l2 := less_no g2 (by rw [ke]; rfl)
        have m2 : meetG L (innerN L 8) ⟨L1.length + 3, 0, 0⟩ = (⟨L.length, 0, 0⟩, b) := by unfold meetG; rw [list_no l2 (by rw [ke]; rfl)]; rfl
        unfold unionL
        rw [list_two (s2 := ⟨L.length, 0, 0⟩) (b := b) m1 (by rw [km]; rfl) (by rw [nx]; exact m2) (by rw [ke]; rfl)]; rfl
    · have l1 := less_no g1 (by rw [km]; rfl)
      rcases g2 with g2 | g2
      · left; exact union_er2 (list_two2 (by decide) l1 (by rw [km]; rfl) (by rw [nx]; exact less_er2 g2))
      · right
        have l2 := less_no g2 (by rw [ke]; rfl)
        have m1 : meetG L (innerN L 8) ⟨0, 0, 0⟩ = (⟨L.length, 0, 0⟩, ndC 5 bE bE [a, b]) := by
          unfold meetG; rw [list_two (s2 := ⟨L.length, 0, 0⟩) (b := b) l1 (by rw [km]; rfl) (by rw [nx]; exact l2) (by rw [ke]; rfl)]; rfl
        unfold unionL
        rw [list_no m1 (by rw [ke]; rfl)]; rfl
    · rcases g2 with g2 | g2
      · left
        refine union_er2 (meet_er2 ?_)
        unfold lessG
        rw [g1]; simp only; rw [km, nx]; exact g2
      · right
        have l1 := less_yes (s2 := ⟨L.length, 0, 0⟩) (b := b) g1 (by rw [km]; rfl) (by rw [nx]; exact g2)
        have m1 : meetG L (innerN L 8) ⟨0, 0, 0⟩ = (⟨L.length, 0, 0⟩, ndC 6 bE bE [a, b]) := by
          unfold meetG; rw [list_no l1 (by rw [ke]; rfl)]; rfl
        unfold unionL
        rw [list_no m1 (by rw [ke]; rfl)]; rfl
/-! ### over texts -/
theorem expr_read {s : ByteArray} (hz : s.size < 1000000) (h : exprE s = 0) :
    ∃ ns o q, SC ns ∧ s = bsN ns ∧ Lx (1, 1) ns o q 0 ∧ St8 (o.map tokC) ⟨0, 0, 0⟩ ∧ unionN (o.map tokC) 8 ⟨0, 0, 0⟩ = (⟨(o.map tokC).length, 0, 0⟩, exprN s) := by
  obtain ⟨t1, t2⟩ := lexP_toks s hz
  have h0 : (lexP s).2.2.2 = 0 := by
    unfold exprE at h
    cases he : (lexP s).2.2.2 == 0 with
    | true => simpa using he
    | false => rw [he] at h; exact h
  obtain ⟨ns, o, q, hs, e1, _, hx, hr⟩ := lexP_ok hz h0
  have hL : (lexP s).1 = o.map tokC := by rw [hr]
  rw [hL] at t1 t2
  have hst := st0 t1 t2
  obtain ⟨x1, _, _, x4⟩ := expr_toks (p := q) hr
  rw [x4] at h
  obtain ⟨g1, f1, n1⟩ := unionN_good (o.map tokC) 8 ⟨0, 0, 0⟩ hst rfl
  have hE : (endG (o.map tokC) (unionN (o.map tokC) 8 ⟨0, 0, 0⟩).1).er = 0 := by
    have he2 : (endG (o.map tokC) (unionN (o.map tokC) 8 ⟨0, 0, 0⟩).1).er ≤ 2 := (end_good g1).e2
    rcases er3 he2 with e | e | e
    · exact e
    · rw [e] at h; cases h
    · rw [e] at h; cases h
  refine ⟨ns, o, q, hs, e1, hx, hst, ?_⟩
  rw [hE] at x1
  have hx1 : exprN s = (unionN (o.map tokC) 8 ⟨0, 0, 0⟩).2 := x1
  rw [hx1]
  unfold endG at hE
  by_cases hlt : (unionN (o.map tokC) 8 ⟨0, 0, 0⟩).1.at_ < ((o.map tokC).length : Int)
  · rw [decide_eq_true hlt, cond_true] at hE; exact (fail_er (by decide) hE).elim
  · rw [decide_eq_false hlt, cond_false] at hE
    have ha := g1.a1
    have ho := f1.o
    generalize unionN (o.map tokC) 8 ⟨0, 0, 0⟩ = z at hE ha ho hlt ⊢
    obtain ⟨⟨za, zo, ze⟩, zn⟩ := z
    simp only at hE ha ho hlt ⊢
    subst hE ho
    rw [show za = ((o.map tokC).length : Int) by omega]
theorem tk_kt {O : List Tok} {l : List (Int × List Nat)} (h : kt O = l) {i : Nat} {x : Int × List Nat} (hx : l[i]? = some x) : tkK (O.map tokC) i = x.1 ∧ tkT (O.map tokC) i = bsN x.2 := by
  rw [← h] at hx
  have hlt : i < O.length := by
    rcases Nat.lt_or_ge i O.length with h1 | h1
    · exact h1
    · rw [List.getElem?_eq_none (by simpa [kt] using h1)] at hx; cases hx
  have hx' : (O[i].1, O[i].2.1) = x := by simpa [kt, hlt] using hx
  have hg : (O.map tokC)[i]? = some (tokC O[i]) := by simp [hlt]
  unfold tkK tkT
  rw [Int.toNat_natCast, List.getD_eq_getElem?_getD (l := O.map tokC), hg, ← hx']
  exact ⟨rfl, rfl⟩
theorem contains_mid (a b c : List UInt8) : Go.Lib.contains (a ++ (b ++ c)) b = true := by
  unfold Go.Lib.contains
  rw [decide_eq_true_eq]
  rcases Go.Lib.index_spec (a ++ (b ++ c)) b with ⟨h1, h2⟩ | ⟨i, h1, _⟩
  · exfalso
    have h3 := h2 a.length (by simp)
    unfold Go.Lib.occAt at h3
    have h4 : b.isPrefixOf (b ++ c) = true := List.isPrefixOf_iff_prefix.2 ⟨c, rfl⟩
    rw [List.drop_left, h4] at h3; cases h3
  · rw [h1]; omega
theorem joint_plain {s t : ByteArray} (hs : s.size ≤ 1000) (ht : t.size ≤ 1000) (es : exprE s = 0) (et : exprE t = 0) (ns : hasSub s ⟨#[47, 47]⟩ = false) (nt : hasSub t ⟨#[47, 47]⟩ = false) {sg : List Nat} {sk : Int} (hsg : (sg, sk) ∈ sgN) :
    exprE (⟨#[40]⟩ ++ s ++ ⟨#[41]⟩ ++ bsN sg ++ ⟨#[40]⟩ ++ t ++ ⟨#[41]⟩) = 12 ∨
    (exprE (⟨#[40]⟩ ++ s ++ ⟨#[41]⟩ ++ bsN sg ++ ⟨#[40]⟩ ++ t ++ ⟨#[41]⟩) = 0 ∧ exprN (⟨#[40]⟩ ++ s ++ ⟨#[41]⟩ ++ bsN sg ++ ⟨#[40]⟩ ++ t ++ ⟨#[41]⟩) = ndC (kdN sk) bE bE [exprN s, exprN t]) := by
  obtain ⟨a, o1, q1, sa, ea, xa, s1, u1⟩ := expr_read (by omega) es
  obtain ⟨b, o2, q2, sb, eb, xb, s2, u2⟩ := expr_read (by omega) et
  have norem : ∀ (c : List Nat), hasSub (bsN c) ⟨#[47, 47]⟩ = false → ∀ x, x <:+ c → isRem x = false := by
    intro c hc x ⟨y, hy⟩
    rw [← Bool.not_eq_true]; intro hr
    obtain ⟨r, rfl⟩ := isRem_eq hr
    rw [hasSub_eq, bsN_data, ← hy, encs_app] at hc
    have e1 : encs (47 :: 47 :: r) = [47, 47] ++ encs r := by rw [encs_cons, encs_cons]; rfl
    rw [e1] at hc
    have := contains_mid (encs y) [47, 47] (encs r)
    rw [this] at hc; cases hc
  have hes := exprN s
  have n1 := norem a (by rw [← ea]; exact ns)
  have n2 := norem b (by rw [← eb]; exact nt)
  obtain ⟨O, q, hO, hk⟩ := joint_lex xa xb n1 n2 hsg
  have hw : (⟨#[40]⟩ ++ s ++ ⟨#[41]⟩ ++ bsN sg ++ ⟨#[40]⟩ ++ t ++ ⟨#[41]⟩ : ByteArray) = bsN (40 :: (a ++ 41 :: (sg ++ 40 :: (b ++ [41])))) := by
    have c40 : (⟨#[40]⟩ : ByteArray) = bsN [40] := rfl
    have c41 : (⟨#[41]⟩ : ByteArray) = bsN [41] := rfl
    rw [c40, c41, ea, eb, bsN_app, bsN_app, bsN_app, bsN_app, bsN_app, bsN_app]
    congr 1
    simp
  have hsgl : sg.length ≤ 3 ∧ SC sg := by
    simp only [sgN, List.mem_cons, List.mem_nil_iff, or_false, Prod.mk.injEq] at hsg
    rcases hsg with ⟨rfl, _⟩ | ⟨rfl, _⟩ | ⟨rfl, _⟩ <;> exact ⟨by decide, SC_low (by decide)⟩
  have hsc : SC (40 :: (a ++ 41 :: (sg ++ 40 :: (b ++ [41])))) := by
    intro c hc
    simp only [List.mem_cons, List.mem_append, List.mem_nil_iff, or_false] at hc
    have l : ∀ x : Nat, x < 128 → Sc x := fun x hx => .inl (by omega)
    rcases hc with rfl | hc | rfl | hc | rfl | hc | rfl
    · exact l _ (by decide)
    · exact sa c hc
    · exact l _ (by decide)
    · exact hsgl.2 c hc
    · exact l _ (by decide)
    · exact sb c hc
    · exact l _ (by decide)
  have la : a.length ≤ 1000 := by have := encs_len a; have := bsN_size a; rw [ea] at hs; omega
  have lb : b.length ≤ 1000 := by have := encs_len b; have := bsN_size b; rw [eb] at ht; omega
  have hll : (40 :: (a ++ 41 :: (sg ++ 40 :: (b ++ [41])))).length ≤ 3000 := by
    simp only [List.length_cons, List.length_append, List.length_nil]; omega
  have hlex := lexP_encs hsc hll hO
  have hlex' : lexP (bsN (40 :: (a ++ 41 :: (sg ++ 40 :: (b ++ [41]))))) = (O.map tokC, q.1, q.2, 0) := hlex
  obtain ⟨y1, _, _, y4⟩ := expr_toks hlex'
  rw [hw]
  have hOl : O.length = o1.length + o2.length + 5 := by
    have := congrArg List.length hk
    simp [kt] at this; omega
  have k1 : ∀ (o : List Tok) i (h : i < o.length), (kt o)[i]? = some (o[i].1, o[i].2.1) := fun o i h => by simp [kt, h]
  have tkc : ∀ (o : List Tok) i (h : i < o.length), tkK (o.map tokC) i = o[i].1 ∧ tkT (o.map tokC) i = bsN o[i].2.1 := fun o i h => tk_kt rfl (k1 o i h)
  have E1 : InL (o1.map tokC) (O.map tokC) 1 := by
    refine ⟨by decide, fun i h0 h1 => ?_, ?_, by simp; omega⟩
    · obtain ⟨j, rfl⟩ : ∃ j : Nat, i = j := ⟨i.toNat, by omega⟩
      have hj : j < o1.length := by rw [List.length_map] at h1; omega
      obtain ⟨x1, x2⟩ := tkc o1 j hj
      obtain ⟨z1, z2⟩ := tk_kt hk (i := 1 + j) (x := (o1[j].1, o1[j].2.1)) (by rw [Nat.add_comm, List.getElem?_cons_succ, List.getElem?_append_left (by simpa [kt] using hj)]; exact k1 o1 j hj)
      push_cast at z1 z2
      rw [x1, x2, z1, z2]; exact ⟨rfl, rfl⟩
    · obtain ⟨z1, _⟩ := tk_kt hk (i := 1 + o1.length) (x := (41, [41])) (by rw [Nat.add_comm, List.getElem?_cons_succ, List.getElem?_append_right (by simp [kt])]; simp [kt])
      push_cast at z1
      rw [List.length_map]; exact z1
  have at2 : ∀ (i : Nat) (x : Int × List Nat), ((41, [41]) :: (sk, [sk.toNat]) :: (40, [40]) :: (kt o2 ++ [(41, [41])]))[i]? = some x → tkK (O.map tokC) ((o1.length + 1 + i : Nat) : Int) = x.1 ∧ tkT (O.map tokC) ((o1.length + 1 + i : Nat) : Int) = bsN x.2 := by
    intro i x hx
    refine tk_kt hk ?_
    rw [show o1.length + 1 + i = o1.length + i + 1 by omega, List.getElem?_cons_succ, List.getElem?_append_right (by simp [kt])]
    rw [show o1.length + i - (kt o1).length = i by simp [kt]]; exact hx
  have E2 : InL (o2.map tokC) (O.map tokC) ((o1.map tokC).length + 4) := by
    refine ⟨by simp; omega, fun i h0 h1 => ?_, ?_, by simp; omega⟩
    · obtain ⟨j, rfl⟩ : ∃ j : Nat, i = j := ⟨i.toNat, by omega⟩
      have hj : j < o2.length := by rw [List.length_map] at h1; omega
      obtain ⟨x1, x2⟩ := tkc o2 j hj
      obtain ⟨z1, z2⟩ := at2 (j + 3) (o2[j].1, o2[j].2.1) (by rw [List.getElem?_cons_succ, List.getElem?_cons_succ, List.getElem?_cons_succ, List.getElem?_append_left (by simpa [kt] using hj)]; exact k1 o2 j hj)
      have e : ((o1.map tokC).length : Int) + 4 + j = ((o1.length + 1 + (j + 3) : Nat) : Int) := by rw [List.length_map]; push_cast; omega
      rw [x1, x2, e, z1, z2]; exact ⟨rfl, rfl⟩
    · obtain ⟨z1, _⟩ := at2 (o2.length + 3) (41, [41]) (by rw [List.getElem?_cons_succ, List.getElem?_cons_succ, List.getElem?_cons_succ, List.getElem?_append_right (by simp [kt])]; simp [kt])
      have e : ((o1.map tokC).length : Int) + 4 + (o2.map tokC).length = ((o1.length + 1 + (o2.length + 3) : Nat) : Int) := by rw [List.length_map, List.length_map]; push_cast; omega
      rw [e]; exact z1
  have k0 : tkK (O.map tokC) 0 = 40 := (tk_kt hk (i := 0) rfl).1
  have k2 : tkK (O.map tokC) ((o1.map tokC).length + 2) = sk := by
    have := (at2 1 _ rfl).1
    rw [show ((o1.map tokC).length : Int) + 2 = ((o1.length + 1 + 1 : Nat) : Int) by rw [List.length_map]; push_cast; omega]; exact this
  have k3 : tkK (O.map tokC) ((o1.map tokC).length + 3) = 40 := by
    have := (at2 2 _ rfl).1
    rw [show ((o1.map tokC).length : Int) + 3 = ((o1.length + 1 + 2 : Nat) : Int) by rw [List.length_map]; push_cast; omega]; exact this
  have hskk : sk = 124 ∨ sk = 38 ∨ sk = 45 := by
    simp only [sgN, List.mem_cons, List.mem_nil_iff, or_false, Prod.mk.injEq] at hsg
    rcases hsg with ⟨_, rfl⟩ | ⟨_, rfl⟩ | ⟨_, rfl⟩ <;> simp
  have hread := joint_read E1 E2 s1 s2 u1 u2 k0 hskk k2 k3 (by simp; omega)
  rcases hread with e | e
  · left
    rw [y4]
    have : (endG (O.map tokC) (unionN (O.map tokC) 8 ⟨0, 0, 0⟩).1).er = 2 := by
      unfold endG
      cases decide ((unionN (O.map tokC) 8 ⟨0, 0, 0⟩).1.at_ < ((O.map tokC).length : Int)) with
      | true => exact fail_er2 e
      | false => exact e
    rw [this]; rfl
  · right
    rw [y1, y4, e]
    have : endG (O.map tokC) ⟨(O.map tokC).length, 0, 0⟩ = ⟨(O.map tokC).length, 0, 0⟩ := by
      unfold endG
      rw [decide_eq_false (show ¬ (⟨(O.map tokC).length, 0, 0⟩ : PS).at_ < ((O.map tokC).length : Int) from Int.lt_irrefl _)]; rfl
    rw [this]; exact ⟨rfl, rfl⟩
end Go.Proofs.YtniiimpcakmkbaaDoor
