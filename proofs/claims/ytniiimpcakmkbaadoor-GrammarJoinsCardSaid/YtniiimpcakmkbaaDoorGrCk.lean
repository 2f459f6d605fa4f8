/- grammar: Parse's answers as variables: for the law of two configurations -/
import Derived.Test.YtniiimpcakmkbaaDoorGrCs
import Derived.Test.YtniiimpcakmkbaaDoorSgPb
set_option linter.unusedVariables false
namespace Go.Proofs.YtniiimpcakmkbaaDoor
open Go Vm
structure PF where
  t : ByteArray → List (List C)
  e : ByteArray → Int
  m : ByteArray → List C
def parseQS (N : PF) : List V → Bx → Tr
  | [.t (.w (.d (.str s)))], [] => .ite (decide (s.size < 1000000)) (.ret (.tup [.agg ⟨[.sl 2 (N.t s)], [], 1⟩, .agg ⟨N.m s, [], 2⟩, .w (.d (.int .i64 (N.e s)))]) []) .no
  | _, _ => .no
noncomputable def pfC : PF := ⟨parT, parE, fun s => [.int .i64 (parL s), .int .i64 (parC s)]⟩
theorem parseQS_eq : parseQS pfC = parseS := by
  funext a b
  unfold parseQS parseS
  rfl
noncomputable def tabCQ (N : PF) : List (FuncId × (List V → Bx → Tr)) := [(19, awakeGS), (25, parseQS N), (27, sameCS)]
noncomputable def orcCQ (N : PF) : FuncId → List V → Bx → Tr := orcOf (tabCQ N)
end Go.Proofs.YtniiimpcakmkbaaDoor

set_option linter.unusedVariables false
namespace Go.Proofs.YtniiimpcakmkbaaDoor
open Go Vm
noncomputable def lJoins_cf (m : Int) (N : PF) : Cfg := mkCfQ [25, 35, 72] (globG m) vti (orcCQ N) false [] []
theorem lJoins_start {R : Type} (m : Int) (N : PF) (k : V → Bx → Option R) (F : Nat) (s : ByteArray) (t : ByteArray) : runFn (lJoins_cf m N) F Tryd.f11 (bd Tryd.f11) [vs s, vs t] [] k =
    (bif decide ((↑s.size : Int) > (1400 : Int)) then
      k (vb true) []
    else (bif decide ((↑t.size : Int) > (1400 : Int)) then
        k (vb true) []
      else (bif decide (s.size < (1000000 : Nat)) then
          (bif decide (t.size < (1000000 : Nat)) then
            (bif decide ((↑(s.size + (ByteArray.mk #[(10 : UInt8)]).size) : Int) > (9223372036854775807 : Int)) then
              none
            else (bif decide ((↑((s ++ (ByteArray.mk #[(10 : UInt8)])).size + t.size) : Int) > (9223372036854775807 : Int)) then
                none
              else (bif decide ((s ++ (ByteArray.mk #[(10 : UInt8)]) ++ t).size < (1000000 : Nat)) then
                  (bif N.e s != (0 : Int) then
                    k (vb true) []
                  else (bif N.e t != (0 : Int) then
                      k (vb true) []
                    else dup 2 ((bif N.e (s ++ (ByteArray.mk #[(10 : UInt8)]) ++ t) == (0 : Int) then
                        (bif decide ((N.1 s).length * (40 : Nat) ≤ (140737488355328 : Nat) ∧ (N.1 s).length ≤ (9223372036854775807 : Nat)) then
                          (bif (N.1 s).isEmpty then
                            (bif decide ((N.1 t).length * (40 : Nat) ≤ (140737488355328 : Nat) ∧ (N.1 t).length ≤ (9223372036854775807 : Nat)) then
                              (bif (N.1 t).isEmpty then
                                (bif sameQ [C.sl (2 : Nat) (N.1 (s ++ (ByteArray.mk #[(10 : UInt8)]) ++ t))] (((T.w (W.es (2 : Nat))).toM.l ++ List.drop ((0 : Nat) + (T.w (W.es (2 : Nat))).toM.n) [C.sl (2 : Nat) []]).set (0 : Nat) (C.sl (2 : Nat) [])) then
                                  k (vb true) []
                                else none)
                              else (bif sameQ [C.sl (2 : Nat) (N.1 (s ++ (ByteArray.mk #[(10 : UInt8)]) ++ t))] [C.sl (2 : Nat) (N.1 t)] then
                                  k (vb true) []
                                else none))
                            else none)
                          else (bif decide (((N.1 s).length + (N.1 t).length) * (40 : Nat) ≤ (140737488355328 : Nat) ∧ (N.1 s).length + (N.1 t).length ≤ (9223372036854775807 : Nat)) then
                              (bif sameQ [C.sl (2 : Nat) (N.1 (s ++ (ByteArray.mk #[(10 : UInt8)]) ++ t))] [C.sl (2 : Nat) ((N.1 s).append (N.1 t))] then
                                k (vb true) []
                              else none)
                            else none))
                        else none)
                      else k (vb false) []))))
                else none)))
          else none)
        else none))) := by kernel_rfl
end Go.Proofs.YtniiimpcakmkbaaDoor

/- grammar: what Parse reads has a configuration's shape (plain) -/
set_option linter.unusedVariables false
namespace Go.Proofs.YtniiimpcakmkbaaDoor
open Go Vm
theorem more_ok {L : List (List C)} {one : Rd} {P : Nde → Bool} {sg : Int} (hsg : sg ≠ 0) (ho : ∀ s, St8 L s → St8 L (one s).1 ∧ Fol s (one s).1 ∧ P (one s).2 = true) : ∀ (n : Nat) (s : PS) (out : List Nde), St8 L s → out.all P = true →
    (moreG L one sg n s out).2.all P = true ∧ ((moreG L one sg n s out).2.length : Int) ≤ out.length + (L.length - s.at_) := by
  intro n
  induction n with
  | zero => intro s out h ha; have := h.a1; exact ⟨ha, by simp only [moreG]; omega⟩
  | succ n ih =>
    intro s out h ha
    have h1 := h.a1
    unfold moreG
    cases hk : kindG L s == sg with
    | true =>
      obtain ⟨_, hlt, _⟩ := kind_some hsg hk
      obtain ⟨g2, f2⟩ := gnext_ok h hlt
      obtain ⟨g3, f3, p3⟩ := ho _ g2
      obtain ⟨r1, r2⟩ := ih (one (nextG s)).1 (out ++ [(one (nextG s)).2]) g3 (by rw [List.all_append, ha]; simp [p3])
      have e1 := f3.a
      have e2 : (nextG s).at_ = s.at_ + 1 := rfl
      refine ⟨r1, ?_⟩
      simp only [List.length_append, List.length_cons, List.length_nil] at r2
      rw [cond_true]
      push_cast at r2; omega
    | false => rw [cond_false]; exact ⟨ha, by simp only; omega⟩
theorem wh_ok {L : List (List C)} {one : Rd} {P : Nde → Bool} {k : Int} (hk0 : k ≠ 0) (ho : ∀ s, St8 L s → St8 L (one s).1 ∧ Fol (takeG L k s).1 (one s).1 ∧ P (one s).2 = true) : ∀ (n : Nat) (s : PS) (out : List Nde), St8 L s → out.all P = true →
    (whG L one k n s out).2.all P = true ∧ ((whG L one k n s out).2.length : Int) ≤ out.length + (L.length - s.at_) := by
  intro n
  induction n with
  | zero => intro s out h ha; have := h.a1; exact ⟨ha, by simp only [whG]; omega⟩
  | succ n ih =>
    intro s out h ha
    have h1 := h.a1
    unfold whG
    cases hk : kindG L s == k with
    | true =>
      obtain ⟨g3, f3, p3⟩ := ho _ h
      rw [take_next hk] at f3
      obtain ⟨r1, r2⟩ := ih (one s).1 (out ++ [(one s).2]) g3 (by rw [List.all_append, ha]; simp [p3])
      have e1 := f3.a
      have e2 : (nextG s).at_ = s.at_ + 1 := rfl
      refine ⟨r1, ?_⟩
      simp only [List.length_append, List.length_cons, List.length_nil] at r2
      rw [cond_true]
      push_cast at r2; omega
    | false => rw [cond_false]; exact ⟨ha, by simp only; omega⟩
theorem al_okP (L : List (List C)) (s : PS) : alOk (alA L s).2 = true := by obtain ⟨_, _, _, e⟩ := al_parts L s; rw [e]; rfl
theorem listAl_ok {L : List (List C)} {s : PS} (h : St8 L s) : (listAl L s).2.all alOk = true ∧ (listAl L s).2.length < 2000000 := by
  obtain ⟨g1, f1⟩ := al_good h
  rw [listAl_eq]; unfold listG
  obtain ⟨r1, r2⟩ := more_ok (L := L) (one := alA L) (P := alOk) (sg := 44) (by decide) (fun s hs => ⟨(al_good hs).1, (al_good hs).2, al_okP L s⟩) (L.length + 1) (alA L s).1 [(alA L s).2] g1 (by simp [al_okP])
  have := h.len; have := g1.a0
  refine ⟨r1, ?_⟩
  simp only [List.length_cons, List.length_nil] at r2
  push_cast at r2; omega
theorem rel_okP {L : List (List C)} {s : PS} (h : St8 L s) : relOk (relA L s).2 = true := by
  rw [relA_eq]; unfold relG
  obtain ⟨h1, f1⟩ := gtake_ok h (k := 3) (by decide)
  obtain ⟨h2, f2⟩ := gtake_ok h1 (k := 1) (by decide)
  have fin : ∀ (nm : ByteArray) (al : List (List C)) (t : PS), St8 L t → al.all alOk = true → al.length < 2000000 → relOk (relE L nm al t).2 = true := by
    intro nm al t ht ha hl
    obtain ⟨h6, f6⟩ := gtake_ok ht (k := 61) (by decide)
    have tr := unionA_tree h6
    obtain ⟨_, _, n7⟩ := unionA_good h6
    obtain ⟨k, a, b, l, e⟩ := isNd_parts n7
    unfold relE
    rw [e] at tr ⊢
    show (al.all alOk && decide (al.length < 2000000) && tree 30 (ndC k a b l)) = true
    rw [ha, decide_eq_true hl, tr]; rfl
  cases h91 : kindG L (takeG L 1 (takeG L 3 s).1).1 == 91 with
  | true =>
    obtain ⟨h3, f3⟩ := gnext_ok h2 (kind_some (by decide) h91).2.1
    obtain ⟨h4, f4⟩ := listAl_good h3
    obtain ⟨h5, f5⟩ := gtake_ok h4 (k := 93) (by decide)
    obtain ⟨a1, a2⟩ := listAl_ok h3
    exact fin _ _ _ h5 a1 a2
  | false => exact fin _ _ _ h2 rfl (by decide)
theorem typ_okP {L : List (List C)} {s : PS} (h : St8 L s) : tyOk (typA L s).2 = true := by
  rw [typA_eq]; unfold typG
  obtain ⟨h1, f1⟩ := gtake_ok h (k := 2) (by decide)
  obtain ⟨h2, f2⟩ := gtake_ok h1 (k := 1) (by decide)
  obtain ⟨h3, f3⟩ := gtake_ok h2 (k := 123) (by decide)
  obtain ⟨r1, r2⟩ := wh_ok (L := L) (one := relA L) (P := relOk) (k := 3) (by decide) (fun s hs => ⟨(rel_good hs).1, (rel_good hs).2, rel_okP hs⟩) (L.length + 1) _ [] h3 rfl
  rw [← relsA_eq] at r1 r2
  have := h.len; have := h3.a0
  show ((relsA L (takeG L 123 (takeG L 1 (takeG L 2 s).1).1).1).2.all relOk && decide ((relsA L (takeG L 123 (takeG L 1 (takeG L 2 s).1).1).1).2.length < 2000000)) = true
  rw [r1, decide_eq_true (by simp only [List.length_nil] at r2; push_cast at r2; omega)]; rfl
theorem cfg_okP {L : List (List C)} {s : PS} (h : St8 L s) : cfgOk (cfgA L s).2 = true := by
  rw [cfgA_eq]; unfold cfgG
  obtain ⟨r1, r2⟩ := wh_ok (L := L) (one := typA L) (P := tyOk) (k := 2) (by decide) (fun s hs => ⟨(typ_good hs).1, (typ_good hs).2, typ_okP hs⟩) (L.length + 1) s [] h rfl
  have := h.len; have := h.a0
  show ((whG L (typA L) 2 (L.length + 1) s []).2.all tyOk && decide ((whG L (typA L) 2 (L.length + 1) s []).2.length < 2000000)) = true
  rw [r1, decide_eq_true (by simp only [List.length_nil] at r2; push_cast at r2; omega)]; rfl
theorem parN_ok {s : ByteArray} (hz : s.size < 1000000) : cfgOk (parN s) = true := by
  obtain ⟨h1, h2⟩ := lexP_toks s hz
  unfold parN
  cases ((lexP s).2.2.2 == 0 && Nat.beq (endP s).er 0) with
  | true => exact cfg_okP (st0 h1 h2)
  | false => rfl
end Go.Proofs.YtniiimpcakmkbaaDoor

/- sigil: plain facts on tokens and texts (out of two other texts of this work) -/
set_option linter.unusedVariables false
namespace Go.Proofs.YtniiimpcakmkbaaDoor
open Go Vm Go.Lib

theorem wordN_app {w r : List Nat} {d : Nat} (hw : wordN (w ++ r) = w) (hn : w ≠ []) (hd : partN d = false) (q : List Nat) : wordN (w ++ d :: q) = w := by
  cases w with
  | nil => exact absurd rfl hn
  | cons c w =>
    rw [List.cons_append, wordN_cons] at hw ⊢
    split at hw
    · rename_i hc
      rw [if_pos hc]
      have h1 : (w ++ r).takeWhile partN = w := by simpa using hw
      have h2 : ∀ x ∈ w, partN x = true := fun x hx => by rw [← h1] at hx; exact mem_takeW hx
      rw [List.takeWhile_append_of_pos h2, List.takeWhile_cons, hd]
      simp
    · cases hw
theorem wordN_none {c : Nat} {r r' : List Nat} (h : wordN (c :: r) = []) : wordN (c :: r') = [] := by
  rw [wordN_cons] at h ⊢
  split at h
  · cases h
  · rename_i hc; rw [if_neg hc]
theorem low_of_word {c : Nat} {r : List Nat} (h : wordN (c :: r) ≠ []) : lowN c = true := by
  rw [wordN_cons] at h
  cases hl : lowN c with
  | true => rfl
  | false => rw [hl] at h; simp at h
/-- a token stands as well before a blank that ends its text -/
theorem tokN_again {ns : List Nat} {k : Int} {t : List Nat} (h : tokN ns = some (k, t)) (q : List Nat) : tokN (t ++ 32 :: q) = some (k, t) := by
  obtain ⟨htn, r, hr⟩ := tokN_split h
  unfold tokN at h ⊢
  by_cases hw : wordN ns ≠ []
  · rw [if_pos hw] at h
    split at h
    · rename_i hl
      have ht : t = wordN ns := by cases h; rfl
      have hk : k = kindN (wordN ns) := by cases h; rfl
      have h1 : wordN (t ++ 32 :: q) = t := wordN_app (r := r) (by rw [← hr]; exact ht.symm) htn rfl q
      rw [h1, if_pos htn, ht, if_pos hl, hk]
    · cases h
  · rw [if_neg hw] at h
    have hw' : wordN ns = [] := by simpa using hw
    split at h
    · cases h; rfl
    · rename_i h2
      cases ns with
      | nil => cases h
      | cons c r0 =>
        simp only at h
        split at h
        · rename_i hc
          cases h
          have hw2 := wordN_none (r' := 32 :: q) hw'
          simp only [List.cons_append, List.nil_append]
          rw [hw2]
          have h3 : isTo (c :: 32 :: q) = false := by
            unfold isTo
            split
            · rename_i heq; cases heq
            · rfl
          rw [h3]
          simp [hc]
        · cases h
theorem tok_head {c : Nat} {r : List Nat} {k : Int} {t : List Nat} (h : tokN (c :: r) = some (k, t)) : ∃ t', t = c :: t' ∧ c ≠ 47 ∧ blankN c = false := by
  obtain ⟨htn, r', hr⟩ := tokN_split h
  cases t with
  | nil => exact absurd rfl htn
  | cons d t' =>
    simp only [List.cons_append, List.cons.injEq] at hr
    obtain ⟨rfl, _⟩ := hr
    refine ⟨t', rfl, ?_⟩
    unfold tokN at h
    by_cases hw : wordN (c :: r) ≠ []
    · have := low_of_word hw
      unfold lowN at this
      simp only [Bool.and_eq_true, decide_eq_true_eq] at this
      refine ⟨by omega, ?_⟩
      unfold blankN
      simp only [Bool.or_eq_false_iff, beq_eq_false_iff_ne]
      omega
    · rw [if_neg hw] at h
      split at h
      · cases h; exact ⟨by decide, by decide⟩
      · simp only at h
        split at h
        · rename_i hc
          have : ∀ x ∈ signsN, x ≠ 47 ∧ blankN x = false := by decide
          exact this c hc
        · cases h
theorem notRem {c : Nat} {r : List Nat} (h : c ≠ 47) : isRem (c :: r) = false := by
  unfold isRem
  split
  · rename_i heq; cases heq; exact absurd rfl h
  · rfl
/-- the texts of all tokens, with blanks -/
def txt (o : List Tok) : List Nat := o.flatMap fun x => x.2.1 ++ [32]
theorem txt_cons (x : Tok) (o : List Tok) : txt (x :: o) = x.2.1 ++ 32 :: txt o := by simp [txt]
theorem lx_again {p ns o q e} (h : Lx p ns o q e) (he : e = 0) : ∀ p', ∃ o' q', Lx p' (txt o) o' q' 0 ∧ o'.map (fun x => (x.1, x.2.1)) = o.map (fun x => (x.1, x.2.1)) := by
  induction h with
  | nil p => intro p'; exact ⟨[], p', .nil p', rfl⟩
  | blank _ _ ih => exact ih he
  | rem _ _ ih => exact ih he
  | @tok p c r o q e k t r' hb hr ht hsp h ih =>
    intro p'
    obtain ⟨t', rfl, h47, hbc⟩ := tok_head ht
    have h1 := tokN_again ht (txt o)
    rw [List.cons_append] at h1
    obtain ⟨o', q', h2, h3⟩ := ih he (advN (advs p' (c :: t')) 32)
    refine ⟨(k, c :: t', p') :: o', q', ?_, by simp [h3]⟩
    rw [txt_cons]
    exact .tok hbc (notRem h47) h1 rfl (.blank rfl h2)
  | bad => cases he
theorem txt_SC {p ns o q e} (h : Lx p ns o q e) (hs : SC ns) : SC (txt o) := by
  induction h with
  | nil p => exact SC.nil
  | blank _ _ ih => exact ih hs.tail
  | @rem p ns o q e _ _ ih =>
    have := takeDrop ne10 ns
    rw [this] at hs
    exact ih hs.right
  | @tok p c r o q e k t r' hb hr ht hsp h ih =>
    have h2 : SC (t ++ r') := hsp ▸ hs
    rw [txt_cons]
    refine h2.left.app ?_
    intro x hx
    rcases List.mem_cons.1 hx with rfl | hx
    · exact .inl (by omega)
    · exact ih h2.right x hx
  | bad => exact SC.nil
theorem txt_len {p ns o q e} (h : Lx p ns o q e) : (txt o).length ≤ ns.length + o.length ∧ o.length ≤ ns.length ∧ (encs (txt o)).length ≤ (encs ns).length + o.length := by
  induction h with
  | nil p => simp [txt, encs]
  | @blank p c r o q e _ _ ih => rw [encs_cons]; simp only [List.length_cons, List.length_append]; omega
  | @rem p ns o q e _ _ ih =>
    have := takeDrop ne10 ns
    have h2 := congrArg List.length this
    have h3 := congrArg (fun x => (encs x).length) this
    simp only [encs_app, List.length_append] at h2 h3
    omega
  | @tok p c r o q e k t r' hb hr ht hsp h ih =>
    rw [txt_cons, hsp, encs_app, encs_app, encs_cons]
    have : (encN 32).length = 1 := rfl
    have : 0 < t.length := List.length_pos_iff.2 (tokN_split ht).1
    simp only [List.length_cons, List.length_append]
    omega
  | bad => simp [txt, encs]
theorem tokC_get (x : Tok) : tokC x = [.int .i64 x.1, .str (bsN x.2.1), .int .i64 x.2.2.1, .int .i64 x.2.2.2] := rfl
theorem bsN_app (a b : List Nat) : bsN a ++ bsN b = bsN (a ++ b) := by
  apply ba_ext
  rw [ByteArray.data_append, bsN_data, encs_app]
  simp [bsN]
theorem sp_bsN : ByteArray.mk #[32] = bsN [32] := rfl

abbrev kt (o : List Tok) : List (Int × List Nat) := o.map fun x => (x.1, x.2.1)
theorem lx_shift {p ns o q e} (h : Lx p ns o q e) : ∀ p', ∃ o' q', Lx p' ns o' q' e ∧ kt o' = kt o := by
  induction h with
  | nil p => intro p'; exact ⟨[], p', .nil p', rfl⟩
  | blank hb _ ih => intro p'; obtain ⟨o', q', h1, h2⟩ := ih (advN p' _); exact ⟨o', q', .blank hb h1, h2⟩
  | rem hr _ ih => intro p'; obtain ⟨o', q', h1, h2⟩ := ih (advs p' _); exact ⟨o', q', .rem hr h1, h2⟩
  | @tok p c r o q e k t r' hb hr ht hs h ih =>
    intro p'; obtain ⟨o', q', h1, h2⟩ := ih (advs p' t)
    exact ⟨(k, t, p') :: o', q', .tok hb hr ht hs h1, by simp only [kt] at h2 ⊢; simp [h2]⟩
  | bad hb hr ht => intro p'; exact ⟨[], p', .bad hb hr ht, rfl⟩
theorem wordN_next {w r : List Nat} {d : Nat} (hw : wordN (w ++ d :: r) = w) (hn : w ≠ []) (q : List Nat) : wordN (w ++ d :: q) = w := by
  cases w with
  | nil => exact absurd rfl hn
  | cons c w =>
    rw [List.cons_append, wordN_cons] at hw ⊢
    split at hw
    · rename_i hc
      rw [if_pos hc]
      have h1 : (w ++ d :: r).takeWhile partN = w := by simpa using hw
      have h2 : ∀ x ∈ w, partN x = true := fun x hx => by rw [← h1] at hx; exact mem_takeW hx
      rw [List.takeWhile_append_of_pos h2] at h1 ⊢
      have h3 : (d :: r).takeWhile partN = [] := by
        have := congrArg List.length h1
        rw [List.length_append] at this
        exact List.length_eq_zero_iff.1 (by omega)
      have h4 : partN d = false := by
        rw [← Bool.not_eq_true]; intro hd
        rw [List.takeWhile_cons, hd] at h3; simp at h3
      rw [List.takeWhile_cons, h4]; simp
    · cases hw
theorem isTo_next {a b : Nat} {r q : List Nat} : isTo (a :: b :: r) = isTo (a :: b :: q) := by
  apply bool_eq
  constructor
  · intro h; obtain ⟨x, hx⟩ := isTo_eq h; cases hx; rfl
  · intro h; obtain ⟨x, hx⟩ := isTo_eq h; cases hx; rfl
theorem tokN_next {t r : List Nat} {d : Nat} {k : Int} (h : tokN (t ++ d :: r) = some (k, t)) (q : List Nat) : tokN (t ++ d :: q) = some (k, t) := by
  obtain ⟨htn, _⟩ := tokN_split h
  unfold tokN at h ⊢
  by_cases hw : wordN (t ++ d :: r) ≠ []
  · rw [if_pos hw] at h
    split at h
    · rename_i hl
      have h9 := Prod.mk.inj (Option.some.inj h)
      have ht : wordN (t ++ d :: r) = t := h9.2
      have hk : k = kindN (wordN (t ++ d :: r)) := h9.1.symm
      have h1 := wordN_next ht htn q
      rw [h1, if_pos htn, hk, ht, if_pos (by rw [ht] at hl; exact hl)]
    · cases h
  · rw [if_neg hw] at h
    have hw' : wordN (t ++ d :: r) = [] := by simpa using hw
    cases t with
    | nil => exact absurd rfl htn
    | cons c t =>
      have hw2 : wordN (c :: t ++ d :: q) = [] := wordN_none (r := t ++ d :: r) hw'
      rw [hw2, if_neg (by simp)]
      split at h
      · cases h; rfl
      · rename_i h2
        simp only [List.cons_append] at h h2 ⊢
        split at h
        · rename_i hc
          cases h
          rw [if_neg (by rw [List.nil_append, isTo_next (q := r)]; simpa using h2), if_pos hc]
        · cases h
theorem tok_no10 {ns : List Nat} {k : Int} {t : List Nat} (h : tokN ns = some (k, t)) : ∀ x ∈ t, x ≠ 10 := by
  unfold tokN at h
  by_cases hw : wordN ns ≠ []
  · rw [if_pos hw] at h
    split at h
    · cases h
      intro x hx
      cases ns with
      | nil => cases hx
      | cons c r =>
        rw [wordN_cons] at hx
        split at hx
        · rename_i hc
          rcases List.mem_cons.1 hx with rfl | hx
          · unfold lowN at hc; simp at hc; omega
          · have := mem_takeW hx
            unfold partN lowN at this
            simp at this; omega
        · cases hx
    · cases h
  · rw [if_neg hw] at h
    split at h
    · cases h; decide
    · cases ns with
      | nil => cases h
      | cons c r =>
        simp only at h
        split at h
        · rename_i hc
          cases h
          have : ∀ x ∈ signsN, x ≠ 10 := by decide
          intro x hx
          simp only [List.mem_cons, List.mem_nil_iff, or_false] at hx
          subst hx; exact this _ hc
        · cases h
def ends10 (a : List Nat) : Prop := a = [] ∨ ∃ x, a = x ++ [10]
theorem ends10_cons {c : Nat} {r : List Nat} (h : ends10 (c :: r)) : ends10 r := by
  rcases h with h | ⟨x, h⟩
  · cases h
  · cases x with
    | nil => cases h; exact .inl rfl
    | cons y x => cases h; exact .inr ⟨x, rfl⟩
theorem ends10_right {a b : List Nat} (h : ends10 (a ++ b)) : ends10 b := by
  induction a with
  | nil => exact h
  | cons c a ih => exact ih (ends10_cons h)
theorem isRem_app {a : List Nat} (b : List Nat) (h : isRem a = true) : isRem (a ++ b) = true := by obtain ⟨r, rfl⟩ := isRem_eq h; rfl
theorem drop10 {x : List Nat} : (x ++ [10]).dropWhile ne10 ≠ [] := by
  induction x with
  | nil => simp [ne10]
  | cons c x ih =>
    rw [List.cons_append, List.dropWhile_cons]
    split
    · exact ih
    · simp
theorem takeDrop_app (p : Nat → Bool) : ∀ (a b : List Nat), a.dropWhile p ≠ [] → (a ++ b).takeWhile p = a.takeWhile p ∧ (a ++ b).dropWhile p = a.dropWhile p ++ b := by
  intro a
  induction a with
  | nil => intro b h; exact absurd rfl h
  | cons c a ih =>
    intro b h
    rw [List.dropWhile_cons] at h
    rw [List.cons_append, List.takeWhile_cons, List.dropWhile_cons, List.takeWhile_cons, List.dropWhile_cons]
    cases hp : p c with
    | true => rw [hp] at h; obtain ⟨h1, h2⟩ := ih b h; simp [h1, h2]
    | false => simp
theorem lx_join {p a o q e} (h : Lx p a o q e) : e = 0 → ends10 a → ∀ {b o2 q2 e2}, Lx q b o2 q2 e2 → Lx p (a ++ b) (o ++ o2) q2 e2 := by
  induction h with
  | nil p => intro _ _ b o2 q2 e2 h; exact h
  | blank hb _ ih => intro he ha b o2 q2 e2 h; exact .blank hb (ih he (ends10_cons ha) h)
  | @rem p ns o q e hr _ ih =>
    intro he ha b o2 q2 e2 h
    have hd : ns.dropWhile ne10 ≠ [] := by
      rcases ha with rfl | ⟨x, rfl⟩
      · cases hr
      · exact drop10
    obtain ⟨h1, h2⟩ := takeDrop_app ne10 ns b hd
    refine .rem (isRem_app b hr) ?_
    rw [h1, h2]
    refine ih he ?_ h
    have := takeDrop ne10 ns
    rw [this] at ha; exact ends10_right ha
  | @tok p c r o q e k t r' hb hr ht hs _ ih =>
    intro he ha b o2 q2 e2 h
    rw [hs] at ha
    obtain ⟨t', rfl, h47, _⟩ := tok_head ht
    cases r' with
    | nil =>
      exfalso
      rcases ha with ha | ⟨x, ha⟩
      · cases ha
      · have : (10 : Nat) ∈ c :: t' := by
          have : (10 : Nat) ∈ c :: t' ++ [] := by rw [ha]; simp
          simpa using this
        exact tok_no10 ht 10 this rfl
    | cons d r'' =>
      have h5 : tokN (c :: (r ++ b)) = some (k, c :: t') := by
        rw [hs] at ht
        have := tokN_next ht (r'' ++ b)
        have e5 : c :: (r ++ b) = c :: t' ++ d :: (r'' ++ b) := by
          have := congrArg (fun z => z ++ b) hs
          simpa using this
        rw [e5]; exact this
      refine .tok hb (notRem h47) h5 ?_ (ih he (ends10_right ha) h)
      have := congrArg (fun z => z ++ b) hs
      simpa using this
  | bad => intro he; cases he
end Go.Proofs.YtniiimpcakmkbaaDoor

/- grammar: a configuration's parts within other tokens (plain) -/
set_option linter.unusedVariables false
namespace Go.Proofs.YtniiimpcakmkbaaDoor
open Go Vm
theorem parT_okJ {s : ByteArray} (hz : s.size < 1000000) : (parT s).all tyOk = true ∧ (parT s).length < 2000000 := by
  have h := parN_ok hz
  rw [parN_sl hz] at h
  obtain ⟨ts, e, h1, h2⟩ := cfgOk_parts h
  cases e; exact ⟨h1, h2⟩
/-- the tokens of L1 stand in L behind n0 others; behind them 'type', or nothing -/
structure InM (L1 L : List (List C)) (n0 : Int) : Prop where
  n : 0 ≤ n0
  kt : ∀ i : Int, 0 ≤ i → i < L1.length → tkK L (n0 + i) = tkK L1 i ∧ tkT L (n0 + i) = tkT L1 i
  le : n0 + L1.length ≤ L.length
  br : n0 + L1.length < L.length → tkK L (n0 + L1.length) = 2
abbrev shM (n0 : Int) (s : PS) : PS := ⟨n0 + s.at_, s.op, s.er⟩
theorem kM_lt {L : List (List C)} {s : PS} (he : s.er = 0) (h : s.at_ < L.length) : kindG L s = tkK L s.at_ := by
  unfold kindG; rw [he, decide_eq_false (show ¬ s.at_ ≥ (L.length : Int) by omega)]; rfl
theorem kM_end {L : List (List C)} {s : PS} (h : s.at_ ≥ (L.length : Int)) : kindG L s = 0 := by
  unfold kindG; rw [decide_eq_true h]; cases Nat.beq s.er 0 <;> rfl
theorem kM_er {L : List (List C)} {s : PS} (h : s.er ≠ 0) : kindG L s = 0 := by unfold kindG; rw [beq0, decide_eq_false h]; rfl
theorem zne {k : Int} (h : k ≠ 0) : ((0 : Int) == k) = false := by rw [beq_eq_false_iff_ne]; omega
theorem take_bad {L : List (List C)} {s : PS} {k : Int} (hk : k ≠ 0) (h : s.er ≠ 0) : (takeG L k s).1.er ≠ 0 := fun e => h (take_er hk e).1
section
variable {L1 L : List (List C)} {n0 : Int} (E : InM L1 L n0) {s : PS}
include E
theorem kqM (hs : St8 L1 s) (he : s.er = 0) {k : Int} (h0 : k ≠ 0) (h2 : k ≠ 2) : (kindG L (shM n0 s) == k) = (kindG L1 s == k) := by
  have := hs.a1; have := E.le; have := hs.a0
  by_cases hlt : s.at_ < L1.length
  · rw [kM_lt he hlt, kM_lt (s := shM n0 s) he (show n0 + s.at_ < (L.length : Int) by omega)]
    rw [(E.kt s.at_ hs.a0 hlt).1]
  · have e : s.at_ = L1.length := by omega
    rw [kM_end (L := L1) (s := s) (by omega), zne h0]
    by_cases hl : n0 + s.at_ < (L.length : Int)
    · rw [kM_lt (L := L) (s := shM n0 s) he hl]
      show (tkK L (n0 + s.at_) == k) = _
      rw [e, E.br (by omega), beq_eq_false_iff_ne]; omega
    · rw [kM_end (L := L) (s := shM n0 s) (by show n0 + s.at_ ≥ _; omega), zne h0]
theorem kyM (hs : St8 L1 s) {k : Int} (h0 : k ≠ 0) (h : (kindG L1 s == k) = true) : (kindG L (shM n0 s) == k) = true := by
  obtain ⟨he, hlt, hk⟩ := kind_some h0 h
  have := E.le
  rw [kM_lt (s := shM n0 s) he (show n0 + s.at_ < (L.length : Int) by omega)]
  show (tkK L (n0 + s.at_) == k) = true
  rw [(E.kt s.at_ hs.a0 hlt).1, hk]; simp
omit E in
theorem next_shM : nextG (shM n0 s) = shM n0 (nextG s) := by
  show (⟨n0 + s.at_ + 1, s.op, s.er⟩ : PS) = ⟨n0 + (s.at_ + 1), s.op, s.er⟩
  rw [Int.add_assoc]
/-- a token that is taken -/
theorem takeM (hs : St8 L1 s) {k : Int} (h0 : k ≠ 0) (h : (takeG L1 k s).1.er = 0) : takeG L k (shM n0 s) = (shM n0 (takeG L1 k s).1, (takeG L1 k s).2) := by
  obtain ⟨he, hk, ht, hlt, _⟩ := take_er h0 h
  unfold takeG
  rw [kyM E hs h0 hk, hk, cond_true, cond_true, next_shM]
  show (_, tkT L (n0 + s.at_)) = _
  rw [(E.kt s.at_ hs.a0 hlt).2]
end
def SimM (L1 : List (List C)) (n0 : Int) (f f' : Rd) (P : PS → Prop) : Prop := ∀ s, St8 L1 s → P s → (f s).1.er = 0 → s.er = 0 ∧ f' (shM n0 s) = (shM n0 (f s).1, (f s).2)
def GoodP (L1 : List (List C)) (f : Rd) (P : PS → Prop) : Prop := ∀ s, St8 L1 s → P s → St8 L1 (f s).1 ∧ Fol s (f s).1
theorem more_bad {L : List (List C)} {one : Rd} {sg : Int} (hs : sg ≠ 0) {s : PS} (h : s.er ≠ 0) : ∀ (n : Nat) out, moreG L one sg n s out = (s, out) := by
  intro n out
  cases n with
  | zero => rfl
  | succ n => unfold moreG; rw [kM_er h, zne hs]; rfl
theorem wh_bad {L : List (List C)} {one : Rd} {k : Int} (hk : k ≠ 0) {s : PS} (h : s.er ≠ 0) : ∀ (n : Nat) out, whG L one k n s out = (s, out) := by
  intro n out
  cases n with
  | zero => rfl
  | succ n => unfold whG; rw [kM_er h, zne hk]; rfl
theorem more_simM {L1 L : List (List C)} {n0 : Int} (E : InM L1 L n0) {one one' : Rd} {P : PS → Prop} (hP : ∀ a b, Fol a b → P a → P b) (ho : GoodP L1 one P) (hsim : SimM L1 n0 one one' P) {sg : Int} (hsg : sg ≠ 0) (h2 : sg ≠ 2) :
    ∀ (n n' : Nat) (s : PS) (out : List Nde), St8 L1 s → P s → s.er = 0 → (L1.length : Int) - s.at_ < n → (L.length : Int) - (n0 + s.at_) < n' → (moreG L1 one sg n s out).1.er = 0 →
      moreG L one' sg n' (shM n0 s) out = (shM n0 (moreG L1 one sg n s out).1, (moreG L1 one sg n s out).2) := by
  intro n
  induction n with
  | zero => intro n' s out h hp he hn; have := h.a1; omega
  | succ n ih =>
    intro n' s out h hp he hn hn' hr
    have hle := E.le
    have ha1 := h.a1
    cases n' with
    | zero => omega
    | succ n' =>
      unfold moreG at hr ⊢
      rw [kqM E h he hsg h2]
      cases hk : kindG L1 s == sg with
      | true =>
        rw [hk, cond_true] at hr
        rw [cond_true, cond_true, next_shM]
        obtain ⟨_, hlt, _⟩ := kind_some hsg hk
        obtain ⟨g2, f2⟩ := gnext_ok h hlt
        obtain ⟨g3, f3⟩ := ho _ g2 (hP _ _ f2 hp)
        have hat : s.at_ + 1 ≤ (one (nextG s)).1.at_ := f3.a
        have he1 : (one (nextG s)).1.er = 0 := by
          by_cases h5 : (one (nextG s)).1.er = 0
          · exact h5
          · rw [more_bad hsg h5] at hr; exact absurd hr h5
        obtain ⟨_, e⟩ := hsim _ g2 (hP _ _ f2 hp) he1
        rw [e]
        exact ih n' _ _ g3 (hP _ _ (f2.trans f3) hp) he1 (by push_cast at hn; omega) (by push_cast at hn'; omega) hr
      | false => rw [cond_false, cond_false]
theorem list_simM {L1 L : List (List C)} {n0 : Int} (E : InM L1 L n0) {one one' : Rd} {P : PS → Prop} (hP : ∀ a b, Fol a b → P a → P b) (ho : GoodP L1 one P) (hsim : SimM L1 n0 one one' P) {sg : Int} (hsg : sg ≠ 0) (h2 : sg ≠ 2)
    {s : PS} (h : St8 L1 s) (hp : P s) (hr : (listG L1 one sg s).1.er = 0) :
    s.er = 0 ∧ listG L one' sg (shM n0 s) = (shM n0 (listG L1 one sg s).1, (listG L1 one sg s).2) := by
  obtain ⟨h3, f3⟩ := ho _ h hp
  have ha0 := h3.a0
  have hn := E.n
  unfold listG at hr ⊢
  have he1 : (one s).1.er = 0 := by
    by_cases h5 : (one s).1.er = 0
    · exact h5
    · rw [more_bad hsg h5] at hr; exact absurd hr h5
  obtain ⟨e0, e⟩ := hsim _ h hp he1
  refine ⟨e0, ?_⟩
  rw [e]
  exact more_simM E hP ho hsim hsg h2 _ _ _ _ h3 (hP _ _ f3 hp) he1 (by push_cast; omega) (by push_cast; omega) hr
/-! ### expressions -/
abbrev atL (d : Nat) (s : PS) : Prop := lvl s = d
theorem atL_fol (d : Nat) : ∀ a b, Fol a b → atL d a → atL d b := fun _ _ h e => (lvl_fol h).trans e
theorem good_P {L : List (List C)} {f : Rd} {d : Nat} (h : Good L f d) : GoodP L f (atL d) := fun s hs hd => ⟨(h s hs hd).1, (h s hs hd).2.1⟩
theorem atom_simM {L1 L : List (List C)} {n0 : Int} (E : InM L1 L n0) {un un' : Rd} {d : Nat} (hg : ∀ e, d = e + 1 → Good L1 un e) (hu : ∀ e, d = e + 1 → SimM L1 n0 un un' (atL e)) : SimM L1 n0 (atomG L1 un) (atomG L un') (atL d) := by
  intro s h hd hr
  have hso := h.o0
  unfold atomG at hr ⊢
  cases h40 : kindG L1 s == 40 with
  | true =>
    obtain ⟨he, hlt, _⟩ := kind_some (by decide) h40
    refine ⟨he, ?_⟩
    rw [kyM E h (by decide) h40, cond_true]
    rw [h40, cond_true] at hr
    by_cases ho : s.op ≥ 8
    · rw [decide_eq_true ho, cond_true] at hr; exact (fail_er (by decide) hr).elim
    · have ho' : ¬ (shM n0 s).op ≥ 8 := ho
      rw [decide_eq_false ho, cond_false] at hr
      rw [decide_eq_false ho']
      simp only [cond_true, cond_false]
      have h1 : St8 L1 ⟨s.at_, s.op + 1, s.er⟩ := ⟨h.tk, h.len, h.a0, h.a1, by simp only; omega, by simp only; omega, h.e2⟩
      obtain ⟨g2, f2⟩ := gtake_ok h1 (k := 40) (by decide)
      have hl2 : lvl (takeG L1 40 ⟨s.at_, s.op + 1, s.er⟩).1 = (7 - s.op).toNat := by rw [lvl_fol f2]; unfold lvl; simp only; omega
      have hdd : d = (7 - s.op).toNat + 1 := by rw [← hd]; unfold lvl; omega
      have hr0 : (takeG L1 41 (un (takeG L1 40 ⟨s.at_, s.op + 1, s.er⟩).1).1).1.er = 0 := hr
      have hu0 := (take_er (L := L1) (k := 41) (by decide) hr0).1
      obtain ⟨g3, f3, _⟩ := hg _ hdd _ g2 hl2
      obtain ⟨ht0, e2⟩ := hu _ hdd _ g2 hl2 hu0
      have e1 := takeM E h1 (k := 40) (by decide) ht0
      have e3 := takeM E g3 (k := 41) (by decide) hr0
      have e1' : takeG L 40 ⟨n0 + s.at_, s.op + 1, s.er⟩ = _ := e1
      rw [e1']
      simp only
      rw [e2]
      simp only
      rw [e3]
  | false =>
    rw [h40, cond_false] at hr
    cases h4 : kindG L1 s == 4 with
    | true =>
      rw [h4, cond_true] at hr
      have he : s.er = 0 := hr
      refine ⟨he, ?_⟩
      rw [kqM E h he (by decide) (by decide), h40, cond_false, kyM E h (by decide) h4, cond_true, next_shM]; rfl
    | false =>
      rw [h4, cond_false] at hr
      cases h5 : kindG L1 (takeG L1 1 s).1 == 5 with
      | true =>
        rw [h5, cond_true] at hr
        obtain ⟨q1, q2, _, _, _⟩ := take_er (L := L1) (k := 1) (by decide) hr
        have q3 : (takeG L1 1 s).1.er = 0 := q1
        have he := (take_er (L := L1) (s := s) (k := 1) (by decide) q3).1
        refine ⟨he, ?_⟩
        obtain ⟨g1, _⟩ := gtake_ok h (k := 1) (by decide)
        obtain ⟨g2, _⟩ := gnext_ok g1 (kind_some (by decide) h5).2.1
        rw [kqM E h he (by decide) (by decide), h40, cond_false, kqM E h he (by decide) (by decide), h4, cond_false, takeM E h (by decide) q3]
        simp only
        rw [kyM E g1 (by decide) h5, cond_true, next_shM, takeM E g2 (by decide) hr]; rfl
      | false =>
        rw [h5, cond_false] at hr
        have q3 : (takeG L1 1 s).1.er = 0 := hr
        have he := (take_er (L := L1) (s := s) (k := 1) (by decide) q3).1
        refine ⟨he, ?_⟩
        obtain ⟨g1, _⟩ := gtake_ok h (k := 1) (by decide)
        rw [kqM E h he (by decide) (by decide), h40, cond_false, kqM E h he (by decide) (by decide), h4, cond_false, takeM E h (by decide) q3]
        simp only
        rw [kqM E g1 q3 (by decide) (by decide), h5, cond_false]; rfl
theorem less_simM {L1 L : List (List C)} {n0 : Int} (E : InM L1 L n0) {un un' : Rd} {d : Nat} (hg : ∀ e, d = e + 1 → Good L1 un e) (hu : ∀ e, d = e + 1 → SimM L1 n0 un un' (atL e)) : SimM L1 n0 (lessG L1 un) (lessG L un') (atL d) := by
  intro s h hd hr
  obtain ⟨h1, f1, _⟩ := atom_good hg s h hd
  have sim := atom_simM E hg hu
  unfold lessG at hr ⊢
  cases hk : kindG L1 (atomG L1 un s).1 == 45 with
  | true =>
    obtain ⟨he1, hlt, _⟩ := kind_some (by decide) hk
    obtain ⟨h2, f2⟩ := gnext_ok h1 hlt
    rw [hk, cond_true] at hr
    obtain ⟨he, e⟩ := sim s h hd he1
    refine ⟨he, ?_⟩
    rw [e]
    simp only
    rw [kyM E h1 (by decide) hk, cond_true, next_shM, (sim _ h2 ((lvl_fol (f1.trans f2)).trans hd) hr).2]; rfl
  | false =>
    rw [hk, cond_false] at hr
    obtain ⟨he, e⟩ := sim s h hd hr
    refine ⟨he, ?_⟩
    rw [e]
    simp only
    rw [kqM E h1 hr (by decide) (by decide), hk, cond_false]; rfl
theorem meet_simM {L1 L : List (List C)} {n0 : Int} (E : InM L1 L n0) {un un' : Rd} {d : Nat} (hg : ∀ e, d = e + 1 → Good L1 un e) (hu : ∀ e, d = e + 1 → SimM L1 n0 un un' (atL e)) : SimM L1 n0 (meetG L1 un) (meetG L un') (atL d) := by
  intro s h hd hr
  obtain ⟨he, e⟩ := list_simM E (atL_fol d) (good_P (less_good hg)) (less_simM E hg hu) (sg := 38) (by decide) (by decide) h hd hr
  exact ⟨he, by unfold meetG; rw [e]⟩
theorem union_simM {L1 L : List (List C)} {n0 : Int} (E : InM L1 L n0) {un un' : Rd} {d : Nat} (hg : ∀ e, d = e + 1 → Good L1 un e) (hu : ∀ e, d = e + 1 → SimM L1 n0 un un' (atL e)) : SimM L1 n0 (unionL L1 un) (unionL L un') (atL d) := by
  intro s h hd hr
  obtain ⟨he, e⟩ := list_simM E (atL_fol d) (good_P (meet_good hg)) (meet_simM E hg hu) (sg := 124) (by decide) (by decide) h hd hr
  exact ⟨he, by unfold unionL; rw [e]⟩
theorem unionN_simM {L1 L : List (List C)} {n0 : Int} (E : InM L1 L n0) : ∀ d, SimM L1 n0 (unionN L1 d) (unionN L d) (atL d) := by
  intro d
  induction d with
  | zero => rw [unionN_eq, unionN_eq]; exact union_simM E (inner_good L1 0) (fun e h => by omega)
  | succ d ih =>
    rw [unionN_eq, unionN_eq]
    refine union_simM E (inner_good L1 (d + 1)) (fun e h => ?_)
    obtain rfl : d = e := by omega
    exact ih
abbrev anyS (_ : PS) : Prop := True
theorem unionA_simM {L1 L : List (List C)} {n0 : Int} (E : InM L1 L n0) : SimM L1 n0 (unionA L1) (unionA L) anyS := by
  intro s h _ hr
  rw [unionA_eq, ← unionN_eq] at hr ⊢
  rw [unionA_eq, ← unionN_eq]
  exact unionN_simM E (lvl s) s h rfl hr
/-! ### permissions, relations, types -/
theorem al_simM {L1 L : List (List C)} {n0 : Int} (E : InM L1 L n0) : SimM L1 n0 (alA L1) (alA L) anyS := by
  intro s h _ hr
  rw [alA_eq] at hr ⊢
  rw [alA_eq]
  unfold alG at hr ⊢
  obtain ⟨g1, _⟩ := gtake_ok h (k := 1) (by decide)
  cases h35 : kindG L1 (takeG L1 1 s).1 == 35 with
  | true =>
    rw [h35, cond_true] at hr
    obtain ⟨q3, hlt, _⟩ := kind_some (by decide) h35
    have he := (take_er (L := L1) (s := s) (k := 1) (by decide) q3).1
    obtain ⟨g2, _⟩ := gnext_ok g1 hlt
    refine ⟨he, ?_⟩
    rw [takeM E h (by decide) q3]
    simp only
    rw [kyM E g1 (by decide) h35, cond_true, next_shM, takeM E g2 (by decide) hr]; rfl
  | false =>
    rw [h35, cond_false] at hr
    cases h58 : kindG L1 (takeG L1 1 s).1 == 58 with
    | true =>
      rw [h58, cond_true] at hr
      obtain ⟨q3, hlt, _⟩ := kind_some (by decide) h58
      have he := (take_er (L := L1) (s := s) (k := 1) (by decide) q3).1
      obtain ⟨g2, _⟩ := gnext_ok g1 hlt
      refine ⟨he, ?_⟩
      rw [takeM E h (by decide) q3]
      simp only
      rw [kqM E g1 q3 (by decide) (by decide), h35, cond_false, kyM E g1 (by decide) h58, cond_true, next_shM, takeM E g2 (by decide) hr]; rfl
    | false =>
      rw [h58, cond_false] at hr
      have q3 : (takeG L1 1 s).1.er = 0 := hr
      have he := (take_er (L := L1) (s := s) (k := 1) (by decide) q3).1
      refine ⟨he, ?_⟩
      rw [takeM E h (by decide) q3]
      simp only
      rw [kqM E g1 q3 (by decide) (by decide), h35, cond_false, kqM E g1 q3 (by decide) (by decide), h58, cond_false]; rfl
theorem listAl_simM {L1 L : List (List C)} {n0 : Int} (E : InM L1 L n0) {s : PS} (h : St8 L1 s) (hr : (listAl L1 s).1.er = 0) : s.er = 0 ∧ listAl L (shM n0 s) = (shM n0 (listAl L1 s).1, (listAl L1 s).2) := by
  rw [listAl_eq] at hr ⊢
  rw [listAl_eq]
  exact list_simM E (P := anyS) (fun _ _ _ _ => trivial) (fun s hs _ => al_good hs) (al_simM E) (by decide) (by decide) h trivial hr
theorem relE_simM {L1 L : List (List C)} {n0 : Int} (E : InM L1 L n0) (nm : ByteArray) (al : List (List C)) : SimM L1 n0 (relE L1 nm al) (relE L nm al) anyS := by
  intro s h _ hr
  unfold relE at hr ⊢
  obtain ⟨g1, _⟩ := gtake_ok h (k := 61) (by decide)
  obtain ⟨g2, _, _⟩ := unionA_good g1
  have hr' : (takeG L1 59 (unionA L1 (takeG L1 61 s).1).1).1.er = 0 := hr
  have q := (take_er (L := L1) (k := 59) (by decide) hr').1
  obtain ⟨q2, e2⟩ := unionA_simM E _ g1 trivial q
  have he := (take_er (L := L1) (k := 61) (by decide) q2).1
  refine ⟨he, ?_⟩
  rw [takeM E h (by decide) q2]
  simp only
  rw [e2]
  simp only
  rw [takeM E g2 (by decide) hr']
theorem rel_simM {L1 L : List (List C)} {n0 : Int} (E : InM L1 L n0) : SimM L1 n0 (relA L1) (relA L) anyS := by
  intro s h _ hr
  rw [relA_eq] at hr ⊢
  rw [relA_eq]
  unfold relG at hr ⊢
  obtain ⟨g1, _⟩ := gtake_ok h (k := 3) (by decide)
  obtain ⟨g2, _⟩ := gtake_ok g1 (k := 1) (by decide)
  cases h91 : kindG L1 (takeG L1 1 (takeG L1 3 s).1).1 == 91 with
  | true =>
    rw [h91, cond_true] at hr
    obtain ⟨q2, hlt, _⟩ := kind_some (by decide) h91
    obtain ⟨g3, _⟩ := gnext_ok g2 hlt
    obtain ⟨g4, _⟩ := listAl_good g3
    obtain ⟨g5, _⟩ := gtake_ok g4 (k := 93) (by decide)
    obtain ⟨q5, e6⟩ := relE_simM E _ _ _ g5 trivial hr
    have q4 := (take_er (L := L1) (k := 93) (by decide) q5).1
    obtain ⟨q3, e4⟩ := listAl_simM E g3 q4
    have q1 := (take_er (L := L1) (k := 1) (by decide) q2).1
    have he := (take_er (L := L1) (k := 3) (by decide) q1).1
    refine ⟨he, ?_⟩
    rw [takeM E h (by decide) q1]
    simp only
    rw [takeM E g1 (by decide) q2]
    simp only
    rw [kyM E g2 (by decide) h91, cond_true, next_shM, e4]
    simp only
    rw [takeM E g4 (by decide) q5]
    simp only
    rw [e6]; rfl
  | false =>
    rw [h91, cond_false] at hr
    obtain ⟨q2, e6⟩ := relE_simM E _ _ _ g2 trivial hr
    have q1 := (take_er (L := L1) (k := 1) (by decide) q2).1
    have he := (take_er (L := L1) (k := 3) (by decide) q1).1
    refine ⟨he, ?_⟩
    rw [takeM E h (by decide) q1]
    simp only
    rw [takeM E g1 (by decide) q2]
    simp only
    rw [kqM E g2 q2 (by decide) (by decide), h91, cond_false, e6]; rfl
theorem wh_simM {L1 L : List (List C)} {n0 : Int} (E : InM L1 L n0) {one one' : Rd} {k : Int} (hk0 : k ≠ 0) (h2 : k ≠ 2) (ho : ∀ s, St8 L1 s → St8 L1 (one s).1 ∧ Fol (takeG L1 k s).1 (one s).1) (hsim : SimM L1 n0 one one' anyS) :
    ∀ (n n' : Nat) (s : PS) (out : List Nde), St8 L1 s → (L1.length : Int) - s.at_ < n → (L.length : Int) - (n0 + s.at_) < n' → (whG L1 one k n s out).1.er = 0 →
      s.er = 0 ∧ whG L one' k n' (shM n0 s) out = (shM n0 (whG L1 one k n s out).1, (whG L1 one k n s out).2) := by
  intro n
  induction n with
  | zero => intro n' s out h hn; have := h.a1; omega
  | succ n ih =>
    intro n' s out h hn hn' hr
    have he : s.er = 0 := by
      by_cases h5 : s.er = 0
      · exact h5
      · rw [wh_bad hk0 h5] at hr; exact absurd hr h5
    refine ⟨he, ?_⟩
    have hle := E.le
    have ha1 := h.a1
    cases n' with
    | zero => omega
    | succ n' =>
      unfold whG at hr ⊢
      rw [kqM E h he hk0 h2]
      cases hk : kindG L1 s == k with
      | true =>
        rw [hk, cond_true] at hr
        rw [cond_true, cond_true]
        obtain ⟨g3, f3⟩ := ho _ h
        rw [take_next hk] at f3
        have hat : s.at_ + 1 ≤ (one s).1.at_ := f3.a
        have he1 : (one s).1.er = 0 := by
          by_cases h5 : (one s).1.er = 0
          · exact h5
          · rw [wh_bad hk0 h5] at hr; exact absurd hr h5
        obtain ⟨_, e⟩ := hsim _ h trivial he1
        rw [e]
        exact (ih n' _ _ g3 (by push_cast at hn; omega) (by push_cast at hn'; omega) hr).2
      | false => rw [cond_false, cond_false]
theorem rels_simM {L1 L : List (List C)} {n0 : Int} (E : InM L1 L n0) {s : PS} (h : St8 L1 s) (hr : (relsA L1 s).1.er = 0) : s.er = 0 ∧ relsA L (shM n0 s) = (shM n0 (relsA L1 s).1, (relsA L1 s).2) := by
  have := h.a0; have := E.n
  rw [relsA_eq] at hr ⊢
  rw [relsA_eq]
  exact wh_simM E (by decide) (by decide) (fun s hs => rel_good hs) (rel_simM E) _ _ _ _ h (by push_cast; omega) (by push_cast; omega) hr
theorem typ_simM {L1 L : List (List C)} {n0 : Int} (E : InM L1 L n0) : SimM L1 n0 (typA L1) (typA L) anyS := by
  intro s h _ hr
  rw [typA_eq] at hr ⊢
  rw [typA_eq]
  unfold typG at hr ⊢
  obtain ⟨g1, _⟩ := gtake_ok h (k := 2) (by decide)
  obtain ⟨g2, _⟩ := gtake_ok g1 (k := 1) (by decide)
  obtain ⟨g3, _⟩ := gtake_ok g2 (k := 123) (by decide)
  obtain ⟨g4, _⟩ := rels_good g3
  have hr' : (takeG L1 125 (relsA L1 (takeG L1 123 (takeG L1 1 (takeG L1 2 s).1).1).1).1).1.er = 0 := hr
  have q4 := (take_er (L := L1) (k := 125) (by decide) hr').1
  obtain ⟨q3, e4⟩ := rels_simM E g3 q4
  have q2 := (take_er (L := L1) (k := 123) (by decide) q3).1
  have q1 := (take_er (L := L1) (k := 1) (by decide) q2).1
  have he := (take_er (L := L1) (k := 2) (by decide) q1).1
  refine ⟨he, ?_⟩
  rw [takeM E h (by decide) q1]
  simp only
  rw [takeM E g1 (by decide) q2]
  simp only
  rw [takeM E g2 (by decide) q3]
  simp only
  rw [e4]
  simp only
  rw [takeM E g4 (by decide) hr']
/-- types that are read alone are read within the other tokens, which are gone on with -/
theorem typs_simM {L1 L : List (List C)} {n0 : Int} (E : InM L1 L n0) (pre : List Nde) :
    ∀ (n n' : Nat) (s : PS) (out : List Nde), St8 L1 s → (L1.length : Int) - s.at_ < n → (L.length : Int) - (n0 + s.at_) < n' → (whG L1 (typA L1) 2 n s out).1.er = 0 →
      ∃ n'' : Nat, (L.length : Int) - (n0 + (whG L1 (typA L1) 2 n s out).1.at_) < n'' ∧ St8 L1 (whG L1 (typA L1) 2 n s out).1 ∧
        whG L (typA L) 2 n' (shM n0 s) (pre ++ out) = whG L (typA L) 2 n'' (shM n0 (whG L1 (typA L1) 2 n s out).1) (pre ++ (whG L1 (typA L1) 2 n s out).2) := by
  intro n
  induction n with
  | zero => intro n' s out h hn; have := h.a1; omega
  | succ n ih =>
    intro n' s out h hn hn' hr
    have hle := E.le
    have ha1 := h.a1
    have hk0 : (2 : Int) ≠ 0 := by decide
    unfold whG at hr
    cases hk : kindG L1 s == 2 with
    | false =>
      have e0 : whG L1 (typA L1) 2 (n + 1) s out = (s, out) := by
        show (bif kindG L1 s == 2 then _ else _ : PS × List Nde) = _
        rw [hk, cond_false]
      rw [e0]
      exact ⟨n', hn', h, rfl⟩
    | true =>
      rw [hk, cond_true] at hr
      cases n' with
      | zero => omega
      | succ n' =>
        obtain ⟨g3, f3⟩ := typ_good h
        rw [take_next hk] at f3
        have hat : s.at_ + 1 ≤ (typA L1 s).1.at_ := f3.a
        have he1 : (typA L1 s).1.er = 0 := by
          by_cases h5 : (typA L1 s).1.er = 0
          · exact h5
          · rw [wh_bad hk0 h5] at hr; exact absurd hr h5
        obtain ⟨_, e⟩ := typ_simM E _ h trivial he1
        obtain ⟨n'', r1, r2, r3⟩ := ih n' _ (out ++ [(typA L1 s).2]) g3 (by push_cast at hn; omega) (by push_cast at hn'; omega) hr
        have e0 : whG L1 (typA L1) 2 (n + 1) s out = whG L1 (typA L1) 2 n (typA L1 s).1 (out ++ [(typA L1 s).2]) := by
          show (bif kindG L1 s == 2 then _ else _ : PS × List Nde) = _
          rw [hk, cond_true]
        refine ⟨n'', ?_, ?_, ?_⟩
        · rw [e0]; exact r1
        · rw [e0]; exact r2
        · rw [e0, ← r3]
          show (bif kindG L (shM n0 s) == 2 then whG L (typA L) 2 n' (typA L (shM n0 s)).1 (pre ++ out ++ [(typA L (shM n0 s)).2]) else _ : PS × List Nde) = _
          rw [kyM E h hk0 hk, cond_true, e, List.append_assoc]
end Go.Proofs.YtniiimpcakmkbaaDoor

/- grammar: two configurations one behind the other (plain) -/
set_option linter.unusedVariables false
namespace Go.Proofs.YtniiimpcakmkbaaDoor
open Go Vm
theorem parse_read {s : ByteArray} (hz : s.size < 1000000) (h : parE s = 0) :
    ∃ ns o q, SC ns ∧ s = bsN ns ∧ Lx (1, 1) ns o q 0 ∧ St8 (o.map tokC) ⟨0, 0, 0⟩ ∧
      whG (o.map tokC) (typA (o.map tokC)) 2 ((o.map tokC).length + 1) ⟨0, 0, 0⟩ [] = (⟨(o.map tokC).length, 0, 0⟩, parT s) := by
  obtain ⟨h1, h2⟩ := lexP_toks s hz
  obtain ⟨g1, ts, e⟩ := rdP_good hz
  have h' := h
  unfold parE at h
  cases he : (lexP s).2.2.2 == 0 with
  | false => rw [he] at h; rw [beq_eq_false_iff_ne] at he; exact absurd h he
  | true =>
    rw [he, cond_true] at h
    have g3 := end_good g1
    have hr : (endP s).er = 0 := by
      rcases er3 (show (endP s).er ≤ 2 from g3.e2) with h3 | h3 | h3
      · exact h3
      · rw [h3] at h; cases h
      · rw [h3] at h; cases h
    have hr2 : (rdP s).1.er = 0 ∧ ¬ (rdP s).1.at_ < ((lexP s).1.length : Int) := by
      have hr' := hr
      unfold endP endG at hr
      by_cases hlt : (rdP s).1.at_ < ((lexP s).1.length : Int)
      · rw [decide_eq_true hlt, cond_true] at hr; exact (fail_er (by decide) hr).elim
      · rw [decide_eq_false hlt, cond_false] at hr; exact ⟨hr, hlt⟩
    obtain ⟨ns, o, q, hs, e1, _, hx, hl⟩ := lexP_ok hz (by simpa using he)
    have hL : (lexP s).1 = o.map tokC := by rw [hl]
    refine ⟨ns, o, q, hs, e1, hx, by rw [← hL]; exact st0 h1 h2, ?_⟩
    have hT : parT s = (whG (lexP s).1 (typA (lexP s).1) 2 ((lexP s).1.length + 1) ⟨0, 0, 0⟩ []).2 := by
      unfold parT parN
      rw [he, hr]
      show ((rdP s).2.getD 0 .nf).toEls = _
      unfold rdP
      rw [cfgA_eq]; rfl
    have hP : (rdP s).1 = (whG (lexP s).1 (typA (lexP s).1) 2 ((lexP s).1.length + 1) ⟨0, 0, 0⟩ []).1 := by
      unfold rdP; rw [cfgA_eq]; rfl
    have hF := (cfg_good (st0 h1 h2)).2.o
    have hA := g1.a1
    have hF' : (rdP s).1.op = 0 := hF
    rw [hT, ← hL]
    refine Prod.ext ?_ rfl
    show (whG (lexP s).1 (typA (lexP s).1) 2 ((lexP s).1.length + 1) ⟨0, 0, 0⟩ []).1 = ⟨((lexP s).1.length : Int), 0, 0⟩
    rw [← hP]
    obtain ⟨x1, x2⟩ := hr2
    generalize (rdP s).1 = z at x1 x2 hF' hA ⊢
    obtain ⟨za, zo, ze⟩ := z
    simp only at x1 x2 hF' hA ⊢
    subst x1 hF'
    rw [show za = ((lexP s).1.length : Int) by omega]
theorem parse_of {s : ByteArray} {L : List (List C)} {q : Int × Int} {ts : List Nde} (hx : lexP s = (L, q.1, q.2, 0)) (h : whG L (typA L) 2 (L.length + 1) ⟨0, 0, 0⟩ [] = (⟨L.length, 0, 0⟩, ts)) : parE s = 0 ∧ parT s = ts := by
  have hP : rdP s = (⟨L.length, 0, 0⟩, [.sl 2 ts]) := by
    unfold rdP
    rw [hx]
    show cfgA L ⟨0, 0, 0⟩ = _
    rw [cfgA_eq]; unfold cfgG
    rw [h]
  have hE : endP s = ⟨L.length, 0, 0⟩ := by
    unfold endP
    rw [hP, hx]
    show endG L ⟨L.length, 0, 0⟩ = _
    unfold endG
    rw [decide_eq_false (show ¬ (⟨L.length, 0, 0⟩ : PS).at_ < (L.length : Int) from Int.lt_irrefl _)]; rfl
  refine ⟨?_, ?_⟩
  · unfold parE; rw [hE, hx]; rfl
  · unfold parT parN; rw [hE, hP, hx]; rfl
theorem tokN_nl {ns : List Nat} {k : Int} {t : List Nat} (h : tokN ns = some (k, t)) (q : List Nat) : tokN (t ++ 10 :: q) = some (k, t) := by
  obtain ⟨htn, r, hr⟩ := tokN_split h
  unfold tokN at h ⊢
  by_cases hw : wordN ns ≠ []
  · rw [if_pos hw] at h
    split at h
    · rename_i hl
      have ht : t = wordN ns := by cases h; rfl
      have hk : k = kindN (wordN ns) := by cases h; rfl
      have h1 : wordN (t ++ 10 :: q) = t := wordN_app (r := r) (by rw [← hr]; exact ht.symm) htn rfl q
      rw [h1, if_pos htn, ht, if_pos hl, hk]
    · cases h
  · rw [if_neg hw] at h
    have hw' : wordN ns = [] := by simpa using hw
    split at h
    · cases h; rfl
    · rename_i h2
      cases ns with
      | nil => cases h
      | cons c r0 =>
        simp only at h
        split at h
        · rename_i hc
          cases h
          have hw2 := wordN_none (r' := 10 :: q) hw'
          simp only [List.cons_append, List.nil_append]
          rw [hw2]
          have h3 : isTo (c :: 10 :: q) = false := by
            unfold isTo
            split
            · rename_i heq; cases heq
            · rfl
          rw [h3]
          simp [hc]
        · cases h
theorem take_nl : ∀ a : List Nat, (a ++ [10]).takeWhile ne10 = a.takeWhile ne10 ∧ (a ++ [10]).dropWhile ne10 = a.dropWhile ne10 ++ [10] := by
  intro a
  induction a with
  | nil => exact ⟨rfl, rfl⟩
  | cons c a ih =>
    rw [List.cons_append, List.takeWhile_cons, List.dropWhile_cons, List.takeWhile_cons, List.dropWhile_cons]
    cases hp : ne10 c with
    | true => obtain ⟨h1, h2⟩ := ih; simp [h1, h2]
    | false => simp
theorem lx_nl {p a o q e} (h : Lx p a o q e) : e = 0 → ∃ q', Lx p (a ++ [10]) o q' 0 := by
  induction h with
  | nil p => intro _; exact ⟨_, .blank rfl (.nil _)⟩
  | blank hb _ ih => intro he; obtain ⟨q', h⟩ := ih he; exact ⟨q', .blank hb h⟩
  | @rem p ns o q e hr _ ih =>
    intro he
    obtain ⟨q', h⟩ := ih he
    obtain ⟨h1, h2⟩ := take_nl ns
    exact ⟨q', .rem (isRem_app _ hr) (by rw [h1, h2]; exact h)⟩
  | @tok p c r o q e k t r' hb hr ht hs _ ih =>
    intro he
    obtain ⟨q', h⟩ := ih he
    obtain ⟨t', htt, h47, _⟩ := tok_head ht
    have e5 : c :: (r ++ [10]) = t ++ (r' ++ [10]) := by
      have := congrArg (fun z => z ++ [10]) hs
      simpa using this
    have h5 : tokN (c :: (r ++ [10])) = some (k, t) := by
      rw [e5]
      cases r' with
      | nil => exact tokN_nl ht []
      | cons d r'' => rw [hs] at ht; exact tokN_next ht (r'' ++ [10])
    exact ⟨q', .tok hb (notRem h47) h5 e5 h⟩
  | bad => intro he; cases he
theorem tkM {O : List Tok} {i : Nat} (hi : i < O.length) : tkK (O.map tokC) i = O[i].1 ∧ tkT (O.map tokC) i = bsN O[i].2.1 := by
  have hg : (O.map tokC)[i]? = some (tokC O[i]) := by simp [hi]
  unfold tkK tkT
  rw [Int.toNat_natCast, List.getD_eq_getElem?_getD (l := O.map tokC), hg]
  exact ⟨rfl, rfl⟩
theorem joins_plain {s t : ByteArray} (hs : s.size ≤ 1400) (ht : t.size ≤ 1400) (es : parE s = 0) (et : parE t = 0) : parE (s ++ ⟨#[10]⟩ ++ t) = 0 ∧ parT (s ++ ⟨#[10]⟩ ++ t) = parT s ++ parT t := by
  obtain ⟨a, o1, q1, sa, ea, xa, s1, u1⟩ := parse_read (by omega) es
  obtain ⟨b, o2, q2, sb, eb, xb, s2, u2⟩ := parse_read (by omega) et
  obtain ⟨q1', xa'⟩ := lx_nl xa rfl
  obtain ⟨o2', q2', xb', hk⟩ := lx_shift xb q1'
  have hO := lx_join xa' rfl (.inr ⟨a, rfl⟩) xb'
  have hw : (s ++ ⟨#[10]⟩ ++ t : ByteArray) = bsN (a ++ [10] ++ b) := by
    have c10 : (⟨#[10]⟩ : ByteArray) = bsN [10] := rfl
    rw [c10, ea, eb, bsN_app, bsN_app]
  have hsc : SC (a ++ [10] ++ b) := by
    intro c hc
    simp only [List.mem_cons, List.mem_append, List.mem_nil_iff, or_false] at hc
    rcases hc with (hc | rfl) | hc
    · exact sa c hc
    · exact .inl (by decide)
    · exact sb c hc
  have la : a.length ≤ 1400 := by have := encs_len a; have := bsN_size a; rw [ea] at hs; omega
  have lb : b.length ≤ 1400 := by have := encs_len b; have := bsN_size b; rw [eb] at ht; omega
  have hll : (a ++ [10] ++ b).length ≤ 3000 := by simp only [List.length_cons, List.length_append, List.length_nil]; omega
  have hlex : lexP (bsN (a ++ [10] ++ b)) = ((o1 ++ o2').map tokC, q2'.1, q2'.2, 0) := lexP_encs hsc hll hO
  have hl2 : o2'.length = o2.length := by have := congrArg List.length hk; simpa [kt] using this
  have k2 : ∀ i (h : i < o2.length) (h' : i < o2'.length), o2'[i].1 = o2[i].1 ∧ o2'[i].2.1 = o2[i].2.1 := fun i h h' => by
    have h3 := congrArg (fun l => l[i]?) hk
    have h4 : (o2'[i].1, o2'[i].2.1) = (o2[i].1, o2[i].2.1) := by simpa [kt, h, h'] using h3
    exact Prod.mk.inj h4
  -- the second's tokens begin with 'type'
  have first : 0 < o2.length → tkK (o2.map tokC) ((0 : Nat) : Int) = 2 := by
    intro h0
    by_cases hk2 : (kindG (o2.map tokC) ⟨0, 0, 0⟩ == 2) = true
    · exact (kind_some (by decide) hk2).2.2
    · exfalso
      have hk3 : (kindG (o2.map tokC) ⟨0, 0, 0⟩ == 2) = false := by simpa using hk2
      have : whG (o2.map tokC) (typA (o2.map tokC)) 2 ((o2.map tokC).length + 1) ⟨0, 0, 0⟩ [] = (⟨0, 0, 0⟩, []) := by
        show (bif kindG (o2.map tokC) ⟨0, 0, 0⟩ == 2 then _ else _ : PS × List Nde) = _
        rw [hk3, cond_false]
      rw [this] at u2
      have h5 := congrArg (fun z => z.1.at_) u2
      simp only [List.length_map] at h5
      omega
  have E1 : InM (o1.map tokC) ((o1 ++ o2').map tokC) 0 := by
    refine ⟨by decide, fun i h0 h1 => ?_, by simp; omega, fun h => ?_⟩
    · obtain ⟨j, rfl⟩ : ∃ j : Nat, i = j := ⟨i.toNat, by omega⟩
      have hj : j < o1.length := by rw [List.length_map] at h1; omega
      have hj' : j < (o1 ++ o2').length := by rw [List.length_append]; omega
      obtain ⟨x1, x2⟩ := tkM hj
      obtain ⟨z1, z2⟩ := tkM hj'
      rw [Int.zero_add, x1, x2, z1, z2, List.getElem_append_left hj]; exact ⟨rfl, rfl⟩
    · rw [List.length_map, List.length_map, List.length_append] at h
      have h0 : 0 < o2.length := by omega
      have hj' : o1.length < (o1 ++ o2').length := by rw [List.length_append]; omega
      obtain ⟨z1, _⟩ := tkM hj'
      obtain ⟨f1, _⟩ := tkM h0
      rw [Int.zero_add, List.length_map, z1, List.getElem_append_right (by omega)]
      have := first h0
      rw [f1] at this
      rw [← this]
      simp only [Nat.sub_self]
      exact (k2 0 h0 (by omega)).1
  have E2 : InM (o2.map tokC) ((o1 ++ o2').map tokC) (o1.map tokC).length := by
    refine ⟨by omega, fun i h0 h1 => ?_, by simp; omega, fun h => ?_⟩
    · obtain ⟨j, rfl⟩ : ∃ j : Nat, i = j := ⟨i.toNat, by omega⟩
      have hj : j < o2.length := by rw [List.length_map] at h1; omega
      have hj' : o1.length + j < (o1 ++ o2').length := by rw [List.length_append]; omega
      obtain ⟨x1, x2⟩ := tkM hj
      obtain ⟨z1, z2⟩ := tkM hj'
      obtain ⟨k3, k4⟩ := k2 j hj (by omega)
      have e : ((o1.map tokC).length : Int) + j = ((o1.length + j : Nat) : Int) := by rw [List.length_map]; push_cast; rfl
      have e2 : (o1 ++ o2')[o1.length + j] = o2'[j] := by rw [List.getElem_append_right (by omega)]; simp
      rw [e, x1, x2, z1, z2, e2, k3, k4]; exact ⟨rfl, rfl⟩
    · simp only [List.length_map, List.length_append] at h
      omega
  have n1 : ((o1 ++ o2').map tokC).length = o1.length + o2.length := by simp [hl2]
  have hlen1 : (o1.map tokC).length = o1.length := by simp
  have hlen2 : (o2.map tokC).length = o2.length := by simp
  obtain ⟨n2, r1, r2, r3⟩ := typs_simM E1 [] ((o1.map tokC).length + 1) (((o1 ++ o2').map tokC).length + 1) ⟨0, 0, 0⟩ [] s1 (by push_cast; omega) (by push_cast; omega) (by rw [u1])
  rw [u1] at r1 r2 r3
  obtain ⟨n3, r4, r5, r6⟩ := typs_simM E2 (parT s) ((o2.map tokC).length + 1) n2 ⟨0, 0, 0⟩ [] s2 (by push_cast; omega) (by simp only at r1 ⊢; omega) (by rw [u2])
  rw [u2] at r6
  have c1 : shM 0 ⟨0, 0, 0⟩ = (⟨0, 0, 0⟩ : PS) := rfl
  have c2 : shM 0 ⟨((o1.map tokC).length : Int), 0, 0⟩ = shM ((o1.map tokC).length : Int) ⟨0, 0, 0⟩ := by
    show (⟨0 + ((o1.map tokC).length : Int), 0, 0⟩ : PS) = ⟨((o1.map tokC).length : Int) + 0, 0, 0⟩
    rw [Int.zero_add, Int.add_zero]
  have c3 : shM ((o1.map tokC).length : Int) ⟨((o2.map tokC).length : Int), 0, 0⟩ = (⟨(((o1 ++ o2').map tokC).length : Int), 0, 0⟩ : PS) := by
    show (⟨((o1.map tokC).length : Int) + ((o2.map tokC).length : Int), 0, 0⟩ : PS) = _
    rw [n1, hlen1, hlen2]; push_cast; rfl
  have fin : whG ((o1 ++ o2').map tokC) (typA ((o1 ++ o2').map tokC)) 2 (((o1 ++ o2').map tokC).length + 1) ⟨0, 0, 0⟩ [] = (⟨(((o1 ++ o2').map tokC).length : Int), 0, 0⟩, parT s ++ parT t) := by
    have r3' := r3
    rw [c1, c2] at r3'
    simp only [List.nil_append, List.append_nil] at r3' r6
    rw [r3', r6, c3]
    cases n3 with
    | zero => rfl
    | succ n3 =>
      show (bif kindG _ _ == 2 then _ else _ : PS × List Nde) = _
      rw [kM_end (Int.le_refl _)]; rfl
  rw [hw]
  exact parse_of hlex fin
end Go.Proofs.YtniiimpcakmkbaaDoor

/- grammar: the law of two configurations, its run -/
set_option linter.unusedVariables false
namespace Go.Proofs.YtniiimpcakmkbaaDoor
open Go Vm Go.RowKit
theorem nobigJ {n : Nat} (h : n ≤ 10000) : decide ((n : Int) > 9223372036854775807) = false := by rw [decide_eq_false_iff_not]; omega
theorem lJoins_run (m : Int) (s t : ByteArray) (F : Nat) : runFn (lJoins_cf m pfC) F Tryd.f11 (bd Tryd.f11) [vs s, vs t] [] fin2 = some (vb true, []) := by
  rw [lJoins_start]
  cases h1 : decide ((s.size : Int) > 1400) with
  | true => rfl
  | false =>
    cases h2 : decide ((t.size : Int) > 1400) with
    | true => rfl
    | false =>
      simp only [decide_eq_false_iff_not] at h1 h2
      have hs : s.size ≤ 1400 := by omega
      have ht : t.size ≤ 1400 := by omega
      have c10 : (⟨#[10]⟩ : ByteArray).size = 1 := rfl
      have b1 : (s ++ ⟨#[10]⟩ ++ t : ByteArray).size < 1000000 := by simp only [ByteArray.size_append]; omega
      rw [cond_false, cond_false, decide_eq_true (show s.size < 1000000 by omega), cond_true, decide_eq_true (show t.size < 1000000 by omega), cond_true,
        nobigJ (by omega), cond_false, nobigJ (by simp only [ByteArray.size_append]; omega), cond_false, decide_eq_true b1, cond_true]
      have e1 : ∀ u, pfC.e u = parE u := fun _ => rfl
      have e2 : ∀ u, pfC.1 u = parT u := fun _ => rfl
      simp only [e1, e2]
      cases h3 : parE s != 0 with
      | true => rfl
      | false =>
        cases h4 : parE t != 0 with
        | true => rfl
        | false =>
          have es : parE s = 0 := by simpa using h3
          have et : parE t = 0 := by simpa using h4
          obtain ⟨j1, j2⟩ := joins_plain hs ht es et
          obtain ⟨o1, l1⟩ := parT_okJ (s := s) (by omega)
          obtain ⟨o2, l2⟩ := parT_okJ (s := t) (by omega)
          have hok := parN_ok b1
          rw [parN_sl b1] at hok
          have hq : ∀ y, y = parT (s ++ ⟨#[10]⟩ ++ t) → sameQ [C.sl (2 : Nat) (parT (s ++ ⟨#[10]⟩ ++ t))] [C.sl (2 : Nat) y] = true := by
            intro y hy
            rw [hy, sameQ_eq, eqN_refl, hok]; rfl
          rw [cond_false, cond_false, dup2, j1, beq_self_eq_true, cond_true]
          have d1 : decide ((parT s).length * 40 ≤ 140737488355328 ∧ (parT s).length ≤ 9223372036854775807) = true := by rw [decide_eq_true_eq]; omega
          have d2 : decide ((parT t).length * 40 ≤ 140737488355328 ∧ (parT t).length ≤ 9223372036854775807) = true := by rw [decide_eq_true_eq]; omega
          have d3 : decide (((parT s).length + (parT t).length) * 40 ≤ 140737488355328 ∧ (parT s).length + (parT t).length ≤ 9223372036854775807) = true := by rw [decide_eq_true_eq]; omega
          rw [d1, cond_true, d2, cond_true, d3, cond_true]
          cases hp : (parT s).isEmpty with
          | true =>
            have hp' : parT s = [] := by simpa using hp
            cases hr : (parT t).isEmpty with
            | true =>
              have hr' : parT t = [] := by simpa using hr
              have := hq [] (by rw [j2, hp', hr']; rfl)
              rw [cond_true, cond_true]
              refine Eq.trans (congrArg (fun c => bif c then _ else _) this) rfl
            | false =>
              have := hq (parT t) (by rw [j2, hp']; rfl)
              rw [cond_true, cond_false, this]; rfl
          | false =>
            have := hq (List.append (parT s) (parT t)) (by rw [j2]; rfl)
            rw [cond_false, this]; rfl
theorem tabCQ_ok (m : Int) : TabS Tryd.prog (globG m) (tabCQ pfC) := by
  unfold tabCQ; rw [parseQS_eq]
  exact .cons (gawake_ok m) (.cons (parse_ok m) (.cons (sameC_ok m) .nil))
theorem joins_res (m : Int) (xs : List V) (h : argVs Tryd.prog [9, 9] xs) : ∃ b, FnRes Tryd.prog (globG m) 11 xs [] (vb true) b := by
  obtain ⟨x, y, rfl, h1, h2⟩ := argVs2 h
  obtain ⟨s, rfl, _⟩ := str_arg h1
  obtain ⟨t, rfl, _⟩ := str_arg h2
  exact ⟨[], specAtQ eqs3_ok mix vti_ok Tryd.func11 rfl (by kernel_rfl) (tabCQ_ok m) 100 (lJoins_run m s t 100)⟩
end Go.Proofs.YtniiimpcakmkbaaDoor
