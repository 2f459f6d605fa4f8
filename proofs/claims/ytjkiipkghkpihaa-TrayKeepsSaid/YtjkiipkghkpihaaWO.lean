/- Vm, part O: a statement whose order is open: whatever order the machine takes, it comes to the text's. -/
import Derived.Test.YtjkiipkghkpihaaWN
import Derived.Test.YtjkiipkghkpihaaWL
namespace Vm
open Go

section
variable {R : Type} {cf : Cfg}

def gstep (cf : Cfg) (ops : List Oper) (o : Oper) (st : St) : Option St :=
  match wantedV ops st o with
  | some true => vop cf true o some st
  | some false => some (st.set o.dst (.tup []))
  | none => none

theorem split_id (st : St) (dst : Option Nat) (k : St → Option R) : split st dst k = k st := by
  unfold split
  cases dst with
  | none => rfl
  | some d =>
    simp only
    have key : ∀ b, st.env.getD d vu = vb b → st.set (some d) (vb b) = st := by
      intro b hb
      simp only [St.set]
      have : st.env.set d (vb b) = st.env := by
        apply List.ext_getElem?
        intro i
        rw [List.getElem?_set]
        split
        · rename_i e; subst e
          split
          · rename_i hlt
            rw [List.getD_eq_getElem?_getD, List.getElem?_eq_getElem hlt] at hb
            rw [List.getElem?_eq_getElem hlt]; simpa using hb.symm
          · rename_i hlt; rw [List.getElem?_eq_none (by omega)]
        · rfl
      rw [this]
    generalize he : st.env.getD d vu = e at key
    match e, key with
    | .t (.w (.d (.bool b))), key => cases b <;> simp only [cond_true, cond_false] <;> rw [key _ rfl]
    | .u, _ => rfl
    | .tup l, _ => rfl
    | .t (.agg l), _ => rfl
    | .t (.w .u), _ => rfl
    | .t (.w (.ptr b c)), _ => rfl
    | .t (.w (.arr b)), _ => rfl
    | .t (.w (.ea b i s f)), _ => rfl
    | .t (.w (.pv b i f)), _ => rfl
    | .t (.w (.d (.int k1 n1))), _ => rfl
    | .t (.w (.d (.str s))), _ => rfl
    | .t (.w (.d (.sl s q))), _ => rfl
    | .t (.w (.d (.fn f q))), _ => rfl
    | .t (.w (.d (.ifc t ag q))), _ => rfl
    | .t (.w (.d .ni)), _ => rfl
    | .t (.w (.d .nf)), _ => rfl
    | .t (.w (.d .np)), _ => rfl
    | .t (.w (.d (.ip q))), _ => rfl

/-- a state that an operation and its guard can't tell apart -/
structure SameG (ops : Array Oper) (o : Oper) (st st' : St) : Prop where
  env : ∀ t ∈ o.looksAt ops, st'.env[t]? = st.env[t]?
  bx : (isWr o.op || isRd o.op) = true → st'.bx = st.bx

theorem SameG.same {ops : Array Oper} {o : Oper} {st st' : St} (h : SameG ops o st st') : Same cf o.op st st' := by
  refine ⟨fun x hx => ?_, h.bx⟩
  cases x with
  | tmp t =>
    have : t ∈ o.looksAt ops := by
      unfold Oper.looksAt
      rw [List.mem_append]; left
      rw [List.mem_filterMap]
      exact ⟨.tmp t, by simpa using hx, rfl⟩
    simp only [St.ev, List.getD_eq_getElem?_getD, h.env t this]
  | const v => rfl
  | func f => rfl
  | global g => rfl

theorem SameG.wanted {ops : Array Oper} {o : Oper} {st st' : St} (h : SameG ops o st st') : wantedV ops.toList st' o = wantedV ops.toList st o := by
  unfold wantedV
  cases hg : o.guard with
  | none => rfl
  | some jw =>
    obtain ⟨j, want⟩ := jw
    simp only
    have hops : ops.toList[j]? = ops[j]? := by simp
    rw [hops]
    cases hj : ops[j]? with
    | none => rfl
    | some gp =>
      simp only
      cases hd : gp.dst with
      | none => rfl
      | some d =>
        have : d ∈ o.looksAt ops := by
          unfold Oper.looksAt
          rw [List.mem_append]; right
          rw [hg]; simp [hj, hd]
        simp only [h.env d this]

def GMoves (cf : Cfg) (ops : Array Oper) (o : Oper) (st st1 : St) : Prop :=
  ∃ u : Upd, st1 = u.app o.dst st ∧ (u.bx.isSome = true → isWr o.op = true) ∧ ∀ st', SameG ops o st st' → gstep cf ops.toList o st' = some (u.app o.dst st')

theorem gmoves {ops : Array Oper} {o : Oper} {st st1 : St} (hok : okOp o.op = true) (h : gstep cf ops.toList o st = some st1) : GMoves cf ops o st st1 := by
  unfold gstep at h
  cases hw : wantedV ops.toList st o with
  | none => rw [hw] at h; cases h
  | some b =>
    rw [hw] at h
    cases b with
    | true =>
      obtain ⟨u, h1, h2, h4⟩ := moves hok h
      exact ⟨u, h1, h2, fun st' hs => by unfold gstep; rw [hs.wanted, hw]; exact h4 st' hs.same⟩
    | false =>
      simp only [Option.some.injEq] at h
      exact ⟨⟨.tup [], none⟩, by rw [← h, set_app], by simp, fun st' hs => by unfold gstep; rw [hs.wanted, hw]; simp only; rw [set_app]⟩

theorem app_env (u : Upd) (dst : Option Nat) (st : St) (t : Nat) (h : dst ≠ some t) : (u.app dst st).env[t]? = st.env[t]? := by
  cases dst with
  | none => rfl
  | some d =>
    simp only [Upd.app, St.set]
    rw [List.getElem?_set_ne (fun e => h (by rw [e]))]

theorem appG_same {ops : Array Oper} {x y : Oper} {u : Upd} {st : St} (hd : ∀ d, x.dst = some d → d ∉ y.looksAt ops) (hb : u.bx.isSome = true → (isWr y.op || isRd y.op) = false) :
    SameG ops y st (u.app x.dst st) := by
  refine ⟨fun t ht => app_env u x.dst st t (fun e => hd t e ht), fun hy => ?_⟩
  cases hu : u.bx with
  | none => simp [Upd.app, hu]
  | some b => have := hb (by rw [hu]; rfl); rw [hy] at this; cases this

theorem appG_same' {ops : Array Oper} {x y : Oper} {u : Upd} {st : St} (hd : ∀ d, x.dst = some d → d ∉ y.looksAt ops) (hb : u.bx.isSome = true → (isWr y.op || isRd y.op) = false) :
    SameG ops y (u.app x.dst st) st := by
  have := appG_same (st := st) hd hb
  exact ⟨fun t ht => (this.env t ht).symm, fun h => (this.bx h).symm⟩

theorem app_comm {u v : Upd} {d e : Option Nat} {st : St} (hde : ∀ x, d = some x → e ≠ some x) (hb : u.bx.isSome = true → v.bx = none) : u.app d (v.app e st) = v.app e (u.app d st) := by
  obtain ⟨uv, ub⟩ := u
  obtain ⟨vv, vb'⟩ := v
  have henv : ((Upd.mk uv ub).app d ((Upd.mk vv vb').app e st)).env = ((Upd.mk vv vb').app e ((Upd.mk uv ub).app d st)).env := by
    cases d with
    | none => cases e <;> rfl
    | some d =>
      cases e with
      | none => rfl
      | some e =>
        have : d ≠ e := fun he => hde d rfl (by rw [he])
        simp only [Upd.app, St.set]
        exact List.set_comm _ _ (fun h => this h.symm)
  have h1 : ((Upd.mk uv ub).app d ((Upd.mk vv vb').app e st)).bx = ((Upd.mk vv vb').app e ((Upd.mk uv ub).app d st)).bx := by
    cases ub with
    | none => rfl
    | some b => have := hb rfl; simp only at this; subst this; rfl
  have h2 : ((Upd.mk uv ub).app d ((Upd.mk vv vb').app e st)).np = ((Upd.mk vv vb').app e ((Upd.mk uv ub).app d st)).np := rfl
  generalize (Upd.mk uv ub).app d ((Upd.mk vv vb').app e st) = s1 at *
  generalize (Upd.mk vv vb').app e ((Upd.mk uv ub).app d st) = s2 at *
  cases s1; cases s2; simp only at henv h1 h2; subst henv h1 h2; rfl

/-- two operations that don't hang on each other change places -/
theorem gswap {ops : Array Oper} {x y : Oper} {st st1 st2 : St} (hi : indep ops x y = true) (hx : okOp x.op = true) (hy : okOp y.op = true)
    (h1 : gstep cf ops.toList x st = some st1) (h2 : gstep cf ops.toList y st1 = some st2) : ∃ st1', gstep cf ops.toList y st = some st1' ∧ gstep cf ops.toList x st1' = some st2 := by
  unfold indep at hi
  simp only [Bool.and_eq_true, Bool.not_eq_true'] at hi
  obtain ⟨⟨hap, hs1⟩, hs2⟩ := hi
  obtain ⟨a1, a2, a3⟩ := Oper.apart_spec hap
  obtain ⟨u, e1, ub, ut⟩ := gmoves hx h1
  obtain ⟨v, e2, vb', vt⟩ := gmoves hy h2
  have hbx : u.bx.isSome = true → (isWr y.op || isRd y.op) = false := fun h => by have := ub h; rw [this] at hs1; simpa using hs1
  have hby : v.bx.isSome = true → (isWr x.op || isRd x.op) = false := fun h => by
    have := vb' h; rw [this] at hs1 hs2
    cases hx1 : isWr x.op <;> cases hx2 : isRd x.op <;> simp_all
  subst e1
  have g1 := vt st (appG_same' a1 hbx)
  have g2 := ut (v.app y.dst st) (appG_same a3 hby)
  refine ⟨_, g1, ?_⟩
  rw [g2, e2]
  rw [app_comm a2]
  intro h
  cases hv : v.bx with
  | none => rfl
  | some b => have h5 := hby (by rw [hv]; rfl); rw [ub h] at h5; cases h5

/-- operations by their numbers; those that stand between all others as they are -/
def runB (cf : Cfg) (ops : Array Oper) (bs : List Bool) (k : St → Option R) : List Nat → St → Option R
  | [], st => k st
  | i :: r, st =>
    (match ops[i]? with
     | some o =>
       bif bs.getD i false then
         (match wantedV ops.toList st o with
          | some true => vop cf false o (runB cf ops bs k r) st
          | some false => runB cf ops bs k r (st.set o.dst (.tup []))
          | none => none)
       else (gstep cf ops.toList o st).bind (runB cf ops bs k r)
     | none => none)

theorem runOpsB_runB (ops : Array Oper) (bs : List Bool) (k : St → Option R) : ∀ (rest : List Oper) (i : Nat) (st : St), ops.toList.drop i = rest → runOpsB cf ops.toList rest (bs.drop i) k st = runB cf ops bs k (List.range' i rest.length) st := by
  intro rest
  induction rest with
  | nil => intro i st _; rfl
  | cons o q ih =>
    intro i st hd
    have hlt : i < ops.toList.length := by
      rcases Nat.lt_or_ge i ops.toList.length with h1 | h1
      · exact h1
      · rw [List.drop_eq_nil_of_le h1] at hd; cases hd
    have hdd := List.drop_eq_getElem_cons hlt
    rw [hd] at hdd
    injection hdd with ho hq'
    have hoi : ops[i]? = some o := by rw [ho]; simp
    have hb1 : (bs.drop i).headD false = bs.getD i false := by
      rw [List.headD_eq_head?_getD, List.head?_drop, List.getD_eq_getElem?_getD]
    have hb2 : (bs.drop i).tail = bs.drop (i + 1) := by simp
    have hk : (fun s => (bif isGuard ops.toList o.dst q then split s o.dst (runOpsB cf ops.toList q (bs.drop (i + 1)) k) else runOpsB cf ops.toList q (bs.drop (i + 1)) k s)) = runB cf ops bs k (List.range' (i + 1) q.length) := by
      funext s
      have : (bif isGuard ops.toList o.dst q then split s o.dst (runOpsB cf ops.toList q (bs.drop (i + 1)) k) else runOpsB cf ops.toList q (bs.drop (i + 1)) k s) = runOpsB cf ops.toList q (bs.drop (i + 1)) k s := by
        cases isGuard ops.toList o.dst q with
        | true => exact split_id _ _ _
        | false => rfl
      rw [this]
      exact ih (i + 1) s hq'.symm
    simp only [List.length_cons, List.range'_succ, runB, hoi, runOpsB, gstep, hb1, hb2, hk]
    cases hbi : bs.getD i false with
    | true =>
      simp only [cond_true, Bool.not_true]
      cases hw : wantedV ops.toList st o with
      | none => rfl
      | some b =>
        cases b with
        | false => exact ih (i + 1) _ hq'.symm
        | true => rfl
    | false =>
      simp only [cond_false, Bool.not_false]
      cases hw : wantedV ops.toList st o with
      | none => rfl
      | some b =>
        cases b with
        | false => simp only [Option.bind_some]; exact ih (i + 1) _ hq'.symm
        | true => simp only; rw [vop_bind]

/-- an operation is taken ahead of others -/
theorem runB_take {ops : Array Oper} {bs : List Bool} {k : St → Option R} {r : R} {i : Nat} {oi : Oper} (hoi : ops[i]? = some oi) (hb : bs.getD i false = false) (hok : okOp oi.op = true) : ∀ (pre : List Nat) {post : List Nat} {st : St}, runB cf ops bs k (pre ++ i :: post) st = some r →
    (∀ p ∈ pre, bs.getD p false = false ∧ ∀ op, ops[p]? = some op → indep ops op oi = true ∧ okOp op.op = true) → ∃ st1, gstep cf ops.toList oi st = some st1 ∧ runB cf ops bs k (pre ++ post) st1 = some r := by
  intro pre
  induction pre with
  | nil =>
    intro post st h _
    simp only [List.nil_append, runB, hoi, hb, cond_false] at h ⊢
    cases hg : gstep cf ops.toList oi st with
    | none => rw [hg] at h; cases h
    | some s => rw [hg] at h; exact ⟨s, rfl, h⟩
  | cons p q ih =>
    intro post st h hp
    have hbp := (hp p (by simp)).1
    simp only [List.cons_append, runB] at h ⊢
    cases hop : ops[p]? with
    | none => rw [hop] at h; cases h
    | some op =>
      rw [hop] at h; simp only [hbp, cond_false] at h
      cases hg : gstep cf ops.toList op st with
      | none => rw [hg] at h; cases h
      | some s1 =>
        rw [hg] at h; simp only [Option.bind_some] at h
        obtain ⟨s2, hs2, hr⟩ := ih h (fun p' hp' => hp p' (by simp [hp']))
        obtain ⟨h3, h4⟩ := (hp p (by simp)).2 op hop
        obtain ⟨s1', hs1', hs3⟩ := gswap h3 h4 hok hg hs2
        exact ⟨s1', hs1', by simp only [hbp, cond_false, hs3, Option.bind_some]; exact hr⟩
end

/-! which operations stand before one -/

theorem ancGo_get : ∀ (l : List Oper) (acc : List Nat) (j : Nat), j < acc.length → (ancGo l acc)[j]? = acc[j]? := by
  intro l
  induction l with
  | nil => intro acc j _; rfl
  | cons o r ih =>
    intro acc j hj
    simp only [ancGo]
    rw [ih (acc ++ [mask o acc]) j (by simp; omega), List.getElem?_append_left hj]

theorem ancGo_at : ∀ (l : List Oper) (acc : List Nat) (j : Nat) (o : Oper), l[j]? = some o → ∃ acc', acc'.length = acc.length + j ∧ (ancGo l acc)[acc.length + j]? = some (mask o acc') ∧ (∀ i, i < acc.length + j → acc'[i]? = (ancGo l acc)[i]?) := by
  intro l
  induction l with
  | nil => intro acc j o h; simp at h
  | cons x r ih =>
    intro acc j o h
    cases j with
    | zero =>
      simp at h; subst h
      refine ⟨acc, rfl, ?_, fun i hi => ?_⟩
      · simp only [ancGo, Nat.add_zero]
        rw [ancGo_get _ _ _ (by simp)]
        simp
      · simp only [ancGo]
        rw [ancGo_get _ _ _ (by simp; omega), List.getElem?_append_left (by simpa using hi)]
    | succ j =>
      obtain ⟨acc', h1, h2, h3⟩ := ih (acc ++ [mask x acc]) j o (by simpa using h)
      have hl : (acc ++ [mask x acc]).length + j = acc.length + (j + 1) := by simp; omega
      rw [hl] at h1 h2 h3
      exact ⟨acc', h1, h2, h3⟩

theorem mask_bit {acc : List Nat} {b : Nat} : ∀ (es : List Edge) (m0 : Nat), (es.foldl (fun m e => bif Region.binds .any e then Nat.lor m (Nat.lor (2 ^ e.on) (acc.getD e.on 0)) else m) m0).testBit b = true →
    m0.testBit b = true ∨ ∃ e ∈ es, Region.binds .any e = true ∧ (e.on = b ∨ (acc.getD e.on 0).testBit b = true) := by
  intro es
  induction es with
  | nil => intro m0 h; exact .inl h
  | cons e r ih =>
    intro m0 h
    simp only [List.foldl_cons] at h
    rcases ih _ h with h1 | ⟨e', he', hb, hh⟩
    · cases hb : Region.binds .any e with
      | false => rw [hb] at h1; exact .inl h1
      | true =>
        rw [hb, cond_true] at h1
        have : (m0 ||| (2 ^ e.on ||| acc.getD e.on 0)).testBit b = true := h1
        rw [Nat.testBit_or, Nat.testBit_or] at this
        simp only [Bool.or_eq_true] at this
        rcases this with h2 | h2 | h2
        · exact .inl h2
        · right
          refine ⟨e, by simp, hb, .inl ?_⟩
          rw [Nat.testBit_two_pow] at h2
          simpa using h2
        · exact .inr ⟨e, by simp, hb, .inr h2⟩
    · exact .inr ⟨e', by simp [he'], hb, hh⟩

/-- listed operations are closed: what stands before one of them is listed -/
def Closed (ops : Array Oper) (listed : Array Bool) : Prop :=
  ∀ (j : Nat) o, ops[j]? = some o → listed.getD j false = true → ∀ e ∈ o.after.toList, Region.binds .any e = true → listed.getD e.on false = true

theorem anc_listed {ops : Array Oper} {listed : Array Bool} (hc : Closed ops listed) : ∀ (j : Nat) (o : Oper), ops[j]? = some o → (∀ e ∈ o.after.toList, Region.binds .any e = true → e.on < j ∧ listed.getD e.on false = true) →
    (∀ (i : Nat) oi, i < j → ops[i]? = some oi → ∀ e ∈ oi.after.toList, Region.binds .any e = true → e.on < i) → ∀ b, ((anc ops.toList).getD j 0).testBit b = true → listed.getD b false = true := by
  intro j
  induction j using Nat.strongRecOn with
  | _ j ih =>
    intro o ho hd hlt b hb
    obtain ⟨acc', h1, h2, h3⟩ := ancGo_at ops.toList [] j o (by simpa using ho)
    simp only [List.length_nil, Nat.zero_add] at h1 h2 h3
    have hg : (anc ops.toList).getD j 0 = mask o acc' := by unfold anc; rw [List.getD_eq_getElem?_getD, h2]; rfl
    rw [hg] at hb
    rcases mask_bit _ _ hb with h4 | ⟨e, he, hbn, h4⟩
    · simp at h4
    · obtain ⟨hej, hel⟩ := hd e he hbn
      rcases h4 with h4 | h4
      · rw [← h4]; exact hel
      · have : acc'.getD e.on 0 = (anc ops.toList).getD e.on 0 := by
          unfold anc; rw [List.getD_eq_getElem?_getD, List.getD_eq_getElem?_getD, h3 e.on hej]
        rw [this] at h4
        have hlen : j < ops.size := (Array.getElem?_eq_some_iff.1 ho).1
        have hoe : ops[e.on]? = some (ops[e.on]'(by omega)) := Array.getElem?_eq_getElem _
        exact ih e.on hej _ hoe (fun e' he' hb' => ⟨hlt e.on _ hej hoe e' he' hb', hc e.on _ hoe hel e' he' hb'⟩) (fun i oi hi hoi => hlt i oi (by omega) hoi) b h4

theorem pairOk_get {ops : Array Oper} {m : Nat} {y : Oper} : ∀ (l : List Oper) (i0 : Nat), pairOk ops m y i0 l = true → ∀ (i : Nat) x, l[i]? = some x → m.testBit (i0 + i) = true ∨ indep ops x y = true := by
  intro l
  induction l with
  | nil => intro i0 _ i x h; simp at h
  | cons z r ih =>
    intro i0 h i x hx
    simp only [pairOk, Bool.and_eq_true, Bool.or_eq_true] at h
    cases i with
    | zero => simp at hx; subst hx; simpa using h.1
    | succ i => have := ih (i0 + 1) h.2 i x (by simpa using hx); rwa [show i0 + 1 + i = i0 + (i + 1) by omega] at this

theorem hasAll_bit {m : Nat} : ∀ {n i : Nat}, hasAll m n = true → i < n → m.testBit i = true := by
  intro n
  induction n with
  | zero => intro i _ h; omega
  | succ n ih =>
    intro i h hi
    simp only [hasAll, Bool.and_eq_true] at h
    by_cases e : i = n
    · subst e; exact h.1
    · exact ih h.2 (by omega)

theorem barrs_at {ops : List Oper} {i : Nat} (h : (barrs ops).getD i false = true) : i < (anc ops).length ∧ barr (anc ops) i = true := by
  unfold barrs at h
  rw [List.getD_eq_getElem?_getD, List.getElem?_map] at h
  by_cases hi : i < (anc ops).length
  · rw [List.getElem?_range hi] at h; exact ⟨hi, h⟩
  · rw [List.getElem?_eq_none (by simpa using hi)] at h; cases h

/-- one that stands between all others -/
theorem barr_bit {ops : List Oper} {i j : Nat} (h : (barrs ops).getD i false = true) (hj : j < (anc ops).length) (_ : j ≠ i) : (j < i → ((anc ops).getD i 0).testBit j = true) ∧ (i < j → ((anc ops).getD j 0).testBit i = true) := by
  obtain ⟨hi, hb⟩ := barrs_at h
  unfold barr at hb
  rw [Bool.and_eq_true] at hb
  refine ⟨fun hlt => hasAll_bit hb.1 hlt, fun hlt => ?_⟩
  have := List.all_eq_true.1 hb.2 ((anc ops).getD j 0) ?_
  · exact this
  · rw [List.getD_eq_getElem?_getD, List.getElem?_eq_getElem hj]
    simp only [Option.getD_some]
    rw [List.mem_drop_iff_getElem]
    exact ⟨j - (i + 1), by omega, by congr 1; omega⟩

theorem ancGo_len : ∀ (l : List Oper) (acc : List Nat), (ancGo l acc).length = acc.length + l.length := by
  intro l
  induction l with
  | nil => intro acc; rfl
  | cons o r ih => intro acc; simp only [ancGo, ih, List.length_append, List.length_cons, List.length_nil]; omega
theorem anc_len (l : List Oper) : (anc l).length = l.length := by unfold anc; rw [ancGo_len]; simp

theorem drawGo_get {ops : Array Oper} {as : List Nat} {bs : List Bool} : ∀ (l pre : List Oper) (j0 : Nat), pre.length = j0 → drawGo ops as bs pre j0 l = true → ∀ (j : Nat) y, l[j]? = some y →
    (bs.getD (j0 + j) false = false → okOp y.op = true) ∧ (∀ e ∈ y.after.toList, Region.binds .any e = true → e.on < j0 + j) ∧ (∀ (i : Nat) x, i < j0 + j → (pre ++ l)[i]? = some x → (as.getD (j0 + j) 0).testBit i = true ∨ indep ops x y = true) := by
  intro l
  induction l with
  | nil => intro pre j0 _ _ j y h; simp at h
  | cons z r ih =>
    intro pre j0 hp h j y hy
    simp only [drawGo, Bool.and_eq_true] at h
    obtain ⟨⟨⟨h1, h2⟩, h3⟩, h4⟩ := h
    cases j with
    | zero =>
      simp at hy; subst hy
      refine ⟨fun hbs => by rw [Nat.add_zero] at hbs; rw [hbs] at h1; simpa using h1, fun e he hb => ?_, fun i x hi hx => ?_⟩
      · have := List.all_eq_true.1 h2 e he
        rw [hb] at this; simpa [Nat.blt_eq] using this
      · rw [List.getElem?_append_left (by omega)] at hx
        have := pairOk_get pre 0 h3 i x hx
        simpa using this
    | succ j =>
      obtain ⟨h5, h6, h7⟩ := ih (pre ++ [z]) (j0 + 1) (by simp [hp]) h4 j y (by simpa using hy)
      have e1 : j0 + 1 + j = j0 + (j + 1) := by omega
      rw [e1] at h5 h6 h7
      exact ⟨h5, h6, fun i x hi hx => h7 i x hi (by simpa using hx)⟩

section
variable {P : Program} {cf : Cfg} {S0 : Addr → Option Value} (cx : Ctx P cf S0) (hpc : PcOk P cf)
variable {w0 : World} {O : Nat → Prop} {g0 g : G} {st : St} {a : Act} {w : World}
variable {R : Type} {r : R} {Q : Exit → Act → World → Prop}
include cx hpc

/-- one operation, whoever comes next -/
theorem gstep_wp {ops : Array Oper} {i : Nat} {o : Oper} (ho : ops[i]? = some o) {st st1 : St} (h : Rel w0 S0 O g0 g st a w) (hg : gstep cf ops.toList o st = some st1) {K : Act → World → Prop}
    (hK : ∀ g' a' w', Rel w0 S0 O g0 g' st1 a' w' → K a' w') : wpOp P ops Q i K a w := by
  unfold wpOp; simp only [ho]
  unfold gstep at hg
  cases hw : wantedV ops.toList st o with
  | none => rw [hw] at hg; cases hg
  | some b =>
    rw [hw] at hg
    have hwr := wanted_rel h hw
    rw [hwr]
    cases b with
    | true =>
      simp only at hg
      simp only [if_true]
      left
      exact snd_vop cx hpc hg h (fun g' st' a' w' h' hk => by cases hk; exact hK g' a' w' h')
    | false =>
      simp only [Option.some.injEq] at hg
      subst hg
      simp only [Bool.false_eq_true, if_false]
      exact hK g _ _ (h.put (v := .tup []) ⟨[], rfl, .nil⟩)

/-- one that stands between all others -/
theorem bstep_wp {ops : Array Oper} {bs : List Bool} {k : St → Option R} {i : Nat} {post : List Nat} {o : Oper} (ho : ops[i]? = some o) (hb : bs.getD i false = true) {st : St} (h : Rel w0 S0 O g0 g st a w) (hg : runB cf ops bs k (i :: post) st = some r) {K : Act → World → Prop}
    (hK : ∀ g' st' a' w', Rel w0 S0 O g0 g' st' a' w' → runB cf ops bs k post st' = some r → K a' w') : wpOp P ops Q i K a w := by
  unfold wpOp; simp only [ho]
  simp only [runB, ho, hb, cond_true] at hg
  cases hw : wantedV ops.toList st o with
  | none => rw [hw] at hg; cases hg
  | some b =>
    rw [hw] at hg
    have hwr := wanted_rel h hw
    rw [hwr]
    cases b with
    | true =>
      simp only at hg
      simp only [if_true]
      left
      exact snd_vop cx hpc hg h (fun g' st' a' w' h' hk => hK g' st' a' w' h' hk)
    | false =>
      simp only at hg
      simp only [Bool.false_eq_true, if_false]
      exact hK g _ _ _ (h.put (v := .tup []) ⟨[], rfl, .nil⟩) hg

theorem region_any {ops : Array Oper} {k : St → Option R} (hd : drawOk ops = true) (hQ : ∀ g' st' a' w', Rel w0 S0 O g0 g' st' a' w' → k st' = some r → Q .normal a' w') : ∀ (fuel : Nat) (listed : Array Bool) {g : G} {st : St} {a : Act} {w : World},
    listed.size = ops.size → Closed ops listed → ((List.range ops.size).filter fun i => !listed.getD i true).length ≤ fuel → Rel w0 S0 O g0 g st a w →
    runB cf ops (barrs ops.toList) k ((List.range ops.size).filter fun i => !listed.getD i true) st = some r → wpAny P .any ops Q fuel listed a w := by
  have hgo := drawGo_get ops.toList [] 0 rfl hd
  simp only [Nat.zero_add, List.nil_append] at hgo
  have hget : ∀ (j : Nat) o, ops[j]? = some o → ops.toList[j]? = some o := fun j o h => by simpa using h
  -- the first that is not listed is ready
  have hfirst : ∀ (listed : Array Bool) i r, listed.size = ops.size → (List.range ops.size).filter (fun i => !listed.getD i true) = i :: r → i ∈ Region.ready .any ops listed := by
    intro listed i r hls hr
    have hi : i ∈ (List.range ops.size).filter (fun i => !listed.getD i true) := by rw [hr]; simp
    simp only [List.mem_filter, List.mem_range, Bool.not_eq_true'] at hi
    have ho : ops[i]? = some (ops[i]'hi.1) := Array.getElem?_eq_getElem _
    rw [mem_ready]
    refine ⟨hi.2, _, ho, fun e he hb => ?_⟩
    have hlt := (hgo i _ (hget i _ ho)).2.1 e (by simpa using he) hb
    -- a smaller one that isn't listed would come first
    cases hl : listed.getD e.on false with
    | true => rfl
    | false =>
      exfalso
      have hlt2 : e.on < listed.size := by omega
      have h0 : listed.getD e.on true = false := by
        have e1 : listed.getD e.on true = listed[e.on] := by simp [hlt2]
        have e2 : listed.getD e.on false = listed[e.on] := by simp [hlt2]
        rw [e1, ← e2, hl]
      have hmem : e.on ∈ (List.range ops.size).filter (fun i => !listed.getD i true) := by
        simp only [List.mem_filter, List.mem_range, Bool.not_eq_true']; exact ⟨by omega, h0⟩
      have hsorted : ((List.range ops.size).filter (fun i => !listed.getD i true)).Pairwise (· < ·) := List.Pairwise.filter _ List.pairwise_lt_range
      rw [hr] at hmem hsorted
      rcases List.mem_cons.1 hmem with h1 | h1
      · omega
      · have := (List.pairwise_cons.1 hsorted).1 e.on h1; omega
  intro fuel
  induction fuel with
  | zero =>
    intro listed g st a w hls hc hf h hr
    have hnil : (List.range ops.size).filter (fun i => !listed.getD i true) = [] := List.eq_nil_of_length_eq_zero (by omega)
    rw [hnil] at hr
    simp only [runB] at hr
    refine ⟨?_, hQ g _ a w h hr⟩
    rw [List.eq_nil_iff_forall_not_mem]
    intro i hi
    rw [mem_ready] at hi
    obtain ⟨h1, o, ho, _⟩ := hi
    have : i ∈ (List.range ops.size).filter (fun i => !listed.getD i true) := by
      simp only [List.mem_filter, List.mem_range, Bool.not_eq_true']; exact ⟨(Array.getElem?_eq_some_iff.1 ho).1, h1⟩
    rw [hnil] at this; cases this
  | succ fuel ih =>
    intro listed g st a w hls hc hf h hr
    refine ⟨fun hrd => ?_, fun i hi => ?_⟩
    · cases hrem : (List.range ops.size).filter (fun i => !listed.getD i true) with
      | nil => rw [hrem] at hr; simp only [runB] at hr; exact hQ g _ a w h hr
      | cons j q => have := hfirst listed j q hls hrem; rw [hrd] at this; cases this
    · have hi2 := hi
      rw [mem_ready] at hi
      obtain ⟨h1, oi, ho, hedges⟩ := hi
      have hlt : i < ops.size := (Array.getElem?_eq_some_iff.1 ho).1
      have hmem : i ∈ (List.range ops.size).filter (fun i => !listed.getD i true) := by
        simp only [List.mem_filter, List.mem_range, Bool.not_eq_true']; exact ⟨hlt, h1⟩
      obtain ⟨pre, post, hsplit⟩ := List.append_of_mem hmem
      obtain ⟨hoki, hei, hpi⟩ := hgo i oi (hget i oi ho)
      have hsorted : ((List.range ops.size).filter (fun i => !listed.getD i true)).Pairwise (· < ·) := List.Pairwise.filter _ List.pairwise_lt_range
      have hnodup : ((List.range ops.size).filter (fun i => !listed.getD i true)).Nodup := List.filter_sublist.nodup List.nodup_range
      rw [hsplit] at hr
      have hprelt : ∀ p ∈ pre, p < i := by
        intro p hp
        rw [hsplit, List.pairwise_append] at hsorted
        exact hsorted.2.2 p hp i (by simp)
      have hnanc : ∀ p ∈ pre, ((anc ops.toList).getD i 0).testBit p = true → False := by
        intro p hp h4
        have hl := anc_listed hc i oi ho (fun e he hb => ⟨hei e he hb, hedges e (by simpa using he) hb⟩) (fun j oj _ hoj e he hb => (hgo j oj (hget j oj hoj)).2.1 e he hb) p h4
        have hpm : p ∈ (List.range ops.size).filter (fun i => !listed.getD i true) := by rw [hsplit]; simp [hp]
        simp only [List.mem_filter, List.mem_range, Bool.not_eq_true'] at hpm
        have hlt2 : p < listed.size := by omega
        have e1 : listed.getD p true = listed[p] := by simp [hlt2]
        have e2 : listed.getD p false = listed[p] := by simp [hlt2]
        rw [e1] at hpm; rw [e2] at hl; rw [hpm.2] at hl; cases hl
      have hal : (anc ops.toList).length = ops.size := by rw [anc_len]; simp
      have hnb : ∀ p ∈ pre, (barrs ops.toList).getD p false = false := by
        intro p hp
        cases hbp : (barrs ops.toList).getD p false with
        | false => rfl
        | true => exact (hnanc p hp ((barr_bit hbp (by rw [hal]; exact hlt) (by have := hprelt p hp; omega)).2 (hprelt p hp))).elim
      have hpre : ∀ p ∈ pre, (barrs ops.toList).getD p false = false ∧ ∀ op, ops[p]? = some op → indep ops op oi = true ∧ okOp op.op = true := by
        intro p hp
        refine ⟨hnb p hp, fun op hop => ⟨?_, (hgo p op (hget p op hop)).1 (hnb p hp)⟩⟩
        rcases hpi p op (hprelt p hp) (hget p op hop) with h4 | h4
        · exact (hnanc p hp h4).elim
        · exact h4
      have step : ∀ {K : Act → World → Prop}, (∀ g' st' a' w', Rel w0 S0 O g0 g' st' a' w' → runB cf ops (barrs ops.toList) k (pre ++ post) st' = some r → K a' w') → wpOp P ops Q i K a w := by
        intro K hK
        cases hbi : (barrs ops.toList).getD i false with
        | false =>
          obtain ⟨st1, hs1, hr1⟩ := runB_take ho hbi (hoki hbi) pre hr hpre
          exact gstep_wp cx hpc ho h hs1 (fun g' a' w' h' => hK g' st1 a' w' h' hr1)
        | true =>
          have hnil : pre = [] := by
            cases pre with
            | nil => rfl
            | cons p q => exact (hnanc p (by simp) ((barr_bit hbi (j := p) (by rw [hal]; have := hprelt p (by simp); omega) (by have := hprelt p (by simp); omega)).1 (hprelt p (by simp)))).elim
          subst hnil
          exact bstep_wp cx hpc ho hbi h (by simpa using hr) (fun g' st' a' w' h' hr' => hK g' st' a' w' h' (by simpa using hr'))
      refine step (fun g' st1 a' w' h' hr1 => ?_)
      have hilt : i < listed.size := by omega
      have hset : ∀ (j : Nat) (d : Bool), (listed.setIfInBounds i true).getD j d = if j = i then true else listed.getD j d := by
        intro j d
        by_cases hj : j = i
        · subst hj; rw [if_pos rfl]; simp [hilt]
        · rw [if_neg hj]; exact getD_set_ne d (fun e => hj e.symm)
      have hrem2 : (List.range ops.size).filter (fun j => !(listed.setIfInBounds i true).getD j true) = pre ++ post := by
        have e1 : (List.range ops.size).filter (fun j => !(listed.setIfInBounds i true).getD j true) = ((List.range ops.size).filter (fun j => !listed.getD j true)).filter (fun j => decide (j ≠ i)) := by
          rw [List.filter_filter]
          congr 1; funext j
          rw [hset]
          by_cases hj : j = i
          · subst hj; simp
          · simp [hj]
        rw [e1, hsplit, List.filter_append, List.filter_cons]
        have hni : i ∉ pre ∧ i ∉ post := by
          rw [hsplit, List.nodup_append] at hnodup
          refine ⟨fun hp => ?_, fun hp => ?_⟩
          · exact hnodup.2.2 i hp i (by simp) rfl
          · exact (List.nodup_cons.1 hnodup.2.1).1 hp
        rw [if_neg (by simp)]
        rw [List.filter_eq_self.2 (fun j hj => by simp only [ne_eq, decide_eq_true_eq]; exact fun e => hni.1 (e ▸ hj)), List.filter_eq_self.2 (fun j hj => by simp only [ne_eq, decide_eq_true_eq]; exact fun e => hni.2 (e ▸ hj))]
      refine ih (listed.setIfInBounds i true) (by simpa using hls) (fun j o hj hl e he hb => ?_) (by rw [hrem2]; rw [hsplit] at hf; simp at hf ⊢; omega) h' (by rw [hrem2]; exact hr1)
      rw [hset] at hl ⊢
      by_cases hji : j = i
      · subst hji
        rw [ho] at hj; cases hj
        have := hedges e (by simpa using he) hb
        by_cases hei' : e.on = j
        · rw [if_pos hei']
        · rw [if_neg hei']; exact this
      · rw [if_neg hji] at hl
        by_cases hei' : e.on = i
        · rw [if_pos hei']
        · rw [if_neg hei']; exact hc j o hj hl e he hb

theorem region_draw {ops : Array Oper} {id : Nat} (hd : drawOk ops = true) {k : St → Option R} (h : Rel w0 S0 O g0 g st a w) (hr : runOpsB cf ops.toList ops.toList (barrs ops.toList) k st = some r)
    (hQ : ∀ g' st' a' w', Rel w0 S0 O g0 g' st' a' w' → k st' = some r → Q .normal a' w') : (Code.region id ops true).wp P Q a w := by
  have hrb := runOpsB_runB (cf := cf) ops (barrs ops.toList) k ops.toList 0 st rfl
  rw [List.drop_zero] at hrb
  rw [hrb] at hr
  refine wp_region_any cx.mix ?_
  have hall : (List.range ops.size).filter (fun i => !(Array.replicate ops.size false).getD i true) = List.range ops.size := by
    rw [List.filter_eq_self]
    intro i hi
    have : i < ops.size := by simpa using hi
    simp [this]
  have hm : RelM w0 S0 O g st.bx { w with drawn := w.drawn + 1 } :=
    ⟨h.m.os, h.m.tape, h.m.output, h.m.size, h.m.old, h.m.sub, h.m.new, h.m.mem, h.m.c, h.m.box, h.m.disj, h.m.low, h.m.sep⟩
  have h' : Rel w0 S0 O g0 g st a { w with drawn := w.drawn + 1 } := ⟨h.df, h.len, h.np, h.np0, h.pin, h.env, hm⟩
  refine region_any cx hpc hd hQ ops.size _ (by simp) (fun j o hj hl => ?_) (by rw [hall]; simp) h' ?_
  · exfalso
    have : j < ops.size := (Array.getElem?_eq_some_iff.1 hj).1
    simp [this] at hl
  · rw [hall, List.range_eq_range']; simpa using hr
end
end Vm
