/- Vm, part O: a statement whose order is open: whatever order the machine takes, it comes to the text's. -/
import Derived.Test.YthfjmmhigapkpaaWK
namespace Vm
open Go

section
variable {R : Type} {cf : Cfg}

theorem vopN_bind (N : Nat) (ops : List Oper) (o : Oper) (k : St → Option R) (st : St) : vopN cf N ops o k st = (vopN cf N ops o some st).bind k := by
  unfold vopN
  cases farOp o.op with
  | true =>
    simp only [cond_true]
    rw [vop_bind (cf := cf) o (fun s => k { s with bx := st.bx }), vop_bind (cf := cf) (R := St) o (fun s => some { s with bx := st.bx })]
    cases vop cf true o some { st with bx := st.bx.take N } <;> rfl
  | false =>
    simp only [cond_false]
    cases isCr ops o with
    | true =>
      simp only [cond_true]
      cases isEs cf o st && Nat.ble N st.bx.length with
      | true => exact vop_bind ..
      | false => rfl
    | false => exact vop_bind ..

noncomputable def gstep (cf : Cfg) (N : Nat) (ops : List Oper) (o : Oper) (st : St) : Option St :=
  match wantedV ops st o with
  | some true => vopN cf N ops o some st
  | some false => some (st.set o.dst (.tup []))
  | none => none

theorem split_id (st : St) (dst : Option Nat) (k : St → Option R) : split st dst k = k st := by
  unfold split
  simp only [getV_eq]
  cases dst with
  | none => rfl
  | some d =>
    simp only
    have key : ∀ b, st.env.getD d vu = vb b → st.set (some d) (vb b) = st := by
      intro b hb
      simp only [St.set, setV_eq]
      have : st.env.set d (vb b) = st.env := by
        apply List.ext_getElem?
        intro i
        rw [List.getElem?_set]
        split
        · rename_i e; subst e
          split
          · rename_i hlt
            rw [List.getD_eq_getElem?_getD, List.getElem?_eq_getElem hlt] at hb
            rw [List.getElem?_eq_getElem hlt]; simpa using hb.symm
          · rename_i hlt; rw [List.getElem?_eq_none (by omega)]
        · rfl
      rw [this]
    generalize he : st.env.getD d vu = e at key
    match e, key with
    | .t (.w (.d (.bool b))), key => cases b <;> simp only [cond_true, cond_false] <;> rw [key _ rfl]
    | .u, _ => rfl
    | .tup l, _ => rfl
    | .t (.agg l), _ => rfl
    | .t (.w .u), _ => rfl
    | .t (.w (.ptr b c)), _ => rfl
    | .t (.w (.arr b)), _ => rfl
    | .t (.w (.ea b i s f)), _ => rfl
    | .t (.w (.pv b i f)), _ => rfl
    | .t (.w (.es sz)), _ => rfl
    | .t (.w (.vw _ _ _ _ _)), _ => rfl
    | .t (.w (.mp _)), _ => rfl
    | .t (.w (.clo _ _)), _ => rfl
    | .t (.w (.d .nm)), _ => rfl
    | .t (.w (.d (.int k1 n1))), _ => rfl
    | .t (.w (.d (.str s))), _ => rfl
    | .t (.w (.d (.sl s q))), _ => rfl
    | .t (.w (.d (.fn f q))), _ => rfl
    | .t (.w (.d (.ifc t ag q))), _ => rfl
    | .t (.w (.d .ni)), _ => rfl
    | .t (.w (.d .nf)), _ => rfl
    | .t (.w (.d .np)), _ => rfl
    | .t (.w (.d (.er _ _ _))), _ => rfl
    | .t (.w (.d (.ip q))), _ => rfl

/-- a state that an operation and its guard can't tell apart -/
structure SameG (N : Nat) (ops : Array Oper) (o : Oper) (st st' : St) : Prop where
  env : ∀ t ∈ o.looksAt ops, st'.env[t]? = st.env[t]?
  far : farOp o.op = true → isRd o.op = true → st'.bx.take N = st.bx.take N
  near : farOp o.op = false → (isWr o.op || isRd o.op) = true → st'.bx = st.bx

theorem SameG.ev {N : Nat} {ops : Array Oper} {o : Oper} {st st' : St} (h : SameG N ops o st st') : ∀ x ∈ o.op.operands, st'.ev cf x = st.ev cf x := by
  intro x hx
  cases x with
  | tmp t =>
    have : t ∈ o.looksAt ops := by
      unfold Oper.looksAt
      rw [List.mem_append]; left
      rw [List.mem_filterMap]
      exact ⟨.tmp t, by simpa using hx, rfl⟩
    simp only [St.ev, getV_eq, List.getD_eq_getElem?_getD, h.env t this]
  | const v => rfl
  | func f => rfl
  | global g => rfl

theorem SameG.wanted {N : Nat} {ops : Array Oper} {o : Oper} {st st' : St} (h : SameG N ops o st st') : wantedV ops.toList st' o = wantedV ops.toList st o := by
  unfold wantedV
  cases hg : o.guard with
  | none => rfl
  | some jw =>
    obtain ⟨j, want⟩ := jw
    simp only
    have hops : ops.toList[j]? = ops[j]? := by simp
    rw [hops]
    cases hj : ops[j]? with
    | none => rfl
    | some gp =>
      simp only
      cases hd : gp.dst with
      | none => rfl
      | some d =>
        have : d ∈ o.looksAt ops := by
          unfold Oper.looksAt
          rw [List.mem_append]; right
          rw [hg]; simp [hj, hd]
        simp only [getO_eq, h.env d this]

theorem far_wr {op : Op} (h : farOp op = true) : isWr op = false := by
  cases hw : isWr op with
  | false => rfl
  | true =>
    unfold isWr at hw
    split at hw <;> first | (cases h; done) | cases hw

/-- what is appended to a slice without room makes at most a box behind the others -/
theorem cr_shape {o : Oper} {st s : St} (he : isEs cf o st = true) (h : vop cf true o some st = some s) : ∃ add, s.bx = st.bx ++ add := by
  unfold isEs at he
  split at he
  · rename_i t hop
    unfold vop at h; rw [hop] at h; simp only [vAlloc] at h
    split at h
    · simp only [St.zero, St.boxNew, Option.some.injEq] at h
      subst h
      cases o.dst <;> simp only [St.set, List.append_assoc] <;> exact ⟨_, rfl⟩
    · cases h
  · rename_i t x hop
    unfold vop at h; rw [hop] at h; simp only [vBox] at h
    split at h
    · simp only [St.boxNew, Option.some.injEq] at h
      subst h
      cases o.dst <;> exact ⟨_, rfl⟩
    · cases h
  · rename_i xs ts hop
    unfold vop at h; rw [hop] at h; simp only at h
    unfold vCall at h; simp only [vAppend] at h
    split at he
    · rename_i x r hxs
      split at h
      · rename_i t t2 x' y hts hxs'
        rw [hxs] at hxs'
        simp only [List.cons.injEq] at hxs'
        obtain ⟨rfl, _⟩ := hxs'
        split at h
        · split at h
          · rename_i heq _
            exfalso
            cases hn : isNilSlice x with
            | true =>
              rw [hn, cond_true] at heq
              split at heq <;> cases heq
            | false =>
              rw [hn, cond_false] at heq
              rw [hn, heq] at he
              simp at he
          · simp only [Bool.cond_eq_ite] at h
            split at h
            · unfold vAppendE at h; simp only [Bool.cond_eq_ite] at h
              split at h
              · split at h
                · simp only [Option.some.injEq] at h; subst h; exact ⟨[], by rw [List.append_nil]; cases o.dst <;> rfl⟩
                · simp only [Option.some.injEq] at h; subst h; exact ⟨_, by cases o.dst <;> rfl⟩
              · cases h
            · cases h
          · rename_i heq _
            exfalso
            cases hn : isNilSlice x with
            | true =>
              rw [hn, cond_true] at heq
              split at heq <;> cases heq
            | false =>
              rw [hn, cond_false] at heq
              rw [hn, heq] at he
              simp at he
          · cases h
        · cases h
      · cases h
    · cases he
  · cases he

noncomputable def GMoves (cf : Cfg) (N : Nat) (ops : Array Oper) (o : Oper) (st st1 : St) : Prop :=
  ∃ u : Upd, st1 = u.app o.dst st ∧ (u.bx.isSome = true → isWr o.op = true ∧ (isCr ops.toList o = true → N ≤ st.bx.length ∧ ∃ add, u.bx = some (st.bx ++ add))) ∧
    ∀ st', SameG N ops o st st' → gstep cf N ops.toList o st' = some (u.app o.dst st')

theorem isEs_same {N : Nat} {ops : Array Oper} {o : Oper} {st st' : St} (h : SameG N ops o st st') : isEs cf o st' = isEs cf o st := by
  unfold isEs
  split
  · rfl
  · rfl
  · rename_i xs ts hop
    split
    · rename_i x r hxs
      rw [h.ev (cf := cf) x (by rw [hop]; simp only [Op.operands, Call.operands, Array.mem_append]; right; rw [← Array.mem_toList_iff, hxs]; simp)]
    · rfl
  · rfl

theorem gmoves {N : Nat} {ops : Array Oper} {o : Oper} {st st1 : St} (hok : okOp o.op = true) (h : gstep cf N ops.toList o st = some st1) : GMoves cf N ops o st st1 := by
  unfold gstep at h
  cases hw : wantedV ops.toList st o with
  | none => rw [hw] at h; cases h
  | some b =>
    rw [hw] at h
    cases b with
    | true =>
      simp only at h
      unfold vopN at h
      cases hf : farOp o.op with
      | true =>
        rw [hf, cond_true, vop_bind] at h
        obtain ⟨s, hs, h⟩ := Option.bind_eq_some_iff.1 h
        simp only [Option.some.injEq] at h
        obtain ⟨u, h1, h2, h4⟩ := moves hok hs
        have hub : u.bx = none := by
          cases hb : u.bx with
          | none => rfl
          | some b => have := h2 (by rw [hb]; rfl); rw [far_wr hf] at this; cases this
        have fin : ∀ q : St, ({ u.app o.dst { q with bx := q.bx.take N } with bx := q.bx } : St) = u.app o.dst q := by
          intro q; unfold Upd.app; rw [hub]; cases o.dst <;> rfl
        refine ⟨u, by rw [← h, h1]; exact fin st, fun h => (by rw [hub] at h; cases h), fun st' hsg => ?_⟩
        unfold gstep vopN
        rw [hsg.wanted, hw]
        simp only [hf, cond_true]
        rw [vop_bind, h4 { st' with bx := st'.bx.take N } ⟨fun x hx => hsg.ev (cf := cf) x hx, fun hb => by rw [far_wr hf, Bool.false_or] at hb; exact hsg.far hf hb⟩]
        exact congrArg some (fin st')
      | false =>
        rw [hf, cond_false] at h
        have same : ∀ st', SameG N ops o st st' → Same cf o.op st st' := fun st' hs => ⟨fun x hx => hs.ev (cf := cf) x hx, hs.near hf⟩
        cases hc : isCr ops.toList o with
        | true =>
          rw [hc, cond_true] at h
          cases he : isEs cf o st && Nat.ble N st.bx.length with
          | false => rw [he] at h; cases h
          | true =>
            rw [he, cond_true] at h
            have he' := he
            rw [Bool.and_eq_true, Nat.ble_eq] at he
            obtain ⟨u, h1, h2, h4⟩ := moves hok h
            have hwr : isWr o.op = true := by
              unfold isCr at hc
              split at hc <;> first | (cases hc; done) | (rename_i hop; rw [hop]; rfl)
            refine ⟨u, h1, fun hb => ⟨h2 hb, fun _ => ⟨he.2, ?_⟩⟩, fun st' hs => ?_⟩
            · obtain ⟨add, ha⟩ := cr_shape he.1 h
              cases hub : u.bx with
              | none => rw [hub] at hb; cases hb
              | some b => exact ⟨add, by rw [h1] at ha; simp only [Upd.app, hub] at ha; rw [ha]⟩
            · unfold gstep vopN
              rw [hs.wanted, hw]
              simp only [hf, hc, cond_true, cond_false]
              rw [isEs_same hs, hs.near hf (by rw [hwr]; rfl), he', cond_true]
              exact h4 st' (same st' hs)
        | false =>
          rw [hc, cond_false] at h
          obtain ⟨u, h1, h2, h4⟩ := moves hok h
          refine ⟨u, h1, fun hb => ⟨h2 hb, fun h => (by rw [hc] at h; cases h)⟩, fun st' hs => ?_⟩
          unfold gstep vopN
          rw [hs.wanted, hw]
          simp only [hf, hc, cond_false]
          exact h4 st' (same st' hs)
    | false =>
      simp only [Option.some.injEq] at h
      exact ⟨⟨.tup [], none⟩, by rw [← h, set_app], by simp, fun st' hs => by unfold gstep; rw [hs.wanted, hw]; simp only; rw [set_app]⟩

theorem app_env (u : Upd) (dst : Option Nat) (st : St) (t : Nat) (h : dst ≠ some t) : (u.app dst st).env[t]? = st.env[t]? := by
  cases dst with
  | none => rfl
  | some d =>
    simp only [Upd.app, St.set, setV_eq]
    rw [List.getElem?_set_ne (fun e => h (by rw [e]))]

theorem appG_same {N : Nat} {ops : Array Oper} {x y : Oper} {u : Upd} {st : St} (hd : ∀ d, x.dst = some d → d ∉ y.looksAt ops)
    (hb : u.bx.isSome = true → isWr y.op = false ∧ (isRd y.op = true → farOp y.op = true ∧ N ≤ st.bx.length ∧ ∃ add, u.bx = some (st.bx ++ add))) :
    SameG N ops y st (u.app x.dst st) := by
  refine ⟨fun t ht => app_env u x.dst st t (fun e => hd t e ht), fun hf hr => ?_, fun hf hy => ?_⟩
  · cases hu : u.bx with
    | none => simp [Upd.app, hu]
    | some b =>
      obtain ⟨_, h2⟩ := hb (by rw [hu]; rfl)
      obtain ⟨_, hn, add, ha⟩ := h2 hr
      simp only [Upd.app, ha]
      exact List.take_append_of_le_length hn
  · cases hu : u.bx with
    | none => simp [Upd.app, hu]
    | some b =>
      obtain ⟨h1, h2⟩ := hb (by rw [hu]; rfl)
      rw [h1, Bool.false_or] at hy
      have := (h2 hy).1
      rw [hf] at this; cases this

theorem SameG.symm {N : Nat} {ops : Array Oper} {o : Oper} {st st' : St} (h : SameG N ops o st st') : SameG N ops o st' st :=
  ⟨fun t ht => (h.env t ht).symm, fun a b => (h.far a b).symm, fun a b => (h.near a b).symm⟩

theorem app_comm {u v : Upd} {d e : Option Nat} {st : St} (hde : ∀ x, d = some x → e ≠ some x) (hb : u.bx.isSome = true → v.bx = none) : u.app d (v.app e st) = v.app e (u.app d st) := by
  obtain ⟨uv, ub⟩ := u
  obtain ⟨vv, vb'⟩ := v
  have henv : ((Upd.mk uv ub).app d ((Upd.mk vv vb').app e st)).env = ((Upd.mk vv vb').app e ((Upd.mk uv ub).app d st)).env := by
    cases d with
    | none => cases e <;> rfl
    | some d =>
      cases e with
      | none => rfl
      | some e =>
        have : d ≠ e := fun he => hde d rfl (by rw [he])
        simp only [Upd.app, St.set, setV_eq]
        exact List.set_comm _ _ (fun h => this h.symm)
  have h1 : ((Upd.mk uv ub).app d ((Upd.mk vv vb').app e st)).bx = ((Upd.mk vv vb').app e ((Upd.mk uv ub).app d st)).bx := by
    cases ub with
    | none => rfl
    | some b => have := hb rfl; simp only at this; subst this; rfl
  have h2 : ((Upd.mk uv ub).app d ((Upd.mk vv vb').app e st)).np = ((Upd.mk vv vb').app e ((Upd.mk uv ub).app d st)).np := rfl
  generalize (Upd.mk uv ub).app d ((Upd.mk vv vb').app e st) = s1 at *
  generalize (Upd.mk vv vb').app e ((Upd.mk uv ub).app d st) = s2 at *
  cases s1; cases s2; simp only at henv h1 h2; subst henv h1 h2; rfl

/-- two operations that don't hang on each other change places -/
theorem gswap {N : Nat} {ops : Array Oper} {x y : Oper} {st st1 st2 : St} (hi : indep ops x y = true) (hx : okOp x.op = true) (hy : okOp y.op = true)
    (h1 : gstep cf N ops.toList x st = some st1) (h2 : gstep cf N ops.toList y st1 = some st2) : ∃ st1', gstep cf N ops.toList y st = some st1' ∧ gstep cf N ops.toList x st1' = some st2 := by
  unfold indep at hi
  simp only [Bool.and_eq_true, Bool.not_eq_true'] at hi
  obtain ⟨⟨hap, hs1⟩, hs2⟩ := hi
  obtain ⟨a1, a2, a3⟩ := Oper.apart_spec hap
  obtain ⟨u, e1, ub, ut⟩ := gmoves hx h1
  obtain ⟨v, e2, vb', vt⟩ := gmoves hy h2
  have hits_out : ∀ {a b : Oper}, hits ops a b = false → isWr a.op = true → isWr b.op = false ∧ (isRd b.op = true → farOp b.op = true ∧ isCr ops.toList a = true) := by
    intro a b hh ha
    unfold hits at hh
    rw [ha, Bool.true_and, Bool.or_eq_false_iff] at hh
    refine ⟨hh.1, fun hr => ?_⟩
    rw [hr, Bool.true_and, Bool.not_eq_false', Bool.and_eq_true] at hh
    exact hh.2
  have hbx : u.bx.isSome = true → isWr y.op = false ∧ (isRd y.op = true → farOp y.op = true ∧ N ≤ st.bx.length ∧ ∃ add, u.bx = some (st.bx ++ add)) := fun h => by
    obtain ⟨w1, w2⟩ := ub h
    obtain ⟨w3, w4⟩ := hits_out hs1 w1
    exact ⟨w3, fun hr => ⟨(w4 hr).1, w2 (w4 hr).2⟩⟩
  have hvn : u.bx.isSome = true → v.bx = none := fun h => by
    cases hv : v.bx with
    | none => rfl
    | some b => have := (vb' (by rw [hv]; rfl)).1; rw [(hbx h).1] at this; cases this
  subst e1
  have g1 := vt st (appG_same a1 hbx).symm
  have hby : v.bx.isSome = true → isWr x.op = false ∧ (isRd x.op = true → farOp x.op = true ∧ N ≤ st.bx.length ∧ ∃ add, v.bx = some (st.bx ++ add)) := fun h => by
    obtain ⟨w1, w2⟩ := vb' h
    obtain ⟨w3, w4⟩ := hits_out hs2 w1
    have hun : u.bx = none := by
      cases hu : u.bx with
      | none => rfl
      | some b => have := hvn (by rw [hu]; rfl); rw [this] at h; cases h
    have hub : (u.app x.dst st).bx = st.bx := by simp [Upd.app, hun]
    refine ⟨w3, fun hr => ⟨(w4 hr).1, ?_⟩⟩
    have := w2 (w4 hr).2
    rw [hub] at this; exact this
  have g2 := ut (v.app y.dst st) (appG_same a3 hby)
  refine ⟨_, g1, ?_⟩
  rw [g2, e2]
  rw [app_comm a2 hvn]

/-- operations by their numbers; those that stand between all others as they are -/
noncomputable def runB (cf : Cfg) (N : Nat) (ops : Array Oper) (bs : List Bool) (k : St → Option R) : List Nat → St → Option R
  | [], st => k st
  | i :: r, st =>
    (match ops[i]? with
     | some o =>
       bif bs.getD i false then
         (match wantedV ops.toList st o with
          | some true => vop cf false o (runB cf N ops bs k r) st
          | some false => runB cf N ops bs k r (st.set o.dst (.tup []))
          | none => none)
       else (gstep cf N ops.toList o st).bind (runB cf N ops bs k r)
     | none => none)

theorem runOpsB_runB (N : Nat) (ops : Array Oper) (bs : List Bool) (k : St → Option R) : ∀ (rest : List Oper) (i : Nat) (st : St), ops.toList.drop i = rest → runOpsB cf N ops.toList rest (bs.drop i) k st = runB cf N ops bs k (List.range' i rest.length) st := by
  intro rest
  induction rest with
  | nil => intro i st _; rfl
  | cons o q ih =>
    intro i st hd
    have hlt : i < ops.toList.length := by
      rcases Nat.lt_or_ge i ops.toList.length with h1 | h1
      · exact h1
      · rw [List.drop_eq_nil_of_le h1] at hd; cases hd
    have hdd := List.drop_eq_getElem_cons hlt
    rw [hd] at hdd
    injection hdd with ho hq'
    have hoi : ops[i]? = some o := by rw [ho]; simp
    have hb1 : (bs.drop i).headD false = bs.getD i false := by
      rw [List.headD_eq_head?_getD, List.head?_drop, List.getD_eq_getElem?_getD]
    have hb2 : (bs.drop i).tail = bs.drop (i + 1) := by simp
    have hk : (fun s => (bif isGuard ops.toList o.dst q then split s o.dst (runOpsB cf N ops.toList q (bs.drop (i + 1)) k) else runOpsB cf N ops.toList q (bs.drop (i + 1)) k s)) = runB cf N ops bs k (List.range' (i + 1) q.length) := by
      funext s
      have : (bif isGuard ops.toList o.dst q then split s o.dst (runOpsB cf N ops.toList q (bs.drop (i + 1)) k) else runOpsB cf N ops.toList q (bs.drop (i + 1)) k s) = runOpsB cf N ops.toList q (bs.drop (i + 1)) k s := by
        cases isGuard ops.toList o.dst q with
        | true => exact split_id _ _ _
        | false => rfl
      rw [this]
      exact ih (i + 1) s hq'.symm
    simp only [List.length_cons, List.range'_succ, runB, hoi, runOpsB, gstep, hb1, hb2, hk]
    cases hbi : bs.getD i false with
    | true =>
      simp only [cond_true]
      cases hw : wantedV ops.toList st o with
      | none => rfl
      | some b =>
        cases b with
        | false => exact ih (i + 1) _ hq'.symm
        | true => rfl
    | false =>
      simp only [cond_false]
      cases hw : wantedV ops.toList st o with
      | none => rfl
      | some b =>
        cases b with
        | false => simp only [Option.bind_some]; exact ih (i + 1) _ hq'.symm
        | true => simp only; rw [vopN_bind]

/-- an operation is taken ahead of others -/
theorem runB_take {N : Nat} {ops : Array Oper} {bs : List Bool} {k : St → Option R} {r : R} {i : Nat} {oi : Oper} (hoi : ops[i]? = some oi) (hb : bs.getD i false = false) (hok : okOp oi.op = true) : ∀ (pre : List Nat) {post : List Nat} {st : St}, runB cf N ops bs k (pre ++ i :: post) st = some r →
    (∀ p ∈ pre, bs.getD p false = false ∧ ∀ op, ops[p]? = some op → indep ops op oi = true ∧ okOp op.op = true) → ∃ st1, gstep cf N ops.toList oi st = some st1 ∧ runB cf N ops bs k (pre ++ post) st1 = some r := by
  intro pre
  induction pre with
  | nil =>
    intro post st h _
    simp only [List.nil_append, runB, hoi, hb, cond_false] at h ⊢
    cases hg : gstep cf N ops.toList oi st with
    | none => rw [hg] at h; cases h
    | some s => rw [hg] at h; exact ⟨s, rfl, h⟩
  | cons p q ih =>
    intro post st h hp
    have hbp := (hp p (by simp)).1
    simp only [List.cons_append, runB] at h ⊢
    cases hop : ops[p]? with
    | none => rw [hop] at h; cases h
    | some op =>
      rw [hop] at h; simp only [hbp, cond_false] at h
      cases hg : gstep cf N ops.toList op st with
      | none => rw [hg] at h; cases h
      | some s1 =>
        rw [hg] at h; simp only [Option.bind_some] at h
        obtain ⟨s2, hs2, hr⟩ := ih h (fun p' hp' => hp p' (by simp [hp']))
        obtain ⟨h3, h4⟩ := (hp p (by simp)).2 op hop
        obtain ⟨s1', hs1', hs3⟩ := gswap h3 h4 hok hg hs2
        exact ⟨s1', hs1', by simp only [hbp, cond_false, hs3, Option.bind_some]; exact hr⟩
end

/-! which operations stand before one -/

theorem ancGo_get : ∀ (l : List Oper) (acc : List Nat) (j : Nat), j < acc.length → (ancGo l acc)[j]? = acc[j]? := by
  intro l
  induction l with
  | nil => intro acc j _; rfl
  | cons o r ih =>
    intro acc j hj
    simp only [ancGo]
    rw [ih (acc ++ [mask o acc]) j (by simp; omega), List.getElem?_append_left hj]

theorem ancGo_at : ∀ (l : List Oper) (acc : List Nat) (j : Nat) (o : Oper), l[j]? = some o → ∃ acc', acc'.length = acc.length + j ∧ (ancGo l acc)[acc.length + j]? = some (mask o acc') ∧ (∀ i, i < acc.length + j → acc'[i]? = (ancGo l acc)[i]?) := by
  intro l
  induction l with
  | nil => intro acc j o h; simp at h
  | cons x r ih =>
    intro acc j o h
    cases j with
    | zero =>
      simp at h; subst h
      refine ⟨acc, rfl, ?_, fun i hi => ?_⟩
      · simp only [ancGo, Nat.add_zero]
        rw [ancGo_get _ _ _ (by simp)]
        simp
      · simp only [ancGo]
        rw [ancGo_get _ _ _ (by simp; omega), List.getElem?_append_left (by simpa using hi)]
    | succ j =>
      obtain ⟨acc', h1, h2, h3⟩ := ih (acc ++ [mask x acc]) j o (by simpa using h)
      have hl : (acc ++ [mask x acc]).length + j = acc.length + (j + 1) := by simp; omega
      rw [hl] at h1 h2 h3
      exact ⟨acc', h1, h2, h3⟩

theorem mask_bit {acc : List Nat} {b : Nat} : ∀ (es : List Edge) (m0 : Nat), (es.foldl (fun m e => bif Region.binds .any e then Nat.lor m (Nat.lor (2 ^ e.on) (acc.getD e.on 0)) else m) m0).testBit b = true →
    m0.testBit b = true ∨ ∃ e ∈ es, Region.binds .any e = true ∧ (e.on = b ∨ (acc.getD e.on 0).testBit b = true) := by
  intro es
  induction es with
  | nil => intro m0 h; exact .inl h
  | cons e r ih =>
    intro m0 h
    simp only [List.foldl_cons] at h
    rcases ih _ h with h1 | ⟨e', he', hb, hh⟩
    · cases hb : Region.binds .any e with
      | false => rw [hb] at h1; exact .inl h1
      | true =>
        rw [hb, cond_true] at h1
        have : (m0 ||| (2 ^ e.on ||| acc.getD e.on 0)).testBit b = true := h1
        rw [Nat.testBit_or, Nat.testBit_or] at this
        simp only [Bool.or_eq_true] at this
        rcases this with h2 | h2 | h2
        · exact .inl h2
        · right
          refine ⟨e, by simp, hb, .inl ?_⟩
          rw [Nat.testBit_two_pow] at h2
          simpa using h2
        · exact .inr ⟨e, by simp, hb, .inr h2⟩
    · exact .inr ⟨e', by simp [he'], hb, hh⟩

/-- listed operations are closed: what stands before one of them is listed -/
noncomputable def Closed (ops : Array Oper) (listed : Array Bool) : Prop :=
  ∀ (j : Nat) o, ops[j]? = some o → listed.getD j false = true → ∀ e ∈ o.after.toList, Region.binds .any e = true → listed.getD e.on false = true

theorem anc_listed {ops : Array Oper} {listed : Array Bool} (hc : Closed ops listed) : ∀ (j : Nat) (o : Oper), ops[j]? = some o → (∀ e ∈ o.after.toList, Region.binds .any e = true → e.on < j ∧ listed.getD e.on false = true) →
    (∀ (i : Nat) oi, i < j → ops[i]? = some oi → ∀ e ∈ oi.after.toList, Region.binds .any e = true → e.on < i) → ∀ b, ((anc ops.toList).getD j 0).testBit b = true → listed.getD b false = true := by
  intro j
  induction j using Nat.strongRecOn with
  | _ j ih =>
    intro o ho hd hlt b hb
    obtain ⟨acc', h1, h2, h3⟩ := ancGo_at ops.toList [] j o (by simpa using ho)
    simp only [List.length_nil, Nat.zero_add] at h1 h2 h3
    have hg : (anc ops.toList).getD j 0 = mask o acc' := by unfold anc; rw [List.getD_eq_getElem?_getD, h2]; rfl
    rw [hg] at hb
    rcases mask_bit _ _ hb with h4 | ⟨e, he, hbn, h4⟩
    · simp at h4
    · obtain ⟨hej, hel⟩ := hd e he hbn
      rcases h4 with h4 | h4
      · rw [← h4]; exact hel
      · have : acc'.getD e.on 0 = (anc ops.toList).getD e.on 0 := by
          unfold anc; rw [List.getD_eq_getElem?_getD, List.getD_eq_getElem?_getD, h3 e.on hej]
        rw [this] at h4
        have hlen : j < ops.size := (Array.getElem?_eq_some_iff.1 ho).1
        have hoe : ops[e.on]? = some (ops[e.on]'(by omega)) := Array.getElem?_eq_getElem _
        exact ih e.on hej _ hoe (fun e' he' hb' => ⟨hlt e.on _ hej hoe e' he' hb', hc e.on _ hoe hel e' he' hb'⟩) (fun i oi hi hoi => hlt i oi (by omega) hoi) b h4

theorem pairOk_get {ops : Array Oper} {m : Nat} {y : Oper} : ∀ (l : List Oper) (i0 : Nat), pairOk ops m y i0 l = true → ∀ (i : Nat) x, l[i]? = some x → m.testBit (i0 + i) = true ∨ indep ops x y = true := by
  intro l
  induction l with
  | nil => intro i0 _ i x h; simp at h
  | cons z r ih =>
    intro i0 h i x hx
    simp only [pairOk, Bool.and_eq_true, Bool.or_eq_true] at h
    cases i with
    | zero => simp at hx; subst hx; simpa using h.1
    | succ i => have := ih (i0 + 1) h.2 i x (by simpa using hx); rwa [show i0 + 1 + i = i0 + (i + 1) by omega] at this

theorem hasAll_bit {m : Nat} : ∀ {n i : Nat}, hasAll m n = true → i < n → m.testBit i = true := by
  intro n
  induction n with
  | zero => intro i _ h; omega
  | succ n ih =>
    intro i h hi
    simp only [hasAll, Bool.and_eq_true] at h
    by_cases e : i = n
    · subst e; exact h.1
    · exact ih h.2 (by omega)

theorem barrs_at {ops : List Oper} {i : Nat} (h : (barrs ops).getD i false = true) : i < (anc ops).length ∧ barr (anc ops) i = true := by
  unfold barrs at h
  rw [List.getD_eq_getElem?_getD, List.getElem?_map] at h
  by_cases hi : i < (anc ops).length
  · rw [List.getElem?_range hi] at h; exact ⟨hi, h⟩
  · rw [List.getElem?_eq_none (by simpa using hi)] at h; cases h

/-- one that stands between all others -/
theorem barr_bit {ops : List Oper} {i j : Nat} (h : (barrs ops).getD i false = true) (hj : j < (anc ops).length) (_ : j ≠ i) : (j < i → ((anc ops).getD i 0).testBit j = true) ∧ (i < j → ((anc ops).getD j 0).testBit i = true) := by
  obtain ⟨hi, hb⟩ := barrs_at h
  unfold barr at hb
  rw [Bool.and_eq_true] at hb
  refine ⟨fun hlt => hasAll_bit hb.1 hlt, fun hlt => ?_⟩
  have := List.all_eq_true.1 hb.2 ((anc ops).getD j 0) ?_
  · exact this
  · rw [List.getD_eq_getElem?_getD, List.getElem?_eq_getElem hj]
    simp only [Option.getD_some]
    rw [List.mem_drop_iff_getElem]
    exact ⟨j - (i + 1), by omega, by congr 1; omega⟩

theorem ancGo_len : ∀ (l : List Oper) (acc : List Nat), (ancGo l acc).length = acc.length + l.length := by
  intro l
  induction l with
  | nil => intro acc; rfl
  | cons o r ih => intro acc; simp only [ancGo, ih, List.length_append, List.length_cons, List.length_nil]; omega
theorem anc_len (l : List Oper) : (anc l).length = l.length := by unfold anc; rw [ancGo_len]; simp

theorem drawGo_get {ops : Array Oper} {as : List Nat} {bs : List Bool} : ∀ (l pre : List Oper) (j0 : Nat), pre.length = j0 → drawGo ops as bs pre j0 l = true → ∀ (j : Nat) y, l[j]? = some y →
    (bs.getD (j0 + j) false = false → okOp y.op = true) ∧ (∀ e ∈ y.after.toList, Region.binds .any e = true → e.on < j0 + j) ∧ (∀ (i : Nat) x, i < j0 + j → (pre ++ l)[i]? = some x → (as.getD (j0 + j) 0).testBit i = true ∨ indep ops x y = true) := by
  intro l
  induction l with
  | nil => intro pre j0 _ _ j y h; simp at h
  | cons z r ih =>
    intro pre j0 hp h j y hy
    simp only [drawGo, Bool.and_eq_true] at h
    obtain ⟨⟨⟨h1, h2⟩, h3⟩, h4⟩ := h
    cases j with
    | zero =>
      simp at hy; subst hy
      refine ⟨fun hbs => by rw [Nat.add_zero] at hbs; rw [hbs] at h1; simpa using h1, fun e he hb => ?_, fun i x hi hx => ?_⟩
      · have := List.all_eq_true.1 h2 e he
        rw [hb] at this; simpa [Nat.blt_eq] using this
      · rw [List.getElem?_append_left (by omega)] at hx
        have := pairOk_get pre 0 h3 i x hx
        simpa using this
    | succ j =>
      obtain ⟨h5, h6, h7⟩ := ih (pre ++ [z]) (j0 + 1) (by simp [hp]) h4 j y (by simpa using hy)
      have e1 : j0 + 1 + j = j0 + (j + 1) := by omega
      rw [e1] at h5 h6 h7
      exact ⟨h5, h6, fun i x hi hx => h7 i x hi (by simpa using hx)⟩

section
variable {cf : Cfg} {R : Type}
theorem memB_iff {n : Nat} : ∀ {l : List Nat}, memB n l = true ↔ n ∈ l := by
  intro l
  induction l with
  | nil => simp [memB]
  | cons x r ih => simp only [memB, Bool.or_eq_true, List.mem_cons, ih, Nat.beq_eq]; exact ⟨fun h => h.imp Eq.symm id, fun h => h.imp Eq.symm id⟩
theorem prw_pairwise {f : Nat → Nat} : ∀ {l : List Nat}, prw f l = true → l.Pairwise (fun x y => f x < f y) := by
  intro l
  induction l with
  | nil => intro _; exact .nil
  | cons x r ih =>
    intro h
    simp only [prw, Bool.and_eq_true, List.all_eq_true, Nat.blt_eq] at h
    exact .cons h.1 (ih h.2)
theorem both_some {R : Type} {a b : Option R} {r : R} (h : both a b = some r) : a = some r ∧ b = some r := by
  unfold both at h
  split at h
  · rename_i e; exact ⟨h, e ▸ h⟩
  · cases h
theorem both_self {R : Type} (a : Option R) : both a a = a := by unfold both; simp
theorem dup_eq {R : Type} (n : Nat) (a : Option R) : dup (n + 1) a = a := by
  induction n with
  | zero => rfl
  | succ n ih =>
    have : dup (n + 1 + 1) a = both a (dup (n + 1) a) := rfl
    rw [this, ih, both_self]
theorem bothL_some {R : Type} {r : R} : ∀ {l : List (Option R)}, bothL l = some r → ∀ a ∈ l, a = some r
  | [], _, a, ha => by cases ha
  | [x], h, a, ha => by simp at ha; subst ha; exact h
  | x :: y :: q, h, a, ha => by
    obtain ⟨h1, h2⟩ := both_some (a := x) (b := bothL (y :: q)) h
    rcases List.mem_cons.1 ha with e | e
    · rw [e]; exact h1
    · exact bothL_some h2 a e
theorem hasPr_iff {a b : Nat} : ∀ {l : List (Nat × Nat)}, hasPr a b l = true ↔ (a, b) ∈ l := by
  intro l
  induction l with
  | nil => simp [hasPr]
  | cons q r ih =>
    simp only [hasPr, Bool.or_eq_true, Bool.and_eq_true, Nat.beq_eq, List.mem_cons, ih]
    refine or_congr ?_ Iff.rfl
    obtain ⟨c, d⟩ := q
    simp only [Prod.mk.injEq]
    exact ⟨fun h => ⟨h.1.symm, h.2.symm⟩, fun h => ⟨h.1.symm, h.2.symm⟩⟩
/-- each choice of signs is met -/
theorem signs_mem {σ : Nat × Nat → Bool} : ∀ {l : List (Nat × Nat)}, (l.map fun q => bif σ q then q else (q.2, q.1)) ∈ signs l := by
  intro l
  induction l with
  | nil => simp [signs]
  | cons q r ih =>
    simp only [List.map_cons, signs, List.mem_append, List.mem_map]
    cases σ q with
    | true => exact .inl ⟨_, ih, rfl⟩
    | false => exact .inr ⟨_, ih, rfl⟩

/-- one step; calls as they are -/
noncomputable def gstepL (cf : Cfg) (N : Nat) (ops : List Oper) (o : Oper) (st : St) : Option St :=
  bif isFn o.op then
    (match wantedV ops st o with
     | some true => vop cf false o some st
     | some false => some (st.set o.dst (.tup []))
     | none => none)
  else gstep cf N ops o st
noncomputable def runLB (cf : Cfg) (N : Nat) (ops : Array Oper) (k : St → Option R) : List Nat → St → Option R
  | [], st => k st
  | i :: r, st => (match ops[i]? with | some o => (gstepL cf N ops.toList o st).bind (runLB cf N ops k r) | none => none)

section
variable (hnat : ∀ {R : Type} f args bxs (k : V → Bx → Option R), cf.pc f args bxs k = (cf.pc f args bxs fun v b => some (v, b)).bind fun p => k p.1 p.2)
include hnat
theorem vop_fn_bind {o : Oper} (hf : isFn o.op = true) (k : St → Option R) (st : St) : vop cf false o k st = (vop cf false o some st).bind k := by
  unfold isFn at hf
  split at hf
  · rename_i f args ts hop
    unfold vop; rw [hop]; simp only; unfold vCall callWith
    simp only [Bool.cond_eq_ite, Bool.false_eq_true, if_false]
    split
    · split
      · rw [hnat]
        rw [hnat (R := St)]
        rename_i id caps vs bx1 _ _ _
        cases cf.pc id (renVs (reachAll bx1 [] (vsNames (vs ++ caps.map vc))) (vs ++ caps.map vc)) (renBx (reachAll bx1 [] (vsNames (vs ++ caps.map vc))) bx1) (fun v b => some (v, b)) with
        | none => rfl
        | some p =>
          simp only [Option.bind_some]
          split <;> rfl
      · rfl
    · split
      · rw [hnat]
        rw [hnat (R := St)]
        rename_i id bs vs bx1 _ _ _
        cases cf.pc id (renVs (reachAll bx1 [] (vsNames (vs ++ bs.map fun b => V.t (.w (.ptr b 0))))) (vs ++ bs.map fun b => V.t (.w (.ptr b 0)))) (renBx (reachAll bx1 [] (vsNames (vs ++ bs.map fun b => V.t (.w (.ptr b 0))))) bx1) (fun v b => some (v, b)) with
        | none => rfl
        | some p =>
          simp only [Option.bind_some]
          split <;> rfl
      · rfl
    · rfl
  · cases hf
theorem runOpsL_perm (N : Nat) (ops : Array Oper) (k : St → Option R) : ∀ (L : List Nat) (st : St), (∀ x ∈ L, x < ops.size) → runOpsL cf N ops.toList (permOps ops L) k st = runLB cf N ops k L st := by
  intro L
  induction L with
  | nil => intro st _; rfl
  | cons x q ih =>
    intro st hL
    have hx : ops[x]? = some (ops[x]'(hL x (by simp))) := Array.getElem?_eq_getElem _
    generalize ops[x]'(hL x (by simp)) = o at hx
    have hq := fun st => ih st (fun y hy => hL y (by simp [hy]))
    have e1 : permOps ops (x :: q) = o :: permOps ops q := by simp [permOps, hx]
    have hk : (fun s => (bif isGuard ops.toList o.dst (permOps ops q) then split s o.dst (runOpsL cf N ops.toList (permOps ops q) k) else runOpsL cf N ops.toList (permOps ops q) k s)) = runLB cf N ops k q := by
      funext s
      have : (bif isGuard ops.toList o.dst (permOps ops q) then split s o.dst (runOpsL cf N ops.toList (permOps ops q) k) else runOpsL cf N ops.toList (permOps ops q) k s) = runOpsL cf N ops.toList (permOps ops q) k s := by
        cases isGuard ops.toList o.dst (permOps ops q) with
        | true => exact split_id _ _ _
        | false => rfl
      rw [this]
      exact hq s
    rw [e1]
    simp only [runOpsL, runLB, hx, gstepL, gstep, hk]
    cases hbi : isFn o.op with
    | true =>
      simp only [cond_true]
      cases hw : wantedV ops.toList st o with
      | none => rfl
      | some b =>
        cases b with
        | false => exact hq _
        | true => simp only; exact vop_fn_bind hnat hbi _ _
    | false =>
      simp only [cond_false]
      cases hw : wantedV ops.toList st o with
      | none => rfl
      | some b =>
        cases b with
        | false => simp only [Option.bind_some]; exact hq _
        | true => simp only; rw [vopN_bind]
end

/-- a state that an operation and its guard can't tell apart: its boxes are the same if it touches any -/
structure SameT (ops : Array Oper) (o : Oper) (st st' : St) : Prop where
  env : ∀ t ∈ o.looksAt ops, st'.env[t]? = st.env[t]?
  bx : touch o.op = true → st'.bx = st.bx
theorem SameT.g {N : Nat} {ops : Array Oper} {o : Oper} {st st' : St} (h : SameT ops o st st') : SameG N ops o st st' :=
  ⟨h.env, fun _ hr => by rw [h.bx (by unfold touch; rw [hr]; rfl)], fun _ hr => h.bx (by unfold touch; rw [Bool.or_comm]; exact hr)⟩
section
variable (hnat : ∀ {R : Type} f args bxs (k : V → Bx → Option R), cf.pc f args bxs k = (cf.pc f args bxs fun v b => some (v, b)).bind fun p => k p.1 p.2)
include hnat
theorem gmovesL {N : Nat} {ops : Array Oper} {o : Oper} {st st1 : St} (hok : okOp o.op = true) (h : gstepL cf N ops.toList o st = some st1) :
    ∃ u : Upd, st1 = u.app o.dst st ∧ (u.bx.isSome = true → touch o.op = true) ∧ ∀ st', SameT ops o st st' → gstepL cf N ops.toList o st' = some (u.app o.dst st') := by
  unfold gstepL at h
  cases hf : isFn o.op with
  | false =>
    rw [hf, cond_false] at h
    obtain ⟨u, h1, h2, h3⟩ := gmoves hok h
    exact ⟨u, h1, fun hb => by unfold touch; rw [(h2 hb).1]; simp, fun st' hs => by unfold gstepL; rw [hf, cond_false]; exact h3 st' hs.g⟩
  | true =>
    rw [hf, cond_true] at h
    have htouch : touch o.op = true := by
      unfold isFn at hf
      split at hf
      · rename_i hop; rw [hop]; rfl
      · cases hf
    cases hw : wantedV ops.toList st o with
    | none => rw [hw] at h; cases h
    | some b =>
      rw [hw] at h
      cases b with
      | false =>
        simp only [Option.some.injEq] at h
        exact ⟨⟨.tup [], none⟩, by rw [← h, set_app], by simp, fun st' hs => by unfold gstepL; rw [hf, cond_true, (hs.g (N := N)).wanted, hw]; simp only; rw [set_app]⟩
      | true =>
        simp only at h
        have hcall : ∃ c f, o.op = .call c ∧ c.callee = .value f := by
          unfold isFn at hf
          split at hf
          · rename_i f args ts hop; exact ⟨_, f, hop, rfl⟩
          · cases hf
        obtain ⟨c, f, ho, hcl⟩ := hcall
        obtain ⟨u, h1, h2⟩ := moves_callF hnat ho hcl h
        refine ⟨u, h1, fun _ => htouch, fun st' hs => ?_⟩
        unfold gstepL
        rw [hf, cond_true, (hs.g (N := N)).wanted, hw]
        exact h2 st' ⟨fun x hx => (hs.g (N := N)).ev (cf := cf) x hx, fun _ => hs.bx htouch⟩
theorem gswapL {N : Nat} {ops : Array Oper} {x y : Oper} {st st1 st2 : St} (hi : indepL ops x y = true) (hx : okOp x.op = true) (hy : okOp y.op = true)
    (h1 : gstepL cf N ops.toList x st = some st1) (h2 : gstepL cf N ops.toList y st1 = some st2) : ∃ st1', gstepL cf N ops.toList y st = some st1' ∧ gstepL cf N ops.toList x st1' = some st2 := by
  unfold indepL at hi
  cases hfn : isFn x.op || isFn y.op with
  | false =>
    rw [hfn, cond_false] at hi
    rw [Bool.or_eq_false_iff] at hfn
    have ex : ∀ st, gstepL cf N ops.toList x st = gstep cf N ops.toList x st := fun st => by unfold gstepL; rw [hfn.1]; rfl
    have ey : ∀ st, gstepL cf N ops.toList y st = gstep cf N ops.toList y st := fun st => by unfold gstepL; rw [hfn.2]; rfl
    rw [ex] at h1; rw [ey] at h2
    obtain ⟨s, g1, g2⟩ := gswap hi hx hy h1 h2
    exact ⟨s, by rw [ey]; exact g1, by rw [ex]; exact g2⟩
  | true =>
    rw [hfn, cond_true, Bool.and_eq_true, Bool.not_eq_true'] at hi
    obtain ⟨hap, ht⟩ := hi
    obtain ⟨a1, a2, a3⟩ := Oper.apart_spec hap
    obtain ⟨u, e1, ub, ut⟩ := gmovesL hnat hx h1
    obtain ⟨v, e2, vb', vt⟩ := gmovesL hnat hy h2
    have hn : touch x.op = true → touch y.op = false := fun h => by rw [h, Bool.true_and] at ht; exact ht
    have hvn : u.bx.isSome = true → v.bx = none := fun h => by
      cases hv : v.bx with
      | none => rfl
      | some b => have := vb' (by rw [hv]; rfl); rw [hn (ub h)] at this; cases this
    have s1 : ∀ st, SameT ops y st (u.app x.dst st) := fun st => ⟨fun t ht' => app_env u x.dst st t (fun e => a1 t e ht'), fun hy' => by
      cases hu : u.bx with
      | none => simp [Upd.app, hu]
      | some b => have := hn (ub (by rw [hu]; rfl)); rw [this] at hy'; cases hy'⟩
    have s2 : ∀ st, SameT ops x st (v.app y.dst st) := fun st => ⟨fun t ht' => app_env v y.dst st t (fun e => a3 t e ht'), fun hx' => by
      cases hv : v.bx with
      | none => simp [Upd.app, hv]
      | some b => have := vb' (by rw [hv]; rfl); rw [hn hx'] at this; cases this⟩
    subst e1
    have g1 := vt st ⟨fun t ht' => ((s1 st).env t ht').symm, fun h => ((s1 st).bx h).symm⟩
    have g2 := ut (v.app y.dst st) (s2 st)
    refine ⟨_, g1, ?_⟩
    rw [g2, e2]
    rw [app_comm a2 hvn]
/-- an operation is taken ahead of others -/
theorem runLB_take {N : Nat} {ops : Array Oper} {k : St → Option R} {r : R} {i : Nat} {oi : Oper} (hoi : ops[i]? = some oi) (hok : okOp oi.op = true) : ∀ (pre : List Nat) {post : List Nat} {st : St}, runLB cf N ops k (pre ++ i :: post) st = some r →
    (∀ p ∈ pre, ∀ op, ops[p]? = some op → indepL ops op oi = true ∧ okOp op.op = true) → ∃ st1, gstepL cf N ops.toList oi st = some st1 ∧ runLB cf N ops k (pre ++ post) st1 = some r := by
  intro pre
  induction pre with
  | nil =>
    intro post st h _
    simp only [List.nil_append, runLB, hoi] at h ⊢
    cases hg : gstepL cf N ops.toList oi st with
    | none => rw [hg] at h; cases h
    | some s => rw [hg] at h; exact ⟨s, rfl, h⟩
  | cons p q ih =>
    intro post st h hp
    simp only [List.cons_append, runLB] at h ⊢
    cases hop : ops[p]? with
    | none => rw [hop] at h; cases h
    | some op =>
      rw [hop] at h; simp only at h
      cases hg : gstepL cf N ops.toList op st with
      | none => rw [hg] at h; cases h
      | some s1 =>
        rw [hg] at h; simp only [Option.bind_some] at h
        obtain ⟨s2, hs2, hr⟩ := ih h (fun p' hp' => hp p' (by simp [hp']))
        obtain ⟨h3, h4⟩ := hp p (by simp) op hop
        obtain ⟨s1', hs1', hs3⟩ := gswapL hnat h3 h4 hok hg hs2
        exact ⟨s1', hs1', by simp only [hs3, Option.bind_some]; exact hr⟩
end

/-- an order of all operations that may be taken -/
structure Order (ops : Array Oper) (cps : List (Nat × Nat)) (L : List Nat) (pos : Nat → Nat) : Prop where
  pw : L.Pairwise (fun x y => pos x < pos y)
  all : ∀ x, x < ops.size → x ∈ L
  lt : ∀ x ∈ L, x < ops.size
  ok : ∀ x y, ops[x]? = some y → ([] : List Bool).getD x false = false ∧ okOp y.op = true
  edge : ∀ x y, ops[x]? = some y → ∀ e ∈ y.after.toList, Region.binds .any e = true → e.on < x ∧ pos e.on < pos x
  pair : ∀ p x q y, ops[p]? = some q → ops[x]? = some y → pos p < pos x → ((anc ops.toList).getD p 0).testBit x = false ∧ (((anc ops.toList).getD x 0).testBit p = true ∨ indepL ops q y = true ∨ (p, x) ∈ cps ∨ (x, p) ∈ cps)
theorem order_of {ops : Array Oper} {cps : List (Nat × Nat)} {L : List Nat} (h : ordOk ops (anc ops.toList) ([] : List Bool) cps L = true) : Order ops cps L (posOf L) := by
  unfold ordOk at h
  simp only [Bool.and_eq_true] at h
  obtain ⟨⟨h1, h2⟩, h3⟩ := h
  rw [List.all_eq_true] at h2 h3
  have hall : ∀ x, x < ops.size → x ∈ L := fun x hx => memB_iff.1 (h2 x (by simpa using hx))
  have hx3 : ∀ x y, ops[x]? = some y → (([] : List Bool).getD x false = false ∧ okOp y.op = true) ∧ (∀ e ∈ y.after.toList, Region.binds .any e = true → e.on < x ∧ posOf L e.on < posOf L x) ∧
      ∀ p ∈ L, posOf L p < posOf L x → ((anc ops.toList).getD p 0).testBit x = false ∧ (((anc ops.toList).getD x 0).testBit p = true ∨ (match ops[p]? with | some q => indepL ops q y | none => false) = true ∨ (p, x) ∈ cps ∨ (x, p) ∈ cps) := by
    intro x y hxy
    have hxl := hall x (Array.getElem?_eq_some_iff.1 hxy).1
    have := h3 x hxl
    rw [hxy] at this
    simp only [Bool.and_eq_true, Bool.or_eq_true, List.all_eq_true, Bool.not_eq_true', Nat.blt_eq, hasPr_iff] at this
    obtain ⟨⟨a1, a2⟩, a3⟩ := this
    refine ⟨a1, fun e he hb => ?_, fun p hp hlt => ?_⟩
    · rcases a2 e he with a4 | a4
      · rw [hb] at a4; cases a4
      · exact a4
    · rcases a3 p hp with a4 | ⟨a4, a5⟩
      · rw [← Bool.not_eq_true, Nat.blt_eq] at a4; exact absurd hlt a4
      · refine ⟨a4, ?_⟩
        rcases a5 with ((a5 | a5) | a5) | a5
        · exact .inl a5
        · exact .inr (.inl a5)
        · exact .inr (.inr (.inl a5))
        · exact .inr (.inr (.inr a5))
  refine ⟨prw_pairwise h1, hall, fun x hx => ?_, fun x y hxy => (hx3 x y hxy).1, fun x y hxy => (hx3 x y hxy).2.1, fun p x q y hp hx hlt => ?_⟩
  · have := h3 x hx
    cases hxy : ops[x]? with
    | none => rw [hxy] at this; cases this
    | some y => exact (Array.getElem?_eq_some_iff.1 hxy).1
  · obtain ⟨a, b⟩ := (hx3 x y hx).2.2 p (hall p (Array.getElem?_eq_some_iff.1 hp).1) hlt
    refine ⟨a, ?_⟩
    rw [hp] at b
    exact b

/-- the operations that are not listed, in an order -/
noncomputable def remL (listed : Array Bool) (L : List Nat) : List Nat := L.filter fun x => !listed.getD x true

/-- a pair as it stands -/
noncomputable def ori (σ : Nat × Nat → Bool) (q : Nat × Nat) : Nat × Nat := bif σ q then q else (q.2, q.1)
/-- the pairs of which neither is listed may stand so -/
noncomputable def Cons (as : List Nat) (cps : List (Nat × Nat)) (listed : Array Bool) (σ : Nat × Nat → Bool) : Prop :=
  ∀ q ∈ cps, ∀ p ∈ cps, listed.getD q.1 false = false → listed.getD q.2 false = false → listed.getD p.1 false = false → listed.getD p.2 false = false →
    leA as (ori σ q).2 (ori σ p).1 = true → leA as (ori σ p).2 (ori σ q).1 = true → False
theorem leA_iff {as : List Nat} {b c : Nat} : leA as b c = true ↔ b = c ∨ (as.getD c 0).testBit b = true := by
  unfold leA; rw [Bool.or_eq_true, Nat.beq_eq]
/-- an order's own signs -/
theorem cons_order {ops : Array Oper} {cps : List (Nat × Nat)} {L : List Nat} {pos : Nat → Nat} (hO : Order ops cps L pos) (hne : ∀ q ∈ cps, pos q.1 ≠ pos q.2) (hlt : ∀ q ∈ cps, q.1 < ops.size ∧ q.2 < ops.size) (listed : Array Bool) :
    Cons (anc ops.toList) cps listed (fun q => decide (pos q.1 < pos q.2)) := by
  intro q hq p hp _ _ _ _ h1 h2
  have hle : ∀ b c, b < ops.size → c < ops.size → leA (anc ops.toList) b c = true → pos b ≤ pos c := by
    intro b c hb hc h
    rcases leA_iff.1 h with rfl | h
    · exact Nat.le_refl _
    · refine Nat.le_of_not_lt fun hh => ?_
      have := (hO.pair c b _ _ (Array.getElem?_eq_getElem hc) (Array.getElem?_eq_getElem hb) hh).1
      rw [h] at this; cases this
  have hor : ∀ q ∈ cps, (ori (fun q => decide (pos q.1 < pos q.2)) q).1 < ops.size ∧ (ori (fun q => decide (pos q.1 < pos q.2)) q).2 < ops.size ∧ pos (ori (fun q => decide (pos q.1 < pos q.2)) q).1 < pos (ori (fun q => decide (pos q.1 < pos q.2)) q).2 := by
    intro q hq
    unfold ori
    by_cases h : pos q.1 < pos q.2
    · simp only [decide_eq_true h, cond_true]; exact ⟨(hlt q hq).1, (hlt q hq).2, h⟩
    · simp only [decide_eq_false h, cond_false]; have := hne q hq
      exact ⟨(hlt q hq).2, (hlt q hq).1, by omega⟩
  obtain ⟨a1, a2, a3⟩ := hor q hq
  obtain ⟨c1, c2, c3⟩ := hor p hp
  have := hle _ _ a2 c1 h1
  have := hle _ _ c2 a1 h2
  omega


end

section
variable {P : Program} {cf : Cfg} {S0 : Addr → Option Value} {w0 : World} {O : Nat → Prop} (cx : Ctx P cf S0 w0 O) (hpc : PcOk P cf)
variable {g0 g : G} {st : St} {a : Act} {w : World}
variable {R : Type} {r : R} {Q : Exit → Act → World → Prop}
include cx hpc

theorem vopN_rel {N : Nat} {ops : List Oper} {o : Oper} {k : St → Option R} {st : St} (hok : okOp o.op = true) (hv : vopN cf N ops o k st = some r) (h : Rel w0 S0 O g0 g st a w) {K : Act → World → Prop}
    (hK : ∀ g' st' a' w', Rel w0 S0 O g0 g' st' a' w' → k st' = some r → K a' w') : o.wp P a w K Q := by
  unfold vopN at hv
  cases hf : farOp o.op with
  | true =>
    rw [hf, cond_true, vop_bind] at hv
    obtain ⟨s, hs, hv⟩ := Option.bind_eq_some_iff.1 hv
    have hm := vop_more (st.bx.drop N) hok hf hs
    have e1 : ({ st with bx := st.bx.take N } : St).more (st.bx.drop N) = st := by simp [St.more]
    obtain ⟨u, h1, h2, _⟩ := moves hok hs
    have hub : u.bx = none := by
      cases hb : u.bx with
      | none => rfl
      | some b => have := h2 (by rw [hb]; rfl); rw [far_wr hf] at this; cases this
    have hsb : s.bx = st.bx.take N := by rw [h1]; simp [Upd.app, hub]
    have e2 : s.more (st.bx.drop N) = { s with bx := st.bx } := by simp [St.more, hsb]
    rw [e1, e2] at hm
    exact snd_vop cx hpc (k := some) hm h (fun g' st' a' w' h' hk => by cases hk; exact hK g' _ a' w' h' hv)
  | false =>
    rw [hf, cond_false] at hv
    cases hc : isCr ops o with
    | true =>
      rw [hc, cond_true] at hv
      cases he : isEs cf o st && Nat.ble N st.bx.length with
      | true => rw [he, cond_true] at hv; exact snd_vop cx hpc hv h hK
      | false => rw [he] at hv; cases hv
    | false => rw [hc, cond_false] at hv; exact snd_vop cx hpc hv h hK

/-- one operation, whoever comes next -/
theorem gstep_wp {N : Nat} {ops : Array Oper} {i : Nat} {o : Oper} (ho : ops[i]? = some o) (hok : okOp o.op = true) {st st1 : St} (h : Rel w0 S0 O g0 g st a w) (hg : gstep cf N ops.toList o st = some st1) {K : Act → World → Prop}
    (hK : ∀ g' a' w', Rel w0 S0 O g0 g' st1 a' w' → K a' w') : wpOp P ops Q i K a w := by
  unfold wpOp; simp only [ho]
  unfold gstep at hg
  cases hw : wantedV ops.toList st o with
  | none => rw [hw] at hg; cases hg
  | some b =>
    rw [hw] at hg
    have hwr := wanted_rel h hw
    rw [hwr]
    cases b with
    | true =>
      simp only at hg
      simp only [if_true]
      left
      exact vopN_rel cx hpc hok hg h (fun g' st' a' w' h' hk => by cases hk; exact hK g' a' w' h')
    | false =>
      simp only [Option.some.injEq] at hg
      subst hg
      simp only [Bool.false_eq_true, if_false]
      exact hK g _ _ (h.put (v := .tup []) ⟨[], rfl, .nil⟩)

/-- one that stands between all others -/
theorem bstep_wp {N : Nat} {ops : Array Oper} {bs : List Bool} {k : St → Option R} {i : Nat} {post : List Nat} {o : Oper} (ho : ops[i]? = some o) (hb : bs.getD i false = true) {st : St} (h : Rel w0 S0 O g0 g st a w) (hg : runB cf N ops bs k (i :: post) st = some r) {K : Act → World → Prop}
    (hK : ∀ g' st' a' w', Rel w0 S0 O g0 g' st' a' w' → runB cf N ops bs k post st' = some r → K a' w') : wpOp P ops Q i K a w := by
  unfold wpOp; simp only [ho]
  simp only [runB, ho, hb, cond_true] at hg
  cases hw : wantedV ops.toList st o with
  | none => rw [hw] at hg; cases hg
  | some b =>
    rw [hw] at hg
    have hwr := wanted_rel h hw
    rw [hwr]
    cases b with
    | true =>
      simp only at hg
      simp only [if_true]
      left
      exact snd_vop cx hpc hg h (fun g' st' a' w' h' hk => hK g' st' a' w' h' hk)
    | false =>
      simp only at hg
      simp only [Bool.false_eq_true, if_false]
      exact hK g _ _ _ (h.put (v := .tup []) ⟨[], rfl, .nil⟩) hg

theorem region_any {N : Nat} {ops : Array Oper} {k : St → Option R} (hd : drawOk ops = true) (hQ : ∀ g' st' a' w', Rel w0 S0 O g0 g' st' a' w' → k st' = some r → Q .normal a' w') : ∀ (fuel : Nat) (listed : Array Bool) {g : G} {st : St} {a : Act} {w : World},
    listed.size = ops.size → Closed ops listed → ((List.range ops.size).filter fun i => !listed.getD i true).length ≤ fuel → Rel w0 S0 O g0 g st a w →
    runB cf N ops (barrs ops.toList) k ((List.range ops.size).filter fun i => !listed.getD i true) st = some r → wpAny P .any ops Q fuel listed a w := by
  have hgo := drawGo_get ops.toList [] 0 rfl hd
  simp only [Nat.zero_add, List.nil_append] at hgo
  have hget : ∀ (j : Nat) o, ops[j]? = some o → ops.toList[j]? = some o := fun j o h => by simpa using h
  -- the first that is not listed is ready
  have hfirst : ∀ (listed : Array Bool) i r, listed.size = ops.size → (List.range ops.size).filter (fun i => !listed.getD i true) = i :: r → i ∈ Region.ready .any ops listed := by
    intro listed i r hls hr
    have hi : i ∈ (List.range ops.size).filter (fun i => !listed.getD i true) := by rw [hr]; simp
    simp only [List.mem_filter, List.mem_range, Bool.not_eq_true'] at hi
    have ho : ops[i]? = some (ops[i]'hi.1) := Array.getElem?_eq_getElem _
    rw [mem_ready]
    refine ⟨hi.2, _, ho, fun e he hb => ?_⟩
    have hlt := (hgo i _ (hget i _ ho)).2.1 e (by simpa using he) hb
    -- a smaller one that isn't listed would come first
    cases hl : listed.getD e.on false with
    | true => rfl
    | false =>
      exfalso
      have hlt2 : e.on < listed.size := by omega
      have h0 : listed.getD e.on true = false := by
        have e1 : listed.getD e.on true = listed[e.on] := by simp [hlt2]
        have e2 : listed.getD e.on false = listed[e.on] := by simp [hlt2]
        rw [e1, ← e2, hl]
      have hmem : e.on ∈ (List.range ops.size).filter (fun i => !listed.getD i true) := by
        simp only [List.mem_filter, List.mem_range, Bool.not_eq_true']; exact ⟨by omega, h0⟩
      have hsorted : ((List.range ops.size).filter (fun i => !listed.getD i true)).Pairwise (· < ·) := List.Pairwise.filter _ List.pairwise_lt_range
      rw [hr] at hmem hsorted
      rcases List.mem_cons.1 hmem with h1 | h1
      · omega
      · have := (List.pairwise_cons.1 hsorted).1 e.on h1; omega
  intro fuel
  induction fuel with
  | zero =>
    intro listed g st a w hls hc hf h hr
    have hnil : (List.range ops.size).filter (fun i => !listed.getD i true) = [] := List.eq_nil_of_length_eq_zero (by omega)
    rw [hnil] at hr
    simp only [runB] at hr
    refine ⟨?_, hQ g _ a w h hr⟩
    rw [List.eq_nil_iff_forall_not_mem]
    intro i hi
    rw [mem_ready] at hi
    obtain ⟨h1, o, ho, _⟩ := hi
    have : i ∈ (List.range ops.size).filter (fun i => !listed.getD i true) := by
      simp only [List.mem_filter, List.mem_range, Bool.not_eq_true']; exact ⟨(Array.getElem?_eq_some_iff.1 ho).1, h1⟩
    rw [hnil] at this; cases this
  | succ fuel ih =>
    intro listed g st a w hls hc hf h hr
    refine ⟨fun hrd => ?_, fun i hi => ?_⟩
    · cases hrem : (List.range ops.size).filter (fun i => !listed.getD i true) with
      | nil => rw [hrem] at hr; simp only [runB] at hr; exact hQ g _ a w h hr
      | cons j q => have := hfirst listed j q hls hrem; rw [hrd] at this; cases this
    · have hi2 := hi
      rw [mem_ready] at hi
      obtain ⟨h1, oi, ho, hedges⟩ := hi
      have hlt : i < ops.size := (Array.getElem?_eq_some_iff.1 ho).1
      have hmem : i ∈ (List.range ops.size).filter (fun i => !listed.getD i true) := by
        simp only [List.mem_filter, List.mem_range, Bool.not_eq_true']; exact ⟨hlt, h1⟩
      obtain ⟨pre, post, hsplit⟩ := List.append_of_mem hmem
      obtain ⟨hoki, hei, hpi⟩ := hgo i oi (hget i oi ho)
      have hsorted : ((List.range ops.size).filter (fun i => !listed.getD i true)).Pairwise (· < ·) := List.Pairwise.filter _ List.pairwise_lt_range
      have hnodup : ((List.range ops.size).filter (fun i => !listed.getD i true)).Nodup := List.filter_sublist.nodup List.nodup_range
      rw [hsplit] at hr
      have hprelt : ∀ p ∈ pre, p < i := by
        intro p hp
        rw [hsplit, List.pairwise_append] at hsorted
        exact hsorted.2.2 p hp i (by simp)
      have hnanc : ∀ p ∈ pre, ((anc ops.toList).getD i 0).testBit p = true → False := by
        intro p hp h4
        have hl := anc_listed hc i oi ho (fun e he hb => ⟨hei e he hb, hedges e (by simpa using he) hb⟩) (fun j oj _ hoj e he hb => (hgo j oj (hget j oj hoj)).2.1 e he hb) p h4
        have hpm : p ∈ (List.range ops.size).filter (fun i => !listed.getD i true) := by rw [hsplit]; simp [hp]
        simp only [List.mem_filter, List.mem_range, Bool.not_eq_true'] at hpm
        have hlt2 : p < listed.size := by omega
        have e1 : listed.getD p true = listed[p] := by simp [hlt2]
        have e2 : listed.getD p false = listed[p] := by simp [hlt2]
        rw [e1] at hpm; rw [e2] at hl; rw [hpm.2] at hl; cases hl
      have hal : (anc ops.toList).length = ops.size := by rw [anc_len]; simp
      have hnb : ∀ p ∈ pre, (barrs ops.toList).getD p false = false := by
        intro p hp
        cases hbp : (barrs ops.toList).getD p false with
        | false => rfl
        | true => exact (hnanc p hp ((barr_bit hbp (by rw [hal]; exact hlt) (by have := hprelt p hp; omega)).2 (hprelt p hp))).elim
      have hpre : ∀ p ∈ pre, (barrs ops.toList).getD p false = false ∧ ∀ op, ops[p]? = some op → indep ops op oi = true ∧ okOp op.op = true := by
        intro p hp
        refine ⟨hnb p hp, fun op hop => ⟨?_, (hgo p op (hget p op hop)).1 (hnb p hp)⟩⟩
        rcases hpi p op (hprelt p hp) (hget p op hop) with h4 | h4
        · exact (hnanc p hp h4).elim
        · exact h4
      have step : ∀ {K : Act → World → Prop}, (∀ g' st' a' w', Rel w0 S0 O g0 g' st' a' w' → runB cf N ops (barrs ops.toList) k (pre ++ post) st' = some r → K a' w') → wpOp P ops Q i K a w := by
        intro K hK
        cases hbi : (barrs ops.toList).getD i false with
        | false =>
          obtain ⟨st1, hs1, hr1⟩ := runB_take ho hbi (hoki hbi) pre hr hpre
          exact gstep_wp cx hpc ho (hoki hbi) h hs1 (fun g' a' w' h' => hK g' st1 a' w' h' hr1)
        | true =>
          have hnil : pre = [] := by
            cases pre with
            | nil => rfl
            | cons p q => exact (hnanc p (by simp) ((barr_bit hbi (j := p) (by rw [hal]; have := hprelt p (by simp); omega) (by have := hprelt p (by simp); omega)).1 (hprelt p (by simp)))).elim
          subst hnil
          exact bstep_wp cx hpc ho hbi h (by simpa using hr) (fun g' st' a' w' h' hr' => hK g' st' a' w' h' (by simpa using hr'))
      refine step (fun g' st1 a' w' h' hr1 => ?_)
      have hilt : i < listed.size := by omega
      have hset : ∀ (j : Nat) (d : Bool), (listed.setIfInBounds i true).getD j d = if j = i then true else listed.getD j d := by
        intro j d
        by_cases hj : j = i
        · subst hj; rw [if_pos rfl]; simp [hilt]
        · rw [if_neg hj]; exact getD_set_ne d (fun e => hj e.symm)
      have hrem2 : (List.range ops.size).filter (fun j => !(listed.setIfInBounds i true).getD j true) = pre ++ post := by
        have e1 : (List.range ops.size).filter (fun j => !(listed.setIfInBounds i true).getD j true) = ((List.range ops.size).filter (fun j => !listed.getD j true)).filter (fun j => decide (j ≠ i)) := by
          rw [List.filter_filter]
          congr 1; funext j
          rw [hset]
          by_cases hj : j = i
          · subst hj; simp
          · simp [hj]
        rw [e1, hsplit, List.filter_append, List.filter_cons]
        have hni : i ∉ pre ∧ i ∉ post := by
          rw [hsplit, List.nodup_append] at hnodup
          refine ⟨fun hp => ?_, fun hp => ?_⟩
          · exact hnodup.2.2 i hp i (by simp) rfl
          · exact (List.nodup_cons.1 hnodup.2.1).1 hp
        rw [if_neg (by simp)]
        rw [List.filter_eq_self.2 (fun j hj => by simp only [ne_eq, decide_eq_true_eq]; exact fun e => hni.1 (e ▸ hj)), List.filter_eq_self.2 (fun j hj => by simp only [ne_eq, decide_eq_true_eq]; exact fun e => hni.2 (e ▸ hj))]
      refine ih (listed.setIfInBounds i true) (by simpa using hls) (fun j o hj hl e he hb => ?_) (by rw [hrem2]; rw [hsplit] at hf; simp at hf ⊢; omega) h' (by rw [hrem2]; exact hr1)
      rw [hset] at hl ⊢
      by_cases hji : j = i
      · subst hji
        rw [ho] at hj; cases hj
        have := hedges e (by simpa using he) hb
        by_cases hei' : e.on = j
        · rw [if_pos hei']
        · rw [if_neg hei']; exact this
      · rw [if_neg hji] at hl
        by_cases hei' : e.on = i
        · rw [if_pos hei']
        · rw [if_neg hei']; exact hc j o hj hl e he hb

theorem region_draw {N : Nat} {ops : Array Oper} {id : Nat} (hd : drawOk ops = true) {k : St → Option R} (h : Rel w0 S0 O g0 g st a w) (hr : runOpsB cf N ops.toList ops.toList (barrs ops.toList) k st = some r)
    (hQ : ∀ g' st' a' w', Rel w0 S0 O g0 g' st' a' w' → k st' = some r → Q .normal a' w') : (Code.region id ops true).wp P Q a w := by
  have hrb := runOpsB_runB (cf := cf) N ops (barrs ops.toList) k ops.toList 0 st rfl
  rw [List.drop_zero] at hrb
  rw [hrb] at hr
  refine wp_region_any cx.mix ?_
  have hall : (List.range ops.size).filter (fun i => !(Array.replicate ops.size false).getD i true) = List.range ops.size := by
    rw [List.filter_eq_self]
    intro i hi
    have : i < ops.size := by simpa using hi
    simp [this]
  have hm : RelM w0 S0 O g st.bx { w with drawn := w.drawn + 1 } :=
    ⟨h.m.os, h.m.tape, h.m.output, h.m.size, h.m.old, h.m.sub, h.m.new, h.m.mem, h.m.c, h.m.box, h.m.disj, h.m.low, h.m.sep⟩
  have h' : Rel w0 S0 O g0 g st a { w with drawn := w.drawn + 1 } := ⟨h.df, h.len, h.np, h.np0, h.pin, h.env, hm⟩
  refine region_any cx hpc (N := N) hd hQ ops.size _ (by simp) (fun j o hj hl => ?_) (by rw [hall]; simp) h' ?_
  · exfalso
    have : j < ops.size := (Array.getElem?_eq_some_iff.1 hj).1
    simp [this] at hl
  · rw [hall, List.range_eq_range']; simpa using hr

/-- one step, calls as they are -/
theorem gstepL_wp {N : Nat} {ops : Array Oper} {i : Nat} {o : Oper} (ho : ops[i]? = some o) (hok : okOp o.op = true) {st st1 : St} (h : Rel w0 S0 O g0 g st a w) (hg : gstepL cf N ops.toList o st = some st1) {K : Act → World → Prop}
    (hK : ∀ g' a' w', Rel w0 S0 O g0 g' st1 a' w' → K a' w') : wpOp P ops Q i K a w := by
  unfold gstepL at hg
  cases hf : isFn o.op with
  | false => rw [hf, cond_false] at hg; exact gstep_wp cx hpc ho hok h hg hK
  | true =>
    rw [hf, cond_true] at hg
    unfold wpOp; simp only [ho]
    cases hw : wantedV ops.toList st o with
    | none => rw [hw] at hg; cases hg
    | some b =>
      rw [hw] at hg
      have hwr := wanted_rel h hw
      rw [hwr]
      cases b with
      | true =>
        simp only at hg
        simp only [if_true]
        left
        exact snd_vop cx hpc hg h (fun g' st' a' w' h' hk => by cases hk; exact hK g' a' w' h')
      | false =>
        simp only [Option.some.injEq] at hg
        subst hg
        simp only [Bool.false_eq_true, if_false]
        exact hK g _ _ (h.put (v := .tup []) ⟨[], rfl, .nil⟩)

theorem region_alt {N : Nat} {ops : Array Oper} {k : St → Option R} {cps : List (Nat × Nat)} (hne0 : ∀ q ∈ cps, q.1 ≠ q.2) (hlt0 : ∀ q ∈ cps, q.1 < ops.size ∧ q.2 < ops.size) (hQ : ∀ g' st' a' w', Rel w0 S0 O g0 g' st' a' w' → k st' = some r → Q .normal a' w') : ∀ (fuel : Nat) (listed : Array Bool) {g : G} {st : St} {a : Act} {w : World} (Ls : List (List Nat × (Nat → Nat))),
    listed.size = ops.size → Closed ops listed → (∀ L ∈ Ls, (remL listed L.1).length ≤ fuel) → Rel w0 S0 O g0 g st a w →
    (∀ L ∈ Ls, Order ops cps L.1 L.2) → (∀ L ∈ Ls, runLB cf N ops k (remL listed L.1) st = some r) → Ls ≠ [] → (∀ L ∈ Ls, ∀ q ∈ cps, L.2 q.1 ≠ L.2 q.2) →
    (∀ σ : Nat × Nat → Bool, Cons (anc ops.toList) cps listed σ → ∃ L ∈ Ls, ∀ q ∈ cps, listed.getD q.1 false = false → listed.getD q.2 false = false → bif σ q then L.2 q.1 < L.2 q.2 else L.2 q.2 < L.2 q.1) → wpAny P .any ops Q fuel listed a w := by
  have hget : ∀ (j : Nat) o, ops[j]? = some o → ops.toList[j]? = some o := fun j o h => by simpa using h
  have hgd : ∀ (listed : Array Bool) x, listed.size = ops.size → x < ops.size → listed.getD x true = listed.getD x false := by
    intro listed x hs hx
    have hlt2 : x < listed.size := by omega
    have e1 : listed.getD x true = listed[x] := by simp [hlt2]
    have e2 : listed.getD x false = listed[x] := by simp [hlt2]
    rw [e1, e2]
  have hmemr : ∀ {listed : Array Bool} {L : List Nat} {pos}, Order ops cps L pos → listed.size = ops.size → ∀ {x}, x < ops.size → listed.getD x false = false → x ∈ remL listed L := by
    intro listed L pos hL hs x hx h
    unfold remL
    rw [List.mem_filter]
    exact ⟨hL.all x hx, by rw [hgd listed x hs hx, h]; rfl⟩
  have hrmem : ∀ {listed : Array Bool} {L : List Nat} {pos}, Order ops cps L pos → listed.size = ops.size → ∀ {x}, x ∈ remL listed L → x < ops.size ∧ listed.getD x false = false := by
    intro listed L pos hL hs x hx
    unfold remL at hx
    rw [List.mem_filter] at hx
    have := hL.lt x hx.1
    refine ⟨this, ?_⟩
    rw [← hgd listed x hs this]; simpa using hx.2
  have hfirst : ∀ {listed : Array Bool} {L : List Nat} {pos}, Order ops cps L pos → listed.size = ops.size → ∀ {x q}, remL listed L = x :: q → x ∈ Region.ready .any ops listed := by
    intro listed L pos hL hls x q hr
    obtain ⟨hx, hxl⟩ := hrmem hL hls (x := x) (by rw [hr]; simp)
    have ho : ops[x]? = some (ops[x]'hx) := Array.getElem?_eq_getElem _
    rw [mem_ready]
    refine ⟨by rw [hgd listed x hls hx]; exact hxl, _, ho, fun e he hb => ?_⟩
    obtain ⟨hlt, hp⟩ := hL.edge x _ ho e (by simpa using he) hb
    cases hl : listed.getD e.on false with
    | true => rfl
    | false =>
      exfalso
      have hm := hmemr hL hls (x := e.on) (by omega) hl
      have hs : (remL listed L).Pairwise (fun x y => pos x < pos y) := List.Pairwise.filter _ hL.pw
      rw [hr] at hm hs
      rcases List.mem_cons.1 hm with h1 | h1
      · omega
      · have := (List.pairwise_cons.1 hs).1 e.on h1; omega
  intro fuel
  induction fuel with
  | zero =>
    intro listed g st a w Ls hls hc hf h hO hr hne _ _
    obtain ⟨L, hL⟩ := List.exists_mem_of_ne_nil Ls hne
    have hnil : remL listed L.1 = [] := List.eq_nil_of_length_eq_zero (by have := hf L hL; omega)
    have hr1 := hr L hL
    rw [hnil] at hr1
    simp only [runLB] at hr1
    refine ⟨?_, hQ g _ a w h hr1⟩
    rw [List.eq_nil_iff_forall_not_mem]
    intro x hx
    rw [mem_ready] at hx
    obtain ⟨h1, o, ho, _⟩ := hx
    have hlt := (Array.getElem?_eq_some_iff.1 ho).1
    have := hmemr (hO L hL) hls hlt (by rw [← hgd listed x hls hlt]; exact h1)
    rw [hnil] at this; cases this
  | succ fuel ih =>
    intro listed g st a w Ls hls hc hf h hO hr hne hdp hij
    refine ⟨fun hrd => ?_, fun x hx => ?_⟩
    · obtain ⟨L, hL⟩ := List.exists_mem_of_ne_nil Ls hne
      have hr1 := hr L hL
      cases hrem : remL listed L.1 with
      | nil => rw [hrem] at hr1; simp only [runLB] at hr1; exact hQ g _ a w h hr1
      | cons y q => have := hfirst (hO L hL) hls hrem; rw [hrd] at this; cases this
    · rw [mem_ready] at hx
      obtain ⟨h1, ox, ho, hedges⟩ := hx
      have hlt : x < ops.size := (Array.getElem?_eq_some_iff.1 ho).1
      have hxl : listed.getD x false = false := by rw [← hgd listed x hls hlt]; exact h1
      have hal : (anc ops.toList).length = ops.size := by rw [anc_len]; simp
      -- the orders that stay
      let Ls' := Ls.filter fun L => cps.all fun q => !(Nat.beq q.1 x && !(listed.getD q.2 false) && !(Nat.blt (L.2 x) (L.2 q.2))) && !(Nat.beq q.2 x && !(listed.getD q.1 false) && !(Nat.blt (L.2 x) (L.2 q.1)))
      have hin : ∀ L, L ∈ Ls' ↔ L ∈ Ls ∧ ∀ q ∈ cps, (q.1 = x → listed.getD q.2 false = false → L.2 x < L.2 q.2) ∧ (q.2 = x → listed.getD q.1 false = false → L.2 x < L.2 q.1) := by
        intro L
        simp only [Ls', List.mem_filter, List.all_eq_true, Bool.and_eq_true, Bool.not_eq_true', Bool.and_eq_false_iff, Bool.not_eq_false']
        refine and_congr Iff.rfl (forall_congr' fun q => imp_congr Iff.rfl (and_congr ?_ ?_))
        · constructor
          · rintro ((h | h) | h) e h2
            · rw [← Bool.not_eq_true, Nat.beq_eq] at h; exact absurd e h
            · rw [h2] at h; cases h
            · exact Nat.blt_eq ▸ h
          · intro h
            by_cases e : q.1 = x
            · cases h2 : listed.getD q.2 false with
              | true => exact .inl (.inr rfl)
              | false => exact .inr (by rw [Nat.blt_eq]; exact h e h2)
            · exact .inl (.inl (by rw [← Bool.not_eq_true, Nat.beq_eq]; exact e))
        · constructor
          · rintro ((h | h) | h) e h2
            · rw [← Bool.not_eq_true, Nat.beq_eq] at h; exact absurd e h
            · rw [h2] at h; cases h
            · exact Nat.blt_eq ▸ h
          · intro h
            by_cases e : q.2 = x
            · cases h2 : listed.getD q.1 false with
              | true => exact .inl (.inr rfl)
              | false => exact .inr (by rw [Nat.blt_eq]; exact h e h2)
            · exact .inl (.inl (by rw [← Bool.not_eq_true, Nat.beq_eq]; exact e))
      have hsub : ∀ L ∈ Ls', L ∈ Ls := fun L h => ((hin L).1 h).1
      obtain ⟨LA, hLA⟩ := List.exists_mem_of_ne_nil Ls hne
      have hanc : ∀ b, ((anc ops.toList).getD x 0).testBit b = true → listed.getD b false = true :=
        anc_listed hc x ox ho (fun e he hb => ⟨((hO LA hLA).edge x ox ho e he hb).1, hedges e (by simpa using he) hb⟩) (fun m om _ hom e he hb => ((hO LA hLA).edge m om hom e he hb).1)
      have hilt0 : x < listed.size := by omega
      have hset0 : ∀ (j : Nat), j ≠ x → (listed.setIfInBounds x true).getD j false = listed.getD j false := fun j hj => getD_set_ne false (fun e => hj e.symm)
      have hσ : ∀ σ : Nat × Nat → Bool, Cons (anc ops.toList) cps (listed.setIfInBounds x true) σ → ∃ L ∈ Ls', ∀ q ∈ cps, q.1 ≠ x → q.2 ≠ x → listed.getD q.1 false = false → listed.getD q.2 false = false → bif σ q then L.2 q.1 < L.2 q.2 else L.2 q.2 < L.2 q.1 := by
        intro σ hcon
        have hcon' : Cons (anc ops.toList) cps listed (fun q => if q.1 = x then true else if q.2 = x then false else σ q) := by
          generalize hσ' : (fun q : Nat × Nat => if q.1 = x then true else if q.2 = x then false else σ q) = σ'
          have hx : ∀ q ∈ cps, (q.1 = x ∨ q.2 = x) → (ori σ' q).1 = x ∧ (ori σ' q).2 ≠ x := by
            intro q hq h
            unfold ori
            subst hσ'
            by_cases e : q.1 = x
            · simp only [if_pos e, cond_true]
              exact ⟨e, fun e2 => hne0 q hq (e.trans e2.symm)⟩
            · rcases h with h | h
              · exact absurd h e
              · simp only [if_neg e, if_pos h, cond_false]; exact ⟨h, e⟩
          have hn : ∀ q ∈ cps, q.1 ≠ x → q.2 ≠ x → ori σ' q = ori σ q := by
            intro q _ e1 e2
            unfold ori
            subst hσ'
            simp only [if_neg e1, if_neg e2]
          have hmm : ∀ q, ((ori σ' q).1 = q.1 ∧ (ori σ' q).2 = q.2) ∨ ((ori σ' q).1 = q.2 ∧ (ori σ' q).2 = q.1) := by
            intro q; unfold ori; cases σ' q <;> simp
          intro q hq p hp l1 l2 l3 l4 h1 h2
          have ul : ∀ q, listed.getD q.1 false = false → listed.getD q.2 false = false → listed.getD (ori σ' q).1 false = false ∧ listed.getD (ori σ' q).2 false = false := by
            intro q l1 l2
            rcases hmm q with ⟨e1, e2⟩ | ⟨e1, e2⟩ <;> rw [e1, e2] <;> exact ⟨by assumption, by assumption⟩
          by_cases hqx : q.1 = x ∨ q.2 = x
          · obtain ⟨e1, e2⟩ := hx q hq hqx
            rw [e1] at h2
            rcases leA_iff.1 h2 with h3 | h3
            · by_cases hpx : p.1 = x ∨ p.2 = x
              · exact (hx p hp hpx).2 h3
              · rcases hmm p with ⟨_, e4⟩ | ⟨_, e4⟩ <;> rw [e4] at h3
                · exact hpx (.inr h3)
                · exact hpx (.inl h3)
            · have := hanc _ h3
              rw [(ul p l3 l4).2] at this; cases this
          · by_cases hpx : p.1 = x ∨ p.2 = x
            · obtain ⟨e1, e2⟩ := hx p hp hpx
              rw [e1] at h1
              rcases leA_iff.1 h1 with h3 | h3
              · rcases hmm q with ⟨_, e4⟩ | ⟨_, e4⟩ <;> rw [e4] at h3
                · exact hqx (.inr h3)
                · exact hqx (.inl h3)
              · have := hanc _ h3
                rw [(ul q l1 l2).2] at this; cases this
            · have nq : q.1 ≠ x ∧ q.2 ≠ x := ⟨fun e => hqx (.inl e), fun e => hqx (.inr e)⟩
              have np : p.1 ≠ x ∧ p.2 ≠ x := ⟨fun e => hpx (.inl e), fun e => hpx (.inr e)⟩
              rw [hn q hq nq.1 nq.2, hn p hp np.1 np.2] at h1 h2
              exact hcon q hq p hp (by rw [hset0 _ nq.1]; exact l1) (by rw [hset0 _ nq.2]; exact l2) (by rw [hset0 _ np.1]; exact l3) (by rw [hset0 _ np.2]; exact l4) h1 h2
        obtain ⟨L, hL, h2⟩ := hij (fun q => if q.1 = x then true else if q.2 = x then false else σ q) hcon'
        refine ⟨L, (hin L).2 ⟨hL, fun q hq => ⟨fun e hl => ?_, fun e hl => ?_⟩⟩, fun q hq e1 e2 l1 l2 => ?_⟩
        · have := h2 q hq (by rw [e]; exact hxl) hl
          rw [if_pos e, cond_true, e] at this; exact this
        · have hn : q.1 ≠ x := fun e' => hne0 q hq (e'.trans e.symm)
          have := h2 q hq hl (by rw [e]; exact hxl)
          rw [if_neg hn, if_pos e, cond_false, e] at this; exact this
        · have := h2 q hq l1 l2
          rw [if_neg e1, if_neg e2] at this; exact this
      have hne' : Ls' ≠ [] := by
        obtain ⟨L, hL, _⟩ := hσ _ (cons_order (hO LA hLA) (hdp LA hLA) hlt0 _)
        exact List.ne_nil_of_mem hL
      -- the operation is taken ahead in each of them
      have htake : ∀ L ∈ Ls', ∃ st1, gstepL cf N ops.toList ox st = some st1 ∧ ∃ pre post, remL listed L.1 = pre ++ x :: post ∧ runLB cf N ops k (pre ++ post) st1 = some r := by
        intro L hL'
        have hL := hsub L hL'
        have hOL := hO L hL
        obtain ⟨pre, post, hsplit⟩ := List.append_of_mem (hmemr hOL hls hlt hxl)
        have hs : (remL listed L.1).Pairwise (fun x y => L.2 x < L.2 y) := List.Pairwise.filter _ hOL.pw
        have hr1 := hr L hL
        rw [hsplit] at hr1 hs
        rw [List.pairwise_append] at hs
        obtain ⟨st1, a1, a2⟩ := runLB_take hpc.nat ho (hOL.ok x ox ho).2 pre hr1 (fun p hp => by
          obtain ⟨hp1, hp2⟩ := hrmem hOL hls (x := p) (by rw [hsplit]; simp [hp])
          have hop : ops[p]? = some (ops[p]'hp1) := Array.getElem?_eq_getElem _
          refine fun op hop' => ⟨?_, (hOL.ok p op hop').2⟩
          obtain ⟨b1, b2⟩ := hOL.pair p x op ox hop' ho (hs.2.2 p hp x (by simp))
          have hlt2 := hs.2.2 p hp x (by simp)
          rcases b2 with b2 | b2 | b2 | b2
          · exfalso
            have hl := anc_listed hc x ox ho (fun e he hb => ⟨(hOL.edge x ox ho e he hb).1, hedges e (by simpa using he) hb⟩) (fun m om _ hom e he hb => (hOL.edge m om hom e he hb).1) p b2
            rw [hp2] at hl; cases hl
          · exact b2
          · exfalso; have := (((hin L).1 hL').2 _ b2).2 rfl hp2; simp only at this; omega
          · exfalso; have := (((hin L).1 hL').2 _ b2).1 rfl hp2; simp only at this; omega)
        exact ⟨st1, a1, pre, post, hsplit, a2⟩
      obtain ⟨L0, hL0⟩ := List.exists_mem_of_ne_nil Ls' hne'
      obtain ⟨st1, hs1, _⟩ := htake L0 hL0
      have hO0 := hO L0 (hsub L0 hL0)
      refine gstepL_wp cx hpc ho (hO0.ok x ox ho).2 h hs1 (fun g' a' w' h' => ?_)
      have hilt : x < listed.size := by omega
      have hset : ∀ (j : Nat) (d : Bool), (listed.setIfInBounds x true).getD j d = if j = x then true else listed.getD j d := by
        intro j d
        by_cases hj : j = x
        · subst hj; rw [if_pos rfl]; simp [hilt]
        · rw [if_neg hj]; exact getD_set_ne d (fun e => hj e.symm)
      have hrem2 : ∀ L ∈ Ls', ∀ pre post, remL listed L.1 = pre ++ x :: post → remL (listed.setIfInBounds x true) L.1 = pre ++ post := by
        intro L hL' pre post hsplit
        have hOL := hO L (hsub L hL')
        have hs : (remL listed L.1).Pairwise (fun x y => L.2 x < L.2 y) := List.Pairwise.filter _ hOL.pw
        have e1 : remL (listed.setIfInBounds x true) L.1 = (remL listed L.1).filter (fun j => decide (j ≠ x)) := by
          unfold remL
          rw [List.filter_filter]
          congr 1; funext j
          rw [hset]
          by_cases hj : j = x
          · subst hj; simp
          · simp [hj]
        rw [e1, hsplit, List.filter_append, List.filter_cons]
        rw [hsplit, List.pairwise_append] at hs
        have hni : x ∉ pre ∧ x ∉ post := by
          refine ⟨fun hp => ?_, fun hp => ?_⟩
          · have := hs.2.2 x hp x (by simp); omega
          · have := (List.pairwise_cons.1 hs.2.1).1 x hp; omega
        rw [if_neg (by simp)]
        rw [List.filter_eq_self.2 (fun j hj => by simp only [ne_eq, decide_eq_true_eq]; exact fun e => hni.1 (e ▸ hj)), List.filter_eq_self.2 (fun j hj => by simp only [ne_eq, decide_eq_true_eq]; exact fun e => hni.2 (e ▸ hj))]
      refine ih (listed.setIfInBounds x true) Ls' (by simpa using hls) (fun j o hj hl e he hb => ?_) (fun L hL => ?_) h' (fun L hL => hO L (hsub L hL)) (fun L hL => ?_) hne' (fun L hL => hdp L (hsub L hL)) (fun σ hcon => ?_)
      · rw [hset] at hl ⊢
        by_cases hji : j = x
        · subst hji
          rw [ho] at hj; cases hj
          have := hedges e (by simpa using he) hb
          by_cases hei' : e.on = j
          · rw [if_pos hei']
          · rw [if_neg hei']; exact this
        · rw [if_neg hji] at hl
          by_cases hei' : e.on = x
          · rw [if_pos hei']
          · rw [if_neg hei']; exact hc j o hj hl e he hb
      · obtain ⟨_, _, pre, post, hsplit, _⟩ := htake L hL
        rw [hrem2 L hL pre post hsplit]
        have := hf L (hsub L hL)
        rw [hsplit] at this; simp at this ⊢; omega
      · obtain ⟨st2, a1, pre, post, hsplit, a2⟩ := htake L hL
        rw [hs1] at a1; cases a1
        rw [hrem2 L hL pre post hsplit]; exact a2
      · obtain ⟨L, hL, h2⟩ := hσ σ hcon
        refine ⟨L, hL, fun q hq l1 l2 => ?_⟩
        have e1 : q.1 ≠ x := fun e => by rw [hset, if_pos e] at l1; cases l1
        have e2 : q.2 ≠ x := fun e => by rw [hset, if_pos e] at l2; cases l2
        rw [hset, if_neg e1] at l1
        rw [hset, if_neg e2] at l2
        exact h2 q hq e1 e2 l1 l2

theorem region_two {ops : Array Oper} {id : Nat} {Ls : List (List Nat)} (ha : alts ops = some Ls) {k : St → Option R} (h : Rel w0 S0 O g0 g st a w)
    (hr : ∀ L ∈ Ls, runL cf ops L k st = some r)
    (hQ : ∀ g' st' a' w', Rel w0 S0 O g0 g' st' a' w' → k st' = some r → Q .normal a' w') : (Code.region id ops true).wp P Q a w := by
  unfold alts at ha
  simp only at ha
  generalize hcf : conflGo ops (anc ops.toList) 0 ops.toList = cps at ha
  generalize hss : (signs cps).filter (fun s => !badS (anc ops.toList) s) = ss at ha
  generalize hLs : ss.map (fun s => topo (anc ops.toList) s ops.size [] (List.range ops.size)) = Ls0 at ha
  cases hb : (Nat.blt cps.length 8 && cps.all (fun q => !(Nat.beq q.1 q.2) && (Nat.blt q.1 ops.size && Nat.blt q.2 ops.size)) && !Ls0.isEmpty && Ls0.all (fun L => cps.all (fun q => !(Nat.beq (posOf L q.1) (posOf L q.2))) && ordOk ops (anc ops.toList) [] cps L) && ss.all (fun s => Ls0.any fun L => s.all fun q => Nat.blt (posOf L q.1) (posOf L q.2))) with
  | false => rw [hb] at ha; cases ha
  | true =>
    rw [hb, cond_true] at ha
    simp only [Option.some.injEq] at ha
    subst ha
    simp only [Bool.and_eq_true, List.all_eq_true] at hb
    obtain ⟨⟨⟨⟨_, b1⟩, b4⟩, b2⟩, b3⟩ := hb
    have hne1 : Ls0 ≠ [] := by
      intro e; rw [e] at b4; simp at b4
    have hO : ∀ L ∈ Ls0, Order ops cps L (posOf L) := fun L hL => order_of (b2 L hL).2
    have hdp0 : ∀ L ∈ Ls0, ∀ q ∈ cps, posOf L q.1 ≠ posOf L q.2 := by
      intro L hL q hq e
      have := (b2 L hL).1 q hq
      rw [Bool.not_eq_true', ← Bool.not_eq_true, Nat.beq_eq] at this; exact this e
    refine wp_region_any cx.mix ?_
    have hm : RelM w0 S0 O g st.bx { w with drawn := w.drawn + 1 } :=
      ⟨h.m.os, h.m.tape, h.m.output, h.m.size, h.m.old, h.m.sub, h.m.new, h.m.mem, h.m.c, h.m.box, h.m.disj, h.m.low, h.m.sep⟩
    have h' : Rel w0 S0 O g0 g st a { w with drawn := w.drawn + 1 } := ⟨h.df, h.len, h.np, h.np0, h.pin, h.env, hm⟩
    have hrep : ∀ x, x < ops.size → (Array.replicate ops.size false).getD x true = false := fun x hx => by simp [hx]
    have hall : ∀ L pos, Order ops cps L pos → remL (Array.replicate ops.size false) L = L := by
      intro L pos hL
      unfold remL
      rw [List.filter_eq_self]
      intro x hx
      rw [hrep x (hL.lt x hx)]; rfl
    have hlen : ∀ L pos, Order ops cps L pos → L.length ≤ ops.size := by
      intro L pos hL
      have hnd : L.Nodup := hL.pw.imp (fun h e => by rw [e] at h; omega)
      have := hnd.length_le_of_subset (l₂ := List.range ops.size) (fun x hx => by simpa using hL.lt x hx)
      simpa using this
    have hsg : ∀ σ : Nat × Nat → Bool, Cons (anc ops.toList) cps (Array.replicate ops.size false) σ → ∃ L ∈ Ls0, ∀ q ∈ cps, bif σ q then posOf L q.1 < posOf L q.2 else posOf L q.2 < posOf L q.1 := by
      intro σ hcon
      have hin : (cps.map fun q => bif σ q then q else (q.2, q.1)) ∈ ss := by
        rw [← hss, List.mem_filter]
        refine ⟨signs_mem, ?_⟩
        rw [Bool.not_eq_true']
        cases hbad : badS (anc ops.toList) (cps.map fun q => bif σ q then q else (q.2, q.1)) with
        | false => rfl
        | true =>
          exfalso
          unfold badS at hbad
          obtain ⟨q', hq', h2⟩ := List.any_eq_true.1 hbad
          obtain ⟨p', hp', h3⟩ := List.any_eq_true.1 h2
          obtain ⟨q, hq, rfl⟩ := List.mem_map.1 hq'
          obtain ⟨p, hp, rfl⟩ := List.mem_map.1 hp'
          rw [Bool.and_eq_true] at h3
          have hz : ∀ x, x < ops.size → (Array.replicate ops.size false).getD x false = false := fun x hx => by simp [hx]
          have l := b1 q hq
          have l' := b1 p hp
          rw [Nat.blt_eq, Nat.blt_eq] at l l'
          exact hcon q hq p hp (hz _ l.2.1) (hz _ l.2.2) (hz _ l'.2.1) (hz _ l'.2.2) h3.1 h3.2
      have := b3 _ hin
      obtain ⟨L, hL, h2⟩ := List.any_eq_true.1 this
      refine ⟨L, hL, fun q hq => ?_⟩
      have := List.all_eq_true.1 h2 _ (List.mem_map_of_mem hq)
      rw [Nat.blt_eq] at this
      cases hσ : σ q with
      | true => rw [hσ] at this; exact this
      | false => rw [hσ] at this; exact this
    refine region_alt cx hpc (N := st.bx.length) (cps := cps) (fun q hq e => ?_) (fun q hq => by have l := (b1 q hq).2; rw [Nat.blt_eq, Nat.blt_eq] at l; exact l) hQ ops.size _ (Ls0.map fun L => (L, posOf L)) (by simp) (fun m o hm hl => ?_) (fun L hL => ?_) h' (fun L hL => ?_) (fun L hL => ?_) ?_ (fun L hL => ?_) (fun σ hcon => ?_)
    · have := (b1 q hq).1
      rw [Bool.not_eq_true', ← Bool.not_eq_true, Nat.beq_eq] at this; exact this e
    · exfalso
      have : m < ops.size := (Array.getElem?_eq_some_iff.1 hm).1
      simp [this] at hl
    · obtain ⟨M, hM, rfl⟩ := List.mem_map.1 hL
      simp only
      rw [hall _ _ (hO M hM)]; exact hlen _ _ (hO M hM)
    · obtain ⟨M, hM, rfl⟩ := List.mem_map.1 hL
      exact hO M hM
    · obtain ⟨M, hM, rfl⟩ := List.mem_map.1 hL
      simp only
      rw [hall _ _ (hO M hM), ← runOpsL_perm hpc.nat _ _ _ _ _ (hO M hM).lt]
      exact hr M hM
    · obtain ⟨L, hL⟩ := List.exists_mem_of_ne_nil Ls0 hne1
      exact List.ne_nil_of_mem (List.mem_map_of_mem hL)
    · obtain ⟨M, hM, rfl⟩ := List.mem_map.1 hL
      exact hdp0 M hM
    · obtain ⟨L, hL, h2⟩ := hsg σ hcon
      exact ⟨(L, posOf L), List.mem_map_of_mem hL, fun q hq _ _ => h2 q hq⟩
end
end Vm
