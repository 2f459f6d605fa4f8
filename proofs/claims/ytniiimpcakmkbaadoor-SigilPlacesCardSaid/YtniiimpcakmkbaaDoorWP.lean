/- Vm, part P: control, functions: what the interpreter answers, the machine answers. -/
import Derived.Test.YtniiimpcakmkbaaDoorWO
namespace Vm
open Go

section
variable {P : Program} {cf : Cfg} {S0 : Addr → Option Value} (cx : Ctx P cf S0) (hpc : PcOk P cf)
variable {w0 : World} {O : Nat → Prop} {g0 g : G} {st : St} {a : Act} {w : World}
variable {R : Type} {o : Oper} {r : R} {Q : Exit → Act → World → Prop}

theorem loop_rel {c : Code} {fuel : Nat} (ih : ∀ {k : X → St → Option R} {g : G} {st : St} {a : Act} {w : World}, exec cf fuel c k st = some r → Rel w0 S0 O g0 g st a w → c.wp P (QX w0 S0 O g0 k r) a w)
    {k : X → St → Option R} (m : List Bool) : ∀ (n : Nat) {g : G} {st : St} {a : Act} {w : World}, loopV (headM m) (exec cf fuel c) k n st = some r → Rel w0 S0 O g0 g st a w → Code.rounds P c (QX w0 S0 O g0 k r) n a w := by
  intro n
  induction n with
  | zero => intro g st a w h _; simp [loopV] at h
  | succ n ihn =>
    intro g st a w h hR
    simp only [loopV] at h
    rw [rounds_succ]
    refine wp_mono (ih h hR) ?_
    rintro e a' w' ⟨x, g', st', rfl, hR', hk⟩
    cases x with
    | nm =>
      simp only at hk
      obtain ⟨g2, h2⟩ := head_rel hR' m
      exact ihn hk h2
    | ex id => exact ⟨.ex id, g', st', rfl, hR', hk⟩
    | rt => exact ⟨.rt, g', st', rfl, hR', hk⟩

include cx hpc

theorem exec_rel {fuel : Nat} : ∀ (c : Code) {R : Type} {r : R} {k : X → St → Option R} {g : G} {st : St} {a : Act} {w : World}, exec cf fuel c k st = some r → Rel w0 S0 O g0 g st a w → c.wp P (QX w0 S0 O g0 k r) a w := by
  intro c
  induction c with
  | skip => intro R r k g st a w h hR; exact wp_skip ⟨.nm, g, st, rfl, hR, h⟩
  | region id ops draw =>
    intro R r k g st a w h hR
    simp only [exec] at h
    cases draw with
    | true =>
      rw [cond_true] at h
      cases hd : (drawOk ops && !(ops.toList.any fun o => isFn o.op && borOf cf o)) with
      | false =>
        rw [hd, cond_false] at h
        cases ha : alts ops with
        | none => rw [ha] at h; cases h
        | some q =>
          rw [ha] at h; simp only at h
          have h0 := bothL_some h
          obtain ⟨g1, h1⟩ := pre_rel (cf := cf) (ops.toList.filter fun o => !isFn o.op) hR
          exact region_two cx hpc ha h1 (fun L hL => h0 _ (List.mem_map_of_mem hL)) (fun g' st' a' w' h' hk => ⟨.nm, g', st', rfl, h', hk⟩)
      | true =>
        rw [hd, cond_true] at h
        obtain ⟨g1, h1⟩ := pre_rel (cf := cf) (notB ops.toList (barrs ops.toList)) hR
        rw [Bool.and_eq_true] at hd
        exact region_draw cx hpc hd.1 h1 h (fun g' st' a' w' h' hk => ⟨.nm, g', st', rfl, h', hk⟩)
    | false =>
      rw [cond_false] at h
      refine wp_region ?_
      rw [List.range_eq_range']
      have := runOps_rel cx hpc (Q := QX w0 S0 O g0 k r) ops (k .nm) ops.toList 0 rfl hR h (fun g' st' a' w' h' hk => ⟨.nm, g', st', rfl, h', hk⟩)
      simpa using this
  | seq x y ihx ihy =>
    intro R r k g st a w h hR
    simp only [exec] at h
    refine wp_seq (wp_mono (ihx h hR) ?_)
    rintro e a' w' ⟨z, g', st', rfl, hR', hk⟩
    cases z with
    | nm => exact ihy hk hR'
    | ex id => exact ⟨.ex id, g', st', rfl, hR', hk⟩
    | rt => exact ⟨.rt, g', st', rfl, hR', hk⟩
  | cond c x y ihx ihy =>
    intro R r k g st a w h hR
    simp only [exec] at h
    have he := ev_rel cx hR c
    generalize st.ev cf c = e at h he
    match e, h, he with
    | .t (.w (.d (.bool t))), h, he =>
      have hb := relC_bool he
      cases t with
      | true => exact wp_cond_true hb (ihx h hR)
      | false => exact wp_cond_false hb (ihy h hR)
  | block id c ih =>
    intro R r k g st a w h hR
    simp only [exec] at h
    refine wp_block (wp_mono (ih h hR) ?_)
    rintro e a' w' ⟨z, g', st', rfl, hR', hk⟩
    cases z with
    | nm => exact ⟨.nm, g', st', rfl, hR', hk⟩
    | ex i =>
      simp only at hk
      show if i = id then _ else _
      by_cases hi : i = id
      · rw [if_pos hi]; subst hi; rw [beq_self_eq_true, cond_true] at hk; exact ⟨.nm, g', st', rfl, hR', hk⟩
      · rw [if_neg hi]; rw [beq_false_of_ne hi, cond_false] at hk; exact ⟨.ex i, g', st', rfl, hR', hk⟩
    | rt => exact ⟨.rt, g', st', rfl, hR', hk⟩
  | loop c ih =>
    intro R r k g st a w h hR
    simp only [exec] at h
    obtain ⟨g2, h2⟩ := head_rel hR (maskEnv (cf.drop (firstReg c)) 0 st.env)
    refine wp_mono (wp_loop_rounds fuel (loop_rel (fun h hR => ih h hR) _ fuel h h2)) ?_
    rintro e a' w' ⟨z, g', st', rfl, hR', hk⟩
    unfold exitK exitM at hk
    cases hx : cf.xm with
    | false => rw [hx, cond_false] at hk; exact ⟨z, g', st', rfl, hR', hk⟩
    | true =>
      rw [hx, cond_true] at hk
      cases z with
      | nm => exact ⟨.nm, g', st', rfl, hR', hk⟩
      | ex id =>
        obtain ⟨g3, h3⟩ := head_rel hR' (maskEnv (cf.drop (1000 + id)) 0 st'.env)
        exact ⟨.ex id, g3, _, rfl, h3, hk⟩
      | rt =>
        obtain ⟨g3, h3⟩ := head_rel hR' (maskEnv (cf.drop 999) 0 st'.env)
        exact ⟨.rt, g3, _, rfl, h3, hk⟩
  | exit id => intro R r k g st a w h hR; exact wp_exit ⟨.ex id, g, st, rfl, hR, h⟩
  | ret => intro R r k g st a w h hR; exact wp_ret ⟨.rt, g, st, rfl, hR, h⟩
  | rangeFunc f ps x y _ _ => intro R r k g st a w h hR; simp [exec] at h
  | scope c _ => intro R r k g st a w h hR; simp [exec] at h
  | label l => intro R r k g st a w h hR; simp [exec] at h
  | goto l => intro R r k g st a w h hR; simp [exec] at h
  | refuse s => intro R r k g st a w h hR; simp [exec] at h

omit hpc
theorem resOf_rel (h : Rel w0 S0 O g0 g st a w) {x : ResultVar} {v : T} (hx : resOf cf st x = some v) :
    ∃ u, (match x with | .tmp t => (pure (a.tmps.getD t undef) : Sem Value) | .cell p t => do loadVar t (← asAddr (a.tmps.getD p undef))).run P w = .ok u w ∧ RelT g v u := by
  cases x with
  | tmp t =>
    simp only [resOf, getV_eq] at hx
    have he := ev_rel cx h (.tmp t)
    simp only [St.ev, getV_eq, Act.eval] at he
    generalize st.env.getD t vu = e at hx he
    match e, hx, he with
    | .t y, hx, he => cases hx; exact ⟨_, rfl, he⟩
  | cell p t =>
    simp only [resOf, getV_eq] at hx
    have he := ev_rel cx h (.tmp p)
    simp only [St.ev, getV_eq, Act.eval] at he
    generalize hti : cf.ti t = ti at hx
    generalize st.env.getD p vu = e at hx he
    match ti, e, hx, he with
    | some i, .t (.w (.ptr b off)), hx, he =>
      simp only at hx
      generalize hb : st.bx.getD b none = bb at hx
      match bb, hx with
      | some (.cells m), hx =>
        simp only at hx
        obtain ⟨_, cs, e, hh, hcs⟩ := h.m.box b _ (getD_some hb)
        have hcell : ∀ j u, (cs.drop off)[j]? = some u → w.cell? ((⟨g.bx b, off, none⟩ : Addr).add j) = some u := by
          intro j u hj
          rw [add_plain', cell_of_row w (g.bx b) (off + j) cs.toArray e (0, 0) hh]
          simpa using hj
        have hw := cut_rel (i := i) hcs hx
        have hl := load_run cx hti hcell
        have hea : a.tmps.getD p undef = .pointer (some ⟨g.bx b, off, none⟩) := he.2
        simp only [Sem.run_bind, hea, asAddr, Sem.run_pure, Result.andThen_ok]
        cases hag : i.ag with
        | true => obtain ⟨h1, h2⟩ := hw.1 hag; rw [hl.1 hag h2]; exact ⟨_, rfl, h1⟩
        | false => obtain ⟨u, h1, h2⟩ := hw.2 hag; rw [hl.2 hag u h1]; exact ⟨u, rfl, h2⟩

theorem resAll_rel (h : Rel w0 S0 O g0 g st a w) : ∀ (rs : List ResultVar) (vs : List T), resAll cf st rs = some vs →
    ∃ us : List Value, (rs.mapM fun (x : ResultVar) => match x with | .tmp t => (pure (a.tmps.getD t undef) : Sem Value) | .cell p t => do loadVar t (← asAddr (a.tmps.getD p undef))).run P w = .ok us w ∧ All2 (RelT g) vs us := by
  intro rs
  induction rs with
  | nil => intro vs hv; simp [resAll] at hv; subst hv; exact ⟨[], by simp, .nil⟩
  | cons x q ih =>
    intro vs hv
    simp only [resAll] at hv
    cases hx : resOf cf st x with
    | none => rw [hx] at hv; cases hv
    | some v =>
      cases hq : resAll cf st q with
      | none => rw [hx, hq] at hv; cases hv
      | some l =>
        rw [hx, hq] at hv; cases hv
        obtain ⟨u, hu, hr⟩ := resOf_rel cx h hx
        obtain ⟨us, hus, hall⟩ := ih l hq
        refine ⟨u :: us, ?_, .cons hr hall⟩
        rw [List.mapM_cons]
        simp only [Sem.run_bind, hu, Result.andThen_ok, hus, Sem.run_pure]

/-- how a call ends -/
theorem finish_rel (h : Rel w0 S0 O g0 g st a w) {fn : Func} {k : V → Bx → Option R} (hv : finish cf fn.results.toList k st = some r) :
    ∃ v bxs u g', k v bxs = some r ∧ (results fn a.tmps).run P w = .ok u w ∧ RelV g' v u ∧ RelM w0 S0 O g' bxs w ∧ st.np ≤ bxs.length ∧ ∀ k, k < st.np → g'.bx k = g0.bx k ∧ g'.sl k = g0.sl k := by
  unfold finish at hv
  cases hr : resAll cf st fn.results.toList with
  | none => rw [hr] at hv; cases hv
  | some vs =>
    rw [hr] at hv; simp only at hv
    obtain ⟨us, hus, hall⟩ := resAll_rel cx h _ vs hr
    have hp : ∀ q, (bif cf.keep then some (vs, st.bx) else passTs false vs st.bx) = some q → ∃ g1, More g g1 ∧ RelM w0 S0 O g1 q.2 w ∧ q.2.length = st.bx.length ∧ All2 (RelT g1) q.1 us := by
      intro q hq
      cases hk : cf.keep with
      | true => rw [hk, cond_true] at hq; cases hq; exact ⟨g, .refl g, h.m, rfl, hall⟩
      | false =>
        rw [hk, cond_false] at hq
        obtain ⟨ys, bx'⟩ := q
        obtain ⟨g1, h1, h2, h3, h4⟩ := passTs_rel _ _ hq h.m
        exact ⟨g1, h1, h2, h3, h4 us hall⟩
    generalize (bif cf.keep then some (vs, st.bx) else passTs false vs st.bx) = q at hv hp
    match q, hv with
    | some (l, bx1), hv =>
      simp only at hv
      obtain ⟨g1, hm, hR, hlen, hall⟩ := hp _ rfl
      have hgr := reachAll_grow bx1 (List.range st.np) (tsNames l)
      generalize reachAll bx1 (List.range st.np) (tsNames l) = order at hv hgr
      obtain ⟨m, hom⟩ := hgr.pre
      have hn := hgr.nodup List.nodup_range
      have hk : ∀ k, k < st.np → order[k]? = some k := fun k hk => by
        rw [hom, List.getElem?_append_left (by simpa using hk)]; simp [hk]
      have hrun : (results fn a.tmps).run P w = .ok (if h : us.toArray.size = 1 then us.toArray[0] else .tuple us.toArray) w := by
        unfold results
        rw [Array.mapM_eq_mapM_toList]
        simp only [Sem.run_bind, Sem.run_map]
        erw [hus]
        simp only [Result.andThen_ok, Sem.run_pure]
      refine ⟨_, _, _, g1.ren order, hv, hrun, ?_, hR.ren hn, by simp [renBx, hom], fun k hlt => ?_⟩
      · refine RelV.map (g := g1) (weak_idx g1 order) (ren_idD _) ?_
        match l, us, hall with
        | [x], [u], hall => exact hall.head
        | [], [], hall => exact ⟨[], by simp, .nil⟩
        | x :: y :: q, u :: v :: us, hall => exact ⟨u :: v :: us, by simp, hall⟩
        | [], u :: us, hall => exact absurd hall.1 (by simp)
        | [x], [], hall => exact absurd hall.1 (by simp)
        | [x], u :: v :: us, hall => exact absurd hall.1 (by simp)
        | x :: y :: q, [], hall => exact absurd hall.1 (by simp)
        | x :: y :: q, [u], hall => exact absurd hall.1 (by simp)
      · obtain ⟨h1, h2⟩ := ren_at (g := g1) (hk k hlt)
        obtain ⟨h3, h4⟩ := h.pin k hlt
        rw [hm.bx] at h1; rw [hm.sl] at h2
        exact ⟨h1.trans h3, h2.trans h4⟩
end

/-- a call begins -/
theorem entry_rel {g : G} {w : World} {O : Nat → Prop} {n : Nat} {args : List V} {cargs : List Value} {bxs : Bx} (hm : RelM w g.S O g bxs w) (hc : ∀ k, k < bxs.length → g.c k) (hargs : All2 (RelV g) args cargs) :
    Rel w g.S O g g (entry n args bxs) { tmps := cargs.toArray ++ Array.replicate (n - cargs.toArray.size) undef, defers := [] } w := by
  refine ⟨rfl, by simp [entry, hargs.1], hc, fun k => ⟨fun h => hm.c k h, fun h => hc k h⟩, fun _ _ => ⟨rfl, rfl⟩, fun i v hv => ?_, hm⟩
  simp only [entry] at hv ⊢
  by_cases hi : i < args.length
  · rw [List.getElem?_append_left hi] at hv
    obtain ⟨u, hu, hr⟩ := hargs.get hv
    have hlt : i < cargs.length := by rw [hargs.1]; exact hi
    have : (cargs.toArray ++ Array.replicate (n - cargs.toArray.size) undef).getD i undef = u := by
      rw [Array.getD_eq_getD_getElem?, Array.getElem?_append_left (by simpa using hlt)]
      simp [hu]
    rw [this]
    exact hr
  · rw [List.getElem?_append_right (by omega)] at hv
    rw [List.getElem?_replicate] at hv
    split at hv
    · rename_i hlt
      cases hv
      have : (cargs.toArray ++ Array.replicate (n - cargs.toArray.size) undef).getD i undef = undef := by
        rw [Array.getD_eq_getD_getElem?, Array.getElem?_append_right (by simp [hargs.1]; omega)]
        simp [hargs.1, hlt]
      rw [this]
      exact ⟨[], rfl, .nil⟩
    · cases hv

theorem callFunc_enter {P : Program} {f : FuncId} {fn : Func} (hf : P.funcs[f]? = some fn) (hb : fn.body.isSome = true) (hn : (fn.name == "runtime.NumGoroutine") = false) (args : Array Value) (w : World) :
    (callFunc f args).run P w = .ok (.enter f args) w := by
  unfold callFunc
  have hb' : fn.body.isNone = false := by cases h : fn.body <;> simp [h] at hb ⊢
  simp only [Sem.run_bind, run_program, Result.andThen_ok, hf, hn, Bool.false_eq_true, if_false, hb', Sem.run_pure]

/-- what a function's run in the interpreter answers, its call answers -/
theorem runFn_res {P : Program} {cf : Cfg} (hmix : P.follows .mixedOrders = true) (hti : ∀ t i, cf.ti t = some i → TIok P t i) (hpc : PcOk P cf) {f : FuncId} {fn : Func} {c : Code} (hf : P.funcs[f]? = some fn) (hb : fn.body = some c)
    (hname : (fn.name == "runtime.NumGoroutine") = false) {fuel : Nat} {args : List V} {bxs : Bx} {v : V} {bxs' : Bx} (hr : runFn cf fuel fn c args bxs (fun v b => some (v, b)) = some (v, bxs')) : FnRes P cf.glob f args bxs v bxs' := by
  intro g w O cargs hm hc hglob hargs
  have cx : Ctx P cf g.S := ⟨hmix, hti, hglob, hpc.eq⟩
  refine .inl ⟨callFunc_enter hf (by rw [hb]; rfl) hname _ _, calls_of_wp hf hb ?_⟩
  unfold runFn at hr
  refine wp_mono (exec_rel cx hpc c hr (entry_rel (n := fn.ntmps) hm hc hargs)) ?_
  rintro e a' w' ⟨x, g', st', rfl, hR, hk⟩
  have key : finish cf fn.results.toList (fun v b => some (v, b)) st' = some (v, bxs') → a'.defers = [] ∧ ∃ v', (results fn a'.tmps).run P w' = .ok v' w' ∧ ∃ c, Ending.returned v' = .returned c ∧ PcPost g w O bxs.length v bxs' c w' := by
    intro hfin
    obtain ⟨v1, b1, u, g1, h1, h2, h3, h4, h5, h6⟩ := finish_rel cx hR hfin
    simp only [Option.some.injEq, Prod.mk.injEq] at h1
    obtain ⟨rfl, rfl⟩ := h1
    have hnp : st'.np = bxs.length := by
      rcases Nat.lt_trichotomy st'.np bxs.length with h1 | h1 | h1
      · exact absurd ((hR.np0 _).1 (hc _ h1)) (Nat.lt_irrefl _)
      · exact h1
      · exact absurd (hm.c _ ((hR.np0 _).2 h1)) (Nat.lt_irrefl _)
    exact ⟨hR.df, u, h2, u, rfl, g1, fun k hk => h6 k (by omega), by omega, h3, h4⟩
  cases x with
  | nm => exact key hk
  | ex id => simp at hk
  | rt => exact key hk

/-- what a call may come to, by conditions -/
inductive Tr where
  | no
  | ret (v : V) (b : Bx)
  | ite (c : Bool) (x y : Tr)

def Tr.run {R : Type} (t : Tr) (k : V → Bx → Option R) : Option R :=
  match t with
  | .no => none
  | .ret v b => k v b
  | .ite c x y => bif c then x.run k else y.run k

theorem Tr.nat {R : Type} (t : Tr) {k : V → Bx → Option R} {r : R} (h : t.run k = some r) : ∃ v b, k v b = some r ∧ t.run (fun v b => some (v, b)) = some (v, b) := by
  induction t with
  | no => cases h
  | ret v b => exact ⟨v, b, h, rfl⟩
  | ite c x y ihx ihy =>
    simp only [Tr.run] at h ⊢
    cases c with
    | true => exact ihx h
    | false => exact ihy h

end Vm
