/- Vm, part P: control, functions: what the interpreter answers, the machine answers. -/
import Derived.Test.YthfjmmhigapkpaaWO
import Derived.KernelRfl
import Derived.Laws.BitsLemmas
import Derived.WalkKit
import Derived.ProofKit
import Derived.OpenShut
import Derived.Below
import Derived.Carry
namespace Vm
open Go

section
variable {P : Program} {cf : Cfg} {S0 : Addr → Option Value} {w0 : World} {O : Nat → Prop} (cx : Ctx P cf S0 w0 O) (hpc : PcOk P cf)
variable {g0 g : G} {st : St} {a : Act} {w : World}
variable {R : Type} {o : Oper} {r : R} {Q : Exit → Act → World → Prop}

theorem loop_rel {c : Code} {fuel : Nat} (ih : ∀ {k : X → St → Option R} {g : G} {st : St} {a : Act} {w : World}, exec cf fuel c k st = some r → Rel w0 S0 O g0 g st a w → c.wp P (QX w0 S0 O g0 k r) a w)
    {k : X → St → Option R} (m : List Bool) : ∀ (n : Nat) {g : G} {st : St} {a : Act} {w : World}, loopV (headM m) (exec cf fuel c) k n st = some r → Rel w0 S0 O g0 g st a w → Code.rounds P c (QX w0 S0 O g0 k r) n a w := by
  intro n
  induction n with
  | zero => intro g st a w h _; simp [loopV] at h
  | succ n ihn =>
    intro g st a w h hR
    simp only [loopV] at h
    rw [rounds_succ]
    refine wp_mono (ih h hR) ?_
    rintro e a' w' ⟨x, g', st', rfl, hR', hk⟩
    cases x with
    | nm =>
      simp only at hk
      obtain ⟨g2, h2⟩ := head_rel hR' m
      exact ihn hk h2
    | ex id => exact ⟨.ex id, g', st', rfl, hR', hk⟩
    | rt => exact ⟨.rt, g', st', rfl, hR', hk⟩

include cx hpc

theorem exec_rel {fuel : Nat} : ∀ (c : Code) {R : Type} {r : R} {k : X → St → Option R} {g : G} {st : St} {a : Act} {w : World}, exec cf fuel c k st = some r → Rel w0 S0 O g0 g st a w → c.wp P (QX w0 S0 O g0 k r) a w := by
  intro c
  induction c with
  | skip => intro R r k g st a w h hR; exact wp_skip ⟨.nm, g, st, rfl, hR, h⟩
  | region id ops draw =>
    intro R r k g st a w h hR
    simp only [exec] at h
    cases draw with
    | true =>
      rw [cond_true] at h
      cases hd : (drawOk ops && !(ops.toList.any fun o => isFn o.op && borOf cf o)) with
      | false =>
        rw [hd, cond_false] at h
        cases ha : alts ops with
        | none => rw [ha] at h; cases h
        | some q =>
          rw [ha] at h; simp only at h
          have h0 := bothL_some h
          obtain ⟨g1, h1⟩ := pre_rel (cf := cf) (ops.toList.filter fun o => !isFn o.op) hR
          exact region_two cx hpc ha h1 (fun L hL => h0 _ (List.mem_map_of_mem hL)) (fun g' st' a' w' h' hk => ⟨.nm, g', st', rfl, h', hk⟩)
      | true =>
        rw [hd, cond_true] at h
        obtain ⟨g1, h1⟩ := pre_rel (cf := cf) (notB ops.toList (barrs ops.toList)) hR
        rw [Bool.and_eq_true] at hd
        exact region_draw cx hpc hd.1 h1 h (fun g' st' a' w' h' hk => ⟨.nm, g', st', rfl, h', hk⟩)
    | false =>
      rw [cond_false] at h
      refine wp_region ?_
      rw [List.range_eq_range']
      have := runOps_rel cx hpc (Q := QX w0 S0 O g0 k r) ops (k .nm) ops.toList 0 rfl hR h (fun g' st' a' w' h' hk => ⟨.nm, g', st', rfl, h', hk⟩)
      simpa using this
  | seq x y ihx ihy =>
    intro R r k g st a w h hR
    simp only [exec] at h
    refine wp_seq (wp_mono (ihx h hR) ?_)
    rintro e a' w' ⟨z, g', st', rfl, hR', hk⟩
    cases z with
    | nm => exact ihy hk hR'
    | ex id => exact ⟨.ex id, g', st', rfl, hR', hk⟩
    | rt => exact ⟨.rt, g', st', rfl, hR', hk⟩
  | cond c x y ihx ihy =>
    intro R r k g st a w h hR
    simp only [exec] at h
    have he := ev_rel cx hR c
    generalize st.ev cf c = e at h he
    match e, h, he with
    | .t (.w (.d (.bool t))), h, he =>
      have hb := relC_bool he
      cases t with
      | true => exact wp_cond_true hb (ihx h hR)
      | false => exact wp_cond_false hb (ihy h hR)
  | block id c ih =>
    intro R r k g st a w h hR
    simp only [exec] at h
    refine wp_block (wp_mono (ih h hR) ?_)
    rintro e a' w' ⟨z, g', st', rfl, hR', hk⟩
    cases z with
    | nm => exact ⟨.nm, g', st', rfl, hR', hk⟩
    | ex i =>
      simp only at hk
      show if i = id then _ else _
      by_cases hi : i = id
      · rw [if_pos hi]; subst hi; rw [beq_self_eq_true, cond_true] at hk; exact ⟨.nm, g', st', rfl, hR', hk⟩
      · rw [if_neg hi]; rw [beq_false_of_ne hi, cond_false] at hk; exact ⟨.ex i, g', st', rfl, hR', hk⟩
    | rt => exact ⟨.rt, g', st', rfl, hR', hk⟩
  | loop c ih =>
    intro R r k g st a w h hR
    simp only [exec] at h
    obtain ⟨g2, h2⟩ := head_rel hR (maskEnv (cf.drop (firstReg c)) 0 st.env)
    refine wp_mono (wp_loop_rounds fuel (loop_rel (fun h hR => ih h hR) _ fuel h h2)) ?_
    rintro e a' w' ⟨z, g', st', rfl, hR', hk⟩
    unfold exitK exitM at hk
    cases hx : cf.xm with
    | false => rw [hx, cond_false] at hk; exact ⟨z, g', st', rfl, hR', hk⟩
    | true =>
      rw [hx, cond_true] at hk
      cases z with
      | nm => exact ⟨.nm, g', st', rfl, hR', hk⟩
      | ex id =>
        obtain ⟨g3, h3⟩ := head_rel hR' (maskEnv (cf.drop (1000 + id)) 0 st'.env)
        exact ⟨.ex id, g3, _, rfl, h3, hk⟩
      | rt =>
        obtain ⟨g3, h3⟩ := head_rel hR' (maskEnv (cf.drop 999) 0 st'.env)
        exact ⟨.rt, g3, _, rfl, h3, hk⟩
  | exit id => intro R r k g st a w h hR; exact wp_exit ⟨.ex id, g, st, rfl, hR, h⟩
  | ret => intro R r k g st a w h hR; exact wp_ret ⟨.rt, g, st, rfl, hR, h⟩
  | rangeFunc f ps x y _ _ => intro R r k g st a w h hR; simp [exec] at h
  | scope c _ => intro R r k g st a w h hR; simp [exec] at h
  | label l => intro R r k g st a w h hR; simp [exec] at h
  | goto l => intro R r k g st a w h hR; simp [exec] at h
  | refuse s => intro R r k g st a w h hR; simp [exec] at h

omit hpc
theorem resOf_rel (h : Rel w0 S0 O g0 g st a w) {x : ResultVar} {v : T} (hx : resOf cf st x = some v) :
    ∃ u, (match x with | .tmp t => (pure (a.tmps.getD t undef) : Sem Value) | .cell p t => do loadVar t (← asAddr (a.tmps.getD p undef))).run P w = .ok u w ∧ RelT g v u := by
  cases x with
  | tmp t =>
    simp only [resOf, getV_eq] at hx
    have he := ev_rel cx h (.tmp t)
    simp only [St.ev, getV_eq, Act.eval] at he
    generalize st.env.getD t vu = e at hx he
    match e, hx, he with
    | .t y, hx, he => cases hx; exact ⟨_, rfl, he⟩
  | cell p t =>
    simp only [resOf, getV_eq] at hx
    have he := ev_rel cx h (.tmp p)
    simp only [St.ev, getV_eq, Act.eval] at he
    generalize hti : cf.ti t = ti at hx
    generalize st.env.getD p vu = e at hx he
    match ti, e, hx, he with
    | some i, .t (.w (.ptr b off)), hx, he =>
      simp only at hx
      generalize hb : st.bx.getD b none = bb at hx
      match bb, hx with
      | some (.cells m), hx =>
        simp only at hx
        obtain ⟨_, cs, e, hh, hcs⟩ := h.m.box b _ (getD_some hb)
        have hcell : ∀ j u, (cs.drop off)[j]? = some u → w.cell? ((⟨g.bx b, off, none⟩ : Addr).add j) = some u := by
          intro j u hj
          rw [add_plain', cell_of_row w (g.bx b) (off + j) cs.toArray e (0, 0) hh]
          simpa using hj
        have hw := cut_rel (i := i) hcs hx
        have hl := load_run cx hti hcell
        have hea : a.tmps.getD p undef = .pointer (some ⟨g.bx b, off, none⟩) := he.2
        simp only [Sem.run_bind, hea, asAddr, Sem.run_pure, Result.andThen_ok]
        cases hag : i.ag with
        | true => obtain ⟨h1, h2⟩ := hw.1 hag; rw [hl.1 hag h2]; exact ⟨_, rfl, h1⟩
        | false => obtain ⟨u, h1, h2⟩ := hw.2 hag; rw [hl.2 hag u h1]; exact ⟨u, rfl, h2⟩

theorem resAll_rel (h : Rel w0 S0 O g0 g st a w) : ∀ (rs : List ResultVar) (vs : List T), resAll cf st rs = some vs →
    ∃ us : List Value, (rs.mapM fun (x : ResultVar) => match x with | .tmp t => (pure (a.tmps.getD t undef) : Sem Value) | .cell p t => do loadVar t (← asAddr (a.tmps.getD p undef))).run P w = .ok us w ∧ All2 (RelT g) vs us := by
  intro rs
  induction rs with
  | nil => intro vs hv; simp [resAll] at hv; subst hv; exact ⟨[], by simp, .nil⟩
  | cons x q ih =>
    intro vs hv
    simp only [resAll] at hv
    cases hx : resOf cf st x with
    | none => rw [hx] at hv; cases hv
    | some v =>
      cases hq : resAll cf st q with
      | none => rw [hx, hq] at hv; cases hv
      | some l =>
        rw [hx, hq] at hv; cases hv
        obtain ⟨u, hu, hr⟩ := resOf_rel cx h hx
        obtain ⟨us, hus, hall⟩ := ih l hq
        refine ⟨u :: us, ?_, .cons hr hall⟩
        rw [List.mapM_cons]
        simp only [Sem.run_bind, hu, Result.andThen_ok, hus, Sem.run_pure]

omit cx in
theorem narrowTs_rel : ∀ (xs ys : List T) {bx bx' : Bx} {g : G}, narrowTs xs bx = some (ys, bx') → RelM w0 S0 O g bx w → ∀ us, All2 (RelT g) xs us → ∃ g', Ext g g' ∧ RelM w0 S0 O g' bx' w ∧ All2 (RelT g') ys us := by
  intro xs
  induction xs with
  | nil => intro ys bx bx' g hp h us hu; simp [narrowTs] at hp; obtain ⟨rfl, rfl⟩ := hp; exact ⟨g, .refl g, h, hu⟩
  | cons x r ih =>
    intro ys bx bx' g hp h us hu
    simp only [narrowTs] at hp
    cases h1 : narrowT false x bx with
    | none => rw [h1] at hp; cases hp
    | some q =>
      obtain ⟨y, bx1⟩ := q
      rw [h1] at hp; simp only at hp
      cases h2 : narrowTs r bx1 with
      | none => rw [h2] at hp; cases hp
      | some q =>
        obtain ⟨l, bx2⟩ := q
        rw [h2] at hp; simp only [Option.some.injEq, Prod.mk.injEq] at hp; obtain ⟨rfl, rfl⟩ := hp
        cases us with
        | nil => exact absurd hu.1 (by simp)
        | cons u us =>
          obtain ⟨g1, a1, a2, a3, _⟩ := narrowT_rel h1 h hu.head
          obtain ⟨g2, b1, b2, b3⟩ := ih l h2 a2 us (hu.tail.imp fun _ _ h => h.weak a1.weak)
          exact ⟨g2, a1.trans b1, b2, .cons (a3.weak b1.weak) b3⟩

/-- how a call ends -/
theorem finish_rel (h : Rel w0 S0 O g0 g st a w) {fn : Func} {k : V → Bx → Option R} (hv : finish cf fn.results.toList k st = some r) :
    ∃ v bxs u g', k v bxs = some r ∧ (results fn a.tmps).run P w = .ok u w ∧ RelV g' v u ∧ RelM w0 S0 O g' bxs w ∧ st.np ≤ bxs.length ∧ ∀ k, k < st.np → g'.bx k = g0.bx k ∧ g'.sl k = g0.sl k := by
  unfold finish at hv
  cases hr : resAll cf st fn.results.toList with
  | none => rw [hr] at hv; cases hv
  | some vs =>
    rw [hr] at hv; simp only at hv
    obtain ⟨us, hus, hall⟩ := resAll_rel cx h _ vs hr
    have hp : ∀ q, (bif cf.keep then narrowTs vs st.bx else passTs false vs st.bx) = some q → ∃ g1, Ext g g1 ∧ RelM w0 S0 O g1 q.2 w ∧ All2 (RelT g1) q.1 us := by
      intro q hq
      cases hk : cf.keep with
      | true =>
        rw [hk, cond_true] at hq
        obtain ⟨ys, bx'⟩ := q
        exact narrowTs_rel vs ys hq h.m us hall
      | false =>
        rw [hk, cond_false] at hq
        obtain ⟨ys, bx'⟩ := q
        obtain ⟨g1, h1, h2, h3, h4⟩ := passTs_rel _ _ hq h.m
        exact ⟨g1, h1.ext, h2, h4 us hall⟩
    generalize (bif cf.keep then narrowTs vs st.bx else passTs false vs st.bx) = q at hv hp
    match q, hv with
    | some (l, bx1), hv =>
      simp only at hv
      obtain ⟨g1, hm, hR, hall⟩ := hp _ rfl
      have hgr := reachAll_grow bx1 (List.range st.np) (tsNames l)
      generalize reachAll bx1 (List.range st.np) (tsNames l) = order at hv hgr
      obtain ⟨m, hom⟩ := hgr.pre
      have hn := hgr.nodup List.nodup_range
      have hk : ∀ k, k < st.np → order[k]? = some k := fun k hk => by
        rw [hom, List.getElem?_append_left (by simpa using hk)]; simp [hk]
      have hrun : (results fn a.tmps).run P w = .ok (if h : us.toArray.size = 1 then us.toArray[0] else .tuple us.toArray) w := by
        unfold results
        rw [Array.mapM_eq_mapM_toList]
        simp only [Sem.run_bind, Sem.run_map]
        erw [hus]
        simp only [Result.andThen_ok, Sem.run_pure]
      refine ⟨_, _, _, g1.ren order, hv, hrun, ?_, hR.ren hn, by simp [renBx, hom], fun k hlt => ?_⟩
      · refine RelV.map (g := g1) (weak_idx g1 order) (ren_idD _) ?_
        match l, us, hall with
        | [x], [u], hall => exact hall.head
        | [], [], hall => exact ⟨[], by simp, .nil⟩
        | x :: y :: q, u :: v :: us, hall => exact ⟨u :: v :: us, by simp, hall⟩
        | [], u :: us, hall => exact absurd hall.1 (by simp)
        | [x], [], hall => exact absurd hall.1 (by simp)
        | [x], u :: v :: us, hall => exact absurd hall.1 (by simp)
        | x :: y :: q, [], hall => exact absurd hall.1 (by simp)
        | x :: y :: q, [u], hall => exact absurd hall.1 (by simp)
      · obtain ⟨h1, h2⟩ := ren_at (g := g1) (hk k hlt)
        obtain ⟨h3, h4⟩ := h.pin k hlt
        rw [hm.bx k (h.np k hlt)] at h1; rw [hm.sl k (h.np k hlt)] at h2
        exact ⟨h1.trans h3, h2.trans h4⟩
end

/-- a call begins -/
theorem entry_rel {g : G} {w : World} {O : Nat → Prop} {n : Nat} {args : List V} {cargs : List Value} {bxs : Bx} (hm : RelM w g.S O g bxs w) (hc : ∀ k, k < bxs.length → g.c k) (hargs : All2 (RelV g) args cargs) :
    Rel w g.S O g g (entry n args bxs) { tmps := cargs.toArray ++ Array.replicate (n - cargs.toArray.size) undef, defers := [] } w := by
  refine ⟨rfl, by simp [entry, hargs.1], hc, fun k => ⟨fun h => hm.c k h, fun h => hc k h⟩, fun _ _ => ⟨rfl, rfl⟩, fun i v hv => ?_, hm⟩
  simp only [entry] at hv ⊢
  by_cases hi : i < args.length
  · rw [List.getElem?_append_left hi] at hv
    obtain ⟨u, hu, hr⟩ := hargs.get hv
    have hlt : i < cargs.length := by rw [hargs.1]; exact hi
    have : (cargs.toArray ++ Array.replicate (n - cargs.toArray.size) undef).getD i undef = u := by
      rw [Array.getD_eq_getD_getElem?, Array.getElem?_append_left (by simpa using hlt)]
      simp [hu]
    rw [this]
    exact hr
  · rw [List.getElem?_append_right (by omega)] at hv
    rw [List.getElem?_replicate] at hv
    split at hv
    · rename_i hlt
      cases hv
      have : (cargs.toArray ++ Array.replicate (n - cargs.toArray.size) undef).getD i undef = undef := by
        rw [Array.getD_eq_getD_getElem?, Array.getElem?_append_right (by simp [hargs.1]; omega)]
        simp [hargs.1, hlt]
      rw [this]
      exact ⟨[], rfl, .nil⟩
    · cases hv

theorem callFunc_enter {P : Program} {f : FuncId} {fn : Func} (hf : P.funcs[f]? = some fn) (hb : fn.body.isSome = true) (hn : (fn.name == "runtime.NumGoroutine") = false) (args : Array Value) (w : World) :
    (callFunc f args).run P w = .ok (.enter f args) w := by
  unfold callFunc
  have hb' : fn.body.isNone = false := by cases h : fn.body <;> simp [h] at hb ⊢
  simp only [Sem.run_bind, run_program, Result.andThen_ok, hf, hn, Bool.false_eq_true, if_false, hb', Sem.run_pure]

/-- what a function's run in the interpreter answers, its call answers -/
theorem runFn_res {P : Program} {cf : Cfg} (hmix : P.follows .mixedOrders = true) (hti : ∀ t i, cf.ti t = some i → TIok P t i) (hpc : PcOk P cf) {f : FuncId} {fn : Func} {c : Code} (hf : P.funcs[f]? = some fn) (hb : fn.body = some c)
    (hname : (fn.name == "runtime.NumGoroutine") = false) {fuel : Nat} {args : List V} {bxs : Bx} {v : V} {bxs' : Bx} (hr : runFn cf fuel fn c args bxs (fun v b => some (v, b)) = some (v, bxs')) : FnRes P cf.glob f args bxs v bxs' := by
  intro g w O cargs hm hc hglob henv hargs
  have cx : Ctx P cf g.S w O := ⟨henv, hmix, hti, hglob, hpc.eq⟩
  refine .inl ⟨callFunc_enter hf (by rw [hb]; rfl) hname _ _, calls_of_wp hf hb ?_⟩
  unfold runFn at hr
  refine wp_mono (exec_rel cx hpc c hr (entry_rel (n := fn.ntmps) hm hc hargs)) ?_
  rintro e a' w' ⟨x, g', st', rfl, hR, hk⟩
  have key : finish cf fn.results.toList (fun v b => some (v, b)) st' = some (v, bxs') → a'.defers = [] ∧ ∃ v', (results fn a'.tmps).run P w' = .ok v' w' ∧ ∃ c, Ending.returned v' = .returned c ∧ PcPost g w O bxs.length v bxs' c w' := by
    intro hfin
    obtain ⟨v1, b1, u, g1, h1, h2, h3, h4, h5, h6⟩ := finish_rel cx hR hfin
    simp only [Option.some.injEq, Prod.mk.injEq] at h1
    obtain ⟨rfl, rfl⟩ := h1
    have hnp : st'.np = bxs.length := by
      rcases Nat.lt_trichotomy st'.np bxs.length with h1 | h1 | h1
      · exact absurd ((hR.np0 _).1 (hc _ h1)) (Nat.lt_irrefl _)
      · exact h1
      · exact absurd (hm.c _ ((hR.np0 _).2 h1)) (Nat.lt_irrefl _)
    exact ⟨hR.df, u, h2, u, rfl, g1, fun k hk => h6 k (by omega), by omega, h3, h4⟩
  cases x with
  | nm => exact key hk
  | ex id => simp at hk
  | rt => exact key hk

/-- what a call may come to, by conditions -/
inductive Tr where
  | no
  | ret (v : V) (b : Bx)
  | ite (c : Bool) (x y : Tr)

def Tr.run {R : Type} (t : Tr) (k : V → Bx → Option R) : Option R :=
  match t with
  | .no => none
  | .ret v b => k v b
  | .ite c x y => bif c then x.run k else y.run k

theorem Tr.nat {R : Type} (t : Tr) {k : V → Bx → Option R} {r : R} (h : t.run k = some r) : ∃ v b, k v b = some r ∧ t.run (fun v b => some (v, b)) = some (v, b) := by
  induction t with
  | no => cases h
  | ret v b => exact ⟨v, b, h, rfl⟩
  | ite c x y ihx ihy =>
    simp only [Tr.run] at h ⊢
    cases c with
    | true => exact ihx h
    | false => exact ihy h

end Vm

/- Vm, part Q: a program's types for the interpreter. -/
namespace Vm
open Go

def zOk : Z → Value → Bool
  | .c (.int k n), .int k' n' => decide (k = k') && decide (n = n')
  | .c (.bool b), .bool b' => b == b'
  | .c (.str s), .string s' => decide (s.size = 0) && decide (s'.size = 0)
  | .c .ni, .nilIface => true
  | .c .nf, .nilFunc => true
  | .c .np, .pointer none => true
  | .c .nm, .map none => true
  | .s _ sz, .slice none 0 0 => Nat.blt 0 sz
  | _, _ => false

theorem zOk_rel {z : Z} {v : Value} (h : zOk z v = true) : ZRel z v := by
  unfold zOk at h
  split at h
  · simp only [Bool.and_eq_true, decide_eq_true_eq] at h; obtain ⟨rfl, rfl⟩ := h; exact RelC.int _ _
  · simp only [beq_iff_eq] at h; subst h; exact RelC.bool _
  · rename_i s s'
    simp only [Bool.and_eq_true, decide_eq_true_eq] at h
    have : s = s' := by
      have e1 : s.data = #[] := Array.eq_empty_of_size_eq_zero h.1
      have e2 : s'.data = #[] := Array.eq_empty_of_size_eq_zero h.2
      cases s; cases s'; simp only at e1 e2; rw [e1, e2]
    subst this; exact RelC.str _
  · exact RelC.ni
  · exact RelC.nf
  · exact RelC.np
  · exact RelC.nm
  · exact ⟨rfl, by simpa [Nat.blt_eq] using h⟩
  · cases h

def zsOk : List Z → List Value → Bool
  | [], [] => true
  | z :: r, v :: q => zOk z v && zsOk r q
  | _, _ => false

theorem zsOk_rel : ∀ (zs : List Z) (vs : List Value), zsOk zs vs = true → All2 ZRel zs vs := by
  intro zs
  induction zs with
  | nil => intro vs h; cases vs with
           | nil => exact .nil
           | cons v q => cases h
  | cons z r ih =>
    intro vs h
    cases vs with
    | nil => cases h
    | cons v q =>
      simp only [zsOk, Bool.and_eq_true] at h
      exact .cons (zOk_rel h.1) (ih q h.2)

def isAggV : Value → Bool
  | .agg _ => true
  | _ => false

theorem tiok {P : Program} {t : TypeId} {i : TI} {f : TypeInfo} {z : Value} (hu : P.underlying t = some i.desc) (hf : P.info? t = some f) (hz : f.zero = some z) (hs : f.size = i.size) (hb : f.bytes = i.bytes)
    (hzs : zsOk i.zero z.cells.toList = true) (hl : i.zero.length = i.size) (ha : isAggV z = i.ag) (hd : i.ag = (match i.desc with | .struct _ | .array _ _ => true | _ => false)) : TIok P t i := by
  refine ⟨hu, ⟨z, by rw [hf]; simp [hz, hs, hb], zsOk_rel _ _ hzs, hl, ?_⟩, hd⟩
  cases z <;> simp only [isAggV] at ha <;> simp [← ha, Value.cells]
end Vm
namespace Vm
open Go
/-- a table of types, from a number on -/
def TabOk (P : Program) (k : Nat) (l : List (Option TI)) : Prop := ∀ (j : Nat) i, l[j]? = some (some i) → TIok P (k + j) i
theorem TabOk.nil {P : Program} {k : Nat} : TabOk P k [] := fun j i h => by simp at h
theorem TabOk.no {P : Program} {k : Nat} {l : List (Option TI)} (h : TabOk P (k + 1) l) : TabOk P k (none :: l) := fun j i hj => by
  cases j with
  | zero => simp at hj
  | succ j => have := h j i (by simpa using hj); rwa [show k + 1 + j = k + (j + 1) by omega] at this
theorem TabOk.yes {P : Program} {k : Nat} {x : TI} {l : List (Option TI)} (hx : TIok P k x) (h : TabOk P (k + 1) l) : TabOk P k (some x :: l) := fun j i hj => by
  cases j with
  | zero => simp at hj; subst hj; exact hx
  | succ j => have := h j i (by simpa using hj); rwa [show k + 1 + j = k + (j + 1) by omega] at this
def tabOf (l : List (Option TI)) (t : TypeId) : Option TI := match l[t]? with | some x => x | none => none
theorem TabOk.ti {P : Program} {l : List (Option TI)} (h : TabOk P 0 l) : ∀ t i, tabOf l t = some i → TIok P t i := by
  intro t i ht
  unfold tabOf at ht
  cases hq : l[t]? with
  | none => rw [hq] at ht; cases ht
  | some x => rw [hq] at ht; simp only at ht; subst ht; have := h t i hq; rwa [Nat.zero_add] at this
end Vm

/- Vm, part R: what is used where functions are shown to be what they are. -/
namespace Vm
open Go

/-- 'lv': the slots that are looked at behind a loop's head, by the loop's first region -/
def mkCfD (ti : TypeId → Option TI) (o : FuncId → List V → Bx → Tr) (keep : Bool) (bor : List Nat) (lv : List (Nat × Nat)) : Cfg :=
  { ti := ti, glob := fun _ => none, pc := fun f a b k => (o f a b).run k, keep := keep, bor := fun i => bor.any (fun j => Nat.beq j i), drop := fun r i => !liveAt lv r i, xm := true, eqs := fun _ => false }
def mkCf (ti : TypeId → Option TI) (o : FuncId → List V → Bx → Tr) (keep : Bool := false) (bor : Nat → Bool := fun _ => false) (drop : Nat → Bool := fun _ => false) : Cfg :=
  { ti := ti, glob := fun _ => none, pc := fun f a b k => (o f a b).run k, keep := keep, bor := bor, drop := fun _ => drop, xm := false, eqs := fun _ => false }
def blockK {R : Type} (id : Nat) (k : X → St → Option R) : X → St → Option R := fun x st => match x with
  | .nm => k .nm st
  | .ex i => bif i == id then k .nm st else k (.ex i) st
  | .rt => k .rt st
noncomputable def seqK {R : Type} (cf : Cfg) (F : Nat) (b : Code) (k : X → St → Option R) : X → St → Option R := fun x st => match x with
  | .nm => exec cf F b k st
  | .ex i => k (.ex i) st
  | .rt => k .rt st
noncomputable def finK {R : Type} (cf : Cfg) (fn : Func) (k : V → Bx → Option R) : X → St → Option R := fun x st => match x with
  | .ex _ => none
  | _ => finish cf fn.results.toList k st
/-- what stands behind a round -/
def loopK {R : Type} (hd : St → St) (body : (X → St → Option R) → St → Option R) (k : X → St → Option R) (n : Nat) : X → St → Option R := fun x st => match x with
  | .nm => loopV hd body k n (hd st)
  | .ex id => k (.ex id) st
  | .rt => k .rt st
def bd (f : Func) : Code := f.body.getD .skip
/-- parts of code -/
def cA : Code → Code
  | .seq a _ => a
  | .cond _ a _ => a
  | .block _ c => c
  | .loop c => c
  | c => c
def cB : Code → Code
  | .seq _ b => b
  | .cond _ _ b => b
  | c => c

theorem getT_map {α β γ : Type} (f : α → β) (xs : List α) (i : Nat) (k : β → Option γ) : getT (xs.map f) i k = getT xs i fun x => k (f x) := by
  unfold getT; rw [List.getElem?_map]; cases xs[i]? <;> rfl
theorem getT_getT {α γ : Type} (xs : List α) (i : Nat) (k : α → α → Option γ) : (getT xs i fun x => getT xs i fun y => k x y) = getT xs i fun x => k x x := by
  unfold getT; cases xs[i]? <;> rfl
theorem getT_some {α γ : Type} {xs : List α} {i : Nat} {x : α} (h : xs[i]? = some x) (k : α → Option γ) : getT xs i k = k x := by unfold getT; rw [h]

/-- an oracle of functions that are known -/
def OrcOk (P : Program) (glob : Nat → Option (List C)) (o : FuncId → List V → Bx → Tr) : Prop :=
  ∀ f a b v b', (o f a b).run (fun v b => some (v, b)) = some (v, b') → FnRes P glob f a b v b'
theorem Tr.run_bind {R : Type} (t : Tr) (k : V → Bx → Option R) : t.run k = (t.run fun v b => some (v, b)).bind fun p => k p.1 p.2 := by
  induction t with
  | no => rfl
  | ret v b => rfl
  | ite c x y ihx ihy =>
    simp only [Tr.run]
    cases c with
    | true => exact ihx
    | false => exact ihy
theorem OrcOk.pc {P : Program} {cf : Cfg} {o : FuncId → List V → Bx → Tr} (h : OrcOk P cf.glob o) (hp : ∀ {R : Type}, @Cfg.pc cf R = fun f a b k => (o f a b).run k)
    (he : ∀ t, cf.eqs t = true → P.stoodInHeld t = false ∧ P.eqGuardType P.depth t = false := by exact fun _ h => nomatch h) : PcOk P cf := by
  refine ⟨fun f args bxs k r hr => ?_, fun f args bxs k => ?_, he⟩
  · rw [hp] at hr
    obtain ⟨v, b, h1, h2⟩ := Tr.nat _ hr
    exact ⟨v, b, h1, h f args bxs v b h2⟩
  · rw [hp, hp]
    exact Tr.run_bind (o f args bxs) k
theorem mkCf_ok {P : Program} {ti : TypeId → Option TI} {o : FuncId → List V → Bx → Tr} {keep : Bool} {bor drop : Nat → Bool} (h : OrcOk P (fun _ => none) o) : PcOk P (mkCf ti o keep bor drop) :=
  OrcOk.pc h rfl
theorem mkCfD_ok {P : Program} {ti : TypeId → Option TI} {o : FuncId → List V → Bx → Tr} {keep : Bool} {bor : List Nat} {lv : List (Nat × Nat)} (h : OrcOk P (fun _ => none) o) : PcOk P (mkCfD ti o keep bor lv) :=
  OrcOk.pc h rfl
end Vm

/- Vm, part S: functions that answer by a tree of conditions; plain helpers. -/
namespace Vm
open Go

abbrev fin2 : V → Bx → Option (V × Bx) := fun v b => some (v, b)

/-- a function answers by its tree -/
def SpecOk (P : Program) (glob : Nat → Option (List C)) (g : FuncId) (S : List V → Bx → Tr) : Prop :=
  ∀ a b v b', (S a b).run fin2 = some (v, b') → FnRes P glob g a b v b'

def orcOf : List (FuncId × (List V → Bx → Tr)) → FuncId → List V → Bx → Tr
  | [], _, _, _ => .no
  | (g, S) :: r, f, a, b => bif f == g then S a b else orcOf r f a b

inductive TabS (P : Program) (glob : Nat → Option (List C)) : List (FuncId × (List V → Bx → Tr)) → Prop
  | nil : TabS P glob []
  | cons {g S r} (h : SpecOk P glob g S) (t : TabS P glob r) : TabS P glob ((g, S) :: r)

theorem TabS.orc {P : Program} {glob : Nat → Option (List C)} {l : List (FuncId × (List V → Bx → Tr))} (h : TabS P glob l) : OrcOk P glob (orcOf l) := by
  induction h with
  | nil => intro f a b v b' h; cases h
  | @cons g S r hs _ ih =>
    intro f a b v b' h
    simp only [orcOf] at h
    cases hf : f == g with
    | true => rw [hf, cond_true] at h; have := eq_of_beq hf; subst this; exact hs a b v b' h
    | false => rw [hf, cond_false] at h; exact ih f a b v b' h

theorem specOk {P : Program} (hmix : P.follows .mixedOrders = true) {ti : TypeId → Option TI} (hti : ∀ t i, ti t = some i → TIok P t i) {g : FuncId} {fn : Func} (hf : P.funcs[g]? = some fn) (hb : fn.body.isSome = true)
    (hname : (fn.name == "runtime.NumGoroutine") = false) {l : List (FuncId × (List V → Bx → Tr))} (hl : TabS P (fun _ => none) l) {keep : Bool} {bor drop : Nat → Bool} {S : List V → Bx → Tr}
    (h : ∀ a b v b', (S a b).run fin2 = some (v, b') → ∃ F, runFn (mkCf ti (orcOf l) keep bor drop) F fn (bd fn) a b fin2 = some (v, b')) : SpecOk P (fun _ => none) g S := by
  intro a b v b' hr
  obtain ⟨F, hF⟩ := h a b v b' hr
  have hb' : fn.body = some (bd fn) := by unfold bd; cases hx : fn.body with | none => rw [hx] at hb; cases hb | some c => rfl
  exact runFn_res (cf := mkCf ti (orcOf l) keep bor drop) hmix hti (mkCf_ok hl.orc) hf hb' hname hF

theorem specAt {P : Program} (hmix : P.follows .mixedOrders = true) {ti : TypeId → Option TI} (hti : ∀ t i, ti t = some i → TIok P t i) {g : FuncId} {fn : Func} (hf : P.funcs[g]? = some fn) (hb : fn.body.isSome = true)
    (hname : (fn.name == "runtime.NumGoroutine") = false) {l : List (FuncId × (List V → Bx → Tr))} (hl : TabS P (fun _ => none) l) {keep : Bool} {bor drop : Nat → Bool} (F : Nat) {a b v b'}
    (h : runFn (mkCf ti (orcOf l) keep bor drop) F fn (bd fn) a b fin2 = some (v, b')) : FnRes P (fun _ => none) g a b v b' := by
  have hb' : fn.body = some (bd fn) := by unfold bd; cases hx : fn.body with | none => rw [hx] at hb; cases hb | some c => rfl
  exact runFn_res (cf := mkCf ti (orcOf l) keep bor drop) hmix hti (mkCf_ok hl.orc) hf hb' hname h

theorem specAtD {P : Program} (hmix : P.follows .mixedOrders = true) {ti : TypeId → Option TI} (hti : ∀ t i, ti t = some i → TIok P t i) {g : FuncId} {fn : Func} (hf : P.funcs[g]? = some fn) (hb : fn.body.isSome = true)
    (hname : (fn.name == "runtime.NumGoroutine") = false) {l : List (FuncId × (List V → Bx → Tr))} (hl : TabS P (fun _ => none) l) {keep : Bool} {bor : List Nat} {lv : List (Nat × Nat)} (F : Nat) {a b v b'}
    (h : runFn (mkCfD ti (orcOf l) keep bor lv) F fn (bd fn) a b fin2 = some (v, b')) : FnRes P (fun _ => none) g a b v b' := by
  have hb' : fn.body = some (bd fn) := by unfold bd; cases hx : fn.body with | none => rw [hx] at hb; cases hb | some c => rfl
  exact runFn_res (cf := mkCfD ti (orcOf l) keep bor lv) hmix hti (mkCfD_ok hl.orc) hf hb' hname h

theorem w64 (x : Int) (h0 : -9223372036854775808 ≤ x) (h1 : x ≤ 9223372036854775807) : IntKind.i64.wrap x = x := by rw [IntKind.wrap_i64]; omega

theorem run_ite {R : Type} {c : Bool} {x y : Tr} {k : V → Bx → Option R} {r : R} (h : (Tr.ite c x y).run k = some r) : (c = true ∧ x.run k = some r) ∨ (c = false ∧ y.run k = some r) := by
  cases c with
  | true => exact .inl ⟨rfl, h⟩
  | false => exact .inr ⟨rfl, h⟩
theorem run_ret {v v' : V} {b b' : Bx} (h : (Tr.ret v b).run fin2 = some (v', b')) : v' = v ∧ b' = b := by
  simp only [Tr.run, fin2, Option.some.injEq, Prod.mk.injEq] at h; exact ⟨h.1.symm, h.2.symm⟩
theorem run_no {R : Type} {k : V → Bx → Option R} {r : R} (h : Tr.no.run k = some r) : False := by cases h
theorem getT_at {α γ : Type} {xs : List α} {i : Int} {n : Nat} {x : α} (hi : i = n) (h : xs[n]? = some x) (k : α → Option γ) : getT xs i.toNat k = k x := by subst hi; exact getT_some (by simpa using h) k
end Vm

/- Vm, part T: from what arguments read as to values of the interpreter; from a function's answer to a call's. -/
namespace Vm
open Go Go.RowKit

/-- cells of a type of plain data -/
def hasT (P : Program) : Nat → TypeId → List C → Prop
  | 0, _, _ => False
  | f + 1, t, l =>
    match P.underlying t with
    | some .bool => ∃ b, l = [.bool b]
    | some (.int k) => ∃ n, l = [.int k n] ∧ (Lit.int k n).wf = true
    | some .string => ∃ s, l = [.str s] ∧ s.size ≤ maxLen
    | some (.slice e) => ∃ els : List (List C), l = [.sl (P.cellsOf e) els] ∧ els.length ≤ maxLen ∧ ∀ x ∈ els, hasT P f e x
    | some (.struct fs) => l.length = P.cellsOf t ∧ ∀ fd ∈ fs.toList, hasT P f fd.type ((l.drop fd.offset).take (P.cellsOf fd.type))
    | some (.array n e) => l.length = P.cellsOf t ∧ ∀ i, i < n → hasT P f e ((l.drop (i * P.cellsOf e)).take (P.cellsOf e))
    | _ => False

/-- fields, one behind the other -/
def tiles (P : Program) : Nat → List Field → Nat → Bool
  | o, [], n => o == n
  | o, f :: r, n => f.offset == o && tiles P (o + P.cellsOf f.type) r n
def plainT (P : Program) (ts : List TypeId) (t : TypeId) : Bool :=
  match P.underlying t with
  | some .bool | some (.int _) | some .string => P.cellsOf t == 1
  | some (.slice e) => P.cellsOf t == 1 && ts.contains e && Nat.blt 0 (P.cellsOf e)
  | some (.struct fs) => fs.toList.all (fun f => ts.contains f.type) && tiles P 0 fs.toList (P.cellsOf t)
  | some (.array n e) => ts.contains e && P.cellsOf t == n * P.cellsOf e
  | _ => false
def plainTs (P : Program) (ts : List TypeId) : Bool := ts.all (plainT P ts)

/-- a list out of what there is for each number -/
theorem list_of {α : Type} {Q : Nat → α → Prop} : ∀ n, (∀ i, i < n → ∃ x, Q i x) → ∃ l : List α, l.length = n ∧ ∀ (i : Nat) x, l[i]? = some x → Q i x := by
  intro n
  induction n with
  | zero => intro _; exact ⟨[], rfl, fun i x h => by simp at h⟩
  | succ n ih =>
    intro h
    obtain ⟨l, hl, hq⟩ := ih (fun i hi => h i (by omega))
    obtain ⟨x, hx⟩ := h n (by omega)
    refine ⟨l ++ [x], by simp [hl], fun i y hy => ?_⟩
    by_cases hi : i < l.length
    · rw [List.getElem?_append_left hi] at hy; exact hq i y hy
    · rw [List.getElem?_append_right (by omega)] at hy
      have : i - l.length = 0 := by
        have := (List.getElem?_eq_some_iff.1 hy).1; simp at this; omega
      rw [this] at hy; simp at hy; subst hy
      have : i = n := by omega
      subst this; exact hx

theorem mapM_in {α β : Type} {f : α → Option β} {l : List α} {r : List β} (h : l.mapM f = some r) : ∀ x ∈ l, ∃ y, f x = some y := by
  intro x hx
  obtain ⟨j, hj⟩ := List.getElem?_of_mem hx
  have hlt := (List.getElem?_eq_some_iff.1 hj).1
  have hl := mapM_some_length h
  exact ⟨r[j]'(by omega), by rw [mapM_some_get h j x hj]; exact List.getElem?_eq_getElem _⟩

theorem cells_get {w : World} {base : Nat} {a : Addr} {n : Nat} {cs : List Value} (h : w.cells? base a n = some cs) : cs.length = n ∧ ∀ (j : Nat) u, cs[j]? = some u → w.cell? (a.add j) = some u := by
  unfold World.cells? at h
  split at h
  · refine ⟨by rw [mapM_some_length h]; simp, fun j u hj => ?_⟩
    have hlt : j < n := by
      have := (List.getElem?_eq_some_iff.1 hj).1
      rw [mapM_some_length h] at this; simpa using this
    have := mapM_some_get h j j (by simp [hlt])
    rw [this]; exact hj
  · cases h

section
variable {H : Type} {enc : TypeId × Value → H} {P : Program} {w : World} {base : Nat} {spare : Nat → Bool} {held : Bool}

/-- fields, one behind the other, each read -/
theorem fields_rel {ts : List TypeId} {f : Nat} (ih : ∀ t, t ∈ ts → ∀ cs x, DataW.trod enc P w base spare held f t cs = some x → ∃ l, All2 (RelC w.cell?) l cs ∧ hasT P f t l) {cs : List Value} :
    ∀ (fs : List Field) (o n : Nat), tiles P o fs n = true → cs.length = n → (∀ fd ∈ fs, fd.type ∈ ts) →
      (∀ fd ∈ fs, ∃ x, DataW.trod enc P w base spare held f fd.type ((cs.drop fd.offset).take (P.cellsOf fd.type)) = some x) → o ≤ n →
      ∃ l, All2 (RelC w.cell?) l (cs.drop o) ∧ ∀ fd ∈ fs, o ≤ fd.offset ∧ hasT P f fd.type ((l.drop (fd.offset - o)).take (P.cellsOf fd.type)) := by
  intro fs
  induction fs with
  | nil =>
    intro o n ht hl _ _ _
    simp only [tiles, beq_iff_eq] at ht
    refine ⟨[], ?_, by simp⟩
    rw [List.drop_eq_nil_of_le (by omega)]; exact .nil
  | cons fd r ihr =>
    intro o n ht hl hts hx hon
    simp only [tiles, Bool.and_eq_true, beq_iff_eq] at ht
    obtain ⟨ho, ht⟩ := ht
    obtain ⟨x, hx0⟩ := hx fd (by simp)
    obtain ⟨l0, hr0, hh0⟩ := ih fd.type (hts fd (by simp)) _ _ hx0
    have hle : o + P.cellsOf fd.type ≤ n := by
      have : ∀ (fs : List Field) (o : Nat), tiles P o fs n = true → o ≤ n := by
        intro fs
        induction fs with
        | nil => intro o h; simp [tiles] at h; omega
        | cons f r ih => intro o h; simp only [tiles, Bool.and_eq_true] at h; have := ih _ h.2; omega
      exact this r _ ht
    obtain ⟨l1, hr1, hh1⟩ := ihr _ n ht hl (fun g hg => hts g (by simp [hg])) (fun g hg => hx g (by simp [hg])) hle
    have hsplit : cs.drop o = (cs.drop fd.offset).take (P.cellsOf fd.type) ++ cs.drop (o + P.cellsOf fd.type) := by
      have := List.take_append_drop (P.cellsOf fd.type) (cs.drop o)
      rw [List.drop_drop] at this
      rw [ho]; exact this.symm
    have hl0 : l0.length = P.cellsOf fd.type := by
      have := hr0.1; simp at this; omega
    refine ⟨l0 ++ l1, by rw [hsplit]; exact hr0.append hr1, fun g hg => ?_⟩
    rcases List.mem_cons.1 hg with rfl | hg
    · refine ⟨by omega, ?_⟩
      rw [ho, Nat.sub_self, List.drop_zero, List.take_append_of_le_length (by omega), List.take_of_length_le (by omega)]
      exact hh0
    · obtain ⟨h1, h2⟩ := hh1 g hg
      refine ⟨by omega, ?_⟩
      have : g.offset - o = l0.length + (g.offset - (o + P.cellsOf fd.type)) := by omega
      rw [this, List.drop_append, List.drop_eq_nil_of_le (by omega), List.nil_append, Nat.add_sub_cancel_left]
      exact h2

/-- elements of an array -/
theorem elems_rel {f : Nat} {e : TypeId} (ih : ∀ cs x, DataW.trod enc P w base spare held f e cs = some x → ∃ l, All2 (RelC w.cell?) l cs ∧ hasT P f e l) {cs : List Value} {n : Nat} (hl : cs.length = n * P.cellsOf e)
    (hx : ∀ i, i < n → ∃ x, DataW.trod enc P w base spare held f e ((cs.drop (i * P.cellsOf e)).take (P.cellsOf e)) = some x) :
    ∀ k, k ≤ n → ∃ l, All2 (RelC w.cell?) l (cs.take (k * P.cellsOf e)) ∧ ∀ i, i < k → hasT P f e ((l.drop (i * P.cellsOf e)).take (P.cellsOf e)) := by
  intro k
  induction k with
  | zero => intro _; exact ⟨[], by simp; exact .nil, fun i hi => by omega⟩
  | succ k ihk =>
    intro hk
    obtain ⟨l, hr, hh⟩ := ihk (by omega)
    obtain ⟨x, hx0⟩ := hx k (by omega)
    obtain ⟨l0, hr0, hh0⟩ := ih _ _ hx0
    have hmul : (k + 1) * P.cellsOf e ≤ n * P.cellsOf e := Nat.mul_le_mul_right _ hk
    rw [Nat.add_mul, Nat.one_mul] at hmul
    have hll : l.length = k * P.cellsOf e := by have := hr.1; simp at this; omega
    have hl0 : l0.length = P.cellsOf e := by have := hr0.1; simp at this; omega
    refine ⟨l ++ l0, ?_, fun i hi => ?_⟩
    · rw [Nat.add_mul, Nat.one_mul, List.take_add]
      exact hr.append hr0
    · by_cases hik : i < k
      · have hm2 : (i + 1) * P.cellsOf e ≤ k * P.cellsOf e := Nat.mul_le_mul_right _ hik
        rw [Nat.add_mul, Nat.one_mul] at hm2
        rw [List.drop_append_of_le_length (by omega), List.take_append_of_le_length (by simp; omega)]
        exact hh i hik
      · have : i = k := by omega
        subst this
        rw [List.drop_append, List.drop_eq_nil_of_le (by omega), List.nil_append, hll, Nat.sub_self, List.drop_zero, List.take_of_length_le (by omega)]
        exact hh0

/-- what reads as plain data is meant by cells that never change -/
theorem trod_rel {ts : List TypeId} (hts : plainTs P ts = true) : ∀ (f : Nat) (t : TypeId), t ∈ ts → ∀ cs x, DataW.trod enc P w base spare held f t cs = some x → ∃ l, All2 (RelC w.cell?) l cs ∧ hasT P f t l := by
  intro f
  induction f with
  | zero => intro t _ cs x h; simp [DataW.trod] at h
  | succ f ih =>
    intro t ht cs x h
    have hp := List.all_eq_true.1 hts t ht
    unfold plainT at hp
    unfold DataW.trod at h
    unfold hasT
    generalize hu : P.underlying t = u at hp h
    match u, hp with
    | some .bool, hp =>
      match cs, h with
      | [.bool b], h => exact ⟨[.bool b], .cons (.bool b) .nil, b, rfl⟩
    | some (.int k), hp =>
      match cs, h with
      | [.int k' n], h =>
        simp only at h
        split at h
        · rename_i hc; obtain ⟨rfl, hw⟩ := hc
          exact ⟨[.int k' n], .cons (.int k' n) .nil, n, rfl, hw⟩
        · cases h
    | some .string, hp =>
      match cs, h with
      | [.string s], h =>
        simp only at h
        split at h
        · rename_i hc
          exact ⟨[.str s], .cons (.str s) .nil, s, rfl, hc⟩
        · cases h
    | some (.slice e), hp =>
      simp only [Bool.and_eq_true, beq_iff_eq, Nat.blt_eq] at hp
      obtain ⟨⟨_, he⟩, hpos⟩ := hp
      have he : e ∈ ts := by simpa using he
      match cs, h with
      | [.slice none 0 0], h =>
        exact ⟨[.sl (P.cellsOf e) []], .cons (relC_nil _ _) .nil, [], rfl, by simp, by simp⟩
      | [.slice (some a) len cap], h =>
        simp only at h
        split at h
        · rename_i hc
          obtain ⟨hb, hlc, hcm⟩ := hc
          obtain ⟨elems, hel, _⟩ := Option.bind_eq_some_iff.1 h
          have hget : ∀ i, i < len → ∃ l : List C, ∃ csi, w.cells? base (a.add (i * P.cellsOf e)) (P.cellsOf e) = some csi ∧ All2 (RelC w.cell?) l csi ∧ hasT P f e l := by
            intro i hi
            obtain ⟨y, hy⟩ := mapM_in hel i (by simpa using hi)
            obtain ⟨csi, hcsi, hy⟩ := Option.bind_eq_some_iff.1 hy
            obtain ⟨l, h1, h2⟩ := ih e he _ _ hy
            exact ⟨l, csi, hcsi, h1, h2⟩
          obtain ⟨els, hlen, hels⟩ := list_of len hget
          have hcell : ∀ (i : Nat) el, els[i]? = some el → el.length = P.cellsOf e ∧ ∀ (j : Nat) c, el[j]? = some c → ∃ u, w.cell? (a.add (i * P.cellsOf e + j)) = some u ∧ RelC w.cell? c u := by
            intro i el hi
            obtain ⟨csi, h1, h2, h3⟩ := hels i el hi
            obtain ⟨h4, h5⟩ := cells_get h1
            refine ⟨by have := h2.1; omega, fun j c hj => ?_⟩
            obtain ⟨u, hu1, hu2⟩ := h2.get hj
            have := h5 j u hu1
            rw [add_add'] at this
            exact ⟨u, this, hu2⟩
          refine ⟨[.sl (P.cellsOf e) els], .cons ?_ .nil, els, rfl, by omega, fun y hy => ?_⟩
          · subst hlen
            refine RelC.sl _ els (some a) cap (fun i j => (w.cell? (a.add (i * P.cellsOf e + j))).getD undef) (by omega) (fun y hy => ?_) (fun _ => ⟨a, rfl⟩) (fun hne b hb => ?_) (fun b hb i el hi j c hj => ?_) (fun i el hi j c hj => ?_)
            · obtain ⟨i, hi⟩ := List.getElem?_of_mem hy
              exact (hcell i y hi).1
            · cases hb
              obtain ⟨y, hy⟩ := List.exists_mem_of_ne_nil _ hne
              obtain ⟨i, hi⟩ := List.getElem?_of_mem hy
              have h0 : ∃ y0, els[0]? = some y0 := by
                have := (List.getElem?_eq_some_iff.1 hi).1
                exact ⟨_, List.getElem?_eq_getElem (by omega)⟩
              obtain ⟨y0, hy0⟩ := h0
              obtain ⟨h1, h2⟩ := hcell 0 y0 hy0
              obtain ⟨u, hu1, _⟩ := h2 0 _ (List.getElem?_eq_getElem (by omega))
              have e0 : a.add (0 * P.cellsOf e + 0) = a := by simp [Addr.add]
              rw [e0] at hu1
              exact World.cell?_spot hu1
            · cases hb
              obtain ⟨u, hu1, _⟩ := (hcell i el hi).2 j c hj
              rw [hu1]; rfl
            · obtain ⟨u, hu1, hu2⟩ := (hcell i el hi).2 j c hj
              rw [hu1]; exact hu2
          · obtain ⟨i, hi⟩ := List.getElem?_of_mem hy
            obtain ⟨_, _, _, h3⟩ := hels i y hi
            exact h3
        · cases h
    | some (.struct fs), hp =>
      simp only [Bool.and_eq_true] at hp
      obtain ⟨hf, htl⟩ := hp
      simp only at h
      split at h
      · rename_i hl
        obtain ⟨xs, hxs, _⟩ := Option.map_eq_some_iff.1 h
        obtain ⟨l, h1, h2⟩ := fields_rel (ih) (cs := cs) fs.toList 0 (P.cellsOf t) htl hl (fun fd hfd => by simpa using List.all_eq_true.1 hf fd hfd) (fun fd hfd => mapM_in hxs fd hfd) (Nat.zero_le _)
        rw [List.drop_zero] at h1
        refine ⟨l, h1, by have := h1.1; omega, fun fd hfd => ?_⟩
        have := (h2 fd hfd).2
        rwa [Nat.sub_zero] at this
      · cases h
    | some (.array n e), hp =>
      simp only [Bool.and_eq_true, beq_iff_eq] at hp
      obtain ⟨he, hcn⟩ := hp
      have he : e ∈ ts := by simpa using he
      simp only at h
      split at h
      · rename_i hl
        obtain ⟨xs, hxs, _⟩ := Option.map_eq_some_iff.1 h
        obtain ⟨l, h1, h2⟩ := elems_rel (ih e he) (cs := cs) (n := n) (by omega) (fun i hi => mapM_in hxs i (by simpa using hi)) n (Nat.le_refl _)
        rw [List.take_of_length_le (by omega)] at h1
        exact ⟨l, h1, by have := h1.1; omega, h2⟩
      · cases h

/-- a parameter's value -/
def argV (P : Program) (t : TypeId) (v : V) : Prop :=
  ∃ f l, hasT P f t l ∧ v = (match P.underlying t with | some (.struct _) | some (.array _ _) => .t (.agg ⟨l, [], l.length⟩) | _ => vc (l.getD 0 .nf))
def argVs (P : Program) : List TypeId → List V → Prop
  | [], [] => True
  | t :: ts, v :: vs => argV P t v ∧ argVs P ts vs
  | _, _ => False

theorem okWide_cells {r : Reach} {t : TypeId} {v : Value} {ts : List TypeId} (hp : plainT P ts t = true) (h : Value.okWide P w r base t v) :
    (match P.underlying t with | some (.struct _) | some (.array _ _) => ∃ cs, v = .agg cs | _ => v.cells = #[v]) := by
  unfold plainT at hp
  unfold Value.okWide Cell.okWide Cell.ok at h
  generalize P.underlying t = u at hp h
  match u, hp, h with
  | some (.struct _), _, h => obtain ⟨cs, rfl, _⟩ := h; exact ⟨cs, rfl⟩
  | some (.array _ _), _, h => obtain ⟨cs, rfl, _⟩ := h; exact ⟨cs, rfl⟩
  | some .bool, _, h => cases v <;> first | rfl | exact h.elim
  | some (.int k), _, h => cases v <;> first | rfl | exact h.elim
  | some .string, _, h => cases v <;> first | rfl | exact h.elim
  | some (.slice e), _, h => cases v <;> first | rfl | exact h.elim

def stG (w : World) : G := { S := w.cell?, bx := fun _ => 0, sl := fun _ => undef, c := fun _ => False }

theorem arg_rel {ts : List TypeId} (hts : plainTs P ts = true) {t : TypeId} (ht : t ∈ ts) {v : Value} {d : DataW H} {ps : List MemPlace} {r : Reach} {b0 : Nat} (hok : Value.okWide P w r b0 t v) (h : DataW.Trod enc P w base spare held t v d ps) :
    ∃ x, argV P t x ∧ RelV (stG w) x v := by
  obtain ⟨f, hf⟩ := h
  obtain ⟨l, h1, h2⟩ := trod_rel hts f t ht _ _ hf
  have hc := okWide_cells (List.all_eq_true.1 hts t ht) hok
  have hp := List.all_eq_true.1 hts t ht
  unfold plainT at hp
  refine ⟨_, ⟨f, l, h2, rfl⟩, ?_⟩
  have key : v.cells = #[v] → RelV (stG w) (vc (l.getD 0 .nf)) v := by
    intro hv
    rw [hv] at h1
    match l, h1 with
    | [c], h1 => exact h1.head
    | [], h1 => exact absurd h1.1 (by simp)
    | _ :: _ :: _, h1 => exact absurd h1.1 (by simp)
  have key2 : ∀ cs, v = .agg cs → RelV (stG w) (.t (.agg ⟨l, [], l.length⟩)) v := by
    rintro cs rfl
    refine ⟨cs.toList, by simp, ⟨by have := h1.1; simpa [Value.cells] using this, rfl⟩, fun j x u hx hu => ?_⟩
    simp only [M.get, lkGet] at hx
    cases hl : l[j]? with
    | none => rw [hl] at hx; cases hx
    | some c =>
      rw [hl] at hx; cases hx
      exact h1.2 j c u hl (by simpa [Value.cells] using hu)
  generalize P.underlying t = u at hp hc
  match u, hp, hc with
  | some (.struct _), _, hc => obtain ⟨cs, hcs⟩ := hc; exact key2 cs hcs
  | some (.array _ _), _, hc => obtain ⟨cs, hcs⟩ := hc; exact key2 cs hcs
  | some .bool, _, hc => exact key hc
  | some (.int k), _, hc => exact key hc
  | some .string, _, hc => exact key hc
  | some (.slice e), _, hc => exact key hc

theorem args_rel {ts : List TypeId} (hts : plainTs P ts = true) : ∀ {params : List TypeId} {args : List Value} {ds : List (DataW H)} {ps : List MemPlace}, (∀ t ∈ params, t ∈ ts) →
    (∀ (j : Nat) t v, params[j]? = some t → args[j]? = some v → ∃ r b0, Value.okWide P w r b0 t v) → DataW.TrodAll enc P w base spare held params args ds ps →
    ∃ xs, argVs P params xs ∧ All2 (RelV (stG w)) xs args := by
  intro params
  induction params with
  | nil =>
    intro args ds ps _ _ h
    match args, ds, h with
    | [], [], _ => exact ⟨[], trivial, .nil⟩
  | cons t r ih =>
    intro args ds ps hin hok h
    match args, ds, h with
    | v :: vs, d :: ds, h =>
      obtain ⟨p, q, h1, h2, _⟩ := h
      obtain ⟨rr, b0, hv⟩ := hok 0 t v rfl rfl
      obtain ⟨x, hx1, hx2⟩ := arg_rel hts (hin t (by simp)) hv h1
      obtain ⟨xs, hxs1, hxs2⟩ := ih (fun t' ht' => hin t' (by simp [ht'])) (fun j t' v' h3 h4 => hok (j + 1) t' v' (by simpa using h3) (by simpa using h4)) h2
      exact ⟨x :: xs, ⟨hx1, hxs1⟩, .cons hx2 hxs2⟩

theorem trodAll_below {params : List TypeId} (hl : laidOutB P = true) (hr : params.all (fun t => P.readableRec t && decide (t < P.types.size)) = true) {W W' : World} (bel : Below W.heap.size W W') :
    ∀ {args : List Value} {ds : List (DataW H)} {ps : List MemPlace}, DataW.TrodAll enc P W 0 (fun _ => true) true params args ds ps → DataW.TrodAll enc P W' 0 (fun b => decide (b < W.heap.size)) true params args ds ps := by
  induction params with
  | nil => intro args ds ps h; match args, ds, h with | [], [], h => exact h
  | cons t r ih =>
    intro args ds ps h
    match args, ds, h with
    | v :: vs, d :: ds, h =>
      obtain ⟨p, q, h1, h2, h3⟩ := h
      simp only [List.all_cons, Bool.and_eq_true, decide_eq_true_eq] at hr
      have lt : ∀ x ∈ p, x.block < W.heap.size := by obtain ⟨m, hm⟩ := h1; exact DataW.trod_lt m _ _ _ hm
      exact ⟨p, q, Below.trod hl hr.1.1 hr.1.2 h1 bel lt, ih (by simpa using hr.2) h2, h3⟩

/-- what a function answers to values, its call answers to what reads as these -/
theorem law_calls {f : FuncId} {ts params : List TypeId} {args : Array Value} (hts : plainTs P ts = true) (hin : params.all (fun t => ts.contains t) = true)
    (hok : ∀ (j : Nat) t v, params[j]? = some t → args[j]? = some v → ∃ r b0, Value.okWide P w r b0 t v) {ds : List (DataW H)} {ps : List MemPlace} (hA : DataW.TrodAll enc P w base spare held params args.toList ds ps)
    (hbody : ∃ fn c, P.funcs[f]? = some fn ∧ fn.body = some c ∧ (fn.name == "runtime.NumGoroutine") = false)
    (hlaw : ∀ xs, argVs P params xs → ∃ b, FnRes P (fun _ => none) f xs [] (vb true) b) :
    Calls P f args w fun e w' => e = .returned (.bool true) ∧ Below w.heap.size w w' := by
  obtain ⟨xs, h1, h2⟩ := args_rel hts (fun t ht => by simpa using List.all_eq_true.1 hin t ht) (fun j t v hj hv => hok j t v hj (by simpa using hv)) hA
  obtain ⟨b, hb⟩ := hlaw xs h1
  have hM : RelM w (stG w).S (fun _ => False) (stG w) [] w :=
    ⟨rfl, rfl, rfl, Nat.le_refl _, fun _ _ _ => rfl, fun _ _ h => h, fun _ _ h => .inl h, fun _ _ h => h, fun _ h => h.elim, fun n x h => by simp at h, fun n m x y k h => by simp at h, fun n x k h => by simp at h, fun n x k h => by simp at h⟩
  have := hb (stG w) w (fun _ => False) args.toList hM (fun k hk => by simp at hk) (fun g' l h => by cases h) (EnvOk.empty _ _ fun g' l n ty gs h => by cases h) h2
  have hcf : ∀ c w', PcPost (stG w) w (fun _ => False) 0 (vb true) b c w' → c = .bool true ∧ Below w.heap.size w w' := by
    rintro c w' ⟨g', _, _, hv, hm⟩
    exact ⟨relC_bool hv, hm.os, hm.tape, hm.output, hm.size, fun k hk => hm.old k hk (fun h => h)⟩
  rcases this with ⟨_, hc⟩ | ⟨c, w', hc, _⟩
  · have e : args.toList.toArray = args := by simp
    rw [e] at hc
    refine hc.mono fun e w' ⟨c, he, hp⟩ => ?_
    obtain ⟨rfl, hbel⟩ := hcf c w' hp
    exact ⟨he, hbel⟩
  · obtain ⟨fn, cd, hf, hbd, hn⟩ := hbody
    rw [callFunc_enter hf (by rw [hbd]; rfl) hn] at hc
    cases hc
end
end Vm
