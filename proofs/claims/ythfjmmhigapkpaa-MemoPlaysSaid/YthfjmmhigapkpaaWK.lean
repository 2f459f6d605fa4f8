/- Vm, part K: each operation of the interpreter is the model's (6): closures, calls; all operations. -/
import Derived.Test.YthfjmmhigapkpaaWI
namespace Vm
open Go

def GlobOk (cf : Cfg) (S : Addr → Option Value) : Prop := ∀ g l, cf.glob g = some l → RelC S (.ip l) (.pointer (some ⟨g, 0, none⟩))

/-- a call of a function by its number, whoever runs it -/
def CF (P : Program) (f : FuncId) (args : Array Value) (w : World) (Rr : Value → World → Prop) : Prop :=
  ((callFunc f args).run P w = .ok (.enter f args) w ∧ Calls P f args w (fun e w' => ∃ c, e = .returned c ∧ Rr c w')) ∨ ∃ c w', (callFunc f args).run P w = .ok (.value c) w' ∧ Rr c w'

/-- how a call that was handed boxes ends -/
def PcPost (g : G) (w : World) (O : Nat → Prop) (K : Nat) (v : V) (bxs : Bx) (c : Value) (w' : World) : Prop :=
  ∃ g', (∀ k, k < K → g'.bx k = g.bx k ∧ g'.sl k = g.sl k) ∧ K ≤ bxs.length ∧ RelV g' v c ∧ RelM w g.S O g' bxs w'

/-- what a function answers, with its arguments and boxes -/
def FnRes (P : Program) (glob : Nat → Option (List C)) (f : FuncId) (args : List V) (bxs : Bx) (v : V) (bxs' : Bx) : Prop :=
  ∀ (g : G) (w : World) (O : Nat → Prop) (cargs : List Value), RelM w g.S O g bxs w → (∀ k, k < bxs.length → g.c k) → (∀ g' l, glob g' = some l → RelC g.S (.ip l) (.pointer (some ⟨g', 0, none⟩))) → EnvOk glob w O → All2 (RelV g) args cargs →
    CF P f cargs.toArray w (PcPost g w O bxs.length v bxs')

structure PcOk (P : Program) (cf : Cfg) : Prop where
  res : ∀ {R : Type} f args bxs (k : V → Bx → Option R) r, cf.pc f args bxs k = some r → ∃ v bxs', k v bxs' = some r ∧ FnRes P cf.glob f args bxs v bxs'
  nat : ∀ {R : Type} f args bxs (k : V → Bx → Option R), cf.pc f args bxs k = (cf.pc f args bxs fun v b => some (v, b)).bind fun p => k p.1 p.2
  eq : ∀ t, cf.eqs t = true → P.stoodInHeld t = false ∧ P.eqGuardType P.depth t = false

theorem weak_none (g g' : G) (hS : ∀ a v, g.S a = some v → g'.S a = some v) : Weak g g' (W.ren fun _ => none) := weak_ren hS (fun b k _ h => by cases h)

theorem mapVs_rel {g g' : G} {f : W → W} (hf : Weak g g' f) (hd : IdD f) {l : List V} {us : List Value} (h : All2 (RelV g) l us) : All2 (RelV g') (l.map (V.mapW f)) us :=
  .map_left (h.imp fun _ _ hh => hh.map hf hd)

section
variable {P : Program} {cf : Cfg} {S0 : Addr → Option Value} {w0 : World} {O : Nat → Prop} (cx : Ctx P cf S0 w0 O)
variable {g0 g : G} {st : St} {a : Act} {w : World}
variable {R : Type} {dr : Bool} {o : Oper} {k : St → Option R} {r : R} {next : Act → World → Prop} {Q : Exit → Act → World → Prop}

theorem mapBx {bx : Bx} {f : W → W} {n : Nat} {x : Box} (h : (bx.map (Option.map (Box.mapW f)))[n]? = some (some x)) : ∃ y, bx[n]? = some (some y) ∧ x = y.mapW f := by
  simp only [List.getElem?_map, Option.map_eq_some_iff] at h
  obtain ⟨o, ho, hx⟩ := h
  cases o with
  | none => simp at hx
  | some y => obtain ⟨z, hz, hx⟩ := hx; cases hz; exact ⟨_, ho, hx.symm⟩

theorem RelM.mapW {bx : Bx} (h : RelM w0 S0 O g bx w) {f : W → W} (hf : Weak g g f) (hd : IdD f) : RelM w0 S0 O g (bx.map (Option.map (Box.mapW f))) w := by
  refine ⟨h.os, h.tape, h.output, h.size, h.old, h.sub, h.new, h.mem, by simp; exact h.c, fun n y hy => ?_, fun n m x y k hx hy kx ky => ?_, fun n x k hx hk => ?_, fun n x k hx hk off sp v hv => ?_⟩
  · obtain ⟨x, hx, rfl⟩ := mapBx hy
    exact ⟨(h.box n x hx).1, BoxRel.map hf hd (fun _ _ h => h) rfl rfl (h.box n x hx).2⟩
  · obtain ⟨x', hx', rfl⟩ := mapBx hx
    obtain ⟨y', hy', rfl⟩ := mapBx hy
    rw [blk_map (g := g) rfl rfl] at kx ky
    exact h.disj n m x' y' k hx' hy' kx ky
  · obtain ⟨x', hx', rfl⟩ := mapBx hx
    rw [blk_map (g := g) rfl rfl] at hk
    exact h.low n x' k hx' hk
  · obtain ⟨x', hx', rfl⟩ := mapBx hx
    rw [blk_map (g := g) rfl rfl] at hk
    obtain ⟨e, sz, els, h1, h2⟩ := h.sep n x' k hx' hk off sp v hv
    exact ⟨e, sz, els, map_arr h1, h2⟩

theorem Rel.mapSt (h : Rel w0 S0 O g0 g st a w) {f : W → W} (hf : Weak g g f) (hd : IdD f) : Rel w0 S0 O g0 g (st.mapW f) a w := by
  refine ⟨h.df, by simp [St.mapW, h.len], h.np, h.np0, h.pin, fun i v hv => ?_, h.m.mapW hf hd⟩
  simp only [St.mapW, List.getElem?_map, Option.map_eq_some_iff] at hv
  obtain ⟨y, hy, rfl⟩ := hv
  exact (h.env i y hy).map hf hd

/-- what is handed on leaves cells -/
theorem passW_keep {x y : W} {bx bx' : Bx} (hp : passW dr x bx = some (y, bx')) {n : Nat} {m : M} (hn : bx[n]? = some (some (.cells m))) : bx'[n]? = some (some (.cells m)) := by
  cases x with
  | u => simp [passW] at hp
  | ea b i sz off => simp [passW] at hp
  | pv b off n => simp [passW] at hp
  | vw b lo hi mx sz => simp [passW] at hp
  | mp b => simp [passW] at hp; obtain ⟨_, rfl⟩ := hp; exact hn
  | clo f bs => simp [passW] at hp; obtain ⟨_, rfl⟩ := hp; exact hn
  | es sz => simp [passW] at hp; obtain ⟨_, rfl⟩ := hp; exact hn
  | d c => simp [passW] at hp; obtain ⟨_, rfl⟩ := hp; exact hn
  | ptr b off => simp [passW] at hp; obtain ⟨_, rfl⟩ := hp; exact hn
  | arr b =>
    simp only [passW] at hp
    generalize hb : bx.getD b none = bb at hp
    match bb, hp with
    | some (.arr mt e sz els), hp =>
      simp only at hp
      cases mt with
      | false =>
        simp only [cond_false, Option.some.injEq, Prod.mk.injEq] at hp
        obtain ⟨_, rfl⟩ := hp; exact hn
      | true =>
        cases dr with
        | true => simp at hp
        | false =>
          simp only [cond_true, cond_false, Option.some.injEq, Prod.mk.injEq] at hp
          obtain ⟨_, rfl⟩ := hp
          have hbn : b ≠ n := fun e => by subst e; rw [getD_some hb] at hn; simp at hn
          rw [List.getElem?_set_ne hbn]; exact hn

theorem passLk_keep {n0 : Nat} : ∀ (lk : List (Nat × W)) (l : List C) {bx bx' : Bx} {m : M}, passLk dr n0 lk l bx = some (m, bx') → ∀ {n : Nat} {m0 : M}, bx[n]? = some (some (.cells m0)) → bx'[n]? = some (some (.cells m0)) := by
  intro lk
  induction lk with
  | nil => intro l bx bx' m hp n m0 hn; simp [passLk] at hp; obtain ⟨_, rfl⟩ := hp; exact hn
  | cons p r ih =>
    intro l bx bx' m hp n m0 hn
    obtain ⟨i, x⟩ := p
    simp only [passLk] at hp
    cases h1 : passLk dr n0 r l bx with
    | none => rw [h1] at hp; cases hp
    | some q =>
      obtain ⟨m1, bx1⟩ := q
      rw [h1] at hp; simp only at hp
      cases h2 : passW dr x bx1 with
      | none => rw [h2] at hp; cases hp
      | some q =>
        obtain ⟨y, bx2⟩ := q
        rw [h2] at hp; simp only at hp
        have hb : bx2 = bx' := by
          cases y <;> simp only [Option.some.injEq, Prod.mk.injEq] at hp <;> exact hp.2
        subst hb
        exact passW_keep h2 (ih l h1 hn)

theorem freeze_idD (b : Nat) (cs : List C) : IdD (W.freeze b cs) := fun _ => rfl

/-- a box's contents become stable -/
theorem freeze_rel (h : Rel w0 S0 O g0 g st a w) {b : Nat} {m : M} {bx1 : Bx} {cs : List C} (hb : st.bx[b]? = some (some (.cells m))) {csn : Nat} (hs : passLk false m.n m.lk m.l st.bx = some (⟨cs, [], csn⟩, bx1)) :
    ∃ g', More g g' ∧ Rel w0 S0 O g0 g' (({ st with bx := bx1.set b none } : St).mapW (.freeze b cs)) a w ∧ RelC g'.S (.ip cs) (.pointer (some ⟨g.bx b, 0, none⟩)) := by
  obtain ⟨hbl, vals, e, hh, hall⟩ := h.m.box b _ hb
  obtain ⟨g1, hm1, hR1, _, hlen1, hl1, hat⟩ := passLk_rel m.lk m.l hs h.m
  have hcs : All2 (RelC g1.S) cs vals := all_of_relM ⟨⟨by simp only at hl1 ⊢; rw [hl1.1]; exact hall.1.1, by simp only at hl1 ⊢; rw [hl1.1, hl1.2]; exact hall.1.2⟩, fun j => hat vals j (hall.2 j)⟩
  have hb1 := passLk_keep m.lk m.l hs hb
  have hbx : g1.bx b = g.bx b := by rw [hm1.bx]
  have hno := hR1.none_of hb1 (k := g.bx b) (by simp [blk, hbx]) (fun e sz els hh => by cases hh)
  let S' : Addr → Option Value := fun ad => match g1.S ad with | some u => some u | none => if ad.block = g.bx b ∧ ad.spot = none then vals[ad.off]? else none
  have hsub : ∀ ad v, g1.S ad = some v → S' ad = some v := by intro ad v hv; simp [S', hv]
  have hcell : ∀ (j : Nat) u, vals[j]? = some u → w.cell? ⟨g.bx b, j, none⟩ = some u := by
    intro j u hj
    rw [cell_of_row w (g.bx b) j vals.toArray e (0, 0) hh]; simpa using hj
  have hm2 : More g1 { g1 with S := S' } := ⟨hsub, rfl, rfl, rfl⟩
  have hM := hR1.step (g' := { g1 with S := S' }) (bx' := bx1.set b none) (N := b) (World.grownBy.refl w (some (g.bx b))) (fun k hk => by cases hk; exact h.m.low b _ _ hb rfl) hsub (fun ad u hu => by
      simp only [S'] at hu
      cases hS : g1.S ad with
      | some q => rw [hS] at hu; exact .inl hu
      | none =>
        rw [hS] at hu; simp only at hu
        split at hu
        · rename_i hc
          obtain ⟨h1, h2⟩ := hc
          have := hcell ad.off u hu
          refine .inr ⟨?_, .inl (by rw [h1])⟩
          rw [show ad = ⟨g.bx b, ad.off, none⟩ by cases ad; simp at h1 h2; simp [h1, h2]]; exact this
        · cases hu) (fun ad u hu hr => hR1.mem ad u hu) (by simp; exact hR1.c) (fun n y hy => by
      rcases set_get hy with ⟨_, e1, _⟩ | ⟨hne, hy⟩
      · cases e1
      · exact ⟨(hR1.box n y hy).1, .inl ⟨hne, hy, rfl, fun k hk e1 => by
          cases e1
          exact hne (hR1.disj n b y _ _ hy hb1 hk (by simp [blk, hbx])), BoxRel.later hm2.ext.weak hsub rfl rfl, rfl⟩⟩)
  have hip : RelC S' (.ip cs) (.pointer (some ⟨g.bx b, 0, none⟩)) := by
    refine .ip cs _ (fun j => vals.getD j undef) rfl (fun j c hj => ?_) (fun j c hj => ?_)
    · obtain ⟨u, hu, _⟩ := hcs.get hj
      rw [add_plain', Nat.zero_add, List.getD_eq_getElem?_getD, hu]
      simp [S', hno j none, hu]
    · obtain ⟨u, hu, hr⟩ := hcs.get hj
      rw [List.getD_eq_getElem?_getD, hu]; exact hr.mono hsub
  have hweak : Weak { g1 with S := S' } { g1 with S := S' } (W.freeze b cs) := by
    intro x u hx
    cases x with
    | ptr c off =>
      simp only [W.freeze]
      by_cases hc : c = b
      · subst hc
        rw [beq_self_eq_true, cond_true]
        obtain ⟨_, rfl⟩ := hx
        obtain ⟨ad, uf, h1, h2, h3, h4⟩ := relC_ip hip
        simp only [Value.pointer.injEq, Option.some.injEq] at h1; subst h1
        have := ip_drop h2 h3 h4 off
        rw [add_plain', Nat.zero_add] at this
        simp only [hbx]
        exact this
      · rw [beq_false_of_ne hc, cond_false]; exact hx
    | _ => exact hx
  have hall2 := hm1.trans hm2
  exact ⟨{ g1 with S := S' }, hall2, (h.with hall2.ext hM).mapSt hweak (freeze_idD b cs), hip⟩

include cx

theorem freezeCaps_rel : ∀ (xs : List Operand) {g : G} {st st' : St} {l : List C}, Rel w0 S0 O g0 g st a w → freezeCaps cf xs st = some (l, st') →
    ∃ g', Rel w0 S0 O g0 g' st' a w ∧ All2 (RelC g'.S) l (xs.map a.eval) ∧ (∀ ad v, g.S ad = some v → g'.S ad = some v) := by
  intro xs
  induction xs with
  | nil => intro g st st' l h hf; simp [freezeCaps] at hf; obtain ⟨rfl, rfl⟩ := hf; exact ⟨g, h, .nil, fun _ _ h => h⟩
  | cons x q ih =>
    intro g st st' l h hf
    simp only [freezeCaps] at hf
    have he := ev_rel cx h x
    generalize st.ev cf x = e at hf he
    match e, hf, he with
    | .t (.w (.ptr b 0)), hf, he =>
      simp only at hf
      generalize hb : st.bx.getD b none = bb at hf
      match bb, hf with
      | some (.cells m), hf =>
        simp only at hf
        generalize hs : passLk false m.n m.lk m.l st.bx = pp at hf
        match pp, hf with
        | some (⟨cs, [], csn⟩, bx1), hf =>
          simp only at hf
          obtain ⟨g1, hmore, h1, hip⟩ := freeze_rel h (getD_some hb) hs
          generalize hr : freezeCaps cf q _ = rr at hf
          match rr, hf with
          | some (l1, st1), hf =>
            simp only [Option.some.injEq, Prod.mk.injEq] at hf
            obtain ⟨rfl, rfl⟩ := hf
            obtain ⟨g2, h2, hall, hsub2⟩ := ih h1 hr
            have hea : a.eval x = .pointer (some ⟨g.bx b, 0, none⟩) := he.2
            exact ⟨g2, h2, .cons (by rw [hea]; exact hip.mono hsub2) hall, fun ad v hv => hsub2 _ _ (hmore.S _ _ hv)⟩
    | .t (.w (.d c)), hf, he =>
      simp only at hf
      generalize hr : freezeCaps cf q st = rr at hf
      match rr, hf with
      | some (l1, st1), hf =>
        simp only [Option.some.injEq, Prod.mk.injEq] at hf
        obtain ⟨rfl, rfl⟩ := hf
        obtain ⟨g2, h2, hall, hsub2⟩ := ih h hr
        exact ⟨g2, h2, .cons (RelC.mono hsub2 he) hall, hsub2⟩

theorem shareCaps_rel (h : Rel w0 S0 O g0 g st a w) : ∀ (xs : List Operand) {l : List Nat}, shareCaps cf st xs = some l → (∀ b ∈ l, g.c b) ∧ xs.map a.eval = l.map fun b => Value.pointer (some ⟨g.bx b, 0, none⟩) := by
  intro xs
  induction xs with
  | nil =>
    intro l hl; simp [shareCaps] at hl; subst hl
    refine ⟨fun b hb => ?_, rfl⟩
    cases hb
  | cons x q ih =>
    intro l hl
    simp only [shareCaps] at hl
    have he := ev_rel cx h x
    generalize st.ev cf x = e at hl he
    generalize hr : shareCaps cf st q = rr at hl
    match e, rr, hl, he with
    | .t (.w (.ptr b 0)), some l1, hl, he =>
      simp only [Option.some.injEq] at hl
      subst hl
      obtain ⟨h1, h2⟩ := ih hr
      refine ⟨fun c hc => ?_, by rw [List.map_cons, List.map_cons, h2, he.2]⟩
      rcases List.mem_cons.1 hc with rfl | hc
      · exact he.1
      · exact h1 c hc

theorem snd_makeFunc {fn : Fn} {first cap : Array Operand} (ho : o.op = .makeFunc fn first cap) (hv : vop cf dr o k st = some r) (h : Rel w0 S0 O g0 g st a w) (hn : Hands w0 S0 O g0 k r next) : o.wp P a w next Q := by
  unfold vop at hv; rw [ho] at hv; simp only [vMakeFunc] at hv
  generalize hf : first.toList = fl at hv
  match fn, fl, hv with
  | .func f, [], hv =>
    simp only at hv
    cases hbor : borOf cf o with
    | true =>
      rw [hbor, cond_true] at hv
      cases hsc : shareCaps cf st cap.toList with
      | none => rw [hsc] at hv; cases hv
      | some l =>
        rw [hsc] at hv; simp only at hv
        obtain ⟨h1, h2⟩ := shareCaps_rel cx h cap.toList hsc
        have hf' : first = #[] := by apply Array.ext'; simpa using hf
        subst hf'
        have hrun : (execOp a.eval o).run P w = .ok (.value (.func (.func f) #[] (cap.toList.map a.eval).toArray)) w := by
          unfold execOp
          simp only [ho, Sem.run_bind, Instr.makeFunc, Sem.run_pure, Result.andThen_ok]
          have : cap.map a.eval = (cap.toList.map a.eval).toArray := by apply Array.ext'; simp
          rw [this, List.map_toArray, List.map_nil]
        exact snd_val (v := .t (.w (.clo f l))) hv h hn ⟨_, hrun, h1, by rw [h2]⟩
    | false =>
    rw [hbor, cond_false] at hv
    cases hdr : dr with
    | true => rw [hdr] at hv; cases hv
    | false =>
    rw [hdr, cond_false] at hv
    generalize hr : freezeCaps cf cap.toList st = rr at hv
    match rr, hv with
    | some (l, st'), hv =>
      simp only at hv
      obtain ⟨g', h', hall, _⟩ := freezeCaps_rel cx cap.toList h hr
      have hf' : first = #[] := by apply Array.ext'; simpa using hf
      subst hf'
      have hrun : (execOp a.eval o).run P w = .ok (.value (.func (.func f) #[] (cap.toList.map a.eval).toArray)) w := by
        unfold execOp
        simp only [ho, Sem.run_bind, Instr.makeFunc, Sem.run_pure, Result.andThen_ok]
        have : cap.map a.eval = (cap.toList.map a.eval).toArray := by apply Array.ext'; simp
        rw [this, List.map_toArray, List.map_nil]
      exact wp_val hrun (hn _ _ _ _ (h'.put (v := vc (.fn f l)) (RelC.fn f l _ hall.1 hall.2)) hv)

theorem evs_rel (h : Rel w0 S0 O g0 g st a w) : ∀ (ts : List TypeId) (xs : List Operand), (st.evs cf ts xs).length = xs.length → All2 (RelV g) (st.evs cf ts xs) (xs.map a.eval) := by
  intro ts
  induction ts with
  | nil => intro xs hl; cases xs with
           | nil => exact .nil
           | cons x q => simp [St.evs] at hl
  | cons t q ih =>
    intro xs hl
    cases xs with
    | nil => exact .nil
    | cons x xs => simp only [St.evs, List.length_cons, Nat.add_right_cancel_iff] at hl ⊢; exact .cons (evT_rel cx h t x) (ih xs hl)


omit cx in
/-- a call in the machine, to be gone on with -/
theorem call_wp {c : Call} {f : Operand} (ho : o.op = .call c) (hcl : c.callee = .value f) {id : FuncId} {us : List Value} (hq : a.eval f = .func (.func id) #[] us.toArray) {Rr : Value → World → Prop}
    (hcf : CF P id (c.args.toList.map a.eval ++ us).toArray w Rr) (hfin : ∀ cv w', Rr cv w' → next (a.put o.dst cv) w') : o.wp P a w next Q := by
  have hexec : (execOp a.eval o).run P w = (callFunc id (c.args.toList.map a.eval ++ us).toArray).run P w := by
    obtain ⟨callee, args, ts⟩ := c
    simp only at hcl; subst hcl
    unfold execOp
    simp only [ho, Sem.run_bind, resolve, hq, Deferred.ofValue, Sem.run_pure, Result.andThen_ok, invoke]
    congr 2
    apply Array.ext'
    simp
  rcases hcf with ⟨hrun, hcalls⟩ | ⟨cv, w', hrun, hpost⟩
  · unfold Oper.wp; rw [hexec, hrun]
    simp only [Oper.upon]
    refine hcalls.mono ?_
    rintro e w' ⟨cv, rfl, hpost⟩
    exact hfin cv w' hpost
  · unfold Oper.wp; rw [hexec, hrun]
    exact hfin cv w' hpost

theorem call_any (hpc : PcOk P cf) {c : Call} {f : Operand} (ho : o.op = .call c) (hcl : c.callee = .value f) {id : FuncId} {xs : List V} {us : List Value} {g1 : G} {bx1 : Bx} (hmore : More g g1) (hR1 : RelM w0 S0 O g1 bx1 w)
    (hall : All2 (RelV g1) xs (c.args.toList.map a.eval ++ us)) (hq : a.eval f = .func (.func id) #[] us.toArray) (hv : callWith cf dr o id xs k { st with bx := bx1 } = some r) (h : Rel w0 S0 O g0 g st a w) (hn : Hands w0 S0 O g0 k r next) : o.wp P a w next Q := by
  have hglob : ∀ (S : Addr → Option Value), (∀ ad v, g1.S ad = some v → S ad = some v) → ∀ g' l, cf.glob g' = some l → RelC S (.ip l) (.pointer (some ⟨g', 0, none⟩)) := fun S hS gg l hg => (cx.glob gg l hg).mono (fun ad v hv => hS _ _ (hR1.sub ad v hv))
  unfold callWith at hv
  cases hd : dr with
  | true =>
    rw [hd, cond_true] at hv
    cases hp : cf.pc id ((xs).map (V.mapW (.ren fun _ => none))) [] (fun v bxs => some (v, bxs)) with
    | none => rw [hp] at hv; cases hv
    | some p =>
      rw [hp] at hv; simp only [Option.bind_some] at hv
      obtain ⟨v, bxs', hk, hres⟩ := hpc.res id _ _ _ _ hp
      simp only [Option.some.injEq] at hk; subst hk
      simp only at hv
      match bxs', hv, hres with
      | [], hv, hres =>
        simp only at hv
        have hent := hR1.enter (order := []) List.nodup_nil
        have hcf := hres (g1.ren []) w _ (c.args.toList.map a.eval ++ us) hent (fun k hk => by simp at hk) (hglob _ fun _ _ h => h) (cx.env.enter hR1 _) (mapVs_rel (weak_none g1 (g1.ren []) fun _ _ h => h) (ren_idD _) hall)
        refine call_wp ho hcl hq hcf ?_
        rintro cv w' ⟨g', hpin, _, hrv, hM⟩
        obtain ⟨hext, hM2⟩ := hR1.back (order := []) List.nodup_nil (fun b hb => by cases hb) hM hpin (Nat.zero_le _)
        have hbx : (({ env := [], bx := bx1, np := 0 } : St).return [] []).bx = bx1 := by simp [St.return, setAll]
        rw [hbx] at hM2
        exact hn _ _ _ _ (((h.more hmore hR1).with hext hM2).put (hrv.map (weak_none g' (g1.back g' bx1.length ([] : List Nat).length ([] : Bx).length) fun _ _ h => h) (ren_idD _))) hv
  | false =>
    rw [hd, cond_false] at hv
    simp only at hv
    have hgr := reachAll_grow bx1 [] (vsNames (xs))
    generalize reachAll bx1 [] (vsNames (xs)) = order at hv hgr
    obtain ⟨v, bxs', hk, hres⟩ := hpc.res id _ _ _ _ hv
    by_cases hK : Nat.ble order.length bxs'.length = true
    case neg => rw [Bool.not_eq_true] at hK; rw [hK] at hk; cases hk
    rw [hK, cond_true] at hk
    have hK' : order.length ≤ bxs'.length := by simpa [Nat.ble_eq] using hK
    have hnd := hgr.nodup List.nodup_nil
    have hlive : ∀ b ∈ order, ∃ x, bx1[b]? = some (some x) := fun b hb => by
      rcases hgr.live b hb with h1 | h1
      · cases h1
      · exact h1
    have hent := hR1.enter hnd
    have hcf := hres (g1.ren order) w _ (c.args.toList.map a.eval ++ us) hent (fun k hk => by simpa [G.ren, renBx] using hk) (hglob _ fun _ _ h => h) (cx.env.enter hR1 _) (mapVs_rel (weak_idx g1 order) (ren_idD _) hall)
    refine call_wp ho hcl hq hcf ?_
    rintro cv w' ⟨g', hpin, _, hrv, hM⟩
    have hpin' : ∀ k, k < order.length → g'.bx k = (g1.ren order).bx k ∧ g'.sl k = (g1.ren order).sl k := fun k hk => hpin k (by simpa [renBx] using hk)
    obtain ⟨hext, hM2⟩ := hR1.back hnd hlive hM hpin' hK'
    exact hn _ _ _ _ (((h.more hmore hR1).with hext hM2).put (hrv.map (weak_back hpin' (fun b hb => by obtain ⟨x, hx⟩ := hlive b hb; exact lt_of hx) (fun b hb => by obtain ⟨x, hx⟩ := hlive b hb; exact (hR1.box b x hx).1) hM.c) (ren_idD _))) hk

theorem snd_callV (hpc : PcOk P cf) {c : Call} {f : Operand} (ho : o.op = .call c) (hcl : c.callee = .value f) (hv : vCall cf dr o c k st = some r) (h : Rel w0 S0 O g0 g st a w) (hn : Hands w0 S0 O g0 k r next) : o.wp P a w next Q := by
  unfold vCall at hv; rw [hcl] at hv; simp only at hv
  have hf := ev_rel cx h f
  generalize st.ev cf f = e at hv hf
  generalize hst : passArgs dr (borOf cf o) (st.evs cf c.argTypes.toList c.args.toList) st.bx = vs at hv
  match e, vs, hv, hf with
  | .t (.w (.d (.fn id caps))), some (vs, bx1), hv, hf =>
    simp only at hv
    by_cases hl : (vs.length == c.args.size) = true
    case neg => rw [Bool.not_eq_true] at hl; rw [hl] at hv; cases hv
    rw [hl, cond_true] at hv
    simp only [beq_iff_eq] at hl
    obtain ⟨g1, hmore, hR1, hdr, hlen, hargs⟩ := passArgs_rel _ _ hst h.m
    have hf' : RelC g.S (.fn id caps) (a.eval f) := hf
    have hargs := hargs _ (evs_rel cx h _ _ (by rw [← hlen, hl, Array.length_toList]))
    generalize hq : a.eval f = q at hf'
    cases hf' with
    | fn _ _ us hul hu =>
      have hcaps : All2 (RelV g1) (caps.map vc) us := .map_left ⟨hul, fun j x y hx hy => (hu j x y hx hy).mono hmore.S⟩
      exact call_any cx hpc ho hcl hmore hR1 (hargs.append hcaps) hq hv h hn
  | .t (.w (.clo id bs)), some (vs, bx1), hv, hf =>
    simp only at hv
    by_cases hl : (vs.length == c.args.size && !dr) = true
    case neg => rw [Bool.not_eq_true] at hl; rw [hl] at hv; cases hv
    rw [hl, cond_true] at hv
    simp only [Bool.and_eq_true, beq_iff_eq] at hl
    obtain ⟨g1, hmore, hR1, hdr, hlen, hargs⟩ := passArgs_rel _ _ hst h.m
    have hargs := hargs _ (evs_rel cx h _ _ (by rw [← hlen, hl.1, Array.length_toList]))
    obtain ⟨hb1, hq⟩ := hf
    have hcaps : All2 (RelV g1) (bs.map fun b => V.t (.w (.ptr b 0))) (bs.map fun b => Value.pointer (some ⟨g.bx b, 0, none⟩)) :=
      .map_left ⟨by simp, fun j x y hx hy => by
        simp only [List.getElem?_map, hx, Option.map_some, Option.some.injEq] at hy
        subst hy
        exact ⟨by rw [hmore.c]; exact hb1 x (List.mem_of_getElem? hx), by rw [hmore.bx]⟩⟩
    exact call_any cx hpc ho hcl hmore hR1 (hargs.append hcaps) hq hv h hn

/-- all operations -/
theorem snd_vop (hpc : PcOk P cf) (hv : vop cf dr o k st = some r) (h : Rel w0 S0 O g0 g st a w) (hn : Hands w0 S0 O g0 k r next) : o.wp P a w next Q := by
  generalize ho : o.op = op
  cases op with
  | move x => exact snd_move cx ho hv h hn
  | assign x => exact snd_assign cx ho hv h hn
  | pick c x y => exact snd_pick cx ho hv h hn
  | alloc t => exact snd_alloc cx ho hv h hn
  | box t x => exact snd_box cx ho hv h hn
  | build t ps => exact snd_build cx ho hv h hn
  | buildSlice t n ps => exact snd_buildSlice cx ho hv h hn
  | load t x =>
    unfold vop at hv; rw [ho] at hv
    exact snd_load cx ho hv h hn
  | store t x y => exact snd_store cx ho hv h hn
  | nilCheck x => exact snd_nilCheck cx ho hv h hn
  | binOp op t x y t2 => exact snd_bin cx ho hv h hn
  | unOp op t x => exact snd_un cx ho hv h hn
  | convert s d x => exact snd_convert cx ho hv h hn
  | makeInterface t x => exact snd_makeIface cx ho hv h hn
  | makeFunc fn first cap => exact snd_makeFunc cx ho hv h hn
  | makeSlice t n c => exact snd_makeSlice cx ho hv h hn
  | makeMap t n =>
    unfold vop at hv; rw [ho] at hv; simp only at hv
    cases hd : dr with
    | true => rw [hd] at hv; cases hv
    | false => rw [hd, cond_false] at hv; exact snd_makeMap ho hv h hn
  | lookup t x i ok =>
    unfold vop at hv; rw [ho] at hv
    exact snd_lookup cx ho hv h hn
  | mapUpdate t m x y =>
    unfold vop at hv; rw [ho] at hv; simp only at hv
    cases hd : dr with
    | true => rw [hd] at hv; cases hv
    | false => rw [hd, cond_false] at hv; exact snd_mapUpdate cx (K := k) ho hv h hn
  | slice t x lo hi mx => exact snd_slice cx ho hv h hn
  | fieldAddr s x f => exact snd_fieldAddr cx ho hv h hn
  | field s x f => exact snd_field cx ho hv h hn
  | indexAddr t x i => exact snd_indexAddr cx ho hv h hn
  | index t x i => exact snd_index cx ho hv h hn
  | range t x => exact snd_range cx ho hv h hn
  | next x b =>
    cases b with
    | true => exact snd_next cx ho hv h hn
    | false => unfold vop at hv; rw [ho] at hv; cases hv
  | typeAssert x xt t ok => exact snd_assert cx ho hv h hn
  | extract x i => exact snd_extract cx ho hv h hn
  | call c =>
    unfold vop at hv; rw [ho] at hv; simp only at hv
    cases hc : c.callee with
    | value f => exact snd_callV cx hpc ho hc hv h hn
    | invoke rr m => unfold vCall at hv; rw [hc] at hv; cases hv
    | builtin b =>
      unfold vCall at hv; rw [hc] at hv
      cases b with
      | len => exact snd_len cx ho hc hv h hn
      | append => exact snd_append cx ho hc hv h hn
      | copy =>
        simp only at hv
        cases hd : dr with
        | true => rw [hd] at hv; cases hv
        | false => rw [hd, cond_false] at hv; exact snd_copy cx ho hc hv h hn
      | delete =>
        simp only at hv
        cases hd : dr with
        | true => rw [hd] at hv; cases hv
        | false => rw [hd, cond_false] at hv; exact snd_delete cx ho hc hv h hn
      | clear =>
        simp only at hv
        cases hd : dr with
        | true => rw [hd] at hv; cases hv
        | false => rw [hd, cond_false] at hv; exact snd_clear cx ho hc hv h hn
      | max => exact snd_minmax (isMax := true) cx ho hc hv h hn
      | min => exact snd_minmax (isMax := false) cx ho hc hv h hn
      | _ => cases hv
  | _ => unfold vop at hv; rw [ho] at hv; cases hv
end
end Vm

/- Vm, part M: a statement whose order is open: whatever order the machine takes, it comes to the text's. -/
namespace Vm
open Go

section
variable {R : Type} {cf : Cfg}

theorem eta_bind {α β : Type} (sh : Option (List Sh)) (l : List C) (f : List C → Option α) (k : α → Option β) : eta sh l (fun x => (f x).bind k) = (eta sh l f).bind k := by
  unfold eta; simp only [Bool.cond_eq_ite]; repeat' (first | rfl | split)
theorem cutK_bind {α β : Type} (i : TI) (l : List C) (f : T → Option α) (k : α → Option β) : cutK i l (fun x => (f x).bind k) = (cutK i l f).bind k := by
  unfold cutK; simp only [Bool.cond_eq_ite]
  split
  · split
    · exact eta_bind _ _ (fun l => f (.agg ⟨l, [], i.size⟩)) k
    · rfl
  · split
    · rename_i c _
      rw [← eta_bind]
      congr 1; funext l; cases l <;> rfl
    · rfl
theorem getT_bind {α β γ : Type} (l : List γ) (i : Nat) (f : γ → Option α) (k : α → Option β) : getT l i (fun x => (f x).bind k) = (getT l i f).bind k := by
  unfold getT; split <;> rfl
theorem vLoad_bind (o : Oper) (t : TypeId) (x : Operand) (k : St → Option R) (st : St) : vLoad cf o t x k st = (vLoad cf o t x some st).bind k := by
  unfold vLoad
  split
  · split
    · repeat' (first | rfl | split)
    · split
      · simp only [Bool.cond_eq_ite]
        split
        · rw [← getT_bind]; congr 1; funext e; rw [← cutK_bind]; rfl
        · rfl
      · rfl
    · rw [← cutK_bind]; rfl
    · rfl
  · rfl
theorem vStore_bind (dr : Bool) (t : TypeId) (x y : Operand) (f : St → Option St) (k : St → Option R) (st : St) : vStore cf dr t x y (fun s => (f s).bind k) st = (vStore cf dr t x y f st).bind k := by
  unfold vStore getT; simp only [Bool.cond_eq_ite]; repeat' (first | rfl | split)
theorem vAlloc_bind (o : Oper) (t : TypeId) (k : St → Option R) (st : St) : vAlloc cf o t k st = (vAlloc cf o t some st).bind k := by
  unfold vAlloc; repeat' (first | rfl | split)
theorem vBox_bind (o : Oper) (t : TypeId) (x : Operand) (k : St → Option R) (st : St) : vBox cf o t x k st = (vBox cf o t x some st).bind k := by
  unfold vBox; repeat' (first | rfl | split)
theorem vBuild_bind (dr : Bool) (o : Oper) (t : TypeId) (ps : Array (Nat × Operand)) (k : St → Option R) (st : St) : vBuild cf dr o t ps k st = (vBuild cf dr o t ps some st).bind k := by
  unfold vBuild; repeat' (first | rfl | split)
theorem vBuildSlice_bind (dr : Bool) (o : Oper) (t : TypeId) (n : Nat) (ps : Array (Nat × Operand)) (k : St → Option R) (st : St) : vBuildSlice cf dr o t n ps k st = (vBuildSlice cf dr o t n ps some st).bind k := by
  unfold vBuildSlice; simp only [Bool.cond_eq_ite]; repeat' (first | rfl | split)
theorem vBinP_bind (o : Oper) (op : BinOp) (t : TypeId) (y : Operand) (a b : V) (k : St → Option R) (st : St) : vBinP cf o op t y a b k st = (vBinP cf o op t y a b some st).bind k := by
  unfold vBinP; repeat' (first | rfl | split)
theorem vBinS_bind (o : Oper) (op : BinOp) (t : TypeId) (la lb : List C) (k : St → Option R) (st : St) : vBinS cf o op t la lb k st = (vBinS cf o op t la lb some st).bind k := by
  unfold vBinS; simp only [Bool.cond_eq_ite]; repeat' (first | rfl | split)
theorem vBin_bind (o : Oper) (op : BinOp) (t : TypeId) (x y : Operand) (k : St → Option R) (st : St) : vBin cf o op t x y k st = (vBin cf o op t x y some st).bind k := by
  unfold vBin; simp only [Bool.cond_eq_ite, strOpK_eq, intOpK_eq]
  split
  · repeat' (first | rfl | split)
  · repeat' (first | rfl | split)
  · repeat' (first | rfl | split)
  · exact vBinS_bind ..
  · exact vBinP_bind ..
theorem vUn_bind (o : Oper) (op : UnOp) (x : Operand) (k : St → Option R) (st : St) : vUn cf o op x k st = (vUn cf o op x some st).bind k := by
  unfold vUn; repeat' (first | rfl | split)
theorem vConvB_bind (o : Oper) (a d : TypeId) (v : V) (k : St → Option R) (st : St) : vConvB cf o a d v k st = (vConvB cf o a d v some st).bind k := by
  unfold vConvB; simp only [Bool.cond_eq_ite]; repeat' (first | rfl | split)
theorem vConvert_bind (o : Oper) (s d : TypeId) (x : Operand) (k : St → Option R) (st : St) : vConvert cf true o s d x k st = (vConvert cf true o s d x some st).bind k := by
  unfold vConvert
  split
  · rfl
  · rfl
  · rfl
  · exact vConvB_bind ..
theorem vMakeSlice_bind (dr : Bool) (o : Oper) (t : TypeId) (x y : Operand) (k : St → Option R) (st : St) : vMakeSlice cf dr o t x y k st = (vMakeSlice cf dr o t x y some st).bind k := by
  unfold vMakeSlice; simp only [Bool.cond_eq_ite]; repeat' (first | rfl | split)
theorem vSlice_bind (dr : Bool) (o : Oper) (t : TypeId) (x : Operand) (lo hi mx : Option Operand) (k : St → Option R) (st : St) : vSlice cf dr o t x lo hi mx k st = (vSlice cf dr o t x lo hi mx some st).bind k := by
  unfold vSlice; simp only [Bool.cond_eq_ite]; repeat' (first | rfl | split)
theorem vFieldAddr_bind (o : Oper) (s : TypeId) (x : Operand) (f : Nat) (k : St → Option R) (st : St) : vFieldAddr cf o s x f k st = (vFieldAddr cf o s x f some st).bind k := by
  unfold vFieldAddr; repeat' (first | rfl | split)
theorem vField_bind (o : Oper) (s : TypeId) (x : Operand) (f : Nat) (k : St → Option R) (st : St) : vField cf o s x f k st = (vField cf o s x f some st).bind k := by
  unfold vField; repeat' (first | rfl | split)
theorem vIndexAddr_bind (o : Oper) (t : TypeId) (x i : Operand) (k : St → Option R) (st : St) : vIndexAddr cf o t x i k st = (vIndexAddr cf o t x i some st).bind k := by
  unfold vIndexAddr getT; simp only [Bool.cond_eq_ite]; repeat' (first | rfl | split)
theorem cutX_bind {α β : Type} (i : TI) (m : M) (off : Nat) (f : T → Option α) (k : α → Option β) : cutX i m off (fun x => (f x).bind k) = (cutX i m off f).bind k := by
  unfold cutX
  split
  · exact cutK_bind ..
  · split <;> rfl
theorem vIndex_bind (o : Oper) (t : TypeId) (x i : Operand) (k : St → Option R) (st : St) : vIndex cf o t x i k st = (vIndex cf o t x i some st).bind k := by
  unfold vIndex getT; simp only [Bool.cond_eq_ite]; repeat' (first | rfl | (rw [← cutX_bind]; rfl) | split)
theorem vRange_bind (o : Oper) (t : TypeId) (x : Operand) (k : St → Option R) (st : St) : vRange cf o t x k st = (vRange cf o t x some st).bind k := by
  unfold vRange; repeat' (first | rfl | split)
theorem vNext_bind (o : Oper) (x : Operand) (k : St → Option R) (st : St) : vNext cf o x k st = (vNext cf o x some st).bind k := by
  unfold vNext; simp only [Bool.cond_eq_ite]; repeat' (first | rfl | split)
theorem vZero_bind {α β : Type} (dr : Bool) (i : TI) (f : T → St → Option α) (k : α → Option β) (st : St) : vZero dr i (fun v s => (f v s).bind k) st = (vZero dr i f st).bind k := by
  unfold vZero; repeat' (first | rfl | split)
theorem vAssert_bind (dr : Bool) (o : Oper) (t : TypeId) (x : Operand) (ok : Bool) (k : St → Option R) (st : St) : vAssert cf dr o t x ok k st = (vAssert cf dr o t x ok some st).bind k := by
  unfold vAssert; simp only [Bool.cond_eq_ite]
  split
  · split
    · rfl
    · have key : ∀ (b : Bool) (i : TI) (l : List C), (if b = true then cutK i l fun v => if ok = true then k (st.set o.dst (V.tup [v, T.w (W.d (C.bool true))])) else k (st.set o.dst (V.t v)) else none) =
          (if b = true then cutK i l fun v => if ok = true then some (st.set o.dst (V.tup [v, T.w (W.d (C.bool true))])) else some (st.set o.dst (V.t v)) else none).bind k := by
        intro b i l
        cases b with
        | false => rfl
        | true => simp only [if_true]; rw [← cutK_bind]; congr 1; funext v; cases ok <;> rfl
      split
      · exact key _ _ _
      · split
        · rw [← vZero_bind]; rfl
        · rfl
    · split
      · rw [← vZero_bind]; rfl
      · rfl
    · rfl
  · rfl
theorem vExtract_bind (o : Oper) (x : Operand) (i : Nat) (k : St → Option R) (st : St) : vExtract cf o x i k st = (vExtract cf o x i some st).bind k := by
  unfold vExtract; repeat' (first | rfl | split)
theorem vMakeIface_bind (dr : Bool) (o : Oper) (t : TypeId) (x : Operand) (k : St → Option R) (st : St) : vMakeIface cf dr o t x k st = (vMakeIface cf dr o t x some st).bind k := by
  unfold vMakeIface; repeat' (first | rfl | split)
theorem vLen_bind (o : Oper) (ts : Array TypeId) (xs : Array Operand) (k : St → Option R) (st : St) : vLen cf o ts xs k st = (vLen cf o ts xs some st).bind k := by
  unfold vLen; repeat' (first | rfl | split)
theorem vMinMax_bind (o : Oper) (b : Bool) (xs : Array Operand) (k : St → Option R) (st : St) : vMinMax cf o b xs k st = (vMinMax cf o b xs some st).bind k := by
  unfold vMinMax; simp only [Bool.cond_eq_ite]; repeat' (first | rfl | split)
theorem vAppendE_bind (o : Oper) (e : TypeId) (i : TI) (a b : Nat) (l : List (List C)) (k : St → Option R) (st : St) : vAppendE o e i a b l k st = (vAppendE o e i a b l some st).bind k := by
  unfold vAppendE; simp only [Bool.cond_eq_ite]; repeat' (first | rfl | split)
theorem vAppend_bind (o : Oper) (ts : Array TypeId) (xs : Array Operand) (k : St → Option R) (st : St) : vAppend cf o ts xs k st = (vAppend cf o ts xs some st).bind k := by
  unfold vAppend; simp only [Bool.cond_eq_ite]; repeat' (first | rfl | exact vAppendE_bind .. | split)
theorem vMakeFunc_bind (dr : Bool) (o : Oper) (fn : Fn) (a b : Array Operand) (k : St → Option R) (st : St) : vMakeFunc cf dr o fn a b k st = (vMakeFunc cf dr o fn a b some st).bind k := by
  unfold vMakeFunc; simp only [Bool.cond_eq_ite]; repeat' (first | rfl | split)
theorem vLookup_bind (o : Oper) (t : TypeId) (x y : Operand) (ok : Bool) (k : St → Option R) (st : St) : vLookup cf o t x y ok k st = (vLookup cf o t x y ok some st).bind k := by
  unfold vLookup; simp only [Bool.cond_eq_ite]
  repeat' (first | rfl | (rw [← cutK_bind]; congr 1; funext v; cases ok <;> rfl) | split)
theorem vCall_bind (o : Oper) (c : Call) (k : St → Option R) (st : St) : vCall cf true o c k st = (vCall cf true o c some st).bind k := by
  unfold vCall callWith; simp only [Bool.cond_eq_ite, if_true]
  split
  · split
    · split
      · rw [Option.bind_assoc]
        congr 1; funext p; repeat' (first | rfl | split)
      · rfl
    · simp
    · rfl
  · exact vLen_bind ..
  · exact vAppend_bind ..
  · rfl
  · rfl
  · rfl
  · exact vMinMax_bind ..
  · exact vMinMax_bind ..
  · rfl

theorem vop_bind (o : Oper) (k : St → Option R) (st : St) : vop cf true o k st = (vop cf true o some st).bind k := by
  unfold vop
  cases o.op with
  | move x => rfl
  | assign x => simp only [Bool.cond_eq_ite]; repeat' (first | rfl | split)
  | pick c a b => simp only; repeat' (first | rfl | split)
  | alloc t => exact vAlloc_bind ..
  | box t x => exact vBox_bind ..
  | build t ps => exact vBuild_bind ..
  | buildSlice t n ps => exact vBuildSlice_bind ..
  | load t x => exact vLoad_bind ..
  | store t x y => exact vStore_bind true t x y (fun st => some (st.set o.dst (.tup []))) k st
  | nilCheck x => simp only; repeat' (first | rfl | split)
  | binOp op t x y t2 => exact vBin_bind ..
  | unOp op t x => exact vUn_bind ..
  | convert s d x => exact vConvert_bind ..
  | makeSlice t n c => exact vMakeSlice_bind ..
  | makeInterface t x => exact vMakeIface_bind ..
  | makeFunc fn a b => exact vMakeFunc_bind ..
  | lookup t x i ok => exact vLookup_bind ..
  | slice t x lo hi mx => exact vSlice_bind ..
  | fieldAddr s x f => exact vFieldAddr_bind ..
  | field s x f => exact vField_bind ..
  | indexAddr t x i => exact vIndexAddr_bind ..
  | index t x i => exact vIndex_bind ..
  | range t x => exact vRange_bind ..
  | next x b => cases b with
                | true => exact vNext_bind ..
                | false => rfl
  | typeAssert x xt t ok => exact vAssert_bind ..
  | extract x i => exact vExtract_bind ..
  | call c => exact vCall_bind ..
  | _ => rfl
end
end Vm

/- Vm, part N: what an operation looks at, and what it turns. -/
namespace Vm
open Go

/-- what an operation does to a state -/
structure Upd where
  v : V
  bx : Option Bx

noncomputable def Upd.app (u : Upd) (dst : Option Nat) (st : St) : St :=
  { env := (st.set dst u.v).env
    bx := (match u.bx with | some b => b | none => st.bx)
    np := st.np }

/-- two states that an operation can't tell apart -/
structure Same (cf : Cfg) (op : Op) (st st' : St) : Prop where
  ev : ∀ x ∈ op.operands, st'.ev cf x = st.ev cf x
  bx : (isWr op || isRd op) = true → st'.bx = st.bx

theorem evT_same {cf : Cfg} {st st' : St} {t : TypeId} {x : Operand} (h : st'.ev cf x = st.ev cf x) : st'.evT cf t x = st.evT cf t x := by unfold St.evT; rw [h]

theorem set_app (st : St) (dst : Option Nat) (v : V) : st.set dst v = (Upd.mk v none).app dst st := by
  cases dst <;> rfl

/-- what is the same in all states that an operation can't tell apart -/
def Moves (cf : Cfg) (o : Oper) (st st1 : St) : Prop :=
  ∃ u : Upd, st1 = u.app o.dst st ∧ (u.bx.isSome = true → isWr o.op = true) ∧ ∀ st', Same cf o.op st st' → vop cf true o some st' = some (u.app o.dst st')

theorem Moves.val {cf : Cfg} {o : Oper} {st st1 : St} {v : V} (h : st.set o.dst v = st1) (hs : ∀ st', Same cf o.op st st' → vop cf true o some st' = some (st'.set o.dst v)) : Moves cf o st st1 :=
  ⟨⟨v, none⟩, by rw [← h, set_app], by simp, fun st' hst => by rw [← set_app]; exact hs st' hst⟩

theorem passW_dr {x y : W} {bx bx' : Bx} (h : passW true x bx = some (y, bx')) : bx' = bx := by
  cases x with
  | u => simp [passW] at h
  | ea b i sz off => simp [passW] at h
  | pv b off n => simp [passW] at h
  | vw b lo hi mx sz => simp [passW] at h
  | mp b => simp [passW] at h; exact h.2.symm
  | clo f bs => simp [passW] at h; exact h.2.symm
  | es sz => simp [passW] at h; exact h.2.symm
  | d c => simp [passW] at h; exact h.2.symm
  | ptr b off => simp [passW] at h; exact h.2.symm
  | arr b =>
    simp only [passW] at h
    generalize bx.getD b none = bb at h
    match bb, h with
    | some (.arr mt e sz els), h => cases mt <;> simp at h; exact h.2.symm
theorem passLk_dr {n0 : Nat} : ∀ (lk : List (Nat × W)) (l : List C) {bx bx' : Bx} {m : M}, passLk true n0 lk l bx = some (m, bx') → bx' = bx := by
  intro lk
  induction lk with
  | nil => intro l bx bx' m h; simp [passLk] at h; exact h.2.symm
  | cons p r ih =>
    intro l bx bx' m hp
    obtain ⟨i, x⟩ := p
    simp only [passLk] at hp
    cases h1 : passLk true n0 r l bx with
    | none => rw [h1] at hp; cases hp
    | some q =>
      obtain ⟨m1, bx1⟩ := q
      rw [h1] at hp; simp only at hp
      cases h2 : passW true x bx1 with
      | none => rw [h2] at hp; cases hp
      | some q =>
        obtain ⟨y, bx2⟩ := q
        rw [h2] at hp; simp only at hp
        have hb : bx2 = bx' := by
          cases y <;> simp only [Option.some.injEq, Prod.mk.injEq] at hp <;> exact hp.2
        exact hb.symm.trans ((passW_dr h2).trans (ih l h1))
theorem passT_dr {x y : T} {bx bx' : Bx} (h : passT true x bx = some (y, bx')) : bx' = bx := by
  cases x with
  | w x =>
    simp only [passT] at h
    cases h1 : passW true x bx with
    | none => rw [h1] at h; cases h
    | some q => rw [h1] at h; simp only [Option.some.injEq, Prod.mk.injEq] at h; rw [← h.2]; exact passW_dr h1
  | agg m =>
    simp only [passT] at h
    cases h1 : passLk true m.n m.lk m.l bx with
    | none => rw [h1] at h; cases h
    | some q => rw [h1] at h; simp only [Option.some.injEq, Prod.mk.injEq] at h; rw [← h.2]; exact passLk_dr _ _ h1
theorem frzT_dr {x : T} {l : List C × Nat} {bx bx' : Bx} (h : frzT true x bx = some (l, bx')) : bx' = bx := by
  unfold frzT at h
  cases h1 : passT true x bx with
  | none => rw [h1] at h; cases h
  | some q =>
    rw [h1] at h; simp only at h
    cases h2 : q.1.stabC with
    | none => rw [h2] at h; cases h
    | some l' => rw [h2] at h; simp only [Option.some.injEq, Prod.mk.injEq] at h; rw [← h.2]; exact passT_dr h1
theorem passV_dr {x y : V} {bx bx' : Bx} (h : passV true x bx = some (y, bx')) : bx' = bx := by
  cases x with
  | u => simp [passV] at h
  | tup l => simp [passV] at h
  | t x =>
    simp only [passV] at h
    cases h1 : passT true x bx with
    | none => rw [h1] at h; cases h
    | some q => rw [h1] at h; simp only [Option.some.injEq, Prod.mk.injEq] at h; rw [← h.2]; exact passT_dr h1
theorem passArgs_dr {b : Bool} : ∀ (xs ys : List V) {bx bx' : Bx}, passArgs true b xs bx = some (ys, bx') → bx' = bx := by
  intro xs
  induction xs with
  | nil => intro ys bx bx' h; simp [passArgs] at h; exact h.2.symm
  | cons x r ih =>
    intro ys bx bx' h
    simp only [passArgs] at h
    have key : ∀ y bx1, (bif b && isArr x then some (x, bx) else passV true x bx) = some (y, bx1) → bx1 = bx := by
      intro y bx1 hy
      cases hb : b && isArr x with
      | true => rw [hb] at hy; simp only [cond_true, Option.some.injEq, Prod.mk.injEq] at hy; exact hy.2.symm
      | false => rw [hb, cond_false] at hy; exact passV_dr hy
    generalize (bif b && isArr x then some (x, bx) else passV true x bx) = q at h key
    match q, h with
    | some (y, bx1), h =>
      simp only at h
      cases h2 : passArgs true b r bx1 with
      | none => rw [h2] at h; cases h
      | some q =>
        rw [h2] at h; simp only [Option.some.injEq, Prod.mk.injEq] at h
        rw [← h.2]; exact (ih q.1 h2).trans (key y bx1 rfl)
theorem elemsOf_dr {n : Nat} : ∀ (ps : List (Nat × V)) (k : Nat) {els : List (List C)} {bx bx' : Bx}, elemsOf true n k ps bx = some (els, bx') → bx' = bx := by
  intro ps
  induction ps with
  | nil => intro k els bx bx' h; simp [elemsOf] at h; exact h.2.symm
  | cons p r ih =>
    intro k els bx bx' h
    obtain ⟨i, x⟩ := p
    cases x with
    | u => simp [elemsOf] at h
    | tup l => simp [elemsOf] at h
    | t x =>
      simp only [elemsOf] at h
      cases h1 : frzT true x bx with
      | none => rw [h1] at h; cases h
      | some q =>
        obtain ⟨cs, bx1⟩ := q
        rw [h1] at h; simp only at h
        cases h2 : elemsOf true n (k + 1) r bx1 with
        | none => rw [h2] at h; cases h
        | some q =>
          obtain ⟨l, bx2⟩ := q
          rw [h2] at h; simp only at h
          cases hc : (i == k && cs.2 == n) with
          | false => rw [hc] at h; cases h
          | true =>
            rw [hc] at h; simp only [cond_true, Option.some.injEq, Prod.mk.injEq] at h
            rw [← h.2]; exact (ih (k + 1) h2).trans (frzT_dr h1)

/-- a zero value without new names -/
theorem zeroM_dr : ∀ (z : List Z) (j a b : Nat), zeroM true a z j = zeroM true b z j ∧ (zeroM true a z j).2.2 = [] := by
  intro z
  induction z with
  | nil => intro j a b; exact ⟨rfl, rfl⟩
  | cons y q ih =>
    intro j a b
    obtain ⟨h1, h2⟩ := ih (j + 1) a b
    cases y with
    | c c => simp only [zeroM]; rw [← h1]; exact ⟨rfl, h2⟩
    | s e sz => simp only [zeroM, cond_true]; rw [← h1]; exact ⟨rfl, h2⟩
theorem zero_dr (st : St) (z : List Z) : st.zero true z = (⟨(zeroM true 0 z 0).1, (zeroM true 0 z 0).2.1, z.length⟩, st) := by
  obtain ⟨h1, h2⟩ := zeroM_dr z 0 st.bx.length 0
  unfold St.zero
  rw [h1]
  obtain ⟨_, h3⟩ := zeroM_dr z 0 0 0
  generalize zeroM true 0 z 0 = q at h3
  obtain ⟨l, lk, b⟩ := q
  simp only at h3; subst h3
  simp

theorem eta_eq (sh : Option (List Sh)) (l : List C) : (∃ l', ∀ {β : Type} (k : List C → Option β), eta sh l k = k l') ∨ ∀ {β : Type} (k : List C → Option β), eta sh l k = none := by
  cases sh with
  | none => exact .inl ⟨l, fun k => rfl⟩
  | some sh =>
    cases h : shOk sh l with
    | true => exact .inl ⟨shCanon l 0 sh, fun k => by simp only [eta, h, cond_true]⟩
    | false => exact .inr fun k => by simp only [eta, h, cond_false]
theorem cutK_eq (i : TI) (l : List C) : (∃ v, ∀ {β : Type} (k : T → Option β), cutK i l k = k v) ∨ ∀ {β : Type} (k : T → Option β), cutK i l k = none := by
  unfold cutK
  cases i.ag with
  | true =>
    simp only [cond_true]
    cases (l.take i.size).length == i.size with
    | false => exact .inr fun k => rfl
    | true =>
      simp only [cond_true]
      rcases eta_eq i.sh (l.take i.size) with ⟨l', h⟩ | h
      · exact .inl ⟨.agg ⟨l', [], i.size⟩, fun k => h _⟩
      · exact .inr fun k => h _
  | false =>
    simp only [cond_false]
    cases l[0]? with
    | none => exact .inr fun k => rfl
    | some c =>
      simp only
      rcases eta_eq i.sh [c] with ⟨l', h⟩ | h
      · cases l' with
        | nil => exact .inr fun k => h _
        | cons c' q => exact .inl ⟨.w (.d c'), fun k => h _⟩
      · exact .inr fun k => h _

section
variable {cf : Cfg} {o : Oper} {st st1 : St}

theorem moves_move {x : Operand} (ho : o.op = .move x) (h : vop cf true o some st = some st1) : Moves cf o st st1 := by
  unfold vop at h; rw [ho] at h; simp only [Option.some.injEq] at h
  refine Moves.val h fun st' hs => ?_
  have hx := hs.ev x (by rw [ho]; simp [Op.operands])
  unfold vop; rw [ho]; simp only [evT_same hx]

theorem moves_assign {x : Operand} (ho : o.op = .assign x) (h : vop cf true o some st = some st1) : Moves cf o st st1 := by
  unfold vop at h; rw [ho] at h; simp only at h
  cases hn : isNilSlice x with
  | true =>
    rw [hn, cond_true] at h
    cases he : eszE cf o.type with
    | none => rw [he] at h; cases h
    | some p =>
      obtain ⟨e, sz⟩ := p
      rw [he] at h; simp only at h
      cases hb : Nat.ble 1 sz with
      | false => rw [hb] at h; cases h
      | true =>
        rw [hb] at h; simp only [cond_true, Bool.true_or, Option.some.injEq] at h
        exact Moves.val h fun st' hs => by unfold vop; rw [ho]; simp only [hn, cond_true, Bool.true_or, he, hb]
  | false =>
    rw [hn, cond_false] at h; simp only [Option.some.injEq] at h
    refine Moves.val h fun st' hs => ?_
    have hx := hs.ev x (by rw [ho]; simp [Op.operands])
    unfold vop; rw [ho]; simp only [hn, cond_false, hx]

theorem moves_pick {c x y : Operand} (ho : o.op = .pick c x y) (h : vop cf true o some st = some st1) : Moves cf o st st1 := by
  unfold vop at h; rw [ho] at h; simp only at h
  split at h
  · rename_i t hc
    simp only [Option.some.injEq] at h
    refine Moves.val h fun st' hs => ?_
    have h1 := hs.ev c (by rw [ho]; simp [Op.operands])
    have h2 := hs.ev x (by rw [ho]; simp [Op.operands])
    have h3 := hs.ev y (by rw [ho]; simp [Op.operands])
    unfold vop; rw [ho]; simp only [h1, hc, evT_same h2, evT_same h3]
  · cases h

theorem moves_nilCheck {x : Operand} (ho : o.op = .nilCheck x) (h : vop cf true o some st = some st1) : Moves cf o st st1 := by
  unfold vop at h; rw [ho] at h; simp only at h
  have hx : ∀ st', Same cf o.op st st' → st'.ev cf x = st.ev cf x := fun st' hs => hs.ev x (by rw [ho]; simp [Op.operands])
  split at h <;> first | (cases h; done) | (rename_i hc; simp only [Option.some.injEq] at h; exact Moves.val h fun st' hs => by unfold vop; rw [ho]; simp only [hx st' hs, hc])

theorem moves_load {t : TypeId} {x : Operand} (ho : o.op = .load t x) (h : vop cf true o some st = some st1) : Moves cf o st st1 := by
  unfold vop at h; rw [ho] at h; simp only [vLoad] at h
  have hx : ∀ st', Same cf o.op st st' → st'.ev cf x = st.ev cf x := fun st' hs => hs.ev x (by rw [ho]; simp [Op.operands])
  have hb : ∀ st', Same cf o.op st st' → st'.bx = st.bx := fun st' hs => hs.bx (by rw [ho]; rfl)
  split at h
  · rename_i i hc
    split at h
    · rename_i he
      split at h
      · rename_i hbb
        split at h
        · rename_i hcut
          simp only [Option.some.injEq] at h
          exact Moves.val h fun st' hs => by unfold vop; rw [ho]; simp only [vLoad, hc, hx st' hs, he, hb st' hs, hbb, hcut]
        · cases h
      · cases h
    · rename_i n sz0 off he
      split at h
      · rename_i mt e sz els hbb
        simp only [Bool.cond_eq_ite] at h
        split at h
        · rename_i hsz
          unfold getT at h
          split at h
          · rename_i el hel
            simp only at h
            rcases cutK_eq i (el.drop off) with ⟨v, hv⟩ | hv
            · rw [hv] at h
              simp only [Option.some.injEq] at h
              exact Moves.val h fun st' hs => by
                unfold vop; rw [ho]; simp only [vLoad, hc, hx st' hs, he, hb st' hs, hbb, Bool.cond_eq_ite, hsz, if_true, getT, hel, hv]
            · rw [hv] at h; cases h
          · cases h
        · cases h
      · cases h
    · rename_i l he
      rcases cutK_eq i l with ⟨v, hv⟩ | hv
      · rw [hv] at h
        simp only [Option.some.injEq] at h
        exact Moves.val h fun st' hs => by unfold vop; rw [ho]; simp only [vLoad, hc, hx st' hs, he, hv]
      · rw [hv] at h; cases h
    · cases h
  · cases h

theorem moves_store {t : TypeId} {x y : Operand} (ho : o.op = .store t x y) (h : vop cf true o some st = some st1) : Moves cf o st st1 := by
  unfold vop at h; rw [ho] at h; simp only [vStore, Bool.not_true, Bool.and_false, Bool.cond_eq_ite, Bool.false_eq_true, if_false] at h
  have key : ∀ b : Bx, ({ st with bx := b } : St).set o.dst (.tup []) = st1 → (∀ st', Same cf o.op st st' → vop cf true o some st' = some (({ st' with bx := b } : St).set o.dst (.tup []))) → Moves cf o st st1 := by
    intro b hb hs
    refine ⟨⟨.tup [], some b⟩, ?_, fun _ => by rw [ho]; rfl, fun st' h' => ?_⟩
    · rw [← hb]; cases o.dst <;> rfl
    · rw [hs st' h']; cases o.dst <;> rfl
  have h1 : ∀ st', Same cf o.op st st' → st'.ev cf x = st.ev cf x := fun st' hs => hs.ev x (by rw [ho]; simp [Op.operands])
  have h2 : ∀ st', Same cf o.op st st' → st'.evT cf t y = st.evT cf t y := fun st' hs => evT_same (hs.ev y (by rw [ho]; simp [Op.operands]))
  have h3 : ∀ st', Same cf o.op st st' → st'.bx = st.bx := fun st' hs => hs.bx (by rw [ho]; rfl)
  split at h
  · rename_i i v hc hy
    split at h
    · rename_i b off he
      split at h
      · rename_i v2 bx2 hnr
        split at h
        · rename_i l hbb
          split at h
          · rename_i hcond
            simp only [Option.some.injEq] at h
            refine key _ h fun st' hs => ?_
            unfold vop; rw [ho]; simp only [vStore, Bool.not_true, Bool.and_false, Bool.cond_eq_ite, Bool.false_eq_true, if_false, hc, h1 st' hs, he, h2 st' hs, hy, h3 st' hs, hnr, hbb, hcond, if_true]
          · cases h
        · cases h
      · cases h
    · rename_i b n sz0 off he
      split at h
      · rename_i cs bx1 hfz
        split at h
        · rename_i mt e sz els hbb
          split at h
          · rename_i hc0
            unfold getT at h
            split at h
            · rename_i el hel
              split at h
              · rename_i hcond
                simp only [Option.some.injEq] at h
                refine key _ h fun st' hs => ?_
                unfold vop; rw [ho]; simp only [vStore, Bool.not_true, Bool.and_false, Bool.cond_eq_ite, Bool.false_eq_true, if_false, hc, h1 st' hs, he, h2 st' hs, hy, h3 st' hs, hfz, hbb, hc0, if_true, getT, hel, hcond]
              · cases h
            · cases h
          · cases h
        · cases h
      · cases h
    · cases h
  · cases h

theorem moves_bin {op : BinOp} {t t2 : TypeId} {x y : Operand} (ho : o.op = .binOp op t x y t2) (h : vop cf true o some st = some st1) : Moves cf o st st1 := by
  unfold vop at h; rw [ho] at h; simp only at h
  have h1 : ∀ st', Same cf o.op st st' → st'.ev cf x = st.ev cf x := fun st' hs => hs.ev x (by rw [ho]; simp [Op.operands])
  have h2 : ∀ st', Same cf o.op st st' → st'.ev cf y = st.ev cf y := fun st' hs => hs.ev y (by rw [ho]; simp [Op.operands])
  have key : ∃ v, st.set o.dst v = st1 ∧ ∀ st', st'.ev cf x = st.ev cf x → st'.ev cf y = st.ev cf y → vBin cf o op t x y some st' = some (st'.set o.dst v) := by
    simp only [vBin, Bool.cond_eq_ite, strOpK_eq, intOpK_eq] at h ⊢
    generalize he1 : st.ev cf x = e1 at h ⊢
    generalize he2 : st.ev cf y = e2 at h ⊢
    split at h
    · split at h
      · split at h
        · simp only [Option.some.injEq] at h; exact ⟨_, h, fun st' e1 e2 => by simp only [*, if_true]⟩
        · cases h
      · cases h
    · split at h
      · simp only [Option.some.injEq] at h; exact ⟨_, h, fun st' e1 e2 => by simp only [*]⟩
      · cases h
    · split at h
      · simp only [Option.some.injEq] at h; exact ⟨_, h, fun st' e1 e2 => by simp only [*]⟩
      · simp only [Option.some.injEq] at h; exact ⟨_, h, fun st' e1 e2 => by simp only [*]⟩
      · cases h
    · rename_i _ _ la _ lb _
      have hp : ∃ v, st.set o.dst v = st1 ∧ ∀ st' : St, vBinS cf o op t la lb some st' = some (st'.set o.dst v) := by
        unfold vBinS at h ⊢
        generalize cf.ti t = ti at h ⊢
        match ti, h with
        | some ⟨.struct fs, z1, z2, z3, z4, z5⟩, h =>
          simp only [Bool.cond_eq_ite] at h ⊢
          split at h
          · rename_i hq
            simp only [hq, if_true]
            generalize eqCs cf 0 fs.toList la lb = q at h ⊢
            match q, op, h with
            | some e, .eql, h => simp only [Option.some.injEq] at h; exact ⟨_, h, fun st' => rfl⟩
            | some e, .neq, h => simp only [Option.some.injEq] at h; exact ⟨_, h, fun st' => rfl⟩
          · cases h
      obtain ⟨v, hv, hk⟩ := hp
      exact ⟨v, hv, fun st' h1 h2 => by rw [h1, h2]; exact hk st'⟩
    · rename_i n1 n2 n3 n4
      have hp : ∃ v, st.set o.dst v = st1 ∧ ∀ st' : St, vBinP cf o op t y e1 e2 some st' = some (st'.set o.dst v) := by
        unfold vBinP at h ⊢
        split at h
        · split at h
          · split at h
            · simp only [Option.some.injEq] at h; exact ⟨_, h, fun st' => by simp only [*]⟩
            · simp only [Option.some.injEq] at h; exact ⟨_, h, fun st' => by simp only [*]⟩
            · cases h
          · cases h
        · cases h
      obtain ⟨v, hv, hk⟩ := hp
      refine ⟨v, hv, fun st' h1 h2 => ?_⟩
      rw [h1, h2]
      split
      · exact absurd rfl (n1 _ _ _ _ rfl)
      · exact absurd rfl (n2 _ _ rfl)
      · exact absurd rfl (n3 _ _ rfl)
      · exact absurd rfl (n4 _ _ _ _ rfl)
      · exact hk st'
  obtain ⟨v, hv, hk⟩ := key
  exact Moves.val hv fun st' hs => by unfold vop; rw [ho]; exact hk st' (h1 st' hs) (h2 st' hs)

theorem moves_un {op : UnOp} {t : TypeId} {x : Operand} (ho : o.op = .unOp op t x) (h : vop cf true o some st = some st1) : Moves cf o st st1 := by
  unfold vop at h; rw [ho] at h; simp only [vUn] at h
  have h1 : ∀ st', Same cf o.op st st' → st'.ev cf x = st.ev cf x := fun st' hs => hs.ev x (by rw [ho]; simp [Op.operands])
  split at h <;> first | (cases h; done) | (rename_i hc; simp only [Option.some.injEq] at h; exact Moves.val h fun st' hs => by unfold vop; rw [ho]; simp only [vUn, h1 st' hs, hc])

theorem convB_same {s d : TypeId} {v : V} (h : vConvB cf o s d v some st = some st1) : ∃ q, st.set o.dst q = st1 ∧ ∀ st' : St, st'.bx = st.bx → vConvB cf o s d v some st' = some (st'.set o.dst q) := by
  unfold vConvB at h ⊢
  generalize cf.ti s = ti at h ⊢
  match ti, h with
  | some ⟨.slice e, _, _, _, _, _⟩, h =>
    simp only at h ⊢
    generalize cf.ti d = di at h ⊢
    generalize hel : elsOf st.bx v = ee at h
    match di, ee, hel, h with
    | some ⟨.string, _, _, _, _, _⟩, some (1, els), hel, h =>
      simp only at h
      cases hc : isBytes cf e && okBytes els with
      | false => rw [hc] at h; cases h
      | true =>
        rw [hc] at h; simp only [cond_true, Option.some.injEq] at h
        exact ⟨_, h, fun st' hb => by rw [hb, hel]; simp only [hc, cond_true]⟩
  | some ⟨.string, _, _, _, _, _⟩, h =>
    simp only at h ⊢
    generalize cf.ti d = di at h ⊢
    match di, v, h with
    | some ⟨.slice e, _, _, _, _, _⟩, .t (.w (.d (.str q))), h =>
      simp only at h ⊢
      cases hc : isBytes cf e && decide (q.size ≤ 9223372036854775807) with
      | false => rw [hc] at h; cases h
      | true =>
        rw [hc] at h; simp only [cond_true, Option.some.injEq] at h
        exact ⟨_, h, fun st' hb => by simp only [cond_true]⟩

theorem moves_convert {s d : TypeId} {x : Operand} (ho : o.op = .convert s d x) (h : vop cf true o some st = some st1) : Moves cf o st st1 := by
  unfold vop at h; rw [ho] at h; simp only at h
  have h1 : ∀ st', Same cf o.op st st' → st'.ev cf x = st.ev cf x := fun st' hs => hs.ev x (by rw [ho]; simp [Op.operands])
  have h3 : ∀ st', Same cf o.op st st' → st'.bx = st.bx := fun st' hs => hs.bx (by rw [ho]; rfl)
  have key : ∃ v, st.set o.dst v = st1 ∧ ∀ st', st'.ev cf x = st.ev cf x → st'.bx = st.bx → vConvert cf true o s d x some st' = some (st'.set o.dst v) := by
    unfold vConvert at h ⊢
    simp only [Bool.not_true, Bool.false_and, cond_false] at h ⊢
    split at h
    · simp only [Option.some.injEq] at h; exact ⟨_, h, fun st' e1 e2 => by simp only [*]⟩
    · simp only [Option.some.injEq] at h; exact ⟨_, h, fun st' e1 e2 => by simp only [*]⟩
    · simp only [Option.some.injEq] at h; exact ⟨_, h, fun st' e1 e2 => by simp only [*]⟩
    · rename_i n1 n2 n3
      obtain ⟨v, hv, hk⟩ := convB_same h
      refine ⟨v, hv, fun st' h1 h2 => ?_⟩
      rw [h1]
      split
      · rename_i q1 q2 q3; exact (n1 _ _ _ _ _ _ _ _ _ q1 q2 q3).elim
      · rename_i q1 q2 q3; exact (n2 _ _ _ _ _ _ _ _ q1 q2 q3).elim
      · rename_i q1 q2 q3; exact (n3 _ _ _ _ _ _ _ _ _ _ _ q1 q2 q3).elim
      · exact hk st' h2
  obtain ⟨v, hv, hk⟩ := key
  exact Moves.val hv fun st' hs => by unfold vop; rw [ho]; exact hk st' (h1 st' hs) (h3 st' hs)

theorem moves_makeIface {t : TypeId} {x : Operand} (ho : o.op = .makeInterface t x) (h : vop cf true o some st = some st1) : Moves cf o st st1 := by
  unfold vop at h; rw [ho] at h; simp only [vMakeIface] at h
  have h1 : ∀ st', Same cf o.op st st' → st'.evT cf t x = st.evT cf t x := fun st' hs => evT_same (hs.ev x (by rw [ho]; simp [Op.operands]))
  have h3 : ∀ st', Same cf o.op st st' → st'.bx = st.bx := fun st' hs => hs.bx (by rw [ho]; rfl)
  have key : ∃ v, st.set o.dst v = st1 ∧ ∀ st', st'.evT cf t x = st.evT cf t x → st'.bx = st.bx → vMakeIface cf true o t x some st' = some (st'.set o.dst v) := by
    simp only [vMakeIface]
    split at h
    · rename_i i v hc he
      split at h
      · cases h
      · rename_i l bx1 hl hd
        have hb := frzT_dr hl
        subst hb
        simp only [Option.some.injEq] at h
        refine ⟨_, h, fun st' e1 e2 => ?_⟩
        simp only [e1, e2, hc, he]
        generalize i.desc = dd at hd
        cases dd <;> first | (exact absurd rfl (hd _)) | (simp only [hl]; rw [← e2])
      · cases h
    · cases h
  obtain ⟨v, hv, hk⟩ := key
  exact Moves.val hv fun st' hs => by unfold vop; rw [ho]; exact hk st' (h1 st' hs) (h3 st' hs)

theorem bnd_same {st' : St} {d : Nat} {x : Option Operand} (h : ∀ y, x = some y → st'.ev cf y = st.ev cf y) : bnd cf st' d x = bnd cf st d x := by
  unfold bnd
  cases x with
  | none => rfl
  | some y => simp only [h y rfl]

theorem moves_slice {t : TypeId} {x : Operand} {lo hi mx : Option Operand} (ho : o.op = .slice t x lo hi mx) (h : vop cf true o some st = some st1) : Moves cf o st st1 := by
  unfold vop at h; rw [ho] at h; simp only at h
  have key : ∃ v, st.set o.dst v = st1 ∧ ∀ st', st'.ev cf x = st.ev cf x → st'.bx = st.bx → (∀ d, bnd cf st' d lo = bnd cf st d lo) → (∀ d, bnd cf st' d hi = bnd cf st d hi) → (∀ d, bnd cf st' d mx = bnd cf st d mx) → vSlice cf true o t x lo hi mx some st' = some (st'.set o.dst v) := by
    simp only [vSlice, Bool.cond_eq_ite] at h ⊢
    split at h
    · split at h
      · split at h
        · split at h
          · simp only [Option.some.injEq] at h; exact ⟨_, h, fun st' e1 e0 e2 e3 e4 => by simp only [*, if_true]⟩
          · cases h
        · cases h
      · cases h
    · split at h
      · rename_i hbor
        split at h
        · rename_i vwt b lo0 hi0 mx0 sz hvw
          split at h
          · rename_i nn ll hh cc e1 e2 e3 e4
            split at h
            · rename_i hcond
              simp only [Option.some.injEq] at h; exact ⟨_, h, fun st' f1 f0 f2 f3 f4 => by simp only [hbor, if_true, f1, f0, f2, f3, f4, hvw, e1, e2, e3, e4, hcond, *]⟩
            · cases h
          · cases h
        · cases h
      · rename_i hbor
        split at h
        · cases h
        · rename_i hmx
          split at h
          · rename_i bx1 hp
            have hb := passV_dr hp
            subst hb
            split at h
            · rename_i e1 e2 e3
              split at h
              · rename_i hcond
                simp only [Option.some.injEq] at h; exact ⟨_, h, fun st' f1 f0 f2 f3 f4 => by simp only [hbor, hmx, Bool.false_eq_true, if_false, if_true, f1, f0, f2, f3, hp, e1, e2, e3, hcond, *]; rw [← f0]⟩
              · cases h
            · cases h
          · cases h
    · split at h
      · split at h
        · split at h
          · simp only [Bool.not_true, Bool.and_false, Bool.false_and, Bool.false_eq_true, if_false] at h; cases h
          · cases h
        · rename_i hbor
          simp only [Option.some.injEq] at h
          exact ⟨_, h, fun st' e1 e0 e2 e3 e4 => by simp only [*]; rfl⟩
      · cases h
    · cases h
  obtain ⟨v, hv, hk⟩ := key
  refine Moves.val hv fun st' hs => ?_
  unfold vop; rw [ho]
  refine hk st' (hs.ev x (by rw [ho]; simp [Op.operands])) (hs.bx (by rw [ho]; rfl)) (fun d => bnd_same fun y hy => hs.ev y (by rw [ho, hy]; simp [Op.operands])) (fun d => bnd_same fun y hy => hs.ev y (by rw [ho, hy]; simp [Op.operands])) (fun d => bnd_same fun y hy => hs.ev y (by rw [ho, hy]; simp [Op.operands]))

theorem moves_fieldAddr {s : TypeId} {x : Operand} {f : Nat} (ho : o.op = .fieldAddr s x f) (h : vop cf true o some st = some st1) : Moves cf o st st1 := by
  unfold vop at h; rw [ho] at h; simp only at h
  have key : ∃ v, st.set o.dst v = st1 ∧ ∀ st', st'.ev cf x = st.ev cf x → vFieldAddr cf o s x f some st' = some (st'.set o.dst v) := by
    simp only [vFieldAddr] at h ⊢
    split at h
    · split at h
      · split at h
        · simp only [Option.some.injEq] at h; exact ⟨_, h, fun st' e1 => by simp only [*]⟩
        · simp only [Option.some.injEq] at h; exact ⟨_, h, fun st' e1 => by simp only [*]⟩
        · simp only [Option.some.injEq] at h; exact ⟨_, h, fun st' e1 => by simp only [*]⟩
        · cases h
      · cases h
    · cases h
  obtain ⟨v, hv, hk⟩ := key
  exact Moves.val hv fun st' hs => by unfold vop; rw [ho]; exact hk st' (hs.ev x (by rw [ho]; simp [Op.operands]))

theorem moves_field {s : TypeId} {x : Operand} {f : Nat} (ho : o.op = .field s x f) (h : vop cf true o some st = some st1) : Moves cf o st st1 := by
  unfold vop at h; rw [ho] at h; simp only at h
  have key : ∃ v, st.set o.dst v = st1 ∧ ∀ st', st'.ev cf x = st.ev cf x → vField cf o s x f some st' = some (st'.set o.dst v) := by
    simp only [vField] at h ⊢
    split at h
    · split at h
      · split at h
        · split at h
          · simp only [Option.some.injEq] at h; exact ⟨_, h, fun st' e1 => by simp only [*]⟩
          · cases h
        · cases h
      · cases h
    · cases h
  obtain ⟨v, hv, hk⟩ := key
  exact Moves.val hv fun st' hs => by unfold vop; rw [ho]; exact hk st' (hs.ev x (by rw [ho]; simp [Op.operands]))

theorem moves_indexAddr {t : TypeId} {x i : Operand} (ho : o.op = .indexAddr t x i) (h : vop cf true o some st = some st1) : Moves cf o st st1 := by
  unfold vop at h; rw [ho] at h; simp only at h
  have key : ∃ v, st.set o.dst v = st1 ∧ ∀ st', st'.ev cf x = st.ev cf x → st'.ev cf i = st.ev cf i → st'.bx = st.bx → vIndexAddr cf o t x i some st' = some (st'.set o.dst v) := by
    simp only [vIndexAddr, getT, Bool.cond_eq_ite] at h ⊢
    split at h
    · split at h
      · split at h
        · split at h
          · split at h
            · simp only [Option.some.injEq] at h; exact ⟨_, h, fun st' e1 e2 e3 => by simp only [*, if_true]⟩
            · cases h
          · cases h
        · cases h
      · split at h
        · split at h
          · split at h
            · split at h
              · simp only [Option.some.injEq] at h; exact ⟨_, h, fun st' e1 e2 e3 => by simp only [*, if_true]⟩
              · rename_i hmt
                simp only [Option.some.injEq] at h; exact ⟨_, h, fun st' e1 e2 e3 => by simp only [*, if_true]; rfl⟩
            · cases h
          · cases h
        · cases h
      · split at h
        · split at h
          · split at h
            · simp only [Option.some.injEq] at h; exact ⟨_, h, fun st' e1 e2 e3 => by simp only [*, if_true]⟩
            · cases h
          · cases h
        · cases h
      · split at h
        · split at h
          · simp only [Option.some.injEq] at h; exact ⟨_, h, fun st' e1 e2 e3 => by simp only [*, if_true]⟩
          · cases h
        · cases h
      · split at h
        · split at h
          · simp only [Option.some.injEq] at h; exact ⟨_, h, fun st' e1 e2 e3 => by simp only [*, if_true]⟩
          · cases h
        · cases h
      · split at h
        · split at h
          · simp only [Option.some.injEq] at h; exact ⟨_, h, fun st' e1 e2 e3 => by simp only [*, if_true]⟩
          · cases h
        · cases h
      · cases h
    · cases h
  obtain ⟨v, hv, hk⟩ := key
  exact Moves.val hv fun st' hs => by unfold vop; rw [ho]; exact hk st' (hs.ev x (by rw [ho]; simp [Op.operands])) (hs.ev i (by rw [ho]; simp [Op.operands])) (hs.bx (by rw [ho]; rfl))

theorem cutX_eq (i : TI) (m : M) (off : Nat) : (∃ v, ∀ {β : Type} (k : T → Option β), cutX i m off k = k v) ∨ ∀ {β : Type} (k : T → Option β), cutX i m off k = none := by
  obtain ⟨l, lk, n⟩ := m
  cases lk with
  | nil => exact cutK_eq i (l.drop off)
  | cons a b =>
    unfold cutX
    cases hc : cut i.ag i.size ⟨l, a :: b, n⟩ off with
    | none => exact .inr fun k => by simp only [hc]
    | some v => exact .inl ⟨v, fun k => by simp only [hc]⟩
theorem moves_index {t : TypeId} {x i : Operand} (ho : o.op = .index t x i) (h : vop cf true o some st = some st1) : Moves cf o st st1 := by
  unfold vop at h; rw [ho] at h; simp only at h
  have key : ∃ v, st.set o.dst v = st1 ∧ ∀ st', st'.ev cf x = st.ev cf x → st'.ev cf i = st.ev cf i → vIndex cf o t x i some st' = some (st'.set o.dst v) := by
    simp only [vIndex, getT, Bool.cond_eq_ite] at h ⊢
    split at h
    · split at h
      · split at h
        · split at h
          · simp only [Option.some.injEq] at h; exact ⟨_, h, fun st' e1 e2 => by simp only [*, if_true]⟩
          · cases h
        · cases h
      · rename_i ki ix hix _ _ len e z1 z2 z3 z4 z5 m hti hx
        split at h
        · rename_i _ ti hte
          split at h
          · rename_i hc
            rcases cutX_eq ti m (ix.toNat * ti.size) with ⟨v, hv⟩ | hv
            · rw [hv] at h
              simp only [Option.some.injEq] at h
              exact ⟨_, h, fun st' e1 e2 => by simp only [e1, e2, hix, hx, hti, hte, hc, if_true, hv]⟩
            · rw [hv] at h; cases h
          · cases h
        · cases h
      · cases h
    · cases h
  obtain ⟨v, hv, hk⟩ := key
  exact Moves.val hv fun st' hs => by unfold vop; rw [ho]; exact hk st' (hs.ev x (by rw [ho]; simp [Op.operands])) (hs.ev i (by rw [ho]; simp [Op.operands]))

theorem moves_extract {x : Operand} {i : Nat} (ho : o.op = .extract x i) (h : vop cf true o some st = some st1) : Moves cf o st st1 := by
  unfold vop at h; rw [ho] at h; simp only at h
  have key : ∃ v, st.set o.dst v = st1 ∧ ∀ st', st'.ev cf x = st.ev cf x → vExtract cf o x i some st' = some (st'.set o.dst v) := by
    simp only [vExtract] at h ⊢
    split at h
    · split at h
      · simp only [Option.some.injEq] at h; exact ⟨_, h, fun st' e1 => by simp only [*]⟩
      · cases h
    · cases h
  obtain ⟨v, hv, hk⟩ := key
  exact Moves.val hv fun st' hs => by unfold vop; rw [ho]; exact hk st' (hs.ev x (by rw [ho]; simp [Op.operands]))

theorem evParts_same {st' : St} {ty : Nat → Option TypeId} : ∀ (ps : List (Nat × Operand)), (∀ p ∈ ps, st'.ev cf p.2 = st.ev cf p.2) → st'.evParts cf ty ps = st.evParts cf ty ps := by
  intro ps
  induction ps with
  | nil => intro _; rfl
  | cons p r ih =>
    intro h
    obtain ⟨i, x⟩ := p
    have h1 := h (i, x) (by simp)
    have h2 := ih (fun q hq => h q (by simp [hq]))
    simp only [St.evParts, h2, evT_same h1]

theorem evs_same {st' : St} : ∀ (ts : List TypeId) (xs : List Operand), (∀ x ∈ xs, st'.ev cf x = st.ev cf x) → st'.evs cf ts xs = st.evs cf ts xs := by
  intro ts
  induction ts with
  | nil => intro xs _; cases xs <;> rfl
  | cons t r ih =>
    intro xs h
    cases xs with
    | nil => rfl
    | cons x q => simp only [St.evs, evT_same (h x (by simp)), ih q (fun y hy => h y (by simp [hy]))]

theorem moves_build {t : TypeId} {ps : Array (Nat × Operand)} (ho : o.op = .build t ps) (h : vop cf true o some st = some st1) : Moves cf o st st1 := by
  unfold vop at h; rw [ho] at h; simp only at h
  have hp : ∀ st' (ty : Nat → Option TypeId), Same cf o.op st st' → st'.evParts cf ty ps.toList = st.evParts cf ty ps.toList := fun st' ty hs =>
    evParts_same _ fun p hp => hs.ev p.2 (by rw [ho]; simp only [Op.operands, List.mem_toArray, List.mem_map]; exact ⟨p, hp, rfl⟩)
  simp only [vBuild, zero_dr] at h
  split at h
  · rename_i fs z hti
    split at h
    · rename_i pl pp hpl hpp
      split at h
      · rename_i l hl2
        simp only [Option.some.injEq] at h
        exact Moves.val h fun st' hs => by unfold vop; rw [ho]; simp only [vBuild, zero_dr, hti, hpl, hp st' _ hs, hpp, hl2]
      · cases h
    · cases h
  · rename_i e z hti
    split at h
    · rename_i n pp hn hpp
      split at h
      · rename_i l hl2
        simp only [Option.some.injEq] at h
        exact Moves.val h fun st' hs => by unfold vop; rw [ho]; simp only [vBuild, zero_dr, hti, hn, hp st' _ hs, hpp, hl2]
      · cases h
    · cases h
  · cases h

theorem moves_buildSlice {t : TypeId} {n : Nat} {ps : Array (Nat × Operand)} (ho : o.op = .buildSlice t n ps) (h : vop cf true o some st = some st1) : Moves cf o st st1 := by
  unfold vop at h; rw [ho] at h; simp only at h
  have hp : ∀ st' (ty : Nat → Option TypeId), Same cf o.op st st' → st'.evParts cf ty ps.toList = st.evParts cf ty ps.toList := fun st' ty hs =>
    evParts_same _ fun p hp => hs.ev p.2 (by rw [ho]; simp only [Op.operands, List.mem_toArray, List.mem_map]; exact ⟨p, hp, rfl⟩)
  have h3 : ∀ st', Same cf o.op st st' → st'.bx = st.bx := fun st' hs => hs.bx (by rw [ho]; rfl)
  simp only [vBuildSlice, Bool.cond_eq_ite, if_true] at h
  split at h
  · rename_i e q1 q2 q3 q4 q5 hti
    split at h
    · rename_i m pp hm hpp
      split at h
      · rename_i els bx1 hel
        have hb := elemsOf_dr _ _ hel
        subst hb
        split at h
        · rename_i hc
          simp only [Option.some.injEq] at h
          exact Moves.val h fun st' hs => by
            unfold vop; rw [ho]; simp only [vBuildSlice, Bool.cond_eq_ite, if_true, hti, hm, hp st' _ hs, hpp, h3 st' hs, hel, hc]
            rw [← h3 st' hs]
        · cases h
      · cases h
    · cases h
  · cases h

theorem moves_assert {x : Operand} {xt t : TypeId} {ok : Bool} (ho : o.op = .typeAssert x xt t ok) (h : vop cf true o some st = some st1) : Moves cf o st st1 := by
  unfold vop at h; rw [ho] at h; simp only at h
  have hx : ∀ st', Same cf o.op st st' → st'.ev cf x = st.ev cf x := fun st' hs => hs.ev x (by rw [ho]; simp [Op.operands])
  have key : ∃ v, st.set o.dst v = st1 ∧ ∀ st', st'.ev cf x = st.ev cf x → vAssert cf true o t x ok some st' = some (st'.set o.dst v) := by
    simp only [vAssert, vZero, zero_dr, Bool.cond_eq_ite] at h ⊢
    split at h
    · rename_i i hti
      generalize hdesc : i.desc = dd at h ⊢
      generalize hev : st.ev cf x = e at h ⊢
      split at h
      · cases h
      · rename_i t' ag l hnd
        have hne : ∀ ms, dd ≠ .interface ms := fun ms hm => hnd ms hm
        split at h
        · rename_i hteq
          by_cases hcc : (ag == i.ag && l.length == if ag = true then i.size else 1) = true
          · rw [if_pos hcc] at h
            rcases cutK_eq i l with ⟨v, hv⟩ | hv
            · rw [hv] at h
              split at h
              · rename_i hok
                simp only [Option.some.injEq] at h
                exact ⟨_, h, fun st' e1 => by simp only [e1]; cases dd <;> first | (exact absurd rfl (hne _)) | (simp only [hteq, if_true, hcc, hv, hok])⟩
              · rename_i hok
                simp only [Option.some.injEq] at h
                exact ⟨_, h, fun st' e1 => by simp only [e1]; cases dd <;> first | (exact absurd rfl (hne _)) | (simp only [hteq, if_true, hcc, hv, hok]; rfl)⟩
            · rw [hv] at h; cases h
          · rw [if_neg hcc] at h; cases h
        · rename_i hteq
          split at h
          · rename_i hok
            split at h
            · rename_i v hcut
              simp only [Option.some.injEq] at h
              refine ⟨_, h, fun st' e1 => ?_⟩
              simp only [e1]; cases dd <;> first | (exact absurd rfl (hne _)) | (simp only [hteq, hok, if_true]; rfl)
            · cases h
          · cases h
      · rename_i hnd
        have hne : ∀ ms, dd ≠ .interface ms := fun ms hm => hnd ms hm
        split at h
        · rename_i hok
          split at h
          · rename_i v hcut
            simp only [Option.some.injEq] at h
            refine ⟨_, h, fun st' e1 => ?_⟩
            simp only [e1]; cases dd <;> first | (exact absurd rfl (hne _)) | (simp only [hok, if_true])
          · cases h
        · cases h
      · cases h
    · cases h
  obtain ⟨v, hv, hk⟩ := key
  exact Moves.val hv fun st' hs => by unfold vop; rw [ho]; exact hk st' (hx st' hs)

theorem moves_call {c : Call} (ho : o.op = .call c) (h : vop cf true o some st = some st1) : Moves cf o st st1 := by
  unfold vop at h; rw [ho] at h; simp only at h
  have hargs : ∀ st', Same cf o.op st st' → ∀ x ∈ c.args.toList, st'.ev cf x = st.ev cf x := fun st' hs x hx => hs.ev x (by rw [ho]; simp only [Op.operands, Call.operands, Array.mem_append]; exact .inr (by simpa using hx))
  have hbx : ∀ st', Same cf o.op st st' → st'.bx = st.bx := fun st' hs => hs.bx (by rw [ho]; simp [isRd])
  obtain ⟨callee, args, ts⟩ := c
  cases callee with
  | invoke rr m => unfold vCall at h; cases h
  | value f =>
    unfold vCall callWith at h; simp only [Bool.cond_eq_ite, if_true] at h
    split at h
    · rename_i id caps vs bx1 he hvs
      have hb := passArgs_dr _ _ hvs
      subst hb
      split at h
      · rename_i hlen
        cases hp : cf.pc id ((vs ++ caps.map vc).map (V.mapW (.ren fun _ => none))) [] (fun v bxs => some (v, bxs)) with
        | none => rw [hp] at h; cases h
        | some r =>
          rw [hp] at h; simp only [Option.bind_some] at h
          split at h
          · rename_i hr
            simp only [Option.some.injEq] at h
            refine Moves.val h fun st' hs => ?_
            have hf : st'.ev cf f = st.ev cf f := hs.ev f (by rw [ho]; simp [Op.operands, Call.operands])
            have ha := evs_same (st := st) (st' := st') ts.toList args.toList (hargs st' hs)
            unfold vop; rw [ho]; simp only; unfold vCall callWith; simp only [Bool.cond_eq_ite, if_true, hf, he, ha, hbx st' hs, hvs, hlen, hp, Option.bind_some, hr]
            rw [← hbx st' hs]
          · cases h
      · cases h
    · simp at h
    · cases h
  | builtin b =>
    have hx : ∀ st', Same cf o.op st st' → ∀ x ∈ args.toList, st'.ev cf x = st.ev cf x := hargs
    cases b with
    | len =>
      unfold vCall at h; simp only [vLen] at h
      have key : ∃ v, st.set o.dst v = st1 ∧ ∀ st', (∀ x ∈ args.toList, st'.ev cf x = st.ev cf x) → st'.bx = st.bx → vLen cf o ts args some st' = some (st'.set o.dst v) := by
        simp only [vLen]
        split at h
        · rename_i t x hts hxs
          split at h
          · split at h
            · simp only [Option.some.injEq] at h; exact ⟨_, h, fun st' e e2 => by simp only [e x (by rw [hxs]; simp), *]⟩
            · cases h
          · split at h
            · simp only [Option.some.injEq] at h; exact ⟨_, h, fun st' e e2 => by simp only [evT_same (e x (by rw [hxs]; simp)), *]⟩
            · cases h
          · simp only [Option.some.injEq] at h; exact ⟨_, h, fun st' e e2 => by simp only [*]⟩
          · split at h
            · split at h
              · simp only [Option.some.injEq] at h; exact ⟨_, h, fun st' e e2 => by simp only [e x (by rw [hxs]; simp), *]⟩
              · cases h
            · cases h
          · cases h
        · cases h
      obtain ⟨v, hv, hk⟩ := key
      exact Moves.val hv fun st' hs => by unfold vop; rw [ho]; simp only; unfold vCall; simp only; exact hk st' (hx st' hs) (hbx st' hs)
    | max =>
      unfold vCall at h; simp only [vMinMax, Bool.cond_eq_ite] at h
      have key : ∃ v, st.set o.dst v = st1 ∧ ∀ st', (∀ x ∈ args.toList, st'.ev cf x = st.ev cf x) → vMinMax cf o true args some st' = some (st'.set o.dst v) := by
        simp only [vMinMax, Bool.cond_eq_ite]
        split at h
        · rename_i x y hxs
          split at h
          · split at h
            · simp only [Option.some.injEq] at h; exact ⟨_, h, fun st' e => by simp only [e x (by rw [hxs]; simp), e y (by rw [hxs]; simp), *, if_true]⟩
            · cases h
          · cases h
        · cases h
      obtain ⟨v, hv, hk⟩ := key
      exact Moves.val hv fun st' hs => by unfold vop; rw [ho]; simp only; unfold vCall; simp only; exact hk st' (hx st' hs)
    | min =>
      unfold vCall at h; simp only [vMinMax, Bool.cond_eq_ite] at h
      have key : ∃ v, st.set o.dst v = st1 ∧ ∀ st', (∀ x ∈ args.toList, st'.ev cf x = st.ev cf x) → vMinMax cf o false args some st' = some (st'.set o.dst v) := by
        simp only [vMinMax, Bool.cond_eq_ite]
        split at h
        · rename_i x y hxs
          split at h
          · split at h
            · simp only [Option.some.injEq] at h; exact ⟨_, h, fun st' e => by simp only [e x (by rw [hxs]; simp), e y (by rw [hxs]; simp), *, if_true]⟩
            · cases h
          · cases h
        · cases h
      obtain ⟨v, hv, hk⟩ := key
      exact Moves.val hv fun st' hs => by unfold vop; rw [ho]; simp only; unfold vCall; simp only; exact hk st' (hx st' hs)
    | append =>
      unfold vCall at h; simp only [vAppend, Bool.cond_eq_ite] at h
      split at h
      · rename_i t t2 x y hts hxs
        split at h
        · rename_i e q1 q2 q3 q4 q5 hti
          split at h
          · rename_i i b sz2 els2 hte hex hsrc
            split at h
            · rename_i mt e2 sz els hbb
              split at h
              · rename_i hc
                simp only [Option.some.injEq] at h
                refine ⟨⟨.t (.w (.arr st.bx.length)), some (st.bx.set b none ++ [some (.arr mt (some e) sz (els ++ els2))])⟩, by rw [← h]; cases o.dst <;> rfl, fun _ => by rw [ho]; rfl, fun st' hs => ?_⟩
                have hxx := hx st' hs x (by rw [hxs]; simp)
                have hyy := hx st' hs y (by rw [hxs]; simp)
                unfold vop; rw [ho]; simp only; unfold vCall; simp only [vAppend, Bool.cond_eq_ite, if_true, hts, hxs, hti, hte, hxx, hex, evT_same hyy, hbx st' hs, hsrc, hbb, hc]
                cases o.dst <;> rfl
              · cases h
            · cases h
          · rename_i i sz sz2 els2 hte hex hsrc
            split at h
            · rename_i htt
              unfold vAppendE at h; simp only [Bool.cond_eq_ite] at h
              split at h
              · rename_i hc
                split at h
                · rename_i hem
                  simp only [Option.some.injEq] at h
                  refine Moves.val h fun st' hs => ?_
                  have hxx := hx st' hs x (by rw [hxs]; simp)
                  have hyy := hx st' hs y (by rw [hxs]; simp)
                  unfold vop; rw [ho]; simp only; unfold vCall; simp only [vAppend, vAppendE, Bool.cond_eq_ite, if_true, hts, hxs, hti, hte, hxx, hex, evT_same hyy, hbx st' hs, hsrc, htt, hc, hem]
                · rename_i hem
                  simp only [Option.some.injEq] at h
                  refine ⟨⟨.t (.w (.arr st.bx.length)), some (st.bx ++ [some (.arr true (some e) sz els2)])⟩, by rw [← h]; cases o.dst <;> rfl, fun _ => by rw [ho]; rfl, fun st' hs => ?_⟩
                  have hxx := hx st' hs x (by rw [hxs]; simp)
                  have hyy := hx st' hs y (by rw [hxs]; simp)
                  unfold vop; rw [ho]; simp only; unfold vCall; simp only [vAppend, vAppendE, Bool.cond_eq_ite, if_true, hts, hxs, hti, hte, hxx, hex, evT_same hyy, hbx st' hs, hsrc, htt, hc, hem]
                  simp only [Bool.false_eq_true, if_false, St.boxNew, hbx st' hs]
                  cases o.dst <;> rfl
              · cases h
            · cases h
          · rename_i i b lo hi mx sz0 sz2 els2 hte hex hsrc
            split at h
            · rename_i e2 sz els hbb
              split at h
              · rename_i hc
                simp only [Option.some.injEq] at h
                refine ⟨⟨.t (.w (.vw b lo (hi + els2.length) mx sz)), some (st.bx.set b (some (.arr true e2 sz (els.take hi ++ els2 ++ els.drop (hi + els2.length)))))⟩, by rw [← h]; cases o.dst <;> rfl, fun _ => by rw [ho]; rfl, fun st' hs => ?_⟩
                have hxx := hx st' hs x (by rw [hxs]; simp)
                have hyy := hx st' hs y (by rw [hxs]; simp)
                unfold vop; rw [ho]; simp only; unfold vCall; simp only [vAppend, Bool.cond_eq_ite, if_true, hts, hxs, hti, hte, hxx, hex, evT_same hyy, hbx st' hs, hsrc, hbb, hc]
                cases o.dst <;> rfl
              · cases h
            · cases h
          · cases h
        · cases h
      · cases h
    | _ => unfold vCall at h; cases h

/-- a call of a function as it is: what it turns -/
theorem moves_callF (hnat : ∀ {R : Type} f args bxs (k : V → Bx → Option R), cf.pc f args bxs k = (cf.pc f args bxs fun v b => some (v, b)).bind fun p => k p.1 p.2) {c : Call} {f : Operand} (ho : o.op = .call c) (hcl : c.callee = .value f) (h : vop cf false o some st = some st1) :
    ∃ u : Upd, st1 = u.app o.dst st ∧ ∀ st', Same cf o.op st st' → vop cf false o some st' = some (u.app o.dst st') := by
  unfold vop at h; rw [ho] at h; simp only at h
  have hargs : ∀ st', Same cf o.op st st' → ∀ x ∈ c.args.toList, st'.ev cf x = st.ev cf x := fun st' hs x hx => hs.ev x (by rw [ho]; simp only [Op.operands, Call.operands, Array.mem_append]; exact .inr (by simpa using hx))
  have hbx : ∀ st', Same cf o.op st st' → st'.bx = st.bx := fun st' hs => hs.bx (by rw [ho]; simp [isRd])
  obtain ⟨callee, args, ts⟩ := c
  simp only at hcl
  subst hcl
  unfold vCall callWith at h; simp only [Bool.cond_eq_ite, Bool.false_eq_true, if_false] at h
  split at h
  · rename_i id caps vs bx1 he hvs
    split at h
    · rename_i hlen
      rw [hnat] at h
      cases hp : cf.pc id (renVs (reachAll bx1 [] (vsNames (vs ++ caps.map vc))) (vs ++ caps.map vc)) (renBx (reachAll bx1 [] (vsNames (vs ++ caps.map vc))) bx1) (fun v b => some (v, b)) with
      | none => rw [hp] at h; cases h
      | some p =>
        rw [hp] at h; simp only [Option.bind_some] at h
        split at h
        · rename_i hble
          simp only [Option.some.injEq] at h
          refine ⟨⟨p.1.mapW (.ren (back (reachAll bx1 [] (vsNames (vs ++ caps.map vc))) bx1.length)), some (({ st with bx := bx1 } : St).return (reachAll bx1 [] (vsNames (vs ++ caps.map vc))) p.2).bx⟩, by rw [← h]; cases o.dst <;> rfl, fun st' hs => ?_⟩
          have hf : st'.ev cf f = st.ev cf f := hs.ev f (by rw [ho]; simp [Op.operands, Call.operands])
          have ha := evs_same (st := st) (st' := st') ts.toList args.toList (hargs st' hs)
          unfold vop; rw [ho]; simp only; unfold vCall callWith; simp only [Bool.cond_eq_ite, Bool.false_eq_true, if_false, hf, he, ha, hbx st' hs, hvs, hlen, if_true]
          rw [hnat, hp]
          simp only [Option.bind_some, hble, if_true]
          cases o.dst <;> rfl
        · cases h
    · cases h
  · rename_i id bs vs bx1 he hvs
    split at h
    · rename_i hlen
      rw [hnat] at h
      cases hp : cf.pc id (renVs (reachAll bx1 [] (vsNames (vs ++ bs.map fun b => V.t (.w (.ptr b 0))))) (vs ++ bs.map fun b => V.t (.w (.ptr b 0)))) (renBx (reachAll bx1 [] (vsNames (vs ++ bs.map fun b => V.t (.w (.ptr b 0))))) bx1) (fun v b => some (v, b)) with
      | none => rw [hp] at h; cases h
      | some p =>
        rw [hp] at h; simp only [Option.bind_some] at h
        split at h
        · rename_i hble
          simp only [Option.some.injEq] at h
          refine ⟨⟨p.1.mapW (.ren (back (reachAll bx1 [] (vsNames (vs ++ bs.map fun b => V.t (.w (.ptr b 0))))) bx1.length)), some (({ st with bx := bx1 } : St).return (reachAll bx1 [] (vsNames (vs ++ bs.map fun b => V.t (.w (.ptr b 0))))) p.2).bx⟩, by rw [← h]; cases o.dst <;> rfl, fun st' hs => ?_⟩
          have hf : st'.ev cf f = st.ev cf f := hs.ev f (by rw [ho]; simp [Op.operands, Call.operands])
          have ha := evs_same (st := st) (st' := st') ts.toList args.toList (hargs st' hs)
          unfold vop; rw [ho]; simp only; unfold vCall callWith; simp only [Bool.cond_eq_ite, Bool.false_eq_true, if_false, hf, he, ha, hbx st' hs, hvs, hlen, if_true]
          rw [hnat, hp]
          simp only [Option.bind_some, hble, if_true]
          cases o.dst <;> rfl
        · cases h
    · cases h
  · cases h

theorem moves_alloc {t : TypeId} (ho : o.op = .alloc t) (h : vop cf true o some st = some st1) : Moves cf o st st1 := by
  unfold vop at h; rw [ho] at h; simp only [vAlloc] at h
  generalize hti : cf.ti t = ti at h
  match ti, h with
  | some i, h =>
    simp only [St.zero, St.boxNew] at h
    generalize hz : zeroM false st.bx.length i.zero 0 = q at h
    obtain ⟨l, lk, b⟩ := q
    simp only [Option.some.injEq] at h
    refine ⟨⟨.t (.w (.ptr (st.bx ++ b).length 0)), some ((st.bx ++ b) ++ [some (.cells ⟨l, lk, i.zero.length⟩)])⟩, by rw [← h]; cases o.dst <;> rfl, fun _ => by rw [ho]; rfl, fun st' hs => ?_⟩
    have hb := hs.bx (by rw [ho]; rfl)
    unfold vop; rw [ho]; simp only [vAlloc, hti, St.zero, hb, hz, St.boxNew]; cases o.dst <;> rfl
theorem moves_box {t : TypeId} {x : Operand} (ho : o.op = .box t x) (h : vop cf true o some st = some st1) : Moves cf o st st1 := by
  unfold vop at h; rw [ho] at h; simp only [vBox] at h
  generalize hv : st.evT cf t x = v at h
  match v, h with
  | .t v, h =>
    simp only [St.boxNew, Option.some.injEq] at h
    refine ⟨⟨.t (.w (.ptr st.bx.length 0)), some (st.bx ++ [some (.cells v.toM)])⟩, by rw [← h]; cases o.dst <;> rfl, fun _ => by rw [ho]; rfl, fun st' hs => ?_⟩
    have hb := hs.bx (by rw [ho]; rfl)
    have hx := hs.ev x (by rw [ho]; simp [Op.operands])
    unfold vop; rw [ho]; simp only [vBox, evT_same hx, hv, St.boxNew, hb]; cases o.dst <;> rfl

theorem moves_makeFunc {fn : Fn} {first cap : Array Operand} (ho : o.op = .makeFunc fn first cap) (h : vop cf true o some st = some st1) : Moves cf o st st1 := by
  unfold vop at h; rw [ho] at h; simp only [vMakeFunc, Bool.cond_eq_ite, if_true] at h
  have hsh : ∀ (st' : St) (xs : List Operand), (∀ x ∈ xs, st'.ev cf x = st.ev cf x) → shareCaps cf st' xs = shareCaps cf st xs := by
    intro st' xs
    induction xs with
    | nil => intro _; rfl
    | cons x q ih => intro hx; simp only [shareCaps, hx x (by simp), ih fun y hy => hx y (by simp [hy])]
  split at h
  · rename_i f hf
    split at h
    · rename_i hbor
      split at h
      · rename_i l hl
        simp only [Option.some.injEq] at h
        refine Moves.val h fun st' hs => ?_
        have hc := hsh st' cap.toList fun x hx => hs.ev x (by rw [ho]; simp only [Op.operands, Array.mem_append]; exact .inr (by simpa using hx))
        unfold vop; rw [ho]; simp only [vMakeFunc, Bool.cond_eq_ite, hf, hbor, if_true, hc, hl]
      · cases h
    · cases h
  · cases h

theorem moves_lookup {t : TypeId} {x y : Operand} {ok : Bool} (ho : o.op = .lookup t x y ok) (h : vop cf true o some st = some st1) : Moves cf o st st1 := by
  unfold vop at h; rw [ho] at h; simp only at h
  have h1 : ∀ st', Same cf o.op st st' → st'.ev cf x = st.ev cf x := fun st' hs => hs.ev x (by rw [ho]; simp [Op.operands])
  have h2 : ∀ st', Same cf o.op st st' → st'.ev cf y = st.ev cf y := fun st' hs => hs.ev y (by rw [ho]; simp [Op.operands])
  have h3 : ∀ st', Same cf o.op st st' → st'.bx = st.bx := fun st' hs => hs.bx (by rw [ho]; rfl)
  have key : ∃ v, st.set o.dst v = st1 ∧ ∀ st', st'.ev cf x = st.ev cf x → st'.ev cf y = st.ev cf y → st'.bx = st.bx → vLookup cf o t x y ok some st' = some (st'.set o.dst v) := by
    simp only [vLookup, Bool.cond_eq_ite] at h ⊢
    split at h
    · rename_i kt vt q1 q2 q3 q4 q5 hti
      split at h
      · rename_i sh i b kc e1 e2 e3 e4
        split at h
        · rename_i ksh va vn es hbb
          split at h
          · rename_i hc
            rcases cutK_eq i ((mapGet kc es).getD (zeroC i.zero)) with ⟨v, hv⟩ | hv
            · rw [hv] at h
              cases ok with
              | true =>
                simp only [if_true, Option.some.injEq] at h
                exact ⟨_, h, fun st' f1 f2 f3 => by simp only [f1, f2, f3, e1, e2, e3, e4, hbb, hc, if_true, hv]⟩
              | false =>
                simp only [Bool.false_eq_true, if_false, Option.some.injEq] at h
                exact ⟨_, h, fun st' f1 f2 f3 => by simp only [f1, f2, f3, e1, e2, e3, e4, hbb, hc, if_true, hv, Bool.false_eq_true, if_false]⟩
            · rw [hv] at h; cases h
          · cases h
        · cases h
      · cases h
    · cases h
  obtain ⟨v, hv, hk⟩ := key
  exact Moves.val hv fun st' hs => by unfold vop; rw [ho]; exact hk st' (h1 st' hs) (h2 st' hs) (h3 st' hs)

theorem moves (hok : okOp o.op = true) (h : vop cf true o some st = some st1) : Moves cf o st st1 := by
  generalize ho : o.op = op at hok
  cases op with
  | move x => exact moves_move ho h
  | assign x => exact moves_assign ho h
  | pick c x y => exact moves_pick ho h
  | alloc t => exact moves_alloc ho h
  | box t x => exact moves_box ho h
  | range t x => cases hok
  | next x b => cases hok
  | makeFunc f a b => exact moves_makeFunc ho h
  | lookup t x i ok => exact moves_lookup ho h
  | makeSlice t n c => cases hok
  | build t ps => exact moves_build ho h
  | buildSlice t n ps => exact moves_buildSlice ho h
  | load t x => exact moves_load ho h
  | store t x y => exact moves_store ho h
  | nilCheck x => exact moves_nilCheck ho h
  | binOp op t x y t2 => exact moves_bin ho h
  | unOp op t x => exact moves_un ho h
  | convert s d x => exact moves_convert ho h
  | makeInterface t x => exact moves_makeIface ho h
  | slice t x lo hi mx => exact moves_slice ho h
  | fieldAddr s x f => exact moves_fieldAddr ho h
  | field s x f => exact moves_field ho h
  | indexAddr t x i => exact moves_indexAddr ho h
  | index t x i => exact moves_index ho h
  | typeAssert x xt t ok => exact moves_assert ho h
  | extract x i => exact moves_extract ho h
  | call c => exact moves_call ho h
  | _ => unfold vop at h; rw [ho] at h; cases h
end
end Vm

/- Vm, part U: an operation that reads boxes reads the same where more boxes stand behind them. -/
namespace Vm
open Go

theorem getD_more {bx : Bx} {b : Nat} {x : Box} (l : Bx) (h : bx.getD b none = some x) : (bx ++ l).getD b none = some x := by
  rw [List.getD_eq_getElem?_getD] at h ⊢
  cases hb : bx[b]? with
  | none => rw [hb] at h; cases h
  | some y =>
    have hlt := (List.getElem?_eq_some_iff.1 hb).1
    rw [List.getElem?_append_left hlt]; exact h
theorem passW_more {x y : W} {bx bx' : Bx} (l : Bx) (h : passW true x bx = some (y, bx')) : passW true x (bx ++ l) = some (y, bx' ++ l) := by
  cases x with
  | u => simp [passW] at h
  | ea b i sz off => simp [passW] at h
  | pv b off n => simp [passW] at h
  | vw b lo hi mx sz => simp [passW] at h
  | mp b => simp [passW] at h ⊢; exact ⟨h.1, h.2⟩
  | clo f bs => simp [passW] at h ⊢; exact ⟨h.1, h.2⟩
  | es sz => simp [passW] at h ⊢; exact ⟨h.1, h.2⟩
  | d c => simp [passW] at h ⊢; exact ⟨h.1, h.2⟩
  | ptr b off => simp [passW] at h ⊢; exact ⟨h.1, h.2⟩
  | arr b =>
    simp only [passW] at h ⊢
    generalize hb : bx.getD b none = bb at h
    match bb, h with
    | some (.arr mt e sz els), h =>
      rw [getD_more l hb]
      cases mt with
      | true => simp at h
      | false => simp at h ⊢; exact ⟨h.1, h.2⟩
theorem passLk_more {n : Nat} (l : Bx) : ∀ (lk : List (Nat × W)) (c : List C) {bx bx' : Bx} {m : M}, passLk true n lk c bx = some (m, bx') → passLk true n lk c (bx ++ l) = some (m, bx' ++ l) := by
  intro lk
  induction lk with
  | nil => intro c bx bx' m h; simp only [passLk, Option.some.injEq, Prod.mk.injEq] at h ⊢; exact ⟨h.1, by rw [h.2]⟩
  | cons p r ih =>
    intro c bx bx' m h
    obtain ⟨j, x⟩ := p
    simp only [passLk] at h ⊢
    cases h1 : passLk true n r c bx with
    | none => rw [h1] at h; cases h
    | some q =>
      obtain ⟨m1, bx1⟩ := q
      rw [h1] at h; simp only at h
      rw [ih c h1]; simp only
      cases h2 : passW true x bx1 with
      | none => rw [h2] at h; cases h
      | some q2 =>
        obtain ⟨y, bx2⟩ := q2
        rw [h2] at h; simp only at h
        rw [passW_more l h2]; simp only
        cases y <;> simp only [Option.some.injEq, Prod.mk.injEq] at h ⊢ <;> exact ⟨h.1, by rw [h.2]⟩
theorem passT_more {x y : T} {bx bx' : Bx} (l : Bx) (h : passT true x bx = some (y, bx')) : passT true x (bx ++ l) = some (y, bx' ++ l) := by
  cases x with
  | w x =>
    simp only [passT] at h ⊢
    cases h2 : passW true x bx with
    | none => rw [h2] at h; cases h
    | some q => rw [h2] at h; rw [passW_more l h2]; simp only [Option.some.injEq, Prod.mk.injEq] at h ⊢; exact ⟨h.1, by rw [h.2]⟩
  | agg m =>
    simp only [passT] at h ⊢
    cases h2 : passLk true m.n m.lk m.l bx with
    | none => rw [h2] at h; cases h
    | some q => rw [h2] at h; rw [passLk_more l _ _ h2]; simp only [Option.some.injEq, Prod.mk.injEq] at h ⊢; exact ⟨h.1, by rw [h.2]⟩
theorem frzT_more {x : T} {c : List C × Nat} {bx bx' : Bx} (l : Bx) (h : frzT true x bx = some (c, bx')) : frzT true x (bx ++ l) = some (c, bx' ++ l) := by
  unfold frzT at h ⊢
  cases h2 : passT true x bx with
  | none => rw [h2] at h; cases h
  | some q =>
    obtain ⟨y, b1⟩ := q
    rw [h2] at h; rw [passT_more l h2]; simp only at h ⊢
    cases h3 : y.stabC with
    | none => rw [h3] at h; cases h
    | some z => rw [h3] at h; simp only [Option.some.injEq, Prod.mk.injEq] at h ⊢; exact ⟨h.1, by rw [h.2]⟩
theorem passV_more {x y : V} {bx bx' : Bx} (l : Bx) (h : passV true x bx = some (y, bx')) : passV true x (bx ++ l) = some (y, bx' ++ l) := by
  cases x with
  | u => simp [passV] at h
  | tup q => simp [passV] at h
  | t x =>
    simp only [passV] at h ⊢
    cases h2 : passT true x bx with
    | none => rw [h2] at h; cases h
    | some q => rw [h2] at h; rw [passT_more l h2]; simp only [Option.some.injEq, Prod.mk.injEq] at h ⊢; exact ⟨h.1, by rw [h.2]⟩
theorem passArgs_more {b : Bool} (l : Bx) : ∀ (xs ys : List V) {bx bx' : Bx}, passArgs true b xs bx = some (ys, bx') → passArgs true b xs (bx ++ l) = some (ys, bx' ++ l) := by
  intro xs
  induction xs with
  | nil => intro ys bx bx' h; simp only [passArgs, Option.some.injEq, Prod.mk.injEq] at h ⊢; exact ⟨h.1, by rw [h.2]⟩
  | cons x r ih =>
    intro ys bx bx' h
    simp only [passArgs] at h ⊢
    have key : ∀ y bx1, (bif b && isArr x then some (x, bx) else passV true x bx) = some (y, bx1) → (bif b && isArr x then some (x, bx ++ l) else passV true x (bx ++ l)) = some (y, bx1 ++ l) := by
      intro y bx1 hq
      cases hb : b && isArr x with
      | true => rw [hb, cond_true] at hq; simp only [cond_true, Option.some.injEq, Prod.mk.injEq] at hq ⊢; exact ⟨hq.1, by rw [hq.2]⟩
      | false => rw [hb, cond_false] at hq; rw [cond_false]; exact passV_more l hq
    cases h2 : (bif b && isArr x then some (x, bx) else passV true x bx) with
    | none => rw [h2] at h; cases h
    | some q =>
      obtain ⟨y, bx1⟩ := q
      rw [h2] at h; rw [key y bx1 h2]; simp only at h ⊢
      cases h3 : passArgs true b r bx1 with
      | none => rw [h3] at h; cases h
      | some q2 => obtain ⟨zs, bx2⟩ := q2; rw [h3] at h; rw [ih _ h3]; simp only [Option.some.injEq, Prod.mk.injEq] at h ⊢; exact ⟨h.1, by rw [h.2]⟩
theorem elemsOf_more {n : Nat} (l : Bx) : ∀ (ps : List (Nat × V)) (k : Nat) {els : List (List C)} {bx bx' : Bx}, elemsOf true n k ps bx = some (els, bx') → elemsOf true n k ps (bx ++ l) = some (els, bx' ++ l) := by
  intro ps
  induction ps with
  | nil => intro k els bx bx' h; simp only [elemsOf, Option.some.injEq, Prod.mk.injEq] at h ⊢; exact ⟨h.1, by rw [h.2]⟩
  | cons p r ih =>
    intro k els bx bx' h
    obtain ⟨i, x⟩ := p
    cases x with
    | u => simp [elemsOf] at h
    | tup q => simp [elemsOf] at h
    | t x =>
      simp only [elemsOf] at h ⊢
      cases h2 : frzT true x bx with
      | none => rw [h2] at h; cases h
      | some q =>
        obtain ⟨cs, bx1⟩ := q
        rw [h2] at h; rw [frzT_more l h2]; simp only at h ⊢
        cases h3 : elemsOf true n (k + 1) r bx1 with
        | none => rw [h3] at h; cases h
        | some q2 =>
          obtain ⟨zs, bx2⟩ := q2
          rw [h3] at h; rw [ih _ h3]; simp only at h ⊢
          cases hc : i == k && cs.2 == n with
          | false => rw [hc] at h; cases h
          | true => rw [hc] at h; simp only [cond_true, Option.some.injEq, Prod.mk.injEq] at h ⊢; exact ⟨h.1, by rw [h.2]⟩
theorem elsOf_more {v : V} {bx : Bx} {r : Nat × List (List C)} (l : Bx) (h : elsOf bx v = some r) : elsOf (bx ++ l) v = some r := by
  unfold elsOf at h ⊢
  split at h
  · exact h
  · exact h
  · rename_i b
    generalize hb : bx.getD b none = bb at h
    match bb, h with
    | some (.arr mt e sz els), h => simp only [getD_more l hb]; exact h
  · rename_i b off n
    generalize hb : bx.getD b none = bb at h
    match bb, h with
    | some (.cells ⟨l0, [], ln⟩), h => simp only [getD_more l hb]; exact h
  · rename_i b lo hi mx sz0
    generalize hb : bx.getD b none = bb at h
    match bb, h with
    | some (.arr mt e sz els), h => simp only [getD_more l hb]; exact h
  · cases h
theorem slLen_more {v : V} {bx : Bx} {r : Nat} (l : Bx) (h : slLen bx v = some r) : slLen (bx ++ l) v = some r := by
  unfold slLen at h ⊢
  split at h
  · exact h
  · exact h
  · rename_i b
    generalize hb : bx.getD b none = bb at h
    match bb, h with
    | some (.arr mt e sz els), h => simp only [getD_more l hb]; exact h
  · exact h
  · cases h

/-- with more boxes behind -/
def St.more (st : St) (l : Bx) : St := { st with bx := st.bx ++ l }
theorem more_ev (cf : Cfg) (st : St) (l : Bx) (x : Operand) : (st.more l).ev cf x = st.ev cf x := by cases x <;> rfl
theorem more_evT (cf : Cfg) (st : St) (l : Bx) (t : TypeId) (x : Operand) : (st.more l).evT cf t x = st.evT cf t x := by unfold St.evT; rw [more_ev]
theorem more_set (st : St) (l : Bx) (d : Option Nat) (v : V) : (st.more l).set d v = (st.set d v).more l := by cases d <;> rfl
theorem more_evs (cf : Cfg) (st : St) (l : Bx) : ∀ (ts : List TypeId) (xs : List Operand), (st.more l).evs cf ts xs = st.evs cf ts xs := by
  intro ts
  induction ts with
  | nil => intro xs; rfl
  | cons t r ih => intro xs; cases xs with
                   | nil => rfl
                   | cons x q => simp only [St.evs, more_evT, ih]
theorem more_parts (cf : Cfg) (st : St) (l : Bx) (ty : Nat → Option TypeId) : ∀ (ps : List (Nat × Operand)), (st.more l).evParts cf ty ps = st.evParts cf ty ps := by
  intro ps
  induction ps with
  | nil => rfl
  | cons p r ih => obtain ⟨i, x⟩ := p; simp only [St.evParts, more_evT, ih]

section
variable {cf : Cfg} {o : Oper} {st s : St} (l : Bx)

theorem more_load {t : TypeId} {x : Operand} (h : vLoad cf o t x some st = some s) : vLoad cf o t x some (st.more l) = some (s.more l) := by
  unfold vLoad at h ⊢
  rw [more_ev]
  split at h
  · split at h
    · rename_i b off _
      generalize hb : st.bx.getD b none = bb at h
      match bb, h with
      | some (.cells m), h =>
        rw [show (st.more l).bx.getD b none = _ from getD_more l hb]
        simp only at h ⊢
        split at h
        · simp only [Option.some.injEq] at h ⊢; rw [more_set, h]
        · cases h
    · rename_i b n sz0 off _
      generalize hb : st.bx.getD b none = bb at h
      match bb, h with
      | some (.arr mt e sz els), h =>
        rw [show (st.more l).bx.getD b none = _ from getD_more l hb]
        simp only at h ⊢
        cases hc : sz0 == sz with
        | false => rw [hc] at h; cases h
        | true =>
          rw [hc, cond_true] at h
          rw [cond_true]
          unfold getT at h ⊢
          cases hg : els[n]? with
          | none => rw [hg] at h; cases h
          | some e0 =>
            rw [hg] at h; simp only at h ⊢
            rcases cutK_eq (by assumption) (e0.drop off) with ⟨v, hv⟩ | hv
            · rw [hv] at h ⊢; simp only [Option.some.injEq] at h ⊢; rw [more_set, h]
            · rw [hv] at h; cases h
    · rename_i l' _
      rcases cutK_eq (by assumption) l' with ⟨v, hv⟩ | hv
      · rw [hv] at h ⊢; simp only [Option.some.injEq] at h ⊢; rw [more_set, h]
      · rw [hv] at h; cases h
    · cases h
  · cases h

theorem more_bx (b : Nat) (x : Box) (h : st.bx.getD b none = some x) : (st.more l).bx.getD b none = some x := getD_more l h

theorem more_indexAddr {t : TypeId} {x i : Operand} (h : vIndexAddr cf o t x i some st = some s) : vIndexAddr cf o t x i some (st.more l) = some (s.more l) := by
  unfold vIndexAddr getT at h ⊢
  simp only [more_ev, Bool.cond_eq_ite] at h ⊢
  repeat' split at h
  all_goals first
    | (cases h; done)
    | (simp only [Option.some.injEq] at h; subst h; simp only [*, if_true, more_set]; done)
    | (simp only [Option.some.injEq] at h; subst h; rw [more_bx l _ _ (by assumption)]; simp only [*, if_true, more_set]; done)
    | (simp only [Option.some.injEq] at h; subst h; simp only [more_bx l _ _ (by assumption), *, if_true, if_false, more_set, Bool.false_eq_true]; done)
theorem more_bnd (d : Nat) (x : Option Operand) : bnd cf (st.more l) d x = bnd cf st d x := by
  cases x with
  | none => rfl
  | some y => unfold bnd; simp only [more_ev]
theorem mk_more (bx : Bx) (v : V) (d : Option Nat) : ({ st.more l with bx := bx ++ l } : St).set d v = (({ st with bx := bx } : St).set d v).more l := by cases d <;> rfl
theorem more_passV {x y : V} {bx' : Bx} (h : passV true x st.bx = some (y, bx')) : passV true x (st.more l).bx = some (y, bx' ++ l) := passV_more l h
theorem more_frzT {x : T} {c : List C × Nat} {bx' : Bx} (h : frzT true x st.bx = some (c, bx')) : frzT true x (st.more l).bx = some (c, bx' ++ l) := frzT_more l h

theorem more_iface {t : TypeId} {x : Operand} (h : vMakeIface cf true o t x some st = some s) : vMakeIface cf true o t x some (st.more l) = some (s.more l) := by
  unfold vMakeIface at h ⊢
  simp only [more_evT] at h ⊢
  repeat' split at h
  all_goals first
    | (cases h; done)
    | (simp only [Option.some.injEq] at h; subst h; simp only [more_frzT l (by assumption), *, mk_more]; done)
theorem more_elems {n : Nat} {ps : List (Nat × V)} {els : List (List C)} {bx' : Bx} (h : elemsOf true n 0 ps st.bx = some (els, bx')) : elemsOf true n 0 ps (st.more l).bx = some (els, bx' ++ l) := elemsOf_more l ps 0 h
theorem more_buildSlice {t : TypeId} {n : Nat} {ps : Array (Nat × Operand)} (h : vBuildSlice cf true o t n ps some st = some s) : vBuildSlice cf true o t n ps some (st.more l) = some (s.more l) := by
  unfold vBuildSlice at h ⊢
  simp only [more_parts, Bool.cond_eq_ite, if_true] at h ⊢
  repeat' split at h
  all_goals first
    | (cases h; done)
    | (simp only [Option.some.injEq] at h; subst h; simp only [*, more_elems l (by assumption), if_true, mk_more]; done)
theorem more_slLen {v : V} {n : Nat} (h : slLen st.bx v = some n) : slLen (st.more l).bx v = some n := slLen_more l h
theorem more_args {b : Bool} {xs ys : List V} {bx' : Bx} (h : passArgs true b xs st.bx = some (ys, bx')) : passArgs true b xs (st.more l).bx = some (ys, bx' ++ l) := passArgs_more l xs ys h
theorem more_len {ts : Array TypeId} {xs : Array Operand} (h : vLen cf o ts xs some st = some s) : vLen cf o ts xs some (st.more l) = some (s.more l) := by
  unfold vLen at h ⊢
  simp only [more_ev, more_evT] at h ⊢
  repeat' split at h
  all_goals first
    | (cases h; done)
    | (simp only [Option.some.injEq] at h; subst h; simp only [*, more_set]; done)
    | (simp only [Option.some.injEq] at h; subst h; simp only [more_slLen l (by assumption), *, more_set]; done)
    | (simp only [Option.some.injEq] at h; subst h; simp only [*, more_bx l _ _ (by assumption), more_set]; done)

theorem more_lookup {t : TypeId} {x y : Operand} {ok : Bool} (h : vLookup cf o t x y ok some st = some s) : vLookup cf o t x y ok some (st.more l) = some (s.more l) := by
  simp only [vLookup, Bool.cond_eq_ite, more_ev] at h ⊢
  split at h
  · rename_i kt vt q1 q2 q3 q4 q5 hti
    split at h
    · rename_i sh i b kc e1 e2 e3 e4
      split at h
      · rename_i ksh va vn es hbb
        split at h
        · rename_i hc
          rcases cutK_eq i ((mapGet kc es).getD (zeroC i.zero)) with ⟨v, hv⟩ | hv
          · rw [hv] at h
            simp only [e1, e2, e3, e4, more_bx l _ _ hbb, hc, if_true, hv]
            cases ok with
            | true => simp only [if_true, Option.some.injEq] at h ⊢; rw [more_set, h]
            | false => simp only [Bool.false_eq_true, if_false, Option.some.injEq] at h ⊢; rw [more_set, h]
          · rw [hv] at h; cases h
        · cases h
      · cases h
    · cases h
  · cases h

theorem more_call {c : Call} (h : vCall cf true o c some st = some s) (ha : c.callee ≠ .builtin .append) (hm1 : c.callee ≠ .builtin .max) (hm2 : c.callee ≠ .builtin .min) : vCall cf true o c some (st.more l) = some (s.more l) := by
  unfold vCall at h ⊢
  obtain ⟨callee, args, ts⟩ := c
  cases callee with
  | invoke rr m => cases h
  | value f =>
    simp only at h ⊢
    rw [more_ev, more_evs]
    unfold callWith at h ⊢
    simp only [Bool.cond_eq_ite, if_true] at h ⊢
    split at h
    · rename_i id caps vs bx1 he hvs
      simp only [he, more_args l hvs]
      split at h
      · rename_i hl
        rw [if_pos hl]
        cases hp : cf.pc id ((vs ++ caps.map vc).map (V.mapW (.ren fun _ => none))) [] (fun v bxs => some (v, bxs)) with
        | none => rw [hp] at h; cases h
        | some r =>
          rw [hp] at h; simp only [Option.bind_some] at h ⊢
          split at h
          · simp only [Option.some.injEq] at h; subst h; exact congrArg some (mk_more ..)
          · cases h
      · cases h
    · simp at h
    · cases h
  | builtin b =>
    cases b with
    | len => exact more_len l h
    | append => exact absurd rfl ha
    | max => exact absurd rfl hm1
    | min => exact absurd rfl hm2
    | _ => cases h

theorem vop_more (hok : okOp o.op = true) (hf : farOp o.op = true) (h : vop cf true o some st = some s) : vop cf true o some (st.more l) = some (s.more l) := by
  have viaMoves : (isWr o.op || isRd o.op) = false → vop cf true o some (st.more l) = some (s.more l) := by
    intro hn
    obtain ⟨u, hs, hu, hk⟩ := moves hok h
    have := hk (st.more l) ⟨fun x _ => more_ev cf st l x, fun hb => by rw [hn] at hb; cases hb⟩
    rw [this, hs]
    have hub : u.bx = none := by
      cases hb : u.bx with
      | none => rfl
      | some b => have := hu (by rw [hb]; rfl); rw [this] at hn; simp at hn
    unfold Upd.app; rw [hub]
    simp only [St.more]
    cases o.dst <;> rfl
  have h0 := h
  unfold vop at h ⊢
  cases ho : o.op <;> rw [ho] at h hok hf viaMoves <;> simp only at h ⊢ <;> first
    | exact more_load l h
    | exact more_indexAddr l h
    | exact more_lookup l h
    | exact more_iface l h
    | exact more_buildSlice l h
    | (rename_i c; exact more_call l h (fun e => by obtain ⟨cc, _, _⟩ := c; simp only at e; subst e; cases hf) (fun e => by obtain ⟨cc, _, _⟩ := c; simp only at e; subst e; cases hf) (fun e => by obtain ⟨cc, _, _⟩ := c; simp only at e; subst e; cases hf))
    | (have := viaMoves rfl; unfold vop at this; rw [ho] at this; exact this)
    | (cases hf; done)
    | (cases hok; done)
    | (cases h; done)
end
end Vm

/- Vm, part L: regions, control, functions: what the interpreter answers, the machine answers. -/
namespace Vm
open Go

section
variable {P : Program} {cf : Cfg} {S0 : Addr → Option Value} {w0 : World} {O : Nat → Prop} (cx : Ctx P cf S0 w0 O) (hpc : PcOk P cf)
variable {g0 g : G} {st : St} {a : Act} {w : World}
variable {R : Type} {dr : Bool} {o : Oper} {r : R} {Q : Exit → Act → World → Prop}

theorem split_rel {dst : Option Nat} {k : St → Option R} (h : Rel w0 S0 O g0 g st a w) (hs : split st dst k = some r) : ∃ st', Rel w0 S0 O g0 g st' a w ∧ k st' = some r := by
  unfold split at hs
  simp only [getV_eq] at hs
  cases dst with
  | none => exact ⟨st, h, hs⟩
  | some d =>
    simp only at hs
    have key : ∀ b, st.env.getD d vu = vb b → Rel w0 S0 O g0 g (st.set (some d) (vb b)) a w := by
      intro b hb
      refine ⟨h.df, by simp [St.set, setV_eq, h.len], h.np, h.np0, h.pin, fun i v hv => ?_, h.m⟩
      simp only [St.set, setV_eq] at hv
      rw [List.getElem?_set] at hv
      split at hv
      · rename_i e
        split at hv
        · rename_i hlt
          cases hv
          subst e
          have : st.env[d]? = some (vb b) := by
            rw [List.getD_eq_getElem?_getD, List.getElem?_eq_getElem hlt] at hb
            rw [List.getElem?_eq_getElem hlt]; simpa using hb
          exact h.env d _ this
        · cases hv
      · exact h.env i v hv
    generalize he : st.env.getD d vu = e at hs key
    match e, hs, key with
    | .t (.w (.d (.bool b))), hs, key =>
      cases b with
      | true => exact ⟨_, key true rfl, hs⟩
      | false => exact ⟨_, key false rfl, hs⟩
    | .u, hs, _ => exact ⟨st, h, hs⟩
    | .tup l, hs, _ => exact ⟨st, h, hs⟩
    | .t (.agg l), hs, _ => exact ⟨st, h, hs⟩
    | .t (.w .u), hs, _ => exact ⟨st, h, hs⟩
    | .t (.w (.ptr b c)), hs, _ => exact ⟨st, h, hs⟩
    | .t (.w (.arr b)), hs, _ => exact ⟨st, h, hs⟩
    | .t (.w (.ea b i s f)), hs, _ => exact ⟨st, h, hs⟩
    | .t (.w (.pv b i f)), hs, _ => exact ⟨st, h, hs⟩
    | .t (.w (.es sz)), hs, _ => exact ⟨st, h, hs⟩
    | .t (.w (.vw _ _ _ _ _)), hs, _ => exact ⟨st, h, hs⟩
    | .t (.w (.mp _)), hs, _ => exact ⟨st, h, hs⟩
    | .t (.w (.clo _ _)), hs, _ => exact ⟨st, h, hs⟩
    | .t (.w (.d .nm)), hs, _ => exact ⟨st, h, hs⟩
    | .t (.w (.d (.int k1 n1))), hs, _ => exact ⟨st, h, hs⟩
    | .t (.w (.d (.str s))), hs, _ => exact ⟨st, h, hs⟩
    | .t (.w (.d (.sl s q))), hs, _ => exact ⟨st, h, hs⟩
    | .t (.w (.d (.fn f q))), hs, _ => exact ⟨st, h, hs⟩
    | .t (.w (.d (.ifc t ag q))), hs, _ => exact ⟨st, h, hs⟩
    | .t (.w (.d .ni)), hs, _ => exact ⟨st, h, hs⟩
    | .t (.w (.d .nf)), hs, _ => exact ⟨st, h, hs⟩
    | .t (.w (.d .np)), hs, _ => exact ⟨st, h, hs⟩
    | .t (.w (.d (.er _ _ _))), hs, _ => exact ⟨st, h, hs⟩
    | .t (.w (.d (.ip q))), hs, _ => exact ⟨st, h, hs⟩

theorem wanted_rel {ops : Array Oper} {b : Bool} (h : Rel w0 S0 O g0 g st a w) (hw : wantedV ops.toList st o = some b) : Region.wanted o (yielded ops a.tmps) = b := by
  unfold wantedV at hw
  unfold Region.wanted
  cases hg : o.guard with
  | none => rw [hg] at hw; cases hw; rfl
  | some jw =>
    obtain ⟨j, want⟩ := jw
    rw [hg] at hw; simp only at hw ⊢
    have hops : ops.toList[j]? = ops[j]? := by simp
    rw [hops] at hw
    unfold yielded
    cases hj : ops[j]? with
    | none => rw [hj] at hw; cases hw
    | some gp =>
      rw [hj] at hw; simp only at hw
      cases hd : gp.dst with
      | none => rw [hd] at hw; cases hw
      | some d =>
        rw [hd] at hw; simp only [getO_eq] at hw
        simp only [Option.bind_some, hd]
        generalize he : st.env[d]? = e at hw
        have hlt : ∀ v, st.env[d]? = some v → ∃ u, a.tmps[d]? = some u ∧ RelV g v u := by
          intro v hv
          have h1 : d < st.env.length := (List.getElem?_eq_some_iff.1 hv).1
          have h2 : d < a.tmps.size := by rw [h.len]; exact h1
          have := h.env d v hv
          have e1 : a.tmps.getD d undef = a.tmps[d] := by simp [h2]
          rw [e1] at this
          exact ⟨_, Array.getElem?_eq_getElem h2, this⟩
        match e, hw with
        | some (.t (.w (.d (.bool bb)))), hw =>
          obtain ⟨u, hu, hr⟩ := hlt _ he
          rw [hu]; have := relC_bool hr; subst this
          cases hw; cases bb <;> cases want <;> rfl
        | some (.tup l), hw =>
          obtain ⟨u, hu, us, hr, _⟩ := hlt _ he
          rw [hu, hr]; cases hw; rfl

/-- how the interpreter leaves code -/
def toE : X → Exit
  | .nm => .normal
  | .ex id => .exit id
  | .rt => .ret

def QX (w0 : World) (S0 : Addr → Option Value) (O : Nat → Prop) (g0 : G) (k : X → St → Option R) (r : R) : Exit → Act → World → Prop :=
  fun e a w => ∃ x g st, toE x = e ∧ Rel w0 S0 O g0 g st a w ∧ k x st = some r

include cx hpc

theorem runOps_rel (ops : Array Oper) (k : St → Option R) : ∀ (rest : List Oper) (i : Nat) {g : G} {st : St} {a : Act} {w : World}, ops.toList.drop i = rest → Rel w0 S0 O g0 g st a w →
    runOps cf dr ops.toList rest k st = some r → (∀ g' st' a' w', Rel w0 S0 O g0 g' st' a' w' → k st' = some r → Q .normal a' w') →
    wpOps P ops Q (List.range' i rest.length) a w := by
  intro rest
  induction rest with
  | nil =>
    intro i g st a w _ h hr hq
    exact hq _ _ _ _ h hr
  | cons o q ih =>
    intro i g st a w hd h hr hq
    have hlt : i < ops.toList.length := by
      rcases Nat.lt_or_ge i ops.toList.length with h1 | h1
      · exact h1
      · rw [List.drop_eq_nil_of_le h1] at hd; cases hd
    have hdd := List.drop_eq_getElem_cons hlt
    rw [hd] at hdd
    injection hdd with ho hq'
    have hoi : ops[i]? = some o := by rw [ho]; simp
    simp only [List.length_cons, List.range'_succ, wpOps, hoi]
    simp only [runOps] at hr
    cases hw : wantedV ops.toList st o with
    | none => rw [hw] at hr; cases hr
    | some b =>
      rw [hw] at hr
      have hwr := wanted_rel h hw
      cases b with
      | false =>
        simp only at hr
        rw [hwr]; simp only [Bool.false_eq_true, if_false]
        exact ih (i + 1) hq'.symm (h.put (v := .tup []) ⟨[], rfl, .nil⟩) hr hq
      | true =>
        simp only at hr
        rw [hwr]; simp only [if_true]
        left
        refine snd_vop cx hpc hr h ?_
        intro g' st' a' w' h' hk'
        by_cases hgd : isGuard ops.toList o.dst q = true
        · simp only [hgd, cond_true] at hk'
          obtain ⟨st2, h2, hk2⟩ := split_rel h' hk'
          exact ih (i + 1) hq'.symm h2 hk2 hq
        · rw [Bool.not_eq_true] at hgd
          simp only [hgd, cond_false] at hk'
          exact ih (i + 1) hq'.symm h' hk' hq

omit cx hpc
theorem maskV_rel : ∀ (m : List Bool) (e : List V) (i : Nat) v, (maskV m e)[i]? = some v → v = vu ∨ e[i]? = some v := by
  intro m
  induction m with
  | nil => intro e i v h; cases e <;> simp [maskV] at h <;> exact .inr h
  | cons b r ih =>
    intro e i v h
    cases e with
    | nil => cases b <;> simp [maskV] at h
    | cons y q =>
      cases b with
      | true =>
        cases i with
        | zero => simp [maskV] at h; exact .inr (by simpa using h)
        | succ i => simp [maskV] at h; exact (ih q i v h).imp id (fun hh => by simpa using hh)
      | false =>
        cases i with
        | zero => simp [maskV] at h; exact .inl h.symm
        | succ i => simp [maskV] at h; exact (ih q i v h).imp id (fun hh => by simpa using hh)

theorem maskV_len : ∀ (m : List Bool) (e : List V), (maskV m e).length = e.length := by
  intro m
  induction m with
  | nil => intro e; cases e <;> simp [maskV]
  | cons b r ih =>
    intro e
    cases e with
    | nil => cases b <;> simp [maskV]
    | cons y q => cases b <;> simp [maskV, ih]

theorem head_rel (h : Rel w0 S0 O g0 g st a w) (m : List Bool) : ∃ g', Rel w0 S0 O g0 g' (headM m st) a w := by
  rw [headM_eq]
  refine canon_rel (g := g) ⟨h.df, by simp [maskV_len, h.len], h.np, h.np0, h.pin, fun i v hv => ?_, h.m⟩
  rcases maskV_rel _ _ i v hv with rfl | hv
  · trivial
  · exact h.env i v hv

theorem foldPre {α : Type} {f : Bx → α → Bx} (hf : ∀ (x : α) {g : G} {bx : Bx}, RelM w0 S0 O g bx w → ∃ g', More g g' ∧ RelM w0 S0 O g' (f bx x) w) : ∀ (l : List α) {g : G} {bx : Bx}, RelM w0 S0 O g bx w → ∃ g', More g g' ∧ RelM w0 S0 O g' (l.foldl f bx) w := by
  intro l
  induction l with
  | nil => intro g bx h; exact ⟨g, .refl g, h⟩
  | cons x r ih =>
    intro g bx h
    obtain ⟨g1, m1, h1⟩ := hf x h
    obtain ⟨g2, m2, h2⟩ := ih h1
    exact ⟨g2, m1.trans m2, h2⟩

theorem preW (x : V) {g : G} {bx : Bx} (hm : RelM w0 S0 O g bx w) : ∃ g', More g g' ∧ RelM w0 S0 O g' (preV x bx) w := by
  unfold preV
  cases hp : passV false x bx with
  | none => exact ⟨g, .refl g, hm⟩
  | some q => obtain ⟨y, bx'⟩ := q; obtain ⟨g', h1, h2, _⟩ := passV_rel hp hm; exact ⟨g', h1, h2⟩

theorem pre_rel (ops : List Oper) (h : Rel w0 S0 O g0 g st a w) : ∃ g', Rel w0 S0 O g0 g' (pre cf ops st) a w := by
  obtain ⟨g', hm, hR⟩ := foldPre (f := fun bx o => preOp cf st o bx) (fun o {g bx} hb => by
    unfold preOp
    split
    · exact foldPre (fun x {g bx} hb => preW _ hb) _ hb
    · exact preW _ hb
    · exact preW _ hb
    · exact foldPre (fun x {g bx} hb => preW _ hb) _ hb
    · exact ⟨g, .refl g, hb⟩) ops h.m
  exact ⟨g', h.more hm hR⟩
end
end Vm
