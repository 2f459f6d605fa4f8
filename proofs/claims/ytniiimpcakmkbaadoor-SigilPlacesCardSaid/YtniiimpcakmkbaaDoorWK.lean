/- Vm, part K: each operation of the interpreter is the model's (6): closures, calls; all operations. -/
import Derived.Test.YtniiimpcakmkbaaDoorWJ
namespace Vm
open Go

def GlobOk (cf : Cfg) (S : Addr → Option Value) : Prop := ∀ g l, cf.glob g = some l → RelC S (.ip l) (.pointer (some ⟨g, 0, none⟩))

/-- a call of a function by its number, whoever runs it -/
def CF (P : Program) (f : FuncId) (args : Array Value) (w : World) (Rr : Value → World → Prop) : Prop :=
  ((callFunc f args).run P w = .ok (.enter f args) w ∧ Calls P f args w (fun e w' => ∃ c, e = .returned c ∧ Rr c w')) ∨ ∃ c w', (callFunc f args).run P w = .ok (.value c) w' ∧ Rr c w'

/-- how a call that was handed boxes ends -/
def PcPost (g : G) (w : World) (O : Nat → Prop) (K : Nat) (v : V) (bxs : Bx) (c : Value) (w' : World) : Prop :=
  ∃ g', (∀ k, k < K → g'.bx k = g.bx k ∧ g'.sl k = g.sl k) ∧ K ≤ bxs.length ∧ RelV g' v c ∧ RelM w g.S O g' bxs w'

/-- what a function answers, with its arguments and boxes -/
def FnRes (P : Program) (glob : Nat → Option (List C)) (f : FuncId) (args : List V) (bxs : Bx) (v : V) (bxs' : Bx) : Prop :=
  ∀ (g : G) (w : World) (O : Nat → Prop) (cargs : List Value), RelM w g.S O g bxs w → (∀ k, k < bxs.length → g.c k) → (∀ g' l, glob g' = some l → RelC g.S (.ip l) (.pointer (some ⟨g', 0, none⟩))) → All2 (RelV g) args cargs →
    CF P f cargs.toArray w (PcPost g w O bxs.length v bxs')

structure PcOk (P : Program) (cf : Cfg) : Prop where
  res : ∀ {R : Type} f args bxs (k : V → Bx → Option R) r, cf.pc f args bxs k = some r → ∃ v bxs', k v bxs' = some r ∧ FnRes P cf.glob f args bxs v bxs'
  nat : ∀ {R : Type} f args bxs (k : V → Bx → Option R), cf.pc f args bxs k = (cf.pc f args bxs fun v b => some (v, b)).bind fun p => k p.1 p.2
  eq : ∀ t, cf.eqs t = true → P.stoodInHeld t = false ∧ P.eqGuardType P.depth t = false

theorem weak_none (g g' : G) (hS : ∀ a v, g.S a = some v → g'.S a = some v) : Weak g g' (W.ren fun _ => none) := weak_ren hS (fun b k _ h => by cases h)

theorem mapVs_rel {g g' : G} {f : W → W} (hf : Weak g g' f) (hd : IdD f) {l : List V} {us : List Value} (h : All2 (RelV g) l us) : All2 (RelV g') (l.map (V.mapW f)) us :=
  .map_left (h.imp fun _ _ hh => hh.map hf hd)

section
variable {P : Program} {cf : Cfg} {S0 : Addr → Option Value} (cx : Ctx P cf S0)
variable {w0 : World} {O : Nat → Prop} {g0 g : G} {st : St} {a : Act} {w : World}
variable {R : Type} {dr : Bool} {o : Oper} {k : St → Option R} {r : R} {next : Act → World → Prop} {Q : Exit → Act → World → Prop}

theorem mapBx {bx : Bx} {f : W → W} {n : Nat} {x : Box} (h : (bx.map (Option.map (Box.mapW f)))[n]? = some (some x)) : ∃ y, bx[n]? = some (some y) ∧ x = y.mapW f := by
  simp only [List.getElem?_map, Option.map_eq_some_iff] at h
  obtain ⟨o, ho, hx⟩ := h
  cases o with
  | none => simp at hx
  | some y => obtain ⟨z, hz, hx⟩ := hx; cases hz; exact ⟨_, ho, hx.symm⟩

theorem RelM.mapW {bx : Bx} (h : RelM w0 S0 O g bx w) {f : W → W} (hf : Weak g g f) (hd : IdD f) : RelM w0 S0 O g (bx.map (Option.map (Box.mapW f))) w := by
  refine ⟨h.os, h.tape, h.output, h.size, h.old, h.sub, h.new, h.mem, by simp; exact h.c, fun n y hy => ?_, fun n m x y k hx hy kx ky => ?_, fun n x k hx hk => ?_, fun n x k hx hk off sp v hv => ?_⟩
  · obtain ⟨x, hx, rfl⟩ := mapBx hy
    exact ⟨(h.box n x hx).1, BoxRel.map hf hd (fun _ _ h => h) rfl rfl (h.box n x hx).2⟩
  · obtain ⟨x', hx', rfl⟩ := mapBx hx
    obtain ⟨y', hy', rfl⟩ := mapBx hy
    rw [blk_map (g := g) rfl rfl] at kx ky
    exact h.disj n m x' y' k hx' hy' kx ky
  · obtain ⟨x', hx', rfl⟩ := mapBx hx
    rw [blk_map (g := g) rfl rfl] at hk
    exact h.low n x' k hx' hk
  · obtain ⟨x', hx', rfl⟩ := mapBx hx
    rw [blk_map (g := g) rfl rfl] at hk
    obtain ⟨e, sz, els, h1, h2⟩ := h.sep n x' k hx' hk off sp v hv
    exact ⟨e, sz, els, map_arr h1, h2⟩

theorem Rel.mapSt (h : Rel w0 S0 O g0 g st a w) {f : W → W} (hf : Weak g g f) (hd : IdD f) : Rel w0 S0 O g0 g (st.mapW f) a w := by
  refine ⟨h.df, by simp [St.mapW, h.len], h.np, h.np0, h.pin, fun i v hv => ?_, h.m.mapW hf hd⟩
  simp only [St.mapW, List.getElem?_map, Option.map_eq_some_iff] at hv
  obtain ⟨y, hy, rfl⟩ := hv
  exact (h.env i y hy).map hf hd

/-- what is handed on leaves cells -/
theorem passW_keep {x y : W} {bx bx' : Bx} (hp : passW dr x bx = some (y, bx')) {n : Nat} {m : M} (hn : bx[n]? = some (some (.cells m))) : bx'[n]? = some (some (.cells m)) := by
  cases x with
  | u => simp [passW] at hp
  | ea b i sz off => simp [passW] at hp
  | pv b off n => simp [passW] at hp
  | es sz => simp [passW] at hp; obtain ⟨_, rfl⟩ := hp; exact hn
  | d c => simp [passW] at hp; obtain ⟨_, rfl⟩ := hp; exact hn
  | ptr b off => simp [passW] at hp; obtain ⟨_, rfl⟩ := hp; exact hn
  | arr b =>
    simp only [passW] at hp
    generalize hb : bx.getD b none = bb at hp
    match bb, hp with
    | some (.arr mt e sz els), hp =>
      simp only at hp
      cases mt with
      | false =>
        simp only [cond_false, Option.some.injEq, Prod.mk.injEq] at hp
        obtain ⟨_, rfl⟩ := hp; exact hn
      | true =>
        cases dr with
        | true => simp at hp
        | false =>
          simp only [cond_true, cond_false, Option.some.injEq, Prod.mk.injEq] at hp
          obtain ⟨_, rfl⟩ := hp
          have hbn : b ≠ n := fun e => by subst e; rw [getD_some hb] at hn; simp at hn
          rw [List.getElem?_set_ne hbn]; exact hn

theorem passLk_keep {n0 : Nat} : ∀ (lk : List (Nat × W)) (l : List C) {bx bx' : Bx} {m : M}, passLk dr n0 lk l bx = some (m, bx') → ∀ {n : Nat} {m0 : M}, bx[n]? = some (some (.cells m0)) → bx'[n]? = some (some (.cells m0)) := by
  intro lk
  induction lk with
  | nil => intro l bx bx' m hp n m0 hn; simp [passLk] at hp; obtain ⟨_, rfl⟩ := hp; exact hn
  | cons p r ih =>
    intro l bx bx' m hp n m0 hn
    obtain ⟨i, x⟩ := p
    simp only [passLk] at hp
    cases h1 : passLk dr n0 r l bx with
    | none => rw [h1] at hp; cases hp
    | some q =>
      obtain ⟨m1, bx1⟩ := q
      rw [h1] at hp; simp only at hp
      cases h2 : passW dr x bx1 with
      | none => rw [h2] at hp; cases hp
      | some q =>
        obtain ⟨y, bx2⟩ := q
        rw [h2] at hp; simp only at hp
        have hb : bx2 = bx' := by
          cases y <;> simp only [Option.some.injEq, Prod.mk.injEq] at hp <;> exact hp.2
        subst hb
        exact passW_keep h2 (ih l h1 hn)

theorem freeze_idD (b : Nat) (cs : List C) : IdD (W.freeze b cs) := fun _ => rfl

/-- a box's contents become stable -/
theorem freeze_rel (h : Rel w0 S0 O g0 g st a w) {b : Nat} {m : M} {bx1 : Bx} {cs : List C} (hb : st.bx[b]? = some (some (.cells m))) {csn : Nat} (hs : passLk false m.n m.lk m.l st.bx = some (⟨cs, [], csn⟩, bx1)) :
    ∃ g', More g g' ∧ Rel w0 S0 O g0 g' (({ st with bx := bx1.set b none } : St).mapW (.freeze b cs)) a w ∧ RelC g'.S (.ip cs) (.pointer (some ⟨g.bx b, 0, none⟩)) := by
  obtain ⟨hbl, vals, e, hh, hall⟩ := h.m.box b _ hb
  obtain ⟨g1, hm1, hR1, _, hlen1, hl1, hat⟩ := passLk_rel m.lk m.l hs h.m
  have hcs : All2 (RelC g1.S) cs vals := all_of_relM ⟨⟨by simp only at hl1 ⊢; rw [hl1.1]; exact hall.1.1, by simp only at hl1 ⊢; rw [hl1.1, hl1.2]; exact hall.1.2⟩, fun j => hat vals j (hall.2 j)⟩
  have hb1 := passLk_keep m.lk m.l hs hb
  have hbx : g1.bx b = g.bx b := by rw [hm1.bx]
  have hno := hR1.none_of hb1 (k := g.bx b) (by simp [blk, hbx]) (fun e sz els hh => by cases hh)
  let S' : Addr → Option Value := fun ad => match g1.S ad with | some u => some u | none => if ad.block = g.bx b ∧ ad.spot = none then vals[ad.off]? else none
  have hsub : ∀ ad v, g1.S ad = some v → S' ad = some v := by intro ad v hv; simp [S', hv]
  have hcell : ∀ (j : Nat) u, vals[j]? = some u → w.cell? ⟨g.bx b, j, none⟩ = some u := by
    intro j u hj
    rw [cell_of_row w (g.bx b) j vals.toArray e (0, 0) hh]; simpa using hj
  have hm2 : More g1 { g1 with S := S' } := ⟨hsub, rfl, rfl, rfl⟩
  have hM := hR1.step (g' := { g1 with S := S' }) (bx' := bx1.set b none) (N := b) (World.grownBy.refl w (some (g.bx b))) (fun k hk => by cases hk; exact h.m.low b _ _ hb rfl) hsub (fun ad u hu => by
      simp only [S'] at hu
      cases hS : g1.S ad with
      | some q => rw [hS] at hu; exact .inl hu
      | none =>
        rw [hS] at hu; simp only at hu
        split at hu
        · rename_i hc
          obtain ⟨h1, h2⟩ := hc
          have := hcell ad.off u hu
          refine .inr ⟨?_, .inl (by rw [h1])⟩
          rw [show ad = ⟨g.bx b, ad.off, none⟩ by cases ad; simp at h1 h2; simp [h1, h2]]; exact this
        · cases hu) (fun ad u hu hr => hR1.mem ad u hu) (by simp; exact hR1.c) (fun n y hy => by
      rcases set_get hy with ⟨_, e1, _⟩ | ⟨hne, hy⟩
      · cases e1
      · exact ⟨(hR1.box n y hy).1, .inl ⟨hne, hy, rfl, fun k hk e1 => by
          cases e1
          exact hne (hR1.disj n b y _ _ hy hb1 hk (by simp [blk, hbx])), BoxRel.later hm2.ext.weak hsub rfl rfl⟩⟩)
  have hip : RelC S' (.ip cs) (.pointer (some ⟨g.bx b, 0, none⟩)) := by
    refine .ip cs _ (fun j => vals.getD j undef) rfl (fun j c hj => ?_) (fun j c hj => ?_)
    · obtain ⟨u, hu, _⟩ := hcs.get hj
      rw [add_plain', Nat.zero_add, List.getD_eq_getElem?_getD, hu]
      simp [S', hno j none, hu]
    · obtain ⟨u, hu, hr⟩ := hcs.get hj
      rw [List.getD_eq_getElem?_getD, hu]; exact hr.mono hsub
  have hweak : Weak { g1 with S := S' } { g1 with S := S' } (W.freeze b cs) := by
    intro x u hx
    cases x with
    | ptr c off =>
      simp only [W.freeze]
      by_cases hc : c = b
      · subst hc
        rw [beq_self_eq_true, cond_true]
        obtain ⟨_, rfl⟩ := hx
        obtain ⟨ad, uf, h1, h2, h3, h4⟩ := relC_ip hip
        simp only [Value.pointer.injEq, Option.some.injEq] at h1; subst h1
        have := ip_drop h2 h3 h4 off
        rw [add_plain', Nat.zero_add] at this
        simp only [hbx]
        exact this
      · rw [beq_false_of_ne hc, cond_false]; exact hx
    | _ => exact hx
  have hall2 := hm1.trans hm2
  exact ⟨{ g1 with S := S' }, hall2, (h.with hall2.ext hM).mapSt hweak (freeze_idD b cs), hip⟩

include cx

theorem freezeCaps_rel : ∀ (xs : List Operand) {g : G} {st st' : St} {l : List C}, Rel w0 S0 O g0 g st a w → freezeCaps cf xs st = some (l, st') →
    ∃ g', Rel w0 S0 O g0 g' st' a w ∧ All2 (RelC g'.S) l (xs.map a.eval) ∧ (∀ ad v, g.S ad = some v → g'.S ad = some v) := by
  intro xs
  induction xs with
  | nil => intro g st st' l h hf; simp [freezeCaps] at hf; obtain ⟨rfl, rfl⟩ := hf; exact ⟨g, h, .nil, fun _ _ h => h⟩
  | cons x q ih =>
    intro g st st' l h hf
    simp only [freezeCaps] at hf
    have he := ev_rel cx h x
    generalize st.ev cf x = e at hf he
    match e, hf, he with
    | .t (.w (.ptr b 0)), hf, he =>
      simp only at hf
      generalize hb : st.bx.getD b none = bb at hf
      match bb, hf with
      | some (.cells m), hf =>
        simp only at hf
        generalize hs : passLk false m.n m.lk m.l st.bx = pp at hf
        match pp, hf with
        | some (⟨cs, [], csn⟩, bx1), hf =>
          simp only at hf
          obtain ⟨g1, hmore, h1, hip⟩ := freeze_rel h (getD_some hb) hs
          generalize hr : freezeCaps cf q _ = rr at hf
          match rr, hf with
          | some (l1, st1), hf =>
            simp only [Option.some.injEq, Prod.mk.injEq] at hf
            obtain ⟨rfl, rfl⟩ := hf
            obtain ⟨g2, h2, hall, hsub2⟩ := ih h1 hr
            have hea : a.eval x = .pointer (some ⟨g.bx b, 0, none⟩) := he.2
            exact ⟨g2, h2, .cons (by rw [hea]; exact hip.mono hsub2) hall, fun ad v hv => hsub2 _ _ (hmore.S _ _ hv)⟩
    | .t (.w (.d c)), hf, he =>
      simp only at hf
      generalize hr : freezeCaps cf q st = rr at hf
      match rr, hf with
      | some (l1, st1), hf =>
        simp only [Option.some.injEq, Prod.mk.injEq] at hf
        obtain ⟨rfl, rfl⟩ := hf
        obtain ⟨g2, h2, hall, hsub2⟩ := ih h hr
        exact ⟨g2, h2, .cons (RelC.mono hsub2 he) hall, hsub2⟩

theorem snd_makeFunc {fn : Fn} {first cap : Array Operand} (ho : o.op = .makeFunc fn first cap) (hv : vop cf dr o k st = some r) (h : Rel w0 S0 O g0 g st a w) (hn : Hands w0 S0 O g0 k r next) : o.wp P a w next Q := by
  unfold vop at hv; rw [ho] at hv; simp only [vMakeFunc] at hv
  generalize hf : first.toList = fl at hv
  match fn, fl, hv with
  | .func f, [], hv =>
    simp only at hv
    generalize hr : freezeCaps cf cap.toList st = rr at hv
    match rr, hv with
    | some (l, st'), hv =>
      simp only at hv
      obtain ⟨g', h', hall, _⟩ := freezeCaps_rel cx cap.toList h hr
      have hf' : first = #[] := by apply Array.ext'; simpa using hf
      subst hf'
      have hrun : (execOp a.eval o).run P w = .ok (.value (.func (.func f) #[] (cap.toList.map a.eval).toArray)) w := by
        unfold execOp
        simp only [ho, Sem.run_bind, Instr.makeFunc, Sem.run_pure, Result.andThen_ok]
        have : cap.map a.eval = (cap.toList.map a.eval).toArray := by apply Array.ext'; simp
        rw [this, List.map_toArray, List.map_nil]
      exact wp_val hrun (hn _ _ _ _ (h'.put (v := vc (.fn f l)) (RelC.fn f l _ hall.1 hall.2)) hv)

theorem evs_rel (h : Rel w0 S0 O g0 g st a w) : ∀ (ts : List TypeId) (xs : List Operand), (st.evs cf ts xs).length = xs.length → All2 (RelV g) (st.evs cf ts xs) (xs.map a.eval) := by
  intro ts
  induction ts with
  | nil => intro xs hl; cases xs with
           | nil => exact .nil
           | cons x q => simp [St.evs] at hl
  | cons t q ih =>
    intro xs hl
    cases xs with
    | nil => exact .nil
    | cons x xs => simp only [St.evs, List.length_cons, Nat.add_right_cancel_iff] at hl ⊢; exact .cons (evT_rel cx h t x) (ih xs hl)


omit cx in
/-- a call in the machine, to be gone on with -/
theorem call_wp {c : Call} {f : Operand} (ho : o.op = .call c) (hcl : c.callee = .value f) {id : FuncId} {us : List Value} (hq : a.eval f = .func (.func id) #[] us.toArray) {Rr : Value → World → Prop}
    (hcf : CF P id (c.args.toList.map a.eval ++ us).toArray w Rr) (hfin : ∀ cv w', Rr cv w' → next (a.put o.dst cv) w') : o.wp P a w next Q := by
  have hexec : (execOp a.eval o).run P w = (callFunc id (c.args.toList.map a.eval ++ us).toArray).run P w := by
    obtain ⟨callee, args, ts⟩ := c
    simp only at hcl; subst hcl
    unfold execOp
    simp only [ho, Sem.run_bind, resolve, hq, Deferred.ofValue, Sem.run_pure, Result.andThen_ok, invoke]
    congr 2
    apply Array.ext'
    simp
  rcases hcf with ⟨hrun, hcalls⟩ | ⟨cv, w', hrun, hpost⟩
  · unfold Oper.wp; rw [hexec, hrun]
    simp only [Oper.upon]
    refine hcalls.mono ?_
    rintro e w' ⟨cv, rfl, hpost⟩
    exact hfin cv w' hpost
  · unfold Oper.wp; rw [hexec, hrun]
    exact hfin cv w' hpost

theorem snd_callV (hpc : PcOk P cf) {c : Call} {f : Operand} (ho : o.op = .call c) (hcl : c.callee = .value f) (hv : vCall cf dr o c k st = some r) (h : Rel w0 S0 O g0 g st a w) (hn : Hands w0 S0 O g0 k r next) : o.wp P a w next Q := by
  unfold vCall at hv; rw [hcl] at hv; simp only at hv
  have hf := ev_rel cx h f
  generalize st.ev cf f = e at hv hf
  generalize hst : passArgs dr (borOf cf o) (st.evs cf c.argTypes.toList c.args.toList) st.bx = vs at hv
  match e, vs, hv, hf with
  | .t (.w (.d (.fn id caps))), some (vs, bx1), hv, hf =>
    simp only at hv
    by_cases hl : (vs.length == c.args.size) = true
    case neg => rw [Bool.not_eq_true] at hl; rw [hl] at hv; cases hv
    rw [hl, cond_true] at hv
    simp only [beq_iff_eq] at hl
    obtain ⟨g1, hmore, hR1, hdr, hlen, hargs⟩ := passArgs_rel _ _ hst h.m
    have hf' : RelC g.S (.fn id caps) (a.eval f) := hf
    have hargs := hargs _ (evs_rel cx h _ _ (by rw [← hlen, hl, Array.length_toList]))
    generalize hq : a.eval f = q at hf'
    cases hf' with
    | fn _ _ us hul hu =>
      have hcaps : All2 (RelV g1) (caps.map vc) us := .map_left ⟨hul, fun j x y hx hy => (hu j x y hx hy).mono hmore.S⟩
      have hall := hargs.append hcaps
      have hglob : ∀ (S : Addr → Option Value), (∀ ad v, g1.S ad = some v → S ad = some v) → ∀ g' l, cf.glob g' = some l → RelC S (.ip l) (.pointer (some ⟨g', 0, none⟩)) := fun S hS gg l hg => (cx.glob gg l hg).mono (fun ad v hv => hS _ _ (hR1.sub ad v hv))
      unfold callWith at hv
      cases hd : dr with
      | true =>
        rw [hd, cond_true] at hv
        cases hp : cf.pc id ((vs ++ caps.map vc).map (V.mapW (.ren fun _ => none))) [] (fun v bxs => some (v, bxs)) with
        | none => rw [hp] at hv; cases hv
        | some p =>
          rw [hp] at hv; simp only [Option.bind_some] at hv
          obtain ⟨v, bxs', hk, hres⟩ := hpc.res id _ _ _ _ hp
          simp only [Option.some.injEq] at hk; subst hk
          simp only at hv
          match bxs', hv, hres with
          | [], hv, hres =>
            simp only at hv
            have hent := hR1.enter (order := []) List.nodup_nil
            have hcf := hres (g1.ren []) w _ (c.args.toList.map a.eval ++ us) hent (fun k hk => by simp at hk) (hglob _ fun _ _ h => h) (mapVs_rel (weak_none g1 (g1.ren []) fun _ _ h => h) (ren_idD _) hall)
            refine call_wp ho hcl hq hcf ?_
            rintro cv w' ⟨g', hpin, _, hrv, hM⟩
            obtain ⟨hext, hM2⟩ := hR1.back (order := []) List.nodup_nil (fun b hb => by cases hb) hM hpin (Nat.zero_le _)
            have hbx : (({ env := [], bx := bx1, np := 0 } : St).return [] []).bx = bx1 := by simp [St.return, setAll]
            rw [hbx] at hM2
            exact hn _ _ _ _ (((h.more hmore hR1).with hext hM2).put (hrv.map (weak_none g' (g1.back g' bx1.length ([] : List Nat).length ([] : Bx).length) fun _ _ h => h) (ren_idD _))) hv
      | false =>
        rw [hd, cond_false] at hv
        simp only at hv
        have hgr := reachAll_grow bx1 [] (vsNames (vs ++ caps.map vc))
        generalize reachAll bx1 [] (vsNames (vs ++ caps.map vc)) = order at hv hgr
        obtain ⟨v, bxs', hk, hres⟩ := hpc.res id _ _ _ _ hv
        by_cases hK : Nat.ble order.length bxs'.length = true
        case neg => rw [Bool.not_eq_true] at hK; rw [hK] at hk; cases hk
        rw [hK, cond_true] at hk
        have hK' : order.length ≤ bxs'.length := by simpa [Nat.ble_eq] using hK
        have hnd := hgr.nodup List.nodup_nil
        have hlive : ∀ b ∈ order, ∃ x, bx1[b]? = some (some x) := fun b hb => by
          rcases hgr.live b hb with h1 | h1
          · cases h1
          · exact h1
        have hent := hR1.enter hnd
        have hcf := hres (g1.ren order) w _ (c.args.toList.map a.eval ++ us) hent (fun k hk => by simpa [G.ren, renBx] using hk) (hglob _ fun _ _ h => h) (mapVs_rel (weak_idx g1 order) (ren_idD _) hall)
        refine call_wp ho hcl hq hcf ?_
        rintro cv w' ⟨g', hpin, _, hrv, hM⟩
        have hpin' : ∀ k, k < order.length → g'.bx k = (g1.ren order).bx k ∧ g'.sl k = (g1.ren order).sl k := fun k hk => hpin k (by simpa [renBx] using hk)
        obtain ⟨hext, hM2⟩ := hR1.back hnd hlive hM hpin' hK'
        exact hn _ _ _ _ (((h.more hmore hR1).with hext hM2).put (hrv.map (weak_back hpin' (fun b hb => by obtain ⟨x, hx⟩ := hlive b hb; exact lt_of hx) (fun b hb => by obtain ⟨x, hx⟩ := hlive b hb; exact (hR1.box b x hx).1) hM.c) (ren_idD _))) hk

/-- all operations -/
theorem snd_vop (hpc : PcOk P cf) (hv : vop cf dr o k st = some r) (h : Rel w0 S0 O g0 g st a w) (hn : Hands w0 S0 O g0 k r next) : o.wp P a w next Q := by
  generalize ho : o.op = op
  cases op with
  | move x => exact snd_move cx ho hv h hn
  | assign x => exact snd_assign cx ho hv h hn
  | pick c x y => exact snd_pick cx ho hv h hn
  | alloc t => exact snd_alloc cx ho hv h hn
  | box t x => exact snd_box cx ho hv h hn
  | build t ps => exact snd_build cx ho hv h hn
  | buildSlice t n ps => exact snd_buildSlice cx ho hv h hn
  | load t x =>
    unfold vop at hv; rw [ho] at hv
    exact snd_load cx ho hv h hn
  | store t x y => exact snd_store cx ho hv h hn
  | nilCheck x => exact snd_nilCheck cx ho hv h hn
  | binOp op t x y t2 => exact snd_bin cx ho hv h hn
  | unOp op t x => exact snd_un cx ho hv h hn
  | convert s d x => exact snd_convert cx ho hv h hn
  | makeInterface t x => exact snd_makeIface cx ho hv h hn
  | makeFunc fn first cap => exact snd_makeFunc cx ho hv h hn
  | makeSlice t n c => exact snd_makeSlice cx ho hv h hn
  | slice t x lo hi mx => exact snd_slice cx ho hv h hn
  | fieldAddr s x f => exact snd_fieldAddr cx ho hv h hn
  | field s x f => exact snd_field cx ho hv h hn
  | indexAddr t x i => exact snd_indexAddr cx ho hv h hn
  | index t x i => exact snd_index cx ho hv h hn
  | range t x => exact snd_range cx ho hv h hn
  | next x b =>
    cases b with
    | true => exact snd_next cx ho hv h hn
    | false => unfold vop at hv; rw [ho] at hv; cases hv
  | typeAssert x xt t ok => exact snd_assert cx ho hv h hn
  | extract x i => exact snd_extract cx ho hv h hn
  | call c =>
    unfold vop at hv; rw [ho] at hv; simp only at hv
    cases hc : c.callee with
    | value f => exact snd_callV cx hpc ho hc hv h hn
    | invoke rr m => unfold vCall at hv; rw [hc] at hv; cases hv
    | builtin b =>
      unfold vCall at hv; rw [hc] at hv
      cases b with
      | len => exact snd_len cx ho hc hv h hn
      | append => exact snd_append cx ho hc hv h hn
      | copy =>
        simp only at hv
        cases hd : dr with
        | true => rw [hd] at hv; cases hv
        | false => rw [hd, cond_false] at hv; exact snd_copy cx ho hc hv h hn
      | max => exact snd_minmax (isMax := true) cx ho hc hv h hn
      | min => exact snd_minmax (isMax := false) cx ho hc hv h hn
      | _ => cases hv
  | _ => unfold vop at hv; rw [ho] at hv; cases hv
end
end Vm
