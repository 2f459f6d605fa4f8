/- Vm, part U: an operation that reads boxes reads the same where more boxes stand behind them. -/
import Derived.Test.YtniiimpcakmkbaaDoorWN
namespace Vm
open Go

theorem getD_more {bx : Bx} {b : Nat} {x : Box} (l : Bx) (h : bx.getD b none = some x) : (bx ++ l).getD b none = some x := by
  rw [List.getD_eq_getElem?_getD] at h ⊢
  cases hb : bx[b]? with
  | none => rw [hb] at h; cases h
  | some y =>
    have hlt := (List.getElem?_eq_some_iff.1 hb).1
    rw [List.getElem?_append_left hlt]; exact h
theorem passW_more {x y : W} {bx bx' : Bx} (l : Bx) (h : passW true x bx = some (y, bx')) : passW true x (bx ++ l) = some (y, bx' ++ l) := by
  cases x with
  | u => simp [passW] at h
  | ea b i sz off => simp [passW] at h
  | pv b off n => simp [passW] at h
  | es sz => simp [passW] at h ⊢; exact ⟨h.1, h.2⟩
  | d c => simp [passW] at h ⊢; exact ⟨h.1, h.2⟩
  | ptr b off => simp [passW] at h ⊢; exact ⟨h.1, h.2⟩
  | arr b =>
    simp only [passW] at h ⊢
    generalize hb : bx.getD b none = bb at h
    match bb, h with
    | some (.arr mt e sz els), h =>
      rw [getD_more l hb]
      cases mt with
      | true => simp at h
      | false => simp at h ⊢; exact ⟨h.1, h.2⟩
theorem passLk_more {n : Nat} (l : Bx) : ∀ (lk : List (Nat × W)) (c : List C) {bx bx' : Bx} {m : M}, passLk true n lk c bx = some (m, bx') → passLk true n lk c (bx ++ l) = some (m, bx' ++ l) := by
  intro lk
  induction lk with
  | nil => intro c bx bx' m h; simp only [passLk, Option.some.injEq, Prod.mk.injEq] at h ⊢; exact ⟨h.1, by rw [h.2]⟩
  | cons p r ih =>
    intro c bx bx' m h
    obtain ⟨j, x⟩ := p
    simp only [passLk] at h ⊢
    cases h1 : passLk true n r c bx with
    | none => rw [h1] at h; cases h
    | some q =>
      obtain ⟨m1, bx1⟩ := q
      rw [h1] at h; simp only at h
      rw [ih c h1]; simp only
      cases h2 : passW true x bx1 with
      | none => rw [h2] at h; cases h
      | some q2 =>
        obtain ⟨y, bx2⟩ := q2
        rw [h2] at h; simp only at h
        rw [passW_more l h2]; simp only
        cases y <;> simp only [Option.some.injEq, Prod.mk.injEq] at h ⊢ <;> exact ⟨h.1, by rw [h.2]⟩
theorem passT_more {x y : T} {bx bx' : Bx} (l : Bx) (h : passT true x bx = some (y, bx')) : passT true x (bx ++ l) = some (y, bx' ++ l) := by
  cases x with
  | w x =>
    simp only [passT] at h ⊢
    cases h2 : passW true x bx with
    | none => rw [h2] at h; cases h
    | some q => rw [h2] at h; rw [passW_more l h2]; simp only [Option.some.injEq, Prod.mk.injEq] at h ⊢; exact ⟨h.1, by rw [h.2]⟩
  | agg m =>
    simp only [passT] at h ⊢
    cases h2 : passLk true m.n m.lk m.l bx with
    | none => rw [h2] at h; cases h
    | some q => rw [h2] at h; rw [passLk_more l _ _ h2]; simp only [Option.some.injEq, Prod.mk.injEq] at h ⊢; exact ⟨h.1, by rw [h.2]⟩
theorem frzT_more {x : T} {c : List C × Nat} {bx bx' : Bx} (l : Bx) (h : frzT true x bx = some (c, bx')) : frzT true x (bx ++ l) = some (c, bx' ++ l) := by
  unfold frzT at h ⊢
  cases h2 : passT true x bx with
  | none => rw [h2] at h; cases h
  | some q =>
    obtain ⟨y, b1⟩ := q
    rw [h2] at h; rw [passT_more l h2]; simp only at h ⊢
    cases h3 : y.stabC with
    | none => rw [h3] at h; cases h
    | some z => rw [h3] at h; simp only [Option.some.injEq, Prod.mk.injEq] at h ⊢; exact ⟨h.1, by rw [h.2]⟩
theorem passV_more {x y : V} {bx bx' : Bx} (l : Bx) (h : passV true x bx = some (y, bx')) : passV true x (bx ++ l) = some (y, bx' ++ l) := by
  cases x with
  | u => simp [passV] at h
  | tup q => simp [passV] at h
  | t x =>
    simp only [passV] at h ⊢
    cases h2 : passT true x bx with
    | none => rw [h2] at h; cases h
    | some q => rw [h2] at h; rw [passT_more l h2]; simp only [Option.some.injEq, Prod.mk.injEq] at h ⊢; exact ⟨h.1, by rw [h.2]⟩
theorem passArgs_more {b : Bool} (l : Bx) : ∀ (xs ys : List V) {bx bx' : Bx}, passArgs true b xs bx = some (ys, bx') → passArgs true b xs (bx ++ l) = some (ys, bx' ++ l) := by
  intro xs
  induction xs with
  | nil => intro ys bx bx' h; simp only [passArgs, Option.some.injEq, Prod.mk.injEq] at h ⊢; exact ⟨h.1, by rw [h.2]⟩
  | cons x r ih =>
    intro ys bx bx' h
    simp only [passArgs] at h ⊢
    have key : ∀ y bx1, (bif b && isArr x then some (x, bx) else passV true x bx) = some (y, bx1) → (bif b && isArr x then some (x, bx ++ l) else passV true x (bx ++ l)) = some (y, bx1 ++ l) := by
      intro y bx1 hq
      cases hb : b && isArr x with
      | true => rw [hb, cond_true] at hq; simp only [cond_true, Option.some.injEq, Prod.mk.injEq] at hq ⊢; exact ⟨hq.1, by rw [hq.2]⟩
      | false => rw [hb, cond_false] at hq; rw [cond_false]; exact passV_more l hq
    cases h2 : (bif b && isArr x then some (x, bx) else passV true x bx) with
    | none => rw [h2] at h; cases h
    | some q =>
      obtain ⟨y, bx1⟩ := q
      rw [h2] at h; rw [key y bx1 h2]; simp only at h ⊢
      cases h3 : passArgs true b r bx1 with
      | none => rw [h3] at h; cases h
      | some q2 => obtain ⟨zs, bx2⟩ := q2; rw [h3] at h; rw [ih _ h3]; simp only [Option.some.injEq, Prod.mk.injEq] at h ⊢; exact ⟨h.1, by rw [h.2]⟩
theorem elemsOf_more {n : Nat} (l : Bx) : ∀ (ps : List (Nat × V)) (k : Nat) {els : List (List C)} {bx bx' : Bx}, elemsOf true n k ps bx = some (els, bx') → elemsOf true n k ps (bx ++ l) = some (els, bx' ++ l) := by
  intro ps
  induction ps with
  | nil => intro k els bx bx' h; simp only [elemsOf, Option.some.injEq, Prod.mk.injEq] at h ⊢; exact ⟨h.1, by rw [h.2]⟩
  | cons p r ih =>
    intro k els bx bx' h
    obtain ⟨i, x⟩ := p
    cases x with
    | u => simp [elemsOf] at h
    | tup q => simp [elemsOf] at h
    | t x =>
      simp only [elemsOf] at h ⊢
      cases h2 : frzT true x bx with
      | none => rw [h2] at h; cases h
      | some q =>
        obtain ⟨cs, bx1⟩ := q
        rw [h2] at h; rw [frzT_more l h2]; simp only at h ⊢
        cases h3 : elemsOf true n (k + 1) r bx1 with
        | none => rw [h3] at h; cases h
        | some q2 =>
          obtain ⟨zs, bx2⟩ := q2
          rw [h3] at h; rw [ih _ h3]; simp only at h ⊢
          cases hc : i == k && cs.2 == n with
          | false => rw [hc] at h; cases h
          | true => rw [hc] at h; simp only [cond_true, Option.some.injEq, Prod.mk.injEq] at h ⊢; exact ⟨h.1, by rw [h.2]⟩
theorem elsOf_more {v : V} {bx : Bx} {r : Nat × List (List C)} (l : Bx) (h : elsOf bx v = some r) : elsOf (bx ++ l) v = some r := by
  unfold elsOf at h ⊢
  split at h
  · exact h
  · exact h
  · rename_i b
    generalize hb : bx.getD b none = bb at h
    match bb, h with
    | some (.arr mt e sz els), h => simp only [getD_more l hb]; exact h
  · rename_i b off n
    generalize hb : bx.getD b none = bb at h
    match bb, h with
    | some (.cells ⟨l0, [], ln⟩), h => simp only [getD_more l hb]; exact h
  · cases h
theorem slLen_more {v : V} {bx : Bx} {r : Nat} (l : Bx) (h : slLen bx v = some r) : slLen (bx ++ l) v = some r := by
  unfold slLen at h ⊢
  split at h
  · exact h
  · exact h
  · rename_i b
    generalize hb : bx.getD b none = bb at h
    match bb, h with
    | some (.arr mt e sz els), h => simp only [getD_more l hb]; exact h
  · cases h

/-- with more boxes behind -/
def St.more (st : St) (l : Bx) : St := { st with bx := st.bx ++ l }
theorem more_ev (cf : Cfg) (st : St) (l : Bx) (x : Operand) : (st.more l).ev cf x = st.ev cf x := by cases x <;> rfl
theorem more_evT (cf : Cfg) (st : St) (l : Bx) (t : TypeId) (x : Operand) : (st.more l).evT cf t x = st.evT cf t x := by unfold St.evT; rw [more_ev]
theorem more_set (st : St) (l : Bx) (d : Option Nat) (v : V) : (st.more l).set d v = (st.set d v).more l := by cases d <;> rfl
theorem more_evs (cf : Cfg) (st : St) (l : Bx) : ∀ (ts : List TypeId) (xs : List Operand), (st.more l).evs cf ts xs = st.evs cf ts xs := by
  intro ts
  induction ts with
  | nil => intro xs; rfl
  | cons t r ih => intro xs; cases xs with
                   | nil => rfl
                   | cons x q => simp only [St.evs, more_evT, ih]
theorem more_parts (cf : Cfg) (st : St) (l : Bx) (ty : Nat → Option TypeId) : ∀ (ps : List (Nat × Operand)), (st.more l).evParts cf ty ps = st.evParts cf ty ps := by
  intro ps
  induction ps with
  | nil => rfl
  | cons p r ih => obtain ⟨i, x⟩ := p; simp only [St.evParts, more_evT, ih]

section
variable {cf : Cfg} {o : Oper} {st s : St} (l : Bx)

theorem more_load {t : TypeId} {x : Operand} (h : vLoad cf o t x some st = some s) : vLoad cf o t x some (st.more l) = some (s.more l) := by
  unfold vLoad at h ⊢
  rw [more_ev]
  split at h
  · split at h
    · rename_i b off _
      generalize hb : st.bx.getD b none = bb at h
      match bb, h with
      | some (.cells m), h =>
        rw [show (st.more l).bx.getD b none = _ from getD_more l hb]
        simp only at h ⊢
        split at h
        · simp only [Option.some.injEq] at h ⊢; rw [more_set, h]
        · cases h
    · rename_i b n sz0 off _
      generalize hb : st.bx.getD b none = bb at h
      match bb, h with
      | some (.arr mt e sz els), h =>
        rw [show (st.more l).bx.getD b none = _ from getD_more l hb]
        simp only at h ⊢
        cases hc : sz0 == sz with
        | false => rw [hc] at h; cases h
        | true =>
          rw [hc, cond_true] at h
          rw [cond_true]
          unfold getT at h ⊢
          cases hg : els[n]? with
          | none => rw [hg] at h; cases h
          | some e0 =>
            rw [hg] at h; simp only at h ⊢
            rcases cutK_eq (by assumption) (e0.drop off) with ⟨v, hv⟩ | hv
            · rw [hv] at h ⊢; simp only [Option.some.injEq] at h ⊢; rw [more_set, h]
            · rw [hv] at h; cases h
    · rename_i l' _
      rcases cutK_eq (by assumption) l' with ⟨v, hv⟩ | hv
      · rw [hv] at h ⊢; simp only [Option.some.injEq] at h ⊢; rw [more_set, h]
      · rw [hv] at h; cases h
    · cases h
  · cases h

theorem more_bx (b : Nat) (x : Box) (h : st.bx.getD b none = some x) : (st.more l).bx.getD b none = some x := getD_more l h

theorem more_indexAddr {t : TypeId} {x i : Operand} (h : vIndexAddr cf o t x i some st = some s) : vIndexAddr cf o t x i some (st.more l) = some (s.more l) := by
  unfold vIndexAddr getT at h ⊢
  simp only [more_ev, Bool.cond_eq_ite] at h ⊢
  repeat' split at h
  all_goals first
    | (cases h; done)
    | (simp only [Option.some.injEq] at h; subst h; simp only [*, if_true, more_set]; done)
    | (simp only [Option.some.injEq] at h; subst h; rw [more_bx l _ _ (by assumption)]; simp only [*, if_true, more_set]; done)
    | (simp only [Option.some.injEq] at h; subst h; simp only [more_bx l _ _ (by assumption), *, if_true, if_false, more_set, Bool.false_eq_true]; done)
theorem more_bnd (d : Nat) (x : Option Operand) : bnd cf (st.more l) d x = bnd cf st d x := by
  cases x with
  | none => rfl
  | some y => unfold bnd; simp only [more_ev]
theorem mk_more (bx : Bx) (v : V) (d : Option Nat) : ({ st.more l with bx := bx ++ l } : St).set d v = (({ st with bx := bx } : St).set d v).more l := by cases d <;> rfl
theorem more_passV {x y : V} {bx' : Bx} (h : passV true x st.bx = some (y, bx')) : passV true x (st.more l).bx = some (y, bx' ++ l) := passV_more l h
theorem more_frzT {x : T} {c : List C × Nat} {bx' : Bx} (h : frzT true x st.bx = some (c, bx')) : frzT true x (st.more l).bx = some (c, bx' ++ l) := frzT_more l h

theorem more_iface {t : TypeId} {x : Operand} (h : vMakeIface cf true o t x some st = some s) : vMakeIface cf true o t x some (st.more l) = some (s.more l) := by
  unfold vMakeIface at h ⊢
  simp only [more_evT] at h ⊢
  repeat' split at h
  all_goals first
    | (cases h; done)
    | (simp only [Option.some.injEq] at h; subst h; simp only [more_frzT l (by assumption), *, mk_more]; done)
theorem more_elems {n : Nat} {ps : List (Nat × V)} {els : List (List C)} {bx' : Bx} (h : elemsOf true n 0 ps st.bx = some (els, bx')) : elemsOf true n 0 ps (st.more l).bx = some (els, bx' ++ l) := elemsOf_more l ps 0 h
theorem more_buildSlice {t : TypeId} {n : Nat} {ps : Array (Nat × Operand)} (h : vBuildSlice cf true o t n ps some st = some s) : vBuildSlice cf true o t n ps some (st.more l) = some (s.more l) := by
  unfold vBuildSlice at h ⊢
  simp only [more_parts, Bool.cond_eq_ite, if_true] at h ⊢
  repeat' split at h
  all_goals first
    | (cases h; done)
    | (simp only [Option.some.injEq] at h; subst h; simp only [*, more_elems l (by assumption), if_true, mk_more]; done)
theorem more_slLen {v : V} {n : Nat} (h : slLen st.bx v = some n) : slLen (st.more l).bx v = some n := slLen_more l h
theorem more_args {b : Bool} {xs ys : List V} {bx' : Bx} (h : passArgs true b xs st.bx = some (ys, bx')) : passArgs true b xs (st.more l).bx = some (ys, bx' ++ l) := passArgs_more l xs ys h
theorem more_len {ts : Array TypeId} {xs : Array Operand} (h : vLen cf o ts xs some st = some s) : vLen cf o ts xs some (st.more l) = some (s.more l) := by
  unfold vLen at h ⊢
  simp only [more_ev, more_evT] at h ⊢
  repeat' split at h
  all_goals first
    | (cases h; done)
    | (simp only [Option.some.injEq] at h; subst h; simp only [*, more_set]; done)
    | (simp only [Option.some.injEq] at h; subst h; simp only [more_slLen l (by assumption), *, more_set]; done)

theorem more_call {c : Call} (h : vCall cf true o c some st = some s) (ha : c.callee ≠ .builtin .append) (hm1 : c.callee ≠ .builtin .max) (hm2 : c.callee ≠ .builtin .min) : vCall cf true o c some (st.more l) = some (s.more l) := by
  unfold vCall at h ⊢
  obtain ⟨callee, args, ts⟩ := c
  cases callee with
  | invoke rr m => cases h
  | value f =>
    simp only at h ⊢
    rw [more_ev, more_evs]
    unfold callWith at h ⊢
    simp only [Bool.cond_eq_ite, if_true] at h ⊢
    split at h
    · rename_i id caps vs bx1 he hvs
      simp only [he, more_args l hvs]
      split at h
      · rename_i hl
        rw [if_pos hl]
        cases hp : cf.pc id ((vs ++ caps.map vc).map (V.mapW (.ren fun _ => none))) [] (fun v bxs => some (v, bxs)) with
        | none => rw [hp] at h; cases h
        | some r =>
          rw [hp] at h; simp only [Option.bind_some] at h ⊢
          split at h
          · simp only [Option.some.injEq] at h; subst h; exact congrArg some (mk_more ..)
          · cases h
      · cases h
    · cases h
  | builtin b =>
    cases b with
    | len => exact more_len l h
    | append => exact absurd rfl ha
    | max => exact absurd rfl hm1
    | min => exact absurd rfl hm2
    | _ => cases h

theorem vop_more (hok : okOp o.op = true) (hf : farOp o.op = true) (h : vop cf true o some st = some s) : vop cf true o some (st.more l) = some (s.more l) := by
  have viaMoves : (isWr o.op || isRd o.op) = false → vop cf true o some (st.more l) = some (s.more l) := by
    intro hn
    obtain ⟨u, hs, hu, hk⟩ := moves hok h
    have := hk (st.more l) ⟨fun x _ => more_ev cf st l x, fun hb => by rw [hn] at hb; cases hb⟩
    rw [this, hs]
    have hub : u.bx = none := by
      cases hb : u.bx with
      | none => rfl
      | some b => have := hu (by rw [hb]; rfl); rw [this] at hn; simp at hn
    unfold Upd.app; rw [hub]
    simp only [St.more]
    cases o.dst <;> rfl
  have h0 := h
  unfold vop at h ⊢
  cases ho : o.op <;> rw [ho] at h hok hf viaMoves <;> simp only at h ⊢ <;> first
    | exact more_load l h
    | exact more_indexAddr l h
    | exact more_iface l h
    | exact more_buildSlice l h
    | (rename_i c; exact more_call l h (fun e => by obtain ⟨cc, _, _⟩ := c; simp only at e; subst e; cases hf) (fun e => by obtain ⟨cc, _, _⟩ := c; simp only at e; subst e; cases hf) (fun e => by obtain ⟨cc, _, _⟩ := c; simp only at e; subst e; cases hf))
    | (have := viaMoves rfl; unfold vop at this; rw [ho] at this; exact this)
    | (cases hf; done)
    | (cases hok; done)
    | (cases h; done)
end
end Vm
