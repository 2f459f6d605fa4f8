/- Vm, part N: what an operation looks at, and what it turns. -/
import Derived.Test.YtniiimpcakmkbaaDoorWM
namespace Vm
open Go

/-- what an operation does to a state -/
structure Upd where
  v : V
  bx : Option Bx

noncomputable def Upd.app (u : Upd) (dst : Option Nat) (st : St) : St :=
  { env := (st.set dst u.v).env
    bx := (match u.bx with | some b => b | none => st.bx)
    np := st.np }

/-- two states that an operation can't tell apart -/
structure Same (cf : Cfg) (op : Op) (st st' : St) : Prop where
  ev : ∀ x ∈ op.operands, st'.ev cf x = st.ev cf x
  bx : (isWr op || isRd op) = true → st'.bx = st.bx

theorem evT_same {cf : Cfg} {st st' : St} {t : TypeId} {x : Operand} (h : st'.ev cf x = st.ev cf x) : st'.evT cf t x = st.evT cf t x := by unfold St.evT; rw [h]

theorem set_app (st : St) (dst : Option Nat) (v : V) : st.set dst v = (Upd.mk v none).app dst st := by
  cases dst <;> rfl

/-- what is the same in all states that an operation can't tell apart -/
def Moves (cf : Cfg) (o : Oper) (st st1 : St) : Prop :=
  ∃ u : Upd, st1 = u.app o.dst st ∧ (u.bx.isSome = true → isWr o.op = true) ∧ ∀ st', Same cf o.op st st' → vop cf true o some st' = some (u.app o.dst st')

theorem Moves.val {cf : Cfg} {o : Oper} {st st1 : St} {v : V} (h : st.set o.dst v = st1) (hs : ∀ st', Same cf o.op st st' → vop cf true o some st' = some (st'.set o.dst v)) : Moves cf o st st1 :=
  ⟨⟨v, none⟩, by rw [← h, set_app], by simp, fun st' hst => by rw [← set_app]; exact hs st' hst⟩

theorem passW_dr {x y : W} {bx bx' : Bx} (h : passW true x bx = some (y, bx')) : bx' = bx := by
  cases x with
  | u => simp [passW] at h
  | ea b i sz off => simp [passW] at h
  | pv b off n => simp [passW] at h
  | es sz => simp [passW] at h; exact h.2.symm
  | d c => simp [passW] at h; exact h.2.symm
  | ptr b off => simp [passW] at h; exact h.2.symm
  | arr b =>
    simp only [passW] at h
    generalize bx.getD b none = bb at h
    match bb, h with
    | some (.arr mt e sz els), h => cases mt <;> simp at h; exact h.2.symm
theorem passLk_dr {n0 : Nat} : ∀ (lk : List (Nat × W)) (l : List C) {bx bx' : Bx} {m : M}, passLk true n0 lk l bx = some (m, bx') → bx' = bx := by
  intro lk
  induction lk with
  | nil => intro l bx bx' m h; simp [passLk] at h; exact h.2.symm
  | cons p r ih =>
    intro l bx bx' m hp
    obtain ⟨i, x⟩ := p
    simp only [passLk] at hp
    cases h1 : passLk true n0 r l bx with
    | none => rw [h1] at hp; cases hp
    | some q =>
      obtain ⟨m1, bx1⟩ := q
      rw [h1] at hp; simp only at hp
      cases h2 : passW true x bx1 with
      | none => rw [h2] at hp; cases hp
      | some q =>
        obtain ⟨y, bx2⟩ := q
        rw [h2] at hp; simp only at hp
        have hb : bx2 = bx' := by
          cases y <;> simp only [Option.some.injEq, Prod.mk.injEq] at hp <;> exact hp.2
        exact hb.symm.trans ((passW_dr h2).trans (ih l h1))
theorem passT_dr {x y : T} {bx bx' : Bx} (h : passT true x bx = some (y, bx')) : bx' = bx := by
  cases x with
  | w x =>
    simp only [passT] at h
    cases h1 : passW true x bx with
    | none => rw [h1] at h; cases h
    | some q => rw [h1] at h; simp only [Option.some.injEq, Prod.mk.injEq] at h; rw [← h.2]; exact passW_dr h1
  | agg m =>
    simp only [passT] at h
    cases h1 : passLk true m.n m.lk m.l bx with
    | none => rw [h1] at h; cases h
    | some q => rw [h1] at h; simp only [Option.some.injEq, Prod.mk.injEq] at h; rw [← h.2]; exact passLk_dr _ _ h1
theorem frzT_dr {x : T} {l : List C × Nat} {bx bx' : Bx} (h : frzT true x bx = some (l, bx')) : bx' = bx := by
  unfold frzT at h
  cases h1 : passT true x bx with
  | none => rw [h1] at h; cases h
  | some q =>
    rw [h1] at h; simp only at h
    cases h2 : q.1.stabC with
    | none => rw [h2] at h; cases h
    | some l' => rw [h2] at h; simp only [Option.some.injEq, Prod.mk.injEq] at h; rw [← h.2]; exact passT_dr h1
theorem passV_dr {x y : V} {bx bx' : Bx} (h : passV true x bx = some (y, bx')) : bx' = bx := by
  cases x with
  | u => simp [passV] at h
  | tup l => simp [passV] at h
  | t x =>
    simp only [passV] at h
    cases h1 : passT true x bx with
    | none => rw [h1] at h; cases h
    | some q => rw [h1] at h; simp only [Option.some.injEq, Prod.mk.injEq] at h; rw [← h.2]; exact passT_dr h1
theorem passArgs_dr {b : Bool} : ∀ (xs ys : List V) {bx bx' : Bx}, passArgs true b xs bx = some (ys, bx') → bx' = bx := by
  intro xs
  induction xs with
  | nil => intro ys bx bx' h; simp [passArgs] at h; exact h.2.symm
  | cons x r ih =>
    intro ys bx bx' h
    simp only [passArgs] at h
    have key : ∀ y bx1, (bif b && isArr x then some (x, bx) else passV true x bx) = some (y, bx1) → bx1 = bx := by
      intro y bx1 hy
      cases hb : b && isArr x with
      | true => rw [hb] at hy; simp only [cond_true, Option.some.injEq, Prod.mk.injEq] at hy; exact hy.2.symm
      | false => rw [hb, cond_false] at hy; exact passV_dr hy
    generalize (bif b && isArr x then some (x, bx) else passV true x bx) = q at h key
    match q, h with
    | some (y, bx1), h =>
      simp only at h
      cases h2 : passArgs true b r bx1 with
      | none => rw [h2] at h; cases h
      | some q =>
        rw [h2] at h; simp only [Option.some.injEq, Prod.mk.injEq] at h
        rw [← h.2]; exact (ih q.1 h2).trans (key y bx1 rfl)
theorem elemsOf_dr {n : Nat} : ∀ (ps : List (Nat × V)) (k : Nat) {els : List (List C)} {bx bx' : Bx}, elemsOf true n k ps bx = some (els, bx') → bx' = bx := by
  intro ps
  induction ps with
  | nil => intro k els bx bx' h; simp [elemsOf] at h; exact h.2.symm
  | cons p r ih =>
    intro k els bx bx' h
    obtain ⟨i, x⟩ := p
    cases x with
    | u => simp [elemsOf] at h
    | tup l => simp [elemsOf] at h
    | t x =>
      simp only [elemsOf] at h
      cases h1 : frzT true x bx with
      | none => rw [h1] at h; cases h
      | some q =>
        obtain ⟨cs, bx1⟩ := q
        rw [h1] at h; simp only at h
        cases h2 : elemsOf true n (k + 1) r bx1 with
        | none => rw [h2] at h; cases h
        | some q =>
          obtain ⟨l, bx2⟩ := q
          rw [h2] at h; simp only at h
          cases hc : (i == k && cs.2 == n) with
          | false => rw [hc] at h; cases h
          | true =>
            rw [hc] at h; simp only [cond_true, Option.some.injEq, Prod.mk.injEq] at h
            rw [← h.2]; exact (ih (k + 1) h2).trans (frzT_dr h1)

/-- a zero value without new names -/
theorem zeroM_dr : ∀ (z : List Z) (j a b : Nat), zeroM true a z j = zeroM true b z j ∧ (zeroM true a z j).2.2 = [] := by
  intro z
  induction z with
  | nil => intro j a b; exact ⟨rfl, rfl⟩
  | cons y q ih =>
    intro j a b
    obtain ⟨h1, h2⟩ := ih (j + 1) a b
    cases y with
    | c c => simp only [zeroM]; rw [← h1]; exact ⟨rfl, h2⟩
    | s e sz => simp only [zeroM, cond_true]; rw [← h1]; exact ⟨rfl, h2⟩
theorem zero_dr (st : St) (z : List Z) : st.zero true z = (⟨(zeroM true 0 z 0).1, (zeroM true 0 z 0).2.1, z.length⟩, st) := by
  obtain ⟨h1, h2⟩ := zeroM_dr z 0 st.bx.length 0
  unfold St.zero
  rw [h1]
  obtain ⟨_, h3⟩ := zeroM_dr z 0 0 0
  generalize zeroM true 0 z 0 = q at h3
  obtain ⟨l, lk, b⟩ := q
  simp only at h3; subst h3
  simp

theorem eta_eq (sh : Option (List Sh)) (l : List C) : (∃ l', ∀ {β : Type} (k : List C → Option β), eta sh l k = k l') ∨ ∀ {β : Type} (k : List C → Option β), eta sh l k = none := by
  cases sh with
  | none => exact .inl ⟨l, fun k => rfl⟩
  | some sh =>
    cases h : shOk sh l with
    | true => exact .inl ⟨shCanon l 0 sh, fun k => by simp only [eta, h, cond_true]⟩
    | false => exact .inr fun k => by simp only [eta, h, cond_false]
theorem cutK_eq (i : TI) (l : List C) : (∃ v, ∀ {β : Type} (k : T → Option β), cutK i l k = k v) ∨ ∀ {β : Type} (k : T → Option β), cutK i l k = none := by
  unfold cutK
  cases i.ag with
  | true =>
    simp only [cond_true]
    cases (l.take i.size).length == i.size with
    | false => exact .inr fun k => rfl
    | true =>
      simp only [cond_true]
      rcases eta_eq i.sh (l.take i.size) with ⟨l', h⟩ | h
      · exact .inl ⟨.agg ⟨l', [], i.size⟩, fun k => h _⟩
      · exact .inr fun k => h _
  | false =>
    simp only [cond_false]
    cases l[0]? with
    | none => exact .inr fun k => rfl
    | some c =>
      simp only
      rcases eta_eq i.sh [c] with ⟨l', h⟩ | h
      · cases l' with
        | nil => exact .inr fun k => h _
        | cons c' q => exact .inl ⟨.w (.d c'), fun k => h _⟩
      · exact .inr fun k => h _

section
variable {cf : Cfg} {o : Oper} {st st1 : St}

theorem moves_move {x : Operand} (ho : o.op = .move x) (h : vop cf true o some st = some st1) : Moves cf o st st1 := by
  unfold vop at h; rw [ho] at h; simp only [Option.some.injEq] at h
  refine Moves.val h fun st' hs => ?_
  have hx := hs.ev x (by rw [ho]; simp [Op.operands])
  unfold vop; rw [ho]; simp only [evT_same hx]

theorem moves_assign {x : Operand} (ho : o.op = .assign x) (h : vop cf true o some st = some st1) : Moves cf o st st1 := by
  unfold vop at h; rw [ho] at h; simp only at h
  cases hn : isNilSlice x with
  | true =>
    rw [hn, cond_true] at h
    cases he : eszE cf o.type with
    | none => rw [he] at h; cases h
    | some p =>
      obtain ⟨e, sz⟩ := p
      rw [he] at h; simp only at h
      cases hb : Nat.ble 1 sz with
      | false => rw [hb] at h; cases h
      | true =>
        rw [hb] at h; simp only [cond_true, Option.some.injEq] at h
        exact Moves.val h fun st' hs => by unfold vop; rw [ho]; simp only [hn, cond_true, he, hb]
  | false =>
    rw [hn, cond_false] at h; simp only [Option.some.injEq] at h
    refine Moves.val h fun st' hs => ?_
    have hx := hs.ev x (by rw [ho]; simp [Op.operands])
    unfold vop; rw [ho]; simp only [hn, cond_false, hx]

theorem moves_pick {c x y : Operand} (ho : o.op = .pick c x y) (h : vop cf true o some st = some st1) : Moves cf o st st1 := by
  unfold vop at h; rw [ho] at h; simp only at h
  split at h
  · rename_i t hc
    simp only [Option.some.injEq] at h
    refine Moves.val h fun st' hs => ?_
    have h1 := hs.ev c (by rw [ho]; simp [Op.operands])
    have h2 := hs.ev x (by rw [ho]; simp [Op.operands])
    have h3 := hs.ev y (by rw [ho]; simp [Op.operands])
    unfold vop; rw [ho]; simp only [h1, hc, evT_same h2, evT_same h3]
  · cases h

theorem moves_nilCheck {x : Operand} (ho : o.op = .nilCheck x) (h : vop cf true o some st = some st1) : Moves cf o st st1 := by
  unfold vop at h; rw [ho] at h; simp only at h
  have hx : ∀ st', Same cf o.op st st' → st'.ev cf x = st.ev cf x := fun st' hs => hs.ev x (by rw [ho]; simp [Op.operands])
  split at h <;> first | (cases h; done) | (rename_i hc; simp only [Option.some.injEq] at h; exact Moves.val h fun st' hs => by unfold vop; rw [ho]; simp only [hx st' hs, hc])

theorem moves_load {t : TypeId} {x : Operand} (ho : o.op = .load t x) (h : vop cf true o some st = some st1) : Moves cf o st st1 := by
  unfold vop at h; rw [ho] at h; simp only [vLoad] at h
  have hx : ∀ st', Same cf o.op st st' → st'.ev cf x = st.ev cf x := fun st' hs => hs.ev x (by rw [ho]; simp [Op.operands])
  have hb : ∀ st', Same cf o.op st st' → st'.bx = st.bx := fun st' hs => hs.bx (by rw [ho]; rfl)
  split at h
  · rename_i i hc
    split at h
    · rename_i he
      split at h
      · rename_i hbb
        split at h
        · rename_i hcut
          simp only [Option.some.injEq] at h
          exact Moves.val h fun st' hs => by unfold vop; rw [ho]; simp only [vLoad, hc, hx st' hs, he, hb st' hs, hbb, hcut]
        · cases h
      · cases h
    · rename_i n sz0 off he
      split at h
      · rename_i mt e sz els hbb
        simp only [Bool.cond_eq_ite] at h
        split at h
        · rename_i hsz
          unfold getT at h
          split at h
          · rename_i el hel
            simp only at h
            rcases cutK_eq i (el.drop off) with ⟨v, hv⟩ | hv
            · rw [hv] at h
              simp only [Option.some.injEq] at h
              exact Moves.val h fun st' hs => by
                unfold vop; rw [ho]; simp only [vLoad, hc, hx st' hs, he, hb st' hs, hbb, Bool.cond_eq_ite, hsz, if_true, getT, hel, hv]
            · rw [hv] at h; cases h
          · cases h
        · cases h
      · cases h
    · rename_i l he
      rcases cutK_eq i l with ⟨v, hv⟩ | hv
      · rw [hv] at h
        simp only [Option.some.injEq] at h
        exact Moves.val h fun st' hs => by unfold vop; rw [ho]; simp only [vLoad, hc, hx st' hs, he, hv]
      · rw [hv] at h; cases h
    · cases h
  · cases h

theorem moves_store {t : TypeId} {x y : Operand} (ho : o.op = .store t x y) (h : vop cf true o some st = some st1) : Moves cf o st st1 := by
  unfold vop at h; rw [ho] at h; simp only [vStore, Bool.not_true, Bool.and_false, Bool.cond_eq_ite, Bool.false_eq_true, if_false] at h
  have key : ∀ b : Bx, ({ st with bx := b } : St).set o.dst (.tup []) = st1 → (∀ st', Same cf o.op st st' → vop cf true o some st' = some (({ st' with bx := b } : St).set o.dst (.tup []))) → Moves cf o st st1 := by
    intro b hb hs
    refine ⟨⟨.tup [], some b⟩, ?_, fun _ => by rw [ho]; rfl, fun st' h' => ?_⟩
    · rw [← hb]; cases o.dst <;> rfl
    · rw [hs st' h']; cases o.dst <;> rfl
  have h1 : ∀ st', Same cf o.op st st' → st'.ev cf x = st.ev cf x := fun st' hs => hs.ev x (by rw [ho]; simp [Op.operands])
  have h2 : ∀ st', Same cf o.op st st' → st'.evT cf t y = st.evT cf t y := fun st' hs => evT_same (hs.ev y (by rw [ho]; simp [Op.operands]))
  have h3 : ∀ st', Same cf o.op st st' → st'.bx = st.bx := fun st' hs => hs.bx (by rw [ho]; rfl)
  split at h
  · rename_i i v hc hy
    split at h
    · rename_i b off he
      split at h
      · rename_i l hbb
        split at h
        · rename_i hcond
          simp only [Option.some.injEq] at h
          refine key _ h fun st' hs => ?_
          unfold vop; rw [ho]; simp only [vStore, Bool.not_true, Bool.and_false, Bool.cond_eq_ite, Bool.false_eq_true, if_false, hc, h1 st' hs, he, h2 st' hs, hy, h3 st' hs, hbb, hcond, if_true]
        · cases h
      · cases h
    · rename_i b n sz0 off he
      split at h
      · rename_i cs bx1 hfz
        split at h
        · rename_i mt e sz els hbb
          split at h
          · rename_i hc0
            unfold getT at h
            split at h
            · rename_i el hel
              split at h
              · rename_i hcond
                simp only [Option.some.injEq] at h
                refine key _ h fun st' hs => ?_
                unfold vop; rw [ho]; simp only [vStore, Bool.not_true, Bool.and_false, Bool.cond_eq_ite, Bool.false_eq_true, if_false, hc, h1 st' hs, he, h2 st' hs, hy, h3 st' hs, hfz, hbb, hc0, if_true, getT, hel, hcond]
              · cases h
            · cases h
          · cases h
        · cases h
      · cases h
    · cases h
  · cases h

theorem moves_bin {op : BinOp} {t t2 : TypeId} {x y : Operand} (ho : o.op = .binOp op t x y t2) (h : vop cf true o some st = some st1) : Moves cf o st st1 := by
  unfold vop at h; rw [ho] at h; simp only at h
  have h1 : ∀ st', Same cf o.op st st' → st'.ev cf x = st.ev cf x := fun st' hs => hs.ev x (by rw [ho]; simp [Op.operands])
  have h2 : ∀ st', Same cf o.op st st' → st'.ev cf y = st.ev cf y := fun st' hs => hs.ev y (by rw [ho]; simp [Op.operands])
  have key : ∃ v, st.set o.dst v = st1 ∧ ∀ st', st'.ev cf x = st.ev cf x → st'.ev cf y = st.ev cf y → vBin cf o op t x y some st' = some (st'.set o.dst v) := by
    simp only [vBin, Bool.cond_eq_ite, strOpK_eq] at h ⊢
    generalize he1 : st.ev cf x = e1 at h ⊢
    generalize he2 : st.ev cf y = e2 at h ⊢
    split at h
    · split at h
      · split at h
        · simp only [Option.some.injEq] at h; exact ⟨_, h, fun st' e1 e2 => by simp only [*, if_true]⟩
        · cases h
      · cases h
    · split at h
      · simp only [Option.some.injEq] at h; exact ⟨_, h, fun st' e1 e2 => by simp only [*]⟩
      · cases h
    · split at h
      · simp only [Option.some.injEq] at h; exact ⟨_, h, fun st' e1 e2 => by simp only [*]⟩
      · simp only [Option.some.injEq] at h; exact ⟨_, h, fun st' e1 e2 => by simp only [*]⟩
      · cases h
    · rename_i _ _ la _ lb _
      have hp : ∃ v, st.set o.dst v = st1 ∧ ∀ st' : St, vBinS cf o op t la lb some st' = some (st'.set o.dst v) := by
        unfold vBinS at h ⊢
        generalize cf.ti t = ti at h ⊢
        match ti, h with
        | some ⟨.struct fs, z1, z2, z3, z4, z5⟩, h =>
          simp only [Bool.cond_eq_ite] at h ⊢
          split at h
          · rename_i hq
            simp only [hq, if_true]
            generalize eqCs cf 0 fs.toList la lb = q at h ⊢
            match q, op, h with
            | some e, .eql, h => simp only [Option.some.injEq] at h; exact ⟨_, h, fun st' => rfl⟩
            | some e, .neq, h => simp only [Option.some.injEq] at h; exact ⟨_, h, fun st' => rfl⟩
          · cases h
      obtain ⟨v, hv, hk⟩ := hp
      exact ⟨v, hv, fun st' h1 h2 => by rw [h1, h2]; exact hk st'⟩
    · rename_i n1 n2 n3 n4
      have hp : ∃ v, st.set o.dst v = st1 ∧ ∀ st' : St, vBinP cf o op t y e1 e2 some st' = some (st'.set o.dst v) := by
        unfold vBinP at h ⊢
        split at h
        · split at h
          · split at h
            · simp only [Option.some.injEq] at h; exact ⟨_, h, fun st' => by simp only [*]⟩
            · simp only [Option.some.injEq] at h; exact ⟨_, h, fun st' => by simp only [*]⟩
            · cases h
          · cases h
        · cases h
      obtain ⟨v, hv, hk⟩ := hp
      refine ⟨v, hv, fun st' h1 h2 => ?_⟩
      rw [h1, h2]
      split
      · exact absurd rfl (n1 _ _ _ _ rfl)
      · exact absurd rfl (n2 _ _ rfl)
      · exact absurd rfl (n3 _ _ rfl)
      · exact absurd rfl (n4 _ _ _ _ rfl)
      · exact hk st'
  obtain ⟨v, hv, hk⟩ := key
  exact Moves.val hv fun st' hs => by unfold vop; rw [ho]; exact hk st' (h1 st' hs) (h2 st' hs)

theorem moves_un {op : UnOp} {t : TypeId} {x : Operand} (ho : o.op = .unOp op t x) (h : vop cf true o some st = some st1) : Moves cf o st st1 := by
  unfold vop at h; rw [ho] at h; simp only [vUn] at h
  have h1 : ∀ st', Same cf o.op st st' → st'.ev cf x = st.ev cf x := fun st' hs => hs.ev x (by rw [ho]; simp [Op.operands])
  split at h <;> first | (cases h; done) | (rename_i hc; simp only [Option.some.injEq] at h; exact Moves.val h fun st' hs => by unfold vop; rw [ho]; simp only [vUn, h1 st' hs, hc])

theorem convB_same {s d : TypeId} {v : V} (h : vConvB cf o s d v some st = some st1) : ∃ q, st.set o.dst q = st1 ∧ ∀ st' : St, st'.bx = st.bx → vConvB cf o s d v some st' = some (st'.set o.dst q) := by
  unfold vConvB at h ⊢
  generalize cf.ti s = ti at h ⊢
  match ti, h with
  | some ⟨.slice e, _, _, _, _, _⟩, h =>
    simp only at h ⊢
    generalize cf.ti d = di at h ⊢
    generalize hel : elsOf st.bx v = ee at h
    match di, ee, hel, h with
    | some ⟨.string, _, _, _, _, _⟩, some (1, els), hel, h =>
      simp only at h
      cases hc : isBytes cf e && okBytes els with
      | false => rw [hc] at h; cases h
      | true =>
        rw [hc] at h; simp only [cond_true, Option.some.injEq] at h
        exact ⟨_, h, fun st' hb => by rw [hb, hel]; simp only [hc, cond_true]⟩
  | some ⟨.string, _, _, _, _, _⟩, h =>
    simp only at h ⊢
    generalize cf.ti d = di at h ⊢
    match di, v, h with
    | some ⟨.slice e, _, _, _, _, _⟩, .t (.w (.d (.str q))), h =>
      simp only at h ⊢
      cases hc : isBytes cf e && decide (q.size ≤ 9223372036854775807) with
      | false => rw [hc] at h; cases h
      | true =>
        rw [hc] at h; simp only [cond_true, Option.some.injEq] at h
        exact ⟨_, h, fun st' hb => by simp only [cond_true]⟩

theorem moves_convert {s d : TypeId} {x : Operand} (ho : o.op = .convert s d x) (h : vop cf true o some st = some st1) : Moves cf o st st1 := by
  unfold vop at h; rw [ho] at h; simp only at h
  have h1 : ∀ st', Same cf o.op st st' → st'.ev cf x = st.ev cf x := fun st' hs => hs.ev x (by rw [ho]; simp [Op.operands])
  have h3 : ∀ st', Same cf o.op st st' → st'.bx = st.bx := fun st' hs => hs.bx (by rw [ho]; rfl)
  have key : ∃ v, st.set o.dst v = st1 ∧ ∀ st', st'.ev cf x = st.ev cf x → st'.bx = st.bx → vConvert cf true o s d x some st' = some (st'.set o.dst v) := by
    unfold vConvert at h ⊢
    simp only [Bool.not_true, Bool.false_and, cond_false] at h ⊢
    split at h
    · simp only [Option.some.injEq] at h; exact ⟨_, h, fun st' e1 e2 => by simp only [*]⟩
    · simp only [Option.some.injEq] at h; exact ⟨_, h, fun st' e1 e2 => by simp only [*]⟩
    · simp only [Option.some.injEq] at h; exact ⟨_, h, fun st' e1 e2 => by simp only [*]⟩
    · rename_i n1 n2 n3
      obtain ⟨v, hv, hk⟩ := convB_same h
      refine ⟨v, hv, fun st' h1 h2 => ?_⟩
      rw [h1]
      split
      · rename_i q1 q2 q3; exact (n1 _ _ _ _ _ _ _ _ _ q1 q2 q3).elim
      · rename_i q1 q2 q3; exact (n2 _ _ _ _ _ _ _ _ q1 q2 q3).elim
      · rename_i q1 q2 q3; exact (n3 _ _ _ _ _ _ _ _ _ _ _ q1 q2 q3).elim
      · exact hk st' h2
  obtain ⟨v, hv, hk⟩ := key
  exact Moves.val hv fun st' hs => by unfold vop; rw [ho]; exact hk st' (h1 st' hs) (h3 st' hs)

theorem moves_makeIface {t : TypeId} {x : Operand} (ho : o.op = .makeInterface t x) (h : vop cf true o some st = some st1) : Moves cf o st st1 := by
  unfold vop at h; rw [ho] at h; simp only [vMakeIface] at h
  have h1 : ∀ st', Same cf o.op st st' → st'.evT cf t x = st.evT cf t x := fun st' hs => evT_same (hs.ev x (by rw [ho]; simp [Op.operands]))
  have h3 : ∀ st', Same cf o.op st st' → st'.bx = st.bx := fun st' hs => hs.bx (by rw [ho]; rfl)
  have key : ∃ v, st.set o.dst v = st1 ∧ ∀ st', st'.evT cf t x = st.evT cf t x → st'.bx = st.bx → vMakeIface cf true o t x some st' = some (st'.set o.dst v) := by
    simp only [vMakeIface]
    split at h
    · rename_i i v hc he
      split at h
      · cases h
      · rename_i l bx1 hl hd
        have hb := frzT_dr hl
        subst hb
        simp only [Option.some.injEq] at h
        refine ⟨_, h, fun st' e1 e2 => ?_⟩
        simp only [e1, e2, hc, he]
        generalize i.desc = dd at hd
        cases dd <;> first | (exact absurd rfl (hd _)) | (simp only [hl]; rw [← e2])
      · cases h
    · cases h
  obtain ⟨v, hv, hk⟩ := key
  exact Moves.val hv fun st' hs => by unfold vop; rw [ho]; exact hk st' (h1 st' hs) (h3 st' hs)

theorem bnd_same {st' : St} {d : Nat} {x : Option Operand} (h : ∀ y, x = some y → st'.ev cf y = st.ev cf y) : bnd cf st' d x = bnd cf st d x := by
  unfold bnd
  cases x with
  | none => rfl
  | some y => simp only [h y rfl]

theorem moves_slice {t : TypeId} {x : Operand} {lo hi mx : Option Operand} (ho : o.op = .slice t x lo hi mx) (h : vop cf true o some st = some st1) : Moves cf o st st1 := by
  unfold vop at h; rw [ho] at h; simp only at h
  have key : ∃ v, st.set o.dst v = st1 ∧ ∀ st', st'.ev cf x = st.ev cf x → st'.bx = st.bx → (∀ d, bnd cf st' d lo = bnd cf st d lo) → (∀ d, bnd cf st' d hi = bnd cf st d hi) → vSlice cf true o t x lo hi mx some st' = some (st'.set o.dst v) := by
    simp only [vSlice, Bool.cond_eq_ite] at h ⊢
    split at h
    · split at h
      · split at h
        · split at h
          · simp only [Option.some.injEq] at h; exact ⟨_, h, fun st' e1 e0 e2 e3 => by simp only [*, if_true]⟩
          · cases h
        · cases h
      · cases h
    · split at h
      · rename_i bx1 hp
        have hb := passV_dr hp
        subst hb
        split at h
        · split at h
          · simp only [Option.some.injEq] at h; exact ⟨_, h, fun st' e1 e0 e2 e3 => by simp only [*, if_true]; rw [← e0]⟩
          · cases h
        · cases h
      · cases h
    · split at h
      · split at h
        · split at h
          · simp only [Bool.not_true, Bool.and_false, Bool.false_and, Bool.false_eq_true, if_false] at h; cases h
          · cases h
        · rename_i hbor
          simp only [Option.some.injEq] at h
          exact ⟨_, h, fun st' e1 e0 e2 e3 => by simp only [*]; rfl⟩
      · cases h
    · cases h
  obtain ⟨v, hv, hk⟩ := key
  refine Moves.val hv fun st' hs => ?_
  unfold vop; rw [ho]
  refine hk st' (hs.ev x (by rw [ho]; simp [Op.operands])) (hs.bx (by rw [ho]; rfl)) (fun d => bnd_same fun y hy => hs.ev y (by rw [ho, hy]; simp [Op.operands])) (fun d => bnd_same fun y hy => hs.ev y (by rw [ho, hy]; simp [Op.operands]))

theorem moves_fieldAddr {s : TypeId} {x : Operand} {f : Nat} (ho : o.op = .fieldAddr s x f) (h : vop cf true o some st = some st1) : Moves cf o st st1 := by
  unfold vop at h; rw [ho] at h; simp only at h
  have key : ∃ v, st.set o.dst v = st1 ∧ ∀ st', st'.ev cf x = st.ev cf x → vFieldAddr cf o s x f some st' = some (st'.set o.dst v) := by
    simp only [vFieldAddr] at h ⊢
    split at h
    · split at h
      · split at h
        · simp only [Option.some.injEq] at h; exact ⟨_, h, fun st' e1 => by simp only [*]⟩
        · simp only [Option.some.injEq] at h; exact ⟨_, h, fun st' e1 => by simp only [*]⟩
        · simp only [Option.some.injEq] at h; exact ⟨_, h, fun st' e1 => by simp only [*]⟩
        · cases h
      · cases h
    · cases h
  obtain ⟨v, hv, hk⟩ := key
  exact Moves.val hv fun st' hs => by unfold vop; rw [ho]; exact hk st' (hs.ev x (by rw [ho]; simp [Op.operands]))

theorem moves_field {s : TypeId} {x : Operand} {f : Nat} (ho : o.op = .field s x f) (h : vop cf true o some st = some st1) : Moves cf o st st1 := by
  unfold vop at h; rw [ho] at h; simp only at h
  have key : ∃ v, st.set o.dst v = st1 ∧ ∀ st', st'.ev cf x = st.ev cf x → vField cf o s x f some st' = some (st'.set o.dst v) := by
    simp only [vField] at h ⊢
    split at h
    · split at h
      · split at h
        · split at h
          · simp only [Option.some.injEq] at h; exact ⟨_, h, fun st' e1 => by simp only [*]⟩
          · cases h
        · cases h
      · cases h
    · cases h
  obtain ⟨v, hv, hk⟩ := key
  exact Moves.val hv fun st' hs => by unfold vop; rw [ho]; exact hk st' (hs.ev x (by rw [ho]; simp [Op.operands]))

theorem moves_indexAddr {t : TypeId} {x i : Operand} (ho : o.op = .indexAddr t x i) (h : vop cf true o some st = some st1) : Moves cf o st st1 := by
  unfold vop at h; rw [ho] at h; simp only at h
  have key : ∃ v, st.set o.dst v = st1 ∧ ∀ st', st'.ev cf x = st.ev cf x → st'.ev cf i = st.ev cf i → st'.bx = st.bx → vIndexAddr cf o t x i some st' = some (st'.set o.dst v) := by
    simp only [vIndexAddr, getT, Bool.cond_eq_ite] at h ⊢
    split at h
    · split at h
      · split at h
        · split at h
          · split at h
            · simp only [Option.some.injEq] at h; exact ⟨_, h, fun st' e1 e2 e3 => by simp only [*, if_true]⟩
            · cases h
          · cases h
        · cases h
      · split at h
        · split at h
          · split at h
            · split at h
              · simp only [Option.some.injEq] at h; exact ⟨_, h, fun st' e1 e2 e3 => by simp only [*, if_true]⟩
              · rename_i hmt
                simp only [Option.some.injEq] at h; exact ⟨_, h, fun st' e1 e2 e3 => by simp only [*, if_true]; rfl⟩
            · cases h
          · cases h
        · cases h
      · split at h
        · split at h
          · simp only [Option.some.injEq] at h; exact ⟨_, h, fun st' e1 e2 e3 => by simp only [*, if_true]⟩
          · cases h
        · cases h
      · split at h
        · split at h
          · simp only [Option.some.injEq] at h; exact ⟨_, h, fun st' e1 e2 e3 => by simp only [*, if_true]⟩
          · cases h
        · cases h
      · split at h
        · split at h
          · simp only [Option.some.injEq] at h; exact ⟨_, h, fun st' e1 e2 e3 => by simp only [*, if_true]⟩
          · cases h
        · cases h
      · cases h
    · cases h
  obtain ⟨v, hv, hk⟩ := key
  exact Moves.val hv fun st' hs => by unfold vop; rw [ho]; exact hk st' (hs.ev x (by rw [ho]; simp [Op.operands])) (hs.ev i (by rw [ho]; simp [Op.operands])) (hs.bx (by rw [ho]; rfl))

theorem cutX_eq (i : TI) (m : M) (off : Nat) : (∃ v, ∀ {β : Type} (k : T → Option β), cutX i m off k = k v) ∨ ∀ {β : Type} (k : T → Option β), cutX i m off k = none := by
  obtain ⟨l, lk, n⟩ := m
  cases lk with
  | nil => exact cutK_eq i (l.drop off)
  | cons a b =>
    unfold cutX
    cases hc : cut i.ag i.size ⟨l, a :: b, n⟩ off with
    | none => exact .inr fun k => by simp only [hc]
    | some v => exact .inl ⟨v, fun k => by simp only [hc]⟩
theorem moves_index {t : TypeId} {x i : Operand} (ho : o.op = .index t x i) (h : vop cf true o some st = some st1) : Moves cf o st st1 := by
  unfold vop at h; rw [ho] at h; simp only at h
  have key : ∃ v, st.set o.dst v = st1 ∧ ∀ st', st'.ev cf x = st.ev cf x → st'.ev cf i = st.ev cf i → vIndex cf o t x i some st' = some (st'.set o.dst v) := by
    simp only [vIndex, getT, Bool.cond_eq_ite] at h ⊢
    split at h
    · split at h
      · split at h
        · split at h
          · simp only [Option.some.injEq] at h; exact ⟨_, h, fun st' e1 e2 => by simp only [*, if_true]⟩
          · cases h
        · cases h
      · rename_i ki ix hix _ _ len e z1 z2 z3 z4 z5 m hti hx
        split at h
        · rename_i _ ti hte
          split at h
          · rename_i hc
            rcases cutX_eq ti m (ix.toNat * ti.size) with ⟨v, hv⟩ | hv
            · rw [hv] at h
              simp only [Option.some.injEq] at h
              exact ⟨_, h, fun st' e1 e2 => by simp only [e1, e2, hix, hx, hti, hte, hc, if_true, hv]⟩
            · rw [hv] at h; cases h
          · cases h
        · cases h
      · cases h
    · cases h
  obtain ⟨v, hv, hk⟩ := key
  exact Moves.val hv fun st' hs => by unfold vop; rw [ho]; exact hk st' (hs.ev x (by rw [ho]; simp [Op.operands])) (hs.ev i (by rw [ho]; simp [Op.operands]))

theorem moves_extract {x : Operand} {i : Nat} (ho : o.op = .extract x i) (h : vop cf true o some st = some st1) : Moves cf o st st1 := by
  unfold vop at h; rw [ho] at h; simp only at h
  have key : ∃ v, st.set o.dst v = st1 ∧ ∀ st', st'.ev cf x = st.ev cf x → vExtract cf o x i some st' = some (st'.set o.dst v) := by
    simp only [vExtract] at h ⊢
    split at h
    · split at h
      · simp only [Option.some.injEq] at h; exact ⟨_, h, fun st' e1 => by simp only [*]⟩
      · cases h
    · cases h
  obtain ⟨v, hv, hk⟩ := key
  exact Moves.val hv fun st' hs => by unfold vop; rw [ho]; exact hk st' (hs.ev x (by rw [ho]; simp [Op.operands]))

theorem evParts_same {st' : St} {ty : Nat → Option TypeId} : ∀ (ps : List (Nat × Operand)), (∀ p ∈ ps, st'.ev cf p.2 = st.ev cf p.2) → st'.evParts cf ty ps = st.evParts cf ty ps := by
  intro ps
  induction ps with
  | nil => intro _; rfl
  | cons p r ih =>
    intro h
    obtain ⟨i, x⟩ := p
    have h1 := h (i, x) (by simp)
    have h2 := ih (fun q hq => h q (by simp [hq]))
    simp only [St.evParts, h2, evT_same h1]

theorem evs_same {st' : St} : ∀ (ts : List TypeId) (xs : List Operand), (∀ x ∈ xs, st'.ev cf x = st.ev cf x) → st'.evs cf ts xs = st.evs cf ts xs := by
  intro ts
  induction ts with
  | nil => intro xs _; cases xs <;> rfl
  | cons t r ih =>
    intro xs h
    cases xs with
    | nil => rfl
    | cons x q => simp only [St.evs, evT_same (h x (by simp)), ih q (fun y hy => h y (by simp [hy]))]

theorem moves_build {t : TypeId} {ps : Array (Nat × Operand)} (ho : o.op = .build t ps) (h : vop cf true o some st = some st1) : Moves cf o st st1 := by
  unfold vop at h; rw [ho] at h; simp only at h
  have hp : ∀ st' (ty : Nat → Option TypeId), Same cf o.op st st' → st'.evParts cf ty ps.toList = st.evParts cf ty ps.toList := fun st' ty hs =>
    evParts_same _ fun p hp => hs.ev p.2 (by rw [ho]; simp only [Op.operands, List.mem_toArray, List.mem_map]; exact ⟨p, hp, rfl⟩)
  simp only [vBuild, zero_dr] at h
  split at h
  · rename_i fs z hti
    split at h
    · rename_i pl pp hpl hpp
      split at h
      · rename_i l hl2
        simp only [Option.some.injEq] at h
        exact Moves.val h fun st' hs => by unfold vop; rw [ho]; simp only [vBuild, zero_dr, hti, hpl, hp st' _ hs, hpp, hl2]
      · cases h
    · cases h
  · rename_i e z hti
    split at h
    · rename_i n pp hn hpp
      split at h
      · rename_i l hl2
        simp only [Option.some.injEq] at h
        exact Moves.val h fun st' hs => by unfold vop; rw [ho]; simp only [vBuild, zero_dr, hti, hn, hp st' _ hs, hpp, hl2]
      · cases h
    · cases h
  · cases h

theorem moves_buildSlice {t : TypeId} {n : Nat} {ps : Array (Nat × Operand)} (ho : o.op = .buildSlice t n ps) (h : vop cf true o some st = some st1) : Moves cf o st st1 := by
  unfold vop at h; rw [ho] at h; simp only at h
  have hp : ∀ st' (ty : Nat → Option TypeId), Same cf o.op st st' → st'.evParts cf ty ps.toList = st.evParts cf ty ps.toList := fun st' ty hs =>
    evParts_same _ fun p hp => hs.ev p.2 (by rw [ho]; simp only [Op.operands, List.mem_toArray, List.mem_map]; exact ⟨p, hp, rfl⟩)
  have h3 : ∀ st', Same cf o.op st st' → st'.bx = st.bx := fun st' hs => hs.bx (by rw [ho]; rfl)
  simp only [vBuildSlice, Bool.cond_eq_ite, if_true] at h
  split at h
  · rename_i e q1 q2 q3 q4 q5 hti
    split at h
    · rename_i m pp hm hpp
      split at h
      · rename_i els bx1 hel
        have hb := elemsOf_dr _ _ hel
        subst hb
        split at h
        · rename_i hc
          simp only [Option.some.injEq] at h
          exact Moves.val h fun st' hs => by
            unfold vop; rw [ho]; simp only [vBuildSlice, Bool.cond_eq_ite, if_true, hti, hm, hp st' _ hs, hpp, h3 st' hs, hel, hc]
            rw [← h3 st' hs]
        · cases h
      · cases h
    · cases h
  · cases h

theorem moves_assert {x : Operand} {xt t : TypeId} {ok : Bool} (ho : o.op = .typeAssert x xt t ok) (h : vop cf true o some st = some st1) : Moves cf o st st1 := by
  unfold vop at h; rw [ho] at h; simp only at h
  have hx : ∀ st', Same cf o.op st st' → st'.ev cf x = st.ev cf x := fun st' hs => hs.ev x (by rw [ho]; simp [Op.operands])
  have key : ∃ v, st.set o.dst v = st1 ∧ ∀ st', st'.ev cf x = st.ev cf x → vAssert cf true o t x ok some st' = some (st'.set o.dst v) := by
    simp only [vAssert, vZero, zero_dr, Bool.cond_eq_ite] at h ⊢
    split at h
    · rename_i i hti
      generalize hdesc : i.desc = dd at h ⊢
      generalize hev : st.ev cf x = e at h ⊢
      split at h
      · cases h
      · rename_i t' ag l hnd
        have hne : ∀ ms, dd ≠ .interface ms := fun ms hm => hnd ms hm
        split at h
        · rename_i hteq
          by_cases hcc : (ag == i.ag && l.length == if ag = true then i.size else 1) = true
          · rw [if_pos hcc] at h
            rcases cutK_eq i l with ⟨v, hv⟩ | hv
            · rw [hv] at h
              split at h
              · rename_i hok
                simp only [Option.some.injEq] at h
                exact ⟨_, h, fun st' e1 => by simp only [e1]; cases dd <;> first | (exact absurd rfl (hne _)) | (simp only [hteq, if_true, hcc, hv, hok])⟩
              · rename_i hok
                simp only [Option.some.injEq] at h
                exact ⟨_, h, fun st' e1 => by simp only [e1]; cases dd <;> first | (exact absurd rfl (hne _)) | (simp only [hteq, if_true, hcc, hv, hok]; rfl)⟩
            · rw [hv] at h; cases h
          · rw [if_neg hcc] at h; cases h
        · rename_i hteq
          split at h
          · rename_i hok
            split at h
            · rename_i v hcut
              simp only [Option.some.injEq] at h
              refine ⟨_, h, fun st' e1 => ?_⟩
              simp only [e1]; cases dd <;> first | (exact absurd rfl (hne _)) | (simp only [hteq, hok, if_true]; rfl)
            · cases h
          · cases h
      · rename_i hnd
        have hne : ∀ ms, dd ≠ .interface ms := fun ms hm => hnd ms hm
        split at h
        · rename_i hok
          split at h
          · rename_i v hcut
            simp only [Option.some.injEq] at h
            refine ⟨_, h, fun st' e1 => ?_⟩
            simp only [e1]; cases dd <;> first | (exact absurd rfl (hne _)) | (simp only [hok, if_true])
          · cases h
        · cases h
      · cases h
    · cases h
  obtain ⟨v, hv, hk⟩ := key
  exact Moves.val hv fun st' hs => by unfold vop; rw [ho]; exact hk st' (hx st' hs)

theorem moves_call {c : Call} (ho : o.op = .call c) (h : vop cf true o some st = some st1) : Moves cf o st st1 := by
  unfold vop at h; rw [ho] at h; simp only at h
  have hargs : ∀ st', Same cf o.op st st' → ∀ x ∈ c.args.toList, st'.ev cf x = st.ev cf x := fun st' hs x hx => hs.ev x (by rw [ho]; simp only [Op.operands, Call.operands, Array.mem_append]; exact .inr (by simpa using hx))
  have hbx : ∀ st', Same cf o.op st st' → st'.bx = st.bx := fun st' hs => hs.bx (by rw [ho]; simp [isRd])
  obtain ⟨callee, args, ts⟩ := c
  cases callee with
  | invoke rr m => unfold vCall at h; cases h
  | value f =>
    unfold vCall callWith at h; simp only [Bool.cond_eq_ite, if_true] at h
    split at h
    · rename_i id caps vs bx1 he hvs
      have hb := passArgs_dr _ _ hvs
      subst hb
      split at h
      · rename_i hlen
        cases hp : cf.pc id ((vs ++ caps.map vc).map (V.mapW (.ren fun _ => none))) [] (fun v bxs => some (v, bxs)) with
        | none => rw [hp] at h; cases h
        | some r =>
          rw [hp] at h; simp only [Option.bind_some] at h
          split at h
          · rename_i hr
            simp only [Option.some.injEq] at h
            refine Moves.val h fun st' hs => ?_
            have hf : st'.ev cf f = st.ev cf f := hs.ev f (by rw [ho]; simp [Op.operands, Call.operands])
            have ha := evs_same (st := st) (st' := st') ts.toList args.toList (hargs st' hs)
            unfold vop; rw [ho]; simp only; unfold vCall callWith; simp only [Bool.cond_eq_ite, if_true, hf, he, ha, hbx st' hs, hvs, hlen, hp, Option.bind_some, hr]
            rw [← hbx st' hs]
          · cases h
      · cases h
    · cases h
  | builtin b =>
    have hx : ∀ st', Same cf o.op st st' → ∀ x ∈ args.toList, st'.ev cf x = st.ev cf x := hargs
    cases b with
    | len =>
      unfold vCall at h; simp only [vLen] at h
      have key : ∃ v, st.set o.dst v = st1 ∧ ∀ st', (∀ x ∈ args.toList, st'.ev cf x = st.ev cf x) → st'.bx = st.bx → vLen cf o ts args some st' = some (st'.set o.dst v) := by
        simp only [vLen]
        split at h
        · rename_i t x hts hxs
          split at h
          · split at h
            · simp only [Option.some.injEq] at h; exact ⟨_, h, fun st' e e2 => by simp only [e x (by rw [hxs]; simp), *]⟩
            · cases h
          · split at h
            · simp only [Option.some.injEq] at h; exact ⟨_, h, fun st' e e2 => by simp only [evT_same (e x (by rw [hxs]; simp)), *]⟩
            · cases h
          · simp only [Option.some.injEq] at h; exact ⟨_, h, fun st' e e2 => by simp only [*]⟩
          · cases h
        · cases h
      obtain ⟨v, hv, hk⟩ := key
      exact Moves.val hv fun st' hs => by unfold vop; rw [ho]; simp only; unfold vCall; simp only; exact hk st' (hx st' hs) (hbx st' hs)
    | max =>
      unfold vCall at h; simp only [vMinMax, Bool.cond_eq_ite] at h
      have key : ∃ v, st.set o.dst v = st1 ∧ ∀ st', (∀ x ∈ args.toList, st'.ev cf x = st.ev cf x) → vMinMax cf o true args some st' = some (st'.set o.dst v) := by
        simp only [vMinMax, Bool.cond_eq_ite]
        split at h
        · rename_i x y hxs
          split at h
          · split at h
            · simp only [Option.some.injEq] at h; exact ⟨_, h, fun st' e => by simp only [e x (by rw [hxs]; simp), e y (by rw [hxs]; simp), *, if_true]⟩
            · cases h
          · cases h
        · cases h
      obtain ⟨v, hv, hk⟩ := key
      exact Moves.val hv fun st' hs => by unfold vop; rw [ho]; simp only; unfold vCall; simp only; exact hk st' (hx st' hs)
    | min =>
      unfold vCall at h; simp only [vMinMax, Bool.cond_eq_ite] at h
      have key : ∃ v, st.set o.dst v = st1 ∧ ∀ st', (∀ x ∈ args.toList, st'.ev cf x = st.ev cf x) → vMinMax cf o false args some st' = some (st'.set o.dst v) := by
        simp only [vMinMax, Bool.cond_eq_ite]
        split at h
        · rename_i x y hxs
          split at h
          · split at h
            · simp only [Option.some.injEq] at h; exact ⟨_, h, fun st' e => by simp only [e x (by rw [hxs]; simp), e y (by rw [hxs]; simp), *, if_true]⟩
            · cases h
          · cases h
        · cases h
      obtain ⟨v, hv, hk⟩ := key
      exact Moves.val hv fun st' hs => by unfold vop; rw [ho]; simp only; unfold vCall; simp only; exact hk st' (hx st' hs)
    | append =>
      unfold vCall at h; simp only [vAppend, Bool.cond_eq_ite] at h
      split at h
      · rename_i t t2 x y hts hxs
        split at h
        · rename_i e q1 q2 q3 q4 q5 hti
          split at h
          · rename_i i b sz2 els2 hte hex hsrc
            split at h
            · rename_i mt e2 sz els hbb
              split at h
              · rename_i hc
                simp only [Option.some.injEq] at h
                refine ⟨⟨.t (.w (.arr st.bx.length)), some (st.bx.set b none ++ [some (.arr mt (some e) sz (els ++ els2))])⟩, by rw [← h]; cases o.dst <;> rfl, fun _ => by rw [ho]; rfl, fun st' hs => ?_⟩
                have hxx := hx st' hs x (by rw [hxs]; simp)
                have hyy := hx st' hs y (by rw [hxs]; simp)
                unfold vop; rw [ho]; simp only; unfold vCall; simp only [vAppend, Bool.cond_eq_ite, if_true, hts, hxs, hti, hte, hxx, hex, evT_same hyy, hbx st' hs, hsrc, hbb, hc]
                cases o.dst <;> rfl
              · cases h
            · cases h
          · rename_i i sz sz2 els2 hte hex hsrc
            split at h
            · rename_i htt
              unfold vAppendE at h; simp only [Bool.cond_eq_ite] at h
              split at h
              · rename_i hc
                split at h
                · rename_i hem
                  simp only [Option.some.injEq] at h
                  refine Moves.val h fun st' hs => ?_
                  have hxx := hx st' hs x (by rw [hxs]; simp)
                  have hyy := hx st' hs y (by rw [hxs]; simp)
                  unfold vop; rw [ho]; simp only; unfold vCall; simp only [vAppend, vAppendE, Bool.cond_eq_ite, if_true, hts, hxs, hti, hte, hxx, hex, evT_same hyy, hbx st' hs, hsrc, htt, hc, hem]
                · rename_i hem
                  simp only [Option.some.injEq] at h
                  refine ⟨⟨.t (.w (.arr st.bx.length)), some (st.bx ++ [some (.arr true (some e) sz els2)])⟩, by rw [← h]; cases o.dst <;> rfl, fun _ => by rw [ho]; rfl, fun st' hs => ?_⟩
                  have hxx := hx st' hs x (by rw [hxs]; simp)
                  have hyy := hx st' hs y (by rw [hxs]; simp)
                  unfold vop; rw [ho]; simp only; unfold vCall; simp only [vAppend, vAppendE, Bool.cond_eq_ite, if_true, hts, hxs, hti, hte, hxx, hex, evT_same hyy, hbx st' hs, hsrc, htt, hc, hem]
                  simp only [Bool.false_eq_true, if_false, St.boxNew, hbx st' hs]
                  cases o.dst <;> rfl
              · cases h
            · cases h
          · cases h
        · cases h
      · cases h
    | _ => unfold vCall at h; cases h

/-- a call of a function as it is: what it turns -/
theorem moves_callF (hnat : ∀ {R : Type} f args bxs (k : V → Bx → Option R), cf.pc f args bxs k = (cf.pc f args bxs fun v b => some (v, b)).bind fun p => k p.1 p.2) {c : Call} {f : Operand} (ho : o.op = .call c) (hcl : c.callee = .value f) (h : vop cf false o some st = some st1) :
    ∃ u : Upd, st1 = u.app o.dst st ∧ ∀ st', Same cf o.op st st' → vop cf false o some st' = some (u.app o.dst st') := by
  unfold vop at h; rw [ho] at h; simp only at h
  have hargs : ∀ st', Same cf o.op st st' → ∀ x ∈ c.args.toList, st'.ev cf x = st.ev cf x := fun st' hs x hx => hs.ev x (by rw [ho]; simp only [Op.operands, Call.operands, Array.mem_append]; exact .inr (by simpa using hx))
  have hbx : ∀ st', Same cf o.op st st' → st'.bx = st.bx := fun st' hs => hs.bx (by rw [ho]; simp [isRd])
  obtain ⟨callee, args, ts⟩ := c
  simp only at hcl
  subst hcl
  unfold vCall callWith at h; simp only [Bool.cond_eq_ite, Bool.false_eq_true, if_false] at h
  split at h
  · rename_i id caps vs bx1 he hvs
    split at h
    · rename_i hlen
      rw [hnat] at h
      cases hp : cf.pc id (renVs (reachAll bx1 [] (vsNames (vs ++ caps.map vc))) (vs ++ caps.map vc)) (renBx (reachAll bx1 [] (vsNames (vs ++ caps.map vc))) bx1) (fun v b => some (v, b)) with
      | none => rw [hp] at h; cases h
      | some p =>
        rw [hp] at h; simp only [Option.bind_some] at h
        split at h
        · rename_i hble
          simp only [Option.some.injEq] at h
          refine ⟨⟨p.1.mapW (.ren (back (reachAll bx1 [] (vsNames (vs ++ caps.map vc))) bx1.length)), some (({ st with bx := bx1 } : St).return (reachAll bx1 [] (vsNames (vs ++ caps.map vc))) p.2).bx⟩, by rw [← h]; cases o.dst <;> rfl, fun st' hs => ?_⟩
          have hf : st'.ev cf f = st.ev cf f := hs.ev f (by rw [ho]; simp [Op.operands, Call.operands])
          have ha := evs_same (st := st) (st' := st') ts.toList args.toList (hargs st' hs)
          unfold vop; rw [ho]; simp only; unfold vCall callWith; simp only [Bool.cond_eq_ite, Bool.false_eq_true, if_false, hf, he, ha, hbx st' hs, hvs, hlen, if_true]
          rw [hnat, hp]
          simp only [Option.bind_some, hble, if_true]
          cases o.dst <;> rfl
        · cases h
    · cases h
  · cases h

theorem moves_alloc {t : TypeId} (ho : o.op = .alloc t) (h : vop cf true o some st = some st1) : Moves cf o st st1 := by
  unfold vop at h; rw [ho] at h; simp only [vAlloc] at h
  generalize hti : cf.ti t = ti at h
  match ti, h with
  | some i, h =>
    simp only [St.zero, St.boxNew] at h
    generalize hz : zeroM false st.bx.length i.zero 0 = q at h
    obtain ⟨l, lk, b⟩ := q
    simp only [Option.some.injEq] at h
    refine ⟨⟨.t (.w (.ptr (st.bx ++ b).length 0)), some ((st.bx ++ b) ++ [some (.cells ⟨l, lk, i.zero.length⟩)])⟩, by rw [← h]; cases o.dst <;> rfl, fun _ => by rw [ho]; rfl, fun st' hs => ?_⟩
    have hb := hs.bx (by rw [ho]; rfl)
    unfold vop; rw [ho]; simp only [vAlloc, hti, St.zero, hb, hz, St.boxNew]; cases o.dst <;> rfl
theorem moves_box {t : TypeId} {x : Operand} (ho : o.op = .box t x) (h : vop cf true o some st = some st1) : Moves cf o st st1 := by
  unfold vop at h; rw [ho] at h; simp only [vBox] at h
  generalize hv : st.evT cf t x = v at h
  match v, h with
  | .t v, h =>
    simp only [St.boxNew, Option.some.injEq] at h
    refine ⟨⟨.t (.w (.ptr st.bx.length 0)), some (st.bx ++ [some (.cells v.toM)])⟩, by rw [← h]; cases o.dst <;> rfl, fun _ => by rw [ho]; rfl, fun st' hs => ?_⟩
    have hb := hs.bx (by rw [ho]; rfl)
    have hx := hs.ev x (by rw [ho]; simp [Op.operands])
    unfold vop; rw [ho]; simp only [vBox, evT_same hx, hv, St.boxNew, hb]; cases o.dst <;> rfl

theorem moves (hok : okOp o.op = true) (h : vop cf true o some st = some st1) : Moves cf o st st1 := by
  generalize ho : o.op = op at hok
  cases op with
  | move x => exact moves_move ho h
  | assign x => exact moves_assign ho h
  | pick c x y => exact moves_pick ho h
  | alloc t => exact moves_alloc ho h
  | box t x => exact moves_box ho h
  | range t x => cases hok
  | next x b => cases hok
  | makeFunc f a b => cases hok
  | makeSlice t n c => cases hok
  | build t ps => exact moves_build ho h
  | buildSlice t n ps => exact moves_buildSlice ho h
  | load t x => exact moves_load ho h
  | store t x y => exact moves_store ho h
  | nilCheck x => exact moves_nilCheck ho h
  | binOp op t x y t2 => exact moves_bin ho h
  | unOp op t x => exact moves_un ho h
  | convert s d x => exact moves_convert ho h
  | makeInterface t x => exact moves_makeIface ho h
  | slice t x lo hi mx => exact moves_slice ho h
  | fieldAddr s x f => exact moves_fieldAddr ho h
  | field s x f => exact moves_field ho h
  | indexAddr t x i => exact moves_indexAddr ho h
  | index t x i => exact moves_index ho h
  | typeAssert x xt t ok => exact moves_assert ho h
  | extract x i => exact moves_extract ho h
  | call c => exact moves_call ho h
  | _ => unfold vop at h; rw [ho] at h; cases h
end
end Vm
