/- Vm, part F: each operation of the interpreter is the model's (1): values, loads. -/
import Derived.Test.YthfjmmhigapkpaaWB
import Derived.Laws.StructEq
namespace Vm
open Go

def ZRel : Z → Value → Prop
  | .c c, u => RelC (fun _ => none) c u
  | .s _ sz, u => u = .slice none 0 0 ∧ 0 < sz

structure TIok (P : Program) (t : TypeId) (i : TI) : Prop where
  und : P.underlying t = some i.desc
  inf : ∃ z, (P.info? t).map (fun f => (f.zero, f.size, f.bytes)) = some (some z, i.size, i.bytes) ∧ All2 ZRel i.zero z.cells.toList ∧ i.zero.length = i.size ∧ (i.ag = true ↔ z = .agg z.cells)
  ag : i.ag = (match i.desc with | .struct _ | .array _ _ => true | _ => false)

structure Ctx (P : Program) (cf : Cfg) (S0 : Addr → Option Value) (w0 : World) (O : Nat → Prop) : Prop where
  env : EnvOk cf.glob w0 O
  mix : P.follows .mixedOrders = true
  ti : ∀ t i, cf.ti t = some i → TIok P t i
  glob : ∀ g l, cf.glob g = some l → RelC S0 (.ip l) (.pointer (some ⟨g, 0, none⟩))
  eq : ∀ t, cf.eqs t = true → P.stoodInHeld t = false ∧ P.eqGuardType P.depth t = false


section
variable {P : Program} {cf : Cfg} {S0 : Addr → Option Value} {w0 : World} {O : Nat → Prop} (cx : Ctx P cf S0 w0 O)
variable {g0 g : G} {st : St} {a : Act} {w : World}
include cx

theorem info_of {t : TypeId} {i : TI} (h : cf.ti t = some i) : ∃ f, P.info? t = some f ∧ f.size = i.size ∧ f.bytes = i.bytes ∧ ∃ z, f.zero = some z ∧ All2 ZRel i.zero z.cells.toList ∧ i.zero.length = i.size ∧ (i.ag = true ↔ z = .agg z.cells) := by
  obtain ⟨z, hz, h2, h3, h4⟩ := (cx.ti t i h).inf
  cases hf : P.info? t with
  | none => rw [hf] at hz; cases hz
  | some f =>
    rw [hf] at hz
    simp only [Option.map_some, Option.some.injEq, Prod.mk.injEq] at hz
    exact ⟨f, rfl, hz.2.1, hz.2.2, z, hz.1, h2, h3, h4⟩

theorem ev_rel (h : Rel w0 S0 O g0 g st a w) (x : Operand) : RelV g (st.ev cf x) (a.eval x) := by
  cases x with
  | tmp t =>
    simp only [St.ev, getV_eq, Act.eval]
    cases hv : st.env[t]? with
    | none => simp [List.getD, hv]; trivial
    | some v => simp only [List.getD, hv, Option.getD_some]; exact h.env t v hv
  | const v =>
    simp only [St.ev, Act.eval]
    cases v <;> simp only [constV] <;> first | trivial | exact RelC.bool _ | exact RelC.int _ _ | exact RelC.str _ | exact RelC.ni | exact RelC.nf | skip
    · rename_i p; cases p <;> simp only [] <;> first | trivial | exact RelC.np
    · rename_i p; cases p <;> simp only [] <;> first | trivial | exact RelC.nm
  | func f => exact RelC.fn f [] [] rfl (fun j c u h => by simp at h)
  | global n =>
    simp only [St.ev, Act.eval]
    cases hg : cf.glob n with
    | none => trivial
    | some l => exact RelC.mono h.m.sub (cx.glob n l hg)

omit cx in
theorem nilSlice_eval {x : Operand} (h : isNilSlice x = true) (a : Act) : a.eval x = .slice none 0 0 := by
  unfold isNilSlice at h
  split at h
  · simp at h; obtain ⟨rfl, rfl⟩ := h; rfl
  · cases h

theorem evT_rel (h : Rel w0 S0 O g0 g st a w) (t : TypeId) (x : Operand) : RelV g (st.evT cf t x) (a.eval x) := by
  unfold St.evT
  by_cases hn : isNilSlice x = true
  · rw [hn, nilSlice_eval hn a, cond_true]
    cases esz cf t with
    | none => trivial
    | some sz => exact relC_nil _ sz
  · rw [Bool.not_eq_true] at hn; rw [hn]; exact ev_rel cx h x

omit cx in
theorem wp_val {o : Oper} {v : Value} {w' : World} (hr : (execOp a.eval o).run P w = .ok (.value v) w') {next : Act → World → Prop} {Q : Exit → Act → World → Prop}
    (h : next (a.put o.dst v) w') : o.wp P a w next Q := by
  unfold Oper.wp; rw [hr]; exact h

omit cx in
theorem wp_skip' {o : Oper} {w' : World} (hr : (execOp a.eval o).run P w = .ok .skip w') {next : Act → World → Prop} {Q : Exit → Act → World → Prop}
    (h : next (a.put o.dst undef) w') : o.wp P a w next Q := by
  unfold Oper.wp; rw [hr]; exact h

/-- an operation whose run gives a value and leaves the world -/
theorem isAgg_run {t : TypeId} {i : TI} (h : cf.ti t = some i) (w : World) : (isAgg t).run P w = .ok i.ag w := by
  have := (cx.ti t i h)
  unfold isAgg
  simp only [Sem.run_bind, run_underlying this.und, Result.andThen_ok]
  rw [this.ag]
  cases i.desc <;> rfl

theorem sizeOf_run {t : TypeId} {i : TI} (h : cf.ti t = some i) (w : World) : (Go.sizeOf t).run P w = .ok i.size w := by
  obtain ⟨f, hf, h1, _⟩ := info_of cx h
  simp only [Go.sizeOf, Sem.run_bind, run_typeInfo _ hf, Result.andThen_ok, Sem.run_pure, h1]

theorem zero_run {t : TypeId} {i : TI} (h : cf.ti t = some i) (w : World) : ∃ z, (zeroValue t).run P w = .ok z w ∧ All2 ZRel i.zero z.cells.toList ∧ i.zero.length = i.size ∧ (i.ag = true ↔ z = .agg z.cells) := by
  obtain ⟨f, hf, _, _, z, hz, h2, h3, h4⟩ := info_of cx h
  exact ⟨z, by simp only [zeroValue, Sem.run_bind, run_typeInfo _ hf, Result.andThen_ok, hz, Sem.run_pure], h2, h3, h4⟩

/-- a load from a row of cells that are known -/
theorem load_run {t : TypeId} {i : TI} (h : cf.ti t = some i) {ad : Addr} {us : List Value} {w : World} (hc : ∀ j u, us[j]? = some u → w.cell? (ad.add j) = some u) :
    (i.ag = true → i.size ≤ us.length → (loadVar t ad).run P w = .ok (.agg (us.take i.size).toArray) w) ∧ (i.ag = false → ∀ u, us[0]? = some u → (loadVar t ad).run P w = .ok u w) := by
  refine ⟨fun hag hs => ?_, fun hag u hu => ?_⟩
  · unfold loadVar
    simp only [Sem.run_bind, isAgg_run cx h, Result.andThen_ok, hag, if_true, sizeOf_run cx h]
    have hlen : (us.take i.size).length = i.size := by rw [List.length_take]; omega
    have := run_loadCells_list (P := P) w ad (us.take i.size) (fun j v hj => hc j v (by
      rw [List.getElem?_take] at hj; split at hj
      · exact hj
      · cases hj))
    rw [hlen] at this
    simp only [this, Result.andThen_ok, Sem.run_pure]
  · unfold loadVar
    simp only [Sem.run_bind, isAgg_run cx h, Result.andThen_ok, hag]
    have h0 := hc 0 u hu
    have he : ad.add 0 = ad := by simp [Addr.add]
    rw [he] at h0
    simp [run_load, h0]


omit cx in
theorem cut_rel {i : TI} {m : M} {off : Nat} {us : List Value} {v : T} (hl : RelMx g m us) (hc : cut i.ag i.size m off = some v) :
    (i.ag = true → RelT g v (.agg ((us.drop off).take i.size).toArray) ∧ i.size ≤ (us.drop off).length) ∧ (i.ag = false → ∃ u, (us.drop off)[0]? = some u ∧ RelT g v u) := by
  unfold cut at hc
  have hlen := hl.n
  cases hag : i.ag with
  | true =>
    rw [hag] at hc; simp only [cond_true] at hc
    refine ⟨fun _ => ?_, fun h => by cases h⟩
    by_cases hs : off + i.size ≤ m.n
    · rw [show Nat.ble (off + i.size) m.n = true by simpa [Nat.ble_eq] using hs] at hc; cases hc
      refine ⟨⟨(us.drop off).take i.size, rfl, hl.sub hs⟩, ?_⟩
      rw [List.length_drop]; omega
    · rw [show Nat.ble (off + i.size) m.n = false by rw [Bool.eq_false_iff]; intro h; exact hs (by simpa [Nat.ble_eq] using h)] at hc; cases hc
  | false =>
    rw [hag] at hc; simp only [cond_false] at hc
    refine ⟨fun h => (by cases h), fun _ => ?_⟩
    by_cases hlt : off < m.n
    · rw [show Nat.blt off m.n = true by simpa [Nat.blt_eq] using hlt, cond_true] at hc
      cases hg : m.get off with
      | none => rw [hg] at hc; cases hc
      | some x =>
        rw [hg] at hc; cases hc
        exact ⟨us[off], by simp [hlen, hlt], hl.2 off x _ hg (List.getElem?_eq_getElem (by omega))⟩
    · have : Nat.blt off m.n = false := by rw [Bool.eq_false_iff]; intro h; exact hlt (by simpa [Nat.blt_eq] using h)
      rw [this] at hc; cases hc

omit cx in
theorem cutK_rel {β : Type} {i : TI} {l : List C} {k : T → Option β} {r : β} {us : List Value} (hl : All2 (RelC g.S) l us) (hc : cutK i l k = some r) : ∃ v, k v = some r ∧
    (i.ag = true → RelT g v (.agg (us.take i.size).toArray) ∧ i.size ≤ us.length) ∧ (i.ag = false → ∃ u, us[0]? = some u ∧ RelT g v u) := by
  obtain ⟨v, hk, h1, h2⟩ := cutK_some hc
  refine ⟨v, hk, fun hag => ?_, fun hag => ?_⟩
  · obtain ⟨rfl, hs⟩ := h1 hag
    exact ⟨⟨us.take i.size, rfl, relM_of_all (hl.take _) (by rw [List.length_take]; omega)⟩, by rw [hl.1]; exact hs⟩
  · obtain ⟨c, hc, rfl⟩ := h2 hag
    obtain ⟨u, hu, hr⟩ := hl.get hc
    exact ⟨u, hu, hr⟩

omit cx in
/-- cells of an element of a row -/
theorem elem_cells {w : World} {n : Nat} {e : Option TypeId} {sz : Nat} {els : List (List C)} {mt : Bool} (hb : BoxRel g w n (.arr mt e sz els)) {gb o cnt cap : Nat} (hv : g.sl n = .slice (some ⟨gb, o, none⟩) cnt cap) {i : Nat} {el : List C} (hi : els[i]? = some el) :
    ∃ us : List Value, All2 (RelC g.S) el us ∧ ∀ j u, us[j]? = some u → w.cell? ⟨gb, o + (i * sz + j), none⟩ = some u := by
  obtain ⟨xs, _, _, hown, hfl, _, _⟩ := hb
  obtain ⟨h1, h2⟩ := hfl.2 i el hi
  refine ⟨(xs.drop (i * sz)).take el.length, ⟨?_, fun j c u hc hu => ?_⟩, fun j u hu => ?_⟩
  · have hlt := lt_of hi
    have : (i + 1) * sz ≤ els.length * sz := Nat.mul_le_mul_right _ hlt
    rw [Nat.add_mul, Nat.one_mul] at this
    rw [List.length_take, List.length_drop, hfl.1, h1]; omega
  · obtain ⟨u', hu', hr⟩ := h2 j c hc
    rw [List.getElem?_take] at hu
    split at hu
    · rw [List.getElem?_drop] at hu; rw [hu] at hu'; cases hu'; exact hr
    · cases hu
  · rw [List.getElem?_take] at hu
    split at hu
    · rw [List.getElem?_drop] at hu
      have := own_cells hown (k := gb) (by rw [hv]; rfl) _ u hu
      rw [hv] at this; exact this
    · cases hu

end

section
variable {P : Program} {cf : Cfg} {S0 : Addr → Option Value} {w0 : World} {O : Nat → Prop} (cx : Ctx P cf S0 w0 O)
variable {g0 g : G} {st : St} {a : Act} {w : World}
variable {R : Type} {dr : Bool} {o : Oper} {k : St → Option R} {r : R} {next : Act → World → Prop} {Q : Exit → Act → World → Prop}

/-- what a step must hand on -/
abbrev Hands (w0 : World) (S0 : Addr → Option Value) (O : Nat → Prop) (g0 : G) {R : Type} (k : St → Option R) (r : R) (next : Act → World → Prop) : Prop :=
  ∀ g' st' a' w', Rel w0 S0 O g0 g' st' a' w' → k st' = some r → next a' w'

theorem snd_val {v : V} (hk : k (st.set o.dst v) = some r) (h : Rel w0 S0 O g0 g st a w) (hn : Hands w0 S0 O g0 k r next)
    (hexec : ∃ u, (execOp a.eval o).run P w = .ok (.value u) w ∧ RelV g v u) : o.wp P a w next Q := by
  obtain ⟨u, hr, hu⟩ := hexec
  exact wp_val hr (hn _ _ _ _ (h.put hu) hk)


/-- a value, and boxes that turned -/
theorem snd_more {v : V} {bx' : Bx} {g' : G} (hm : More g g') (hR : RelM w0 S0 O g' bx' w) (hk : k (({ st with bx := bx' } : St).set o.dst v) = some r) (h : Rel w0 S0 O g0 g st a w) (hn : Hands w0 S0 O g0 k r next)
    (hexec : ∃ u, (execOp a.eval o).run P w = .ok (.value u) w ∧ RelV g' v u) : o.wp P a w next Q := by
  obtain ⟨u, hr, hu⟩ := hexec
  exact wp_val hr (hn _ _ _ _ ((h.more hm hR).put hu) hk)

include cx
/-- a load from cells that are known -/
theorem snd_load1 {t : TypeId} {i : TI} {x : Operand} (ho : o.op = .load t x) (hi : cf.ti t = some i) {ad : Addr} (hea : a.eval x = .pointer (some ad)) {us : List Value}
    (hcell : ∀ j u, us[j]? = some u → w.cell? (ad.add j) = some u) {v : T} (hw : (i.ag = true → RelT g v (.agg (us.take i.size).toArray) ∧ i.size ≤ us.length) ∧ (i.ag = false → ∃ u, us[0]? = some u ∧ RelT g v u)) :
    ∃ u, (execOp a.eval o).run P w = .ok (.value u) w ∧ RelT g v u := by
  have hl := load_run cx hi hcell
  have hexec : (execOp a.eval o).run P w = ((Instr.loadAt t (a.eval x)).run P w).andThen fun v w => .ok (.value v) w := by
    unfold execOp; simp only [ho, Sem.run_bind, Sem.run_pure]
  rw [hexec, hea]
  simp only [Instr.loadAt, Instr.sureAddr, Sem.run_bind, Sem.run_pure, Result.andThen_ok]
  cases hag : i.ag with
  | true => obtain ⟨h1, h2⟩ := hw.1 hag; rw [hl.1 hag h2]; exact ⟨_, rfl, h1⟩
  | false => obtain ⟨u, h1, h2⟩ := hw.2 hag; rw [hl.2 hag u h1]; exact ⟨u, rfl, h2⟩

omit cx in
theorem ip_cells {S : Addr → Option Value} {l : List C} {u : Value} (h : RelC S (.ip l) u) (hS : ∀ a v, S a = some v → w.cell? a = some v) :
    ∃ (ad : Addr) (us : List Value), u = .pointer (some ad) ∧ All2 (RelC S) l us ∧ ∀ j u, us[j]? = some u → w.cell? (ad.add j) = some u := by
  cases h with
  | ip l ad uf hsp hS' hr =>
    refine ⟨ad, (List.range l.length).map uf, rfl, ⟨by simp, fun j c u hc hu => ?_⟩, fun j u hu => ?_⟩
    · simp only [List.getElem?_map, Option.map_eq_some_iff] at hu
      obtain ⟨i', hi', rfl⟩ := hu
      have hlt : j < l.length := lt_of hc
      have : i' = j := by simpa [hlt] using hi'.symm
      subst this
      exact hr i' c hc
    · simp only [List.getElem?_map, Option.map_eq_some_iff] at hu
      obtain ⟨i', hi', rfl⟩ := hu
      have hlt : j < l.length := by simpa using (List.getElem?_eq_some_iff.1 hi').1
      have : i' = j := by simpa [hlt] using hi'.symm
      subst this
      exact hS _ _ (hS' i' _ (List.getElem?_eq_getElem hlt))

theorem snd_load {t : TypeId} {x : Operand} (ho : o.op = .load t x) (hv : vLoad cf o t x k st = some r) (h : Rel w0 S0 O g0 g st a w) (hn : Hands w0 S0 O g0 k r next) : o.wp P a w next Q := by
  unfold vLoad at hv
  cases hi : cf.ti t with
  | none => rw [hi] at hv; cases hv
  | some i =>
    rw [hi] at hv; simp only at hv
    have he := ev_rel cx h x
    generalize hev : st.ev cf x = e at hv he
    match e, hv, he with
    | .t (.w (.ptr b off)), hv, he =>
      simp only at hv
      generalize hb : st.bx.getD b none = bb at hv
      match bb, hv with
      | some (.cells m), hv =>
        simp only at hv
        cases hc : cut i.ag i.size m off with
        | none => rw [hc] at hv; cases hv
        | some v =>
          rw [hc] at hv; simp only at hv
          obtain ⟨_, cs, e, hh, hcs⟩ := h.m.box b _ (getD_some hb)
          refine snd_val (v := .t v) hv h hn (snd_load1 cx ho hi he.2 (us := cs.drop off) (fun j u hj => ?_) (cut_rel hcs hc))
          rw [add_plain', cell_of_row w (g.bx b) (off + j) cs.toArray e (0, 0) hh]
          simpa using hj
    | .t (.w (.ea b n sz0 off)), hv, he =>
      simp only at hv
      generalize hb : st.bx.getD b none = bb at hv
      match bb, hv with
      | some (.arr mt e sz els), hv =>
        simp only at hv
        by_cases hs : sz0 = sz
        case neg => rw [beq_false_of_ne hs] at hv; cases hv
        subst hs
        rw [beq_self_eq_true, cond_true] at hv
        unfold getT at hv
        cases hel : els[n]? with
        | none => rw [hel] at hv; cases hv
        | some el =>
          rw [hel] at hv; simp only at hv
          obtain ⟨_, gb, o, cnt, cap, hsl, hea⟩ := he
          obtain ⟨us, hus, hcell⟩ := elem_cells (h.m.box b _ (getD_some hb)).2 hsl hel
          obtain ⟨v, hv, hw⟩ := cutK_rel (hus.drop off) hv
          refine snd_val (v := .t v) hv h hn (snd_load1 cx ho hi hea (us := us.drop off) (fun j u hj => ?_) hw)
          rw [add_plain', Nat.add_assoc, Nat.add_assoc]
          exact hcell _ u (by simpa using hj)
    | .t (.w (.d (.ip l))), hv, he =>
      simp only at hv
      obtain ⟨ad, us, hea, hus, hcell⟩ := ip_cells he h.m.mem
      obtain ⟨v, hv, hw⟩ := cutK_rel hus hv
      exact snd_val (v := .t v) hv h hn (snd_load1 cx ho hi hea hcell hw)


theorem snd_move {x : Operand} (ho : o.op = .move x) (hv : vop cf dr o k st = some r) (h : Rel w0 S0 O g0 g st a w) (hn : Hands w0 S0 O g0 k r next) : o.wp P a w next Q := by
  unfold vop at hv; rw [ho] at hv
  exact snd_val hv h hn ⟨a.eval x, by unfold execOp; simp only [ho, Sem.run_pure], evT_rel cx h _ _⟩

theorem snd_pick {c x y : Operand} (ho : o.op = .pick c x y) (hv : vop cf dr o k st = some r) (h : Rel w0 S0 O g0 g st a w) (hn : Hands w0 S0 O g0 k r next) : o.wp P a w next Q := by
  unfold vop at hv; rw [ho] at hv; simp only at hv
  have he := ev_rel cx h c
  generalize st.ev cf c = e at hv he
  match e, hv, he with
  | .t (.w (.d (.bool t))), hv, he =>
    have hb := relC_bool he
    refine snd_val hv h hn ⟨if t then a.eval x else a.eval y, by unfold execOp; simp only [ho, Sem.run_bind, hb, asBool, Sem.run_pure, Result.andThen_ok], ?_⟩
    cases t
    · exact evT_rel cx h _ _
    · exact evT_rel cx h _ _

theorem snd_nilCheck {x : Operand} (ho : o.op = .nilCheck x) (hv : vop cf dr o k st = some r) (h : Rel w0 S0 O g0 g st a w) (hn : Hands w0 S0 O g0 k r next) : o.wp P a w next Q := by
  unfold vop at hv; rw [ho] at hv; simp only at hv
  have he := ev_rel cx h x
  generalize st.ev cf x = e at hv he
  match e, hv, he with
  | .t (.w (.ptr b off)), hv, he =>
    have hb : a.eval x = .pointer (some ⟨g.bx b, off, none⟩) := he.2
    exact snd_val hv h hn ⟨a.eval x, by unfold execOp; simp only [ho, hb, Sem.run_pure], he⟩
  | .t (.w (.ea b n sz off)), hv, he =>
    obtain ⟨_, gb, o, cnt, cap, _, hb⟩ := id he
    exact snd_val hv h hn ⟨a.eval x, by unfold execOp; simp only [ho, hb, Sem.run_pure], he⟩
  | .t (.w (.d (.ip l))), hv, he =>
    have he' : RelC g.S (.ip l) (a.eval x) := he
    generalize hq : a.eval x = q at he'
    cases he' with
    | ip l ad uf hsp hS hr => exact snd_val hv h hn ⟨.pointer (some ad), by unfold execOp; simp only [ho, hq, Sem.run_pure], RelC.ip l ad uf hsp hS hr⟩
  | .t (.w (.d (.fn f l))), hv, he =>
    have he' : RelC g.S (.fn f l) (a.eval x) := he
    generalize hq : a.eval x = q at he'
    cases he' with
    | fn f l us hl hh => exact snd_val hv h hn ⟨.func (.func f) #[] us.toArray, by unfold execOp; simp only [ho, hq, Sem.run_pure], RelC.fn f l us hl hh⟩
  | .t (.w (.clo f l)), hv, he =>
    have hb := he.2
    exact snd_val hv h hn ⟨a.eval x, by unfold execOp; simp only [ho, hb, Sem.run_pure], he⟩

theorem snd_un {op : UnOp} {t : TypeId} {x : Operand} (ho : o.op = .unOp op t x) (hv : vop cf dr o k st = some r) (h : Rel w0 S0 O g0 g st a w) (hn : Hands w0 S0 O g0 k r next) : o.wp P a w next Q := by
  unfold vop at hv; rw [ho] at hv; simp only [vUn] at hv
  have he := ev_rel cx h x
  generalize st.ev cf x = e at hv he
  match op, e, hv, he with
  | .not, .t (.w (.d (.bool b))), hv, he =>
    have hb := relC_bool he
    exact snd_val hv h hn ⟨.bool (!b), by unfold execOp; simp only [ho, Sem.run_bind, hb, Op.unary, Sem.run_pure, Result.andThen_ok], RelC.bool _⟩
  | .neg, .t (.w (.d (.int kx n))), hv, he =>
    have hb := relC_int he
    exact snd_val hv h hn ⟨.int kx (kx.wrap (0 - n)), by unfold execOp; simp only [ho, Sem.run_bind, hb, Op.unary, Op.intArith, Sem.run_pure, Result.andThen_ok], RelC.int _ _⟩

theorem snd_extract {x : Operand} {i : Nat} (ho : o.op = .extract x i) (hv : vop cf dr o k st = some r) (h : Rel w0 S0 O g0 g st a w) (hn : Hands w0 S0 O g0 k r next) : o.wp P a w next Q := by
  unfold vop at hv; rw [ho] at hv; simp only [vExtract] at hv
  have he := ev_rel cx h x
  generalize st.ev cf x = e at hv he
  match e, hv, he with
  | .tup l, hv, he =>
    simp only at hv
    obtain ⟨us, hu, hall⟩ := he
    cases hl : l[i]? with
    | none => rw [hl] at hv; cases hv
    | some v =>
      rw [hl] at hv; simp only at hv
      obtain ⟨u, hu2, hr⟩ := hall.get hl
      have hu3 : us.toArray[i]? = some u := by simpa using hu2
      exact snd_val hv h hn ⟨u, by unfold execOp; simp only [ho, Sem.run_bind, hu, Instr.extract, hu3, Sem.run_pure, Result.andThen_ok], hr⟩

omit cx in
theorem run_intOp {op : BinOp} {kx : IntKind} {x y : Int} {c : C} (h : intOp op kx x y = some c) (w : World) :
    ∃ u, (binOp op 0 (.int kx x) (.int kx y)).run P w = .ok u w ∧ ∀ S, RelC S c u := by
  unfold intOp at h
  cases op <;> simp only [Option.some.injEq] at h <;> first
    | (subst h; exact ⟨_, by simp only [binOp, ne_eq, not_true_eq_false, if_false, Op.intArith, Op.intCmp, Sem.run_pure]; rfl, fun S => by first | exact .int _ _ | exact .bool _⟩)
    | skip
  all_goals first
    | (cases h; done)
    | (by_cases hy : y = 0
       · subst hy; simp at h
       · have hb : (y == 0) = false := by simpa using hy
         rw [hb] at h; simp only [cond_false, Option.some.injEq] at h; subst h
         exact ⟨_, by simp only [binOp, ne_eq, not_true_eq_false, if_false, Op.intDiv, hy, Sem.run_pure], fun S => .int _ _⟩)

omit cx in
theorem run_strOp {op : BinOp} {x y : ByteArray} {c : C} (h : strOp op x y = some c) (w : World) :
    ∃ u, (binOp op 0 (.string x) (.string y)).run P w = .ok u w ∧ ∀ S, RelC S c u := by
  unfold strOp at h
  cases op
  case add =>
    simp only at h
    by_cases hy : ((x.size + y.size : Nat) : Int) > IntKind.i64.max
    · rw [decide_eq_true hy] at h; cases h
    · rw [decide_eq_false hy] at h; cases h
      exact ⟨.string (x ++ y), by simp only [binOp, Op.stringOp, hy, if_false, Sem.run_pure], fun S => .str _⟩
  all_goals first
    | (cases h; done)
    | (cases h; exact ⟨_, rfl, fun S => .bool _⟩)

omit cx in
theorem binOp_int_type (op : BinOp) (t t' : TypeId) (kx ky : IntKind) (x y : Int) : binOp op t (.int kx x) (.int ky y) = binOp op t' (.int kx x) (.int ky y) := by
  unfold binOp; cases op <;> rfl
omit cx in
theorem binOp_str_type (op : BinOp) (t t' : TypeId) (x y : ByteArray) : binOp op t (.string x) (.string y) = binOp op t' (.string x) (.string y) := by
  unfold binOp; cases op <;> rfl

theorem eqW_run {t : TypeId} {i : TI} {x y : Operand} {p q : W} {e : Bool} {u v : Value} (hti : cf.ti t = some i) (he : eqW i.desc y p q = some e) (hp : RelW g p u) (hq : RelW g q v) (op : BinOp) :
    (Op.equal t u v).run P w = .ok e w ∧ (eqGuard op t x y u v).run P w = .ok () w := by
  have hu := (cx.ti t i hti).und
  generalize hd : i.desc = d at he hu
  have hg : ∀ a b : Value, (a = .nilIface → b = .nilIface → ∃ c, y = .const c) → (∀ m n, a = .agg m → b ≠ .agg n) → (eqGuard op t x y a b).run P w = .ok () w := by
    intro a b h1 h2
    unfold eqGuard
    cases op <;> try rfl
    all_goals
      cases a <;> first | rfl | skip
      all_goals cases b <;> first | rfl | skip
      all_goals first
        | (obtain ⟨c, rfl⟩ := h1 rfl rfl; cases x <;> rfl)
        | exact absurd rfl (h2 _ _ rfl)
  match d, p, q, he, hp, hq with
  | .pointer el, .ptr b off, .d .np, he, hp, hq =>
    cases he; obtain ⟨_, rfl⟩ := hp; cases hq
    exact ⟨by unfold Op.equal Op.maxDepth Op.equalIn; simp only [Sem.run_bind, run_underlying hu, Result.andThen_ok, Sem.run_pure], hg _ _ (fun h => by cases h) (fun _ _ h => by cases h)⟩
  | .pointer el, .ea b n sz off, .d .np, he, hp, hq =>
    cases he; obtain ⟨_, gb, o0, cnt, cap, _, rfl⟩ := hp; cases hq
    exact ⟨by unfold Op.equal Op.maxDepth Op.equalIn; simp only [Sem.run_bind, run_underlying hu, Result.andThen_ok, Sem.run_pure], hg _ _ (fun h => by cases h) (fun _ _ h => by cases h)⟩
  | .pointer el, .d (.ip l), .d .np, he, hp, hq =>
    cases he; cases hq; cases hp
    exact ⟨by unfold Op.equal Op.maxDepth Op.equalIn; simp only [Sem.run_bind, run_underlying hu, Result.andThen_ok, Sem.run_pure], hg _ _ (fun h => by cases h) (fun _ _ h => by cases h)⟩
  | .pointer el, .d .np, .d .np, he, hp, hq =>
    cases he; cases hp; cases hq
    exact ⟨by unfold Op.equal Op.maxDepth Op.equalIn; simp only [Sem.run_bind, run_underlying hu, Result.andThen_ok, Sem.run_pure, Option.isNone_none], hg _ _ (fun h => by cases h) (fun _ _ h => by cases h)⟩
  | .interface ms, .d (.ifc t' ag l), .d .ni, he, hp, hq =>
    cases he; cases hq
    cases hp <;> exact ⟨by unfold Op.equal Op.maxDepth Op.equalIn; simp only [Sem.run_bind, run_underlying hu, Result.andThen_ok, Sem.run_pure], hg _ _ (fun h => by cases h) (fun _ _ h => by cases h)⟩
  | .interface ms, .d .ni, .d .ni, he, hp, hq =>
    cases hp; cases hq
    simp only [eqW] at he
    cases y with
    | const c =>
      cases he
      exact ⟨by unfold Op.equal Op.maxDepth Op.equalIn; simp only [Sem.run_bind, run_underlying hu, Result.andThen_ok, Sem.run_pure], hg _ _ (fun _ _ => ⟨c, rfl⟩) (fun _ _ h => by cases h)⟩
    | _ => cases he
  | .interface ms, .d (.er n t' gs), .d .ni, he, hp, hq =>
    cases hq
    simp only [eqW] at he
    cases y with
    | const c =>
      cases he
      cases hp with
      | er0 => exact ⟨by unfold Op.equal Op.maxDepth Op.equalIn; simp only [Sem.run_bind, run_underlying hu, Result.andThen_ok, Sem.run_pure]; rfl, hg _ _ (fun _ _ => ⟨c, rfl⟩) (fun _ _ h => by cases h)⟩
      | er1 => exact ⟨by unfold Op.equal Op.maxDepth Op.equalIn; simp only [Sem.run_bind, run_underlying hu, Result.andThen_ok, Sem.run_pure]; rfl, hg _ _ (fun h => by cases h) (fun _ _ h => by cases h)⟩
    | _ => cases he

omit cx in
theorem binOp_cells (t : TypeId) {p : W} {d : TypeDesc} {y : Operand} {q : W} {e : Bool} {u v : Value} (he : eqW d y p q = some e) (hp : RelW g p u) (hq : RelW g q v) :
    binOp .eql t u v = (do pure (.bool (← Op.equal t u v))) ∧ binOp .neq t u v = (do pure (.bool (!(← Op.equal t u v)))) := by
  match d, p, q, he, hp, hq with
  | .pointer el, .ptr b off, .d .np, he, hp, hq => obtain ⟨_, rfl⟩ := hp; cases hq; exact ⟨rfl, rfl⟩
  | .pointer el, .ea b n sz off, .d .np, he, hp, hq => obtain ⟨_, gb, o0, cnt, cap, _, rfl⟩ := hp; cases hq; exact ⟨rfl, rfl⟩
  | .pointer el, .d (.ip l), .d .np, he, hp, hq => cases hq; cases hp; exact ⟨rfl, rfl⟩
  | .pointer el, .d .np, .d .np, he, hp, hq => cases hp; cases hq; exact ⟨rfl, rfl⟩
  | .interface ms, .d (.ifc t' ag l), .d .ni, he, hp, hq => cases hq; cases hp <;> exact ⟨rfl, rfl⟩
  | .interface ms, .d .ni, .d .ni, he, hp, hq => cases hp; cases hq; exact ⟨rfl, rfl⟩
  | .interface ms, .d (.er n t' gs), .d .ni, he, hp, hq => cases hq; cases hp <;> exact ⟨rfl, rfl⟩

theorem eqC_run {t : TypeId} {i : TI} (hti : cf.ti t = some i) (d : Nat) {x y : C} {u v : Value} {b : Bool} (he : eqC i.desc x y = some b) (hu : RelC g.S x u) (hv : RelC g.S y v) : (Op.equalIn (d + 1) t u v).run P w = .ok b w := by
  have hund := (cx.ti t i hti).und
  generalize i.desc = ds at he hund
  match ds, x, y, he with
  | .int kd, .int k a, .int j c, he =>
    simp only [eqC] at he
    by_cases hk : k = j
    · subst hk
      rw [decide_eq_true rfl, cond_true] at he
      cases he
      have h1 := relC_int hu; have h2 := relC_int hv
      rw [h1, h2]
      exact run_equalIn_int w d t k kd a c hund
    · rw [decide_eq_false hk] at he; cases he
  | .bool, .bool a, .bool c, he =>
    cases he
    have h1 := relC_bool hu; have h2 := relC_bool hv
    rw [h1, h2]
    exact run_equalIn_bool' w d t a c hund
  | .string, .str a, .str c, he =>
    cases he
    have h1 := relC_str hu; have h2 := relC_str hv
    rw [h1, h2]
    exact run_equalIn_string w d t a c hund
/-- fields that are plain cells, compared one by one -/
theorem eqFields_run {us vs : List Value} (d : Nat) : ∀ (fs : List Field) (L M : List C) (j : Nat) (e : Bool), All2 (RelC g.S) L (us.drop j) → All2 (RelC g.S) M (vs.drop j) →
    eqCs cf j fs L M = some e → (Op.eqFields (d + 1) us.toArray vs.toArray fs).run P w = .ok e w := by
  intro fs
  induction fs with
  | nil =>
    intro L M j e hL hM he
    match L, M, he with
    | [], [], he =>
      cases he
      simp only [Op.eqFields, Sem.run_pure]
  | cons f r ih =>
    intro L M j e hL hM he
    match L, M, he with
    | x :: L, y :: M, he =>
      simp only [eqCs] at he
      cases hc : (f.name != "_" && Nat.beq f.offset j) with
      | false => rw [hc] at he; cases he
      | true =>
        rw [hc, cond_true] at he
        simp only [Bool.and_eq_true, bne_iff_ne, ne_eq] at hc
        obtain ⟨hn, ho⟩ := hc
        have ho := Nat.eq_of_beq_eq_true ho
        cases hti : cf.ti f.type with
        | none => rw [hti] at he; cases he
        | some i =>
          rw [hti] at he
          simp only at he
          cases hag : i.ag with
          | true => rw [hag] at he; cases he
          | false =>
            rw [hag, cond_false] at he
            have hL1 := hL.get (j := 0) (x := x) rfl
            have hM1 := hM.get (j := 0) (x := y) rfl
            obtain ⟨u, hu, hcu⟩ := hL1
            obtain ⟨v, hv, hcv⟩ := hM1
            have pu : (part f.type us.toArray f.offset).run P w = .ok u w := by
              rw [List.getElem?_drop, Nat.add_zero] at hu
              rw [ho]
              unfold part
              simp only [Sem.run_bind, isAgg_run cx hti, hag, Result.andThen_ok, Bool.false_eq_true, if_false]
              simp [hu]
            have pv : (part f.type vs.toArray f.offset).run P w = .ok v w := by
              rw [List.getElem?_drop, Nat.add_zero] at hv
              rw [ho]
              unfold part
              simp only [Sem.run_bind, isAgg_run cx hti, hag, Result.andThen_ok, Bool.false_eq_true, if_false]
              simp [hv]
            cases hx : eqC i.desc x y with
            | none => rw [hx] at he; cases he
            | some b =>
              cases hy : eqCs cf (j + 1) r L M with
              | none => rw [hx, hy] at he; cases he
              | some c =>
                rw [hx, hy] at he
                simp only [Option.some.injEq] at he
                have d1 : us.drop (j + 1) = (us.drop j).drop 1 := by rw [List.drop_drop]
                have d2 : vs.drop (j + 1) = (vs.drop j).drop 1 := by rw [List.drop_drop]
                have hrest := ih L M (j + 1) c (by rw [d1]; exact hL.drop 1) (by rw [d2]; exact hM.drop 1) hy
                have heq := eqC_run (w := w) cx hti d hx hcu hcv
                have hn' : f.name ≠ "_" := hn
                unfold Op.eqFields
                rw [if_pos hn']
                simp only [Sem.run_bind, pu, pv, heq, Result.andThen_ok]
                cases b with
                | true => simp [hrest, ← he]
                | false => simp [← he]
theorem snd_bin {op : BinOp} {t t2 : TypeId} {x y : Operand} (ho : o.op = .binOp op t x y t2) (hv : vop cf dr o k st = some r) (h : Rel w0 S0 O g0 g st a w) (hn : Hands w0 S0 O g0 k r next) : o.wp P a w next Q := by
  unfold vop at hv; rw [ho] at hv; simp only at hv
  have hx := ev_rel cx h x
  have hy := ev_rel cx h y
  unfold vBin at hv
  split at hv
  · rename_i kx p ky q e1 e2
    rw [e1] at hx; rw [e2] at hy
    have h1 := relC_int hx; have h2 := relC_int hy
    by_cases hk : kx = ky
    · subst hk
      simp only [decide_true, cond_true] at hv
      rw [intOpK_eq] at hv
      cases hc : intOp op kx p q with
      | none => rw [hc] at hv; cases hv
      | some c =>
        rw [hc] at hv; simp only at hv
        obtain ⟨u, hr, hu⟩ := run_intOp (P := P) hc w
        refine snd_val hv h hn ⟨u, ?_, hu _⟩
        have hg : (eqGuard op t x y (.int kx p) (.int kx q)).run P w = .ok () w := by
          unfold eqGuard; cases op <;> rfl
        unfold execOp
        simp only [ho, Sem.run_bind, h1, h2, hg, Result.andThen_ok, binOp_int_type op t 0 kx kx p q, hr, Sem.run_pure]
    · simp [hk] at hv
  · rename_i p q e1 e2
    rw [e1] at hx; rw [e2] at hy
    have h1 := relC_str hx; have h2 := relC_str hy
    rw [strOpK_eq] at hv
    cases hc : strOp op p q with
    | none => rw [hc] at hv; cases hv
    | some c =>
      rw [hc] at hv; simp only at hv
      obtain ⟨u, hr, hu⟩ := run_strOp (P := P) hc w
      refine snd_val hv h hn ⟨u, ?_, hu _⟩
      have hg : (eqGuard op t x y (.string p) (.string q)).run P w = .ok () w := by
        unfold eqGuard; cases op <;> rfl
      unfold execOp
      simp only [ho, Sem.run_bind, h1, h2, hg, Result.andThen_ok, binOp_str_type op t 0 p q, hr, Sem.run_pure]
  · rename_i p q e1 e2
    rw [e1] at hx; rw [e2] at hy
    have h1 := relC_bool hx; have h2 := relC_bool hy
    have key : ∀ i, cf.ti t = some i → i.desc = .bool → P.underlying t = some .bool := fun i hi hd => by have := (cx.ti t i hi).und; rw [hd] at this; exact this
    generalize hti : cf.ti t = ti at hv
    match ti, op, hv with
    | some { desc := .bool, .. }, .eql, hv =>
      have hu := key _ hti rfl
      refine snd_val hv h hn ⟨_, ?_, RelC.bool _⟩
      unfold execOp
      simp only [ho, Sem.run_bind, h1, h2]
      have hg : (eqGuard .eql t x y (.bool p) (.bool q)).run P w = .ok () w := rfl
      simp only [hg, Result.andThen_ok, binOp, Op.equal, Op.maxDepth, Sem.run_bind, Sem.run_pure]
      unfold Op.equalIn
      simp only [Sem.run_bind, run_underlying hu, Result.andThen_ok, Sem.run_pure]
    | some { desc := .bool, .. }, .neq, hv =>
      have hu := key _ hti rfl
      refine snd_val hv h hn ⟨_, ?_, RelC.bool _⟩
      unfold execOp
      simp only [ho, Sem.run_bind, h1, h2]
      have hg : (eqGuard .neq t x y (.bool p) (.bool q)).run P w = .ok () w := rfl
      simp only [hg, Result.andThen_ok, binOp, Op.equal, Op.maxDepth, Sem.run_bind, Sem.run_pure]
      unfold Op.equalIn
      simp only [Sem.run_bind, run_underlying hu, Result.andThen_ok, Sem.run_pure]
  · rename_i la na lb nb e1 e2
    rw [e1] at hx; rw [e2] at hy
    obtain ⟨us, hus, hru⟩ := hx
    obtain ⟨vs, hvs, hrv⟩ := hy
    unfold vBinS at hv
    generalize hti : cf.ti t = ti at hv
    match ti, hv with
    | some ⟨.struct fs, z1, z2, z3, z4, z5⟩, hv =>
      simp only at hv
      cases hq : cf.eqs t with
      | false => rw [hq] at hv; cases hv
      | true =>
        rw [hq, cond_true] at hv
        obtain ⟨hst, hgt⟩ := cx.eq t hq
        have hund := (cx.ti t _ hti).und
        have hfo : P.fieldsOf t = fs := by unfold Program.fieldsOf; rw [hund]
        cases he : eqCs cf 0 fs.toList la lb with
        | none => rw [he] at hv; cases hv
        | some e =>
          rw [he] at hv; simp only at hv
          have hrun : (Op.equalIn 10000 t (.agg us.toArray) (.agg vs.toArray)).run P w = .ok e w := by
            rw [run_equalIn_struct w 9999 t _ _ (by rw [hfo]; exact hund) hst, hfo]
            exact eqFields_run cx 9998 fs.toList la lb 0 e (all_of_relM hru) (all_of_relM hrv) he
          cases op with
          | eql =>
            refine snd_val hv h hn ⟨_, ?_, RelC.bool _⟩
            unfold execOp
            simp only [ho, Sem.run_bind, hus, hvs, run_eqGuard_agg w .eql t x y _ _ hgt, Result.andThen_ok, run_eql_struct, hrun, Sem.run_pure]
          | neq =>
            refine snd_val hv h hn ⟨_, ?_, RelC.bool _⟩
            unfold execOp
            simp only [ho, Sem.run_bind, hus, hvs, run_eqGuard_agg w .neq t x y _ _ hgt, Result.andThen_ok, run_neq_struct, hrun, Sem.run_pure]
          | _ => cases hv
  · unfold vBinP at hv
    generalize hti : cf.ti t = ti at hv
    generalize hea : st.ev cf x = ea at hv hx
    generalize heb : st.ev cf y = eb at hv hy
    match ti, ea, eb, hv, hx, hy with
    | some i, .t (.w p), .t (.w q), hv, hx, hy =>
      simp only at hv
      cases he : eqW i.desc y p q with
      | none => rw [he] at hv; cases hv
      | some e =>
        rw [he] at hv; simp only at hv
        have hb := binOp_cells t he hx hy
        cases op with
        | eql =>
          obtain ⟨h1, h2⟩ := eqW_run (P := P) (w := w) cx (x := x) hti he hx hy .eql
          refine snd_val hv h hn ⟨_, ?_, RelC.bool _⟩
          unfold execOp
          simp only [ho, Sem.run_bind, h2, Result.andThen_ok, hb.1, h1, Sem.run_pure]
        | neq =>
          obtain ⟨h1, h2⟩ := eqW_run (P := P) (w := w) cx (x := x) hti he hx hy .neq
          refine snd_val hv h hn ⟨_, ?_, RelC.bool _⟩
          unfold execOp
          simp only [ho, Sem.run_bind, h2, Result.andThen_ok, hb.2, h1, Sem.run_pure]
        | _ => cases hv

theorem snd_makeIface {t : TypeId} {x : Operand} (ho : o.op = .makeInterface t x) (hv : vop cf dr o k st = some r) (h : Rel w0 S0 O g0 g st a w) (hn : Hands w0 S0 O g0 k r next) : o.wp P a w next Q := by
  unfold vop at hv; rw [ho] at hv; simp only [vMakeIface] at hv
  have he := evT_rel cx h t x
  generalize ht : cf.ti t = ti at hv
  generalize st.evT cf t x = e at hv he
  match ti, e, hv, he with
  | some i, .t v, hv, he =>
    simp only at hv
    have hd : ∀ ms, i.desc ≠ .interface ms := by
      intro ms hm; rw [hm] at hv; simp at hv
    have hu := (cx.ti t i ht).und
    have hrun : (execOp a.eval o).run P w = .ok (.value (.iface t (a.eval x))) w := by
      unfold execOp
      simp only [ho, Sem.run_bind, Instr.makeInterface, run_underlying hu, Result.andThen_ok]
      generalize i.desc = dd at hd
      cases dd <;> first | rfl | (exact absurd rfl (hd _))
    have hv2 : ∃ l ln bx, frzT dr v st.bx = some ((l, ln), bx) ∧ k (({ st with bx := bx } : St).set o.dst (vc (.ifc t v.isAgg l))) = some r := by
      generalize i.desc = dd at hd hv
      generalize frzT dr v st.bx = q at hv ⊢
      cases dd <;> first | (exact absurd rfl (hd _)) | (rcases q with _ | ⟨⟨l, ln⟩, bx⟩ <;> simp at hv; exact ⟨_, _, _, rfl, hv⟩)
    obtain ⟨l, ln, bx, hl, hv2⟩ := hv2
    obtain ⟨g', hm, hR, _, _, hall0⟩ := frzT_rel hl h.m
    refine snd_more hm hR hv2 h hn ⟨_, hrun, ?_⟩
    have hall := (hall0 _ he).1
    clear hall0
    cases v with
    | w y =>
      have h1 := RelW.one he
      rw [oneCell_cells h1] at hall
      have hl1 := hall.1
      match l, hl1, hall with
      | [c], _, hall => exact RelC.ifc1 t c _ hall.head
    | agg ws =>
      obtain ⟨us, hus, _⟩ := he
      rw [hus] at hall ⊢
      exact RelC.ifcA t l us (by simpa [Value.cells] using hall.1) (fun j c u hc hu => hall.2 j c u hc (by simpa [Value.cells] using hu))
end
end Vm

/- Vm, part G: each operation of the interpreter is the model's (2): boxes, places. -/
namespace Vm
open Go

theorem splice_get {α : Type} {l v : List α} {o : Nat} (h : o + v.length ≤ l.length) (p : Nat) : (l.take o ++ v ++ l.drop (o + v.length))[p]? = if o ≤ p ∧ p < o + v.length then v[p - o]? else l[p]? := by
  have h1 : (l.take o).length = o := by rw [List.length_take]; omega
  rw [List.append_assoc]
  by_cases hp : p < o
  · rw [if_neg (by omega), List.getElem?_append_left (by omega), List.getElem?_take, if_pos hp]
  · rw [List.getElem?_append_right (by omega), h1]
    by_cases hq : p < o + v.length
    · rw [if_pos ⟨by omega, hq⟩, List.getElem?_append_left (by omega)]
    · rw [if_neg (by omega), List.getElem?_append_right (by omega), List.getElem?_drop]
      congr 1; omega

theorem splice_len {α : Type} {l v : List α} {o : Nat} (h : o + v.length ≤ l.length) : (l.take o ++ v ++ l.drop (o + v.length)).length = l.length := by simp; omega

/-- a write into an element -/
theorem Flat.set {S : Addr → Option Value} {sz : Nat} {els : List (List C)} {xs : List Value} (h : Flat S sz els xs) {n : Nat} {el cs : List C} {vals : List Value} (hn : els[n]? = some el) (hv : All2 (RelC S) cs vals) {off : Nat} (ho : off + cs.length ≤ sz) :
    n * sz + off + vals.length ≤ xs.length ∧ Flat S sz (els.set n (putL el off cs)) (xs.take (n * sz + off) ++ vals ++ xs.drop (n * sz + off + vals.length)) := by
  have hlt := lt_of hn
  have hb : (n + 1) * sz ≤ els.length * sz := Nat.mul_le_mul_right _ hlt
  rw [Nat.add_mul, Nat.one_mul] at hb
  have hvl := hv.1
  have hle : n * sz + off + vals.length ≤ xs.length := by rw [h.1]; omega
  obtain ⟨hel, _⟩ := h.2 n el hn
  refine ⟨hle, by rw [splice_len hle, h.1]; simp, fun i e hi => ?_⟩
  by_cases hni : n = i
  · subst hni
    rw [List.getElem?_set_self hlt] at hi; cases hi
    refine ⟨by unfold putL; rw [splice_len (by omega), hel], fun j c hj => ?_⟩
    unfold putL at hj
    rw [splice_get (by omega)] at hj
    rw [splice_get hle]
    have hjs : j < sz := by
      split at hj
      · omega
      · have := lt_of hj; omega
    split at hj
    · rename_i hc
      rw [if_pos (by omega)]
      obtain ⟨u, hu, hr⟩ := hv.get hj
      exact ⟨u, by rw [← hu]; congr 1; omega, hr⟩
    · rename_i hc
      rw [if_neg (by omega)]
      exact (h.2 n el hn).2 j c hj
  · rw [List.getElem?_set_ne hni] at hi
    refine ⟨(h.2 i e hi).1, fun j c hj => ?_⟩
    obtain ⟨u, hu, hr⟩ := (h.2 i e hi).2 j c hj
    refine ⟨u, ?_, hr⟩
    rw [splice_get hle, if_neg, hu]
    rintro ⟨h1, h2⟩
    have hjs : j < sz := by have := lt_of hj; rw [(h.2 i e hi).1] at this; exact this
    rcases Nat.lt_or_ge i n with h3 | h3
    · have : (i + 1) * sz ≤ n * sz := Nat.mul_le_mul_right _ h3
      rw [Nat.add_mul, Nat.one_mul] at this; omega
    · have : (n + 1) * sz ≤ i * sz := Nat.mul_le_mul_right _ (by omega)
      rw [Nat.add_mul, Nat.one_mul] at this; omega

section
variable {P : Program} {cf : Cfg} {S0 : Addr → Option Value} {w0 : World} {O : Nat → Prop} (cx : Ctx P cf S0 w0 O)
variable {g0 g : G} {st : St} {a : Act} {w : World}
variable {R : Type} {dr : Bool} {o : Oper} {k : St → Option R} {r : R} {next : Act → World → Prop} {Q : Exit → Act → World → Prop}

theorem relM_one {m : M} {us : List Value} (h : RelMx g m us) : ∀ x ∈ us, x.oneCell' = true := by
  intro x hx
  obtain ⟨j, hj, rfl⟩ := List.getElem_of_mem hx
  have hlt : j < m.l.length := by rw [← h.1.1]; exact hj
  cases hg : lkGet m.lk j with
  | some y => exact RelW.one (h.2 j y _ (by simp [M.get, hg]) (List.getElem?_eq_getElem hj))
  | none => exact RelW.one (h.2 j (.d m.l[j]) _ (by simp [M.get, hg, hlt]) (List.getElem?_eq_getElem hj))

theorem relT_one {v : T} {u : Value} (h : RelT g v u) : ∀ x ∈ u.cells.toList, x.oneCell' = true := relM_one (RelT.cells h)

/-- what isn't a row of stable elements has no stable cells -/
theorem RelM.none_of {bx : Bx} (h : RelM w0 S0 O g bx w) {n : Nat} {x : Box} {k : Nat} (hx : bx[n]? = some (some x)) (hk : blk g n x = some k) (hne : ∀ e sz els, x ≠ .arr false e sz els) : ∀ off sp, g.S ⟨k, off, sp⟩ = none := by
  intro off sp
  cases hS : g.S ⟨k, off, sp⟩ with
  | none => rfl
  | some v => obtain ⟨e, sz, els, h1, _⟩ := h.sep n x k hx hk off sp v hS; exact absurd h1 (hne e sz els)

theorem setRow_grown (w : World) (k : Nat) (cs : Array Value) : w.grownBy (w.setRow k cs) (some k) := ⟨rfl, rfl, rfl, by simp, fun j _ hj => setRow_other w k j _ (fun e => hj (by rw [e]))⟩

/-- cells are written into a row of its own -/
theorem OwnR.store {w : World} {e : TypeId} {sz N : Nat} {v : Value} {xs : List Value} (hown : OwnR w e sz v N xs) {gb o cnt cap : Nat} (hv : v = .slice (some ⟨gb, o, none⟩) cnt cap) {vals : List Value} (hvo : ∀ u ∈ vals, u.oneCell' = true)
    {p : Nat} (hp : p + vals.length ≤ N * sz) : ∃ c', (storeCells ⟨gb, o + p, none⟩ vals).run P w = .ok () (w.setRow gb c') ∧ OwnR (w.setRow gb c') e sz v N (xs.take p ++ vals ++ xs.drop (p + vals.length)) := by
  rcases hown.2 with ⟨h0, _⟩ | ⟨gb', o', cap', cur, h0, hh, hcnt, hcm, hcs, htk⟩
  · rw [hv] at h0; simp at h0
  · rw [hv] at h0; simp only [Value.slice.injEq, Option.some.injEq, Addr.mk.injEq, and_true] at h0
    obtain ⟨⟨rfl, rfl⟩, rfl, rfl⟩ := h0
    have hxl := hown.1
    have hmul : cnt * sz ≤ cap * sz := Nat.mul_le_mul_right _ hcnt
    have hcl : cur.toList.length = cur.size := by simp
    have hrun := run_storeCells_at (P := P) gb (o + p) e vals 0 cur w hh (by omega) hvo
    simp only [Nat.add_zero] at hrun
    refine ⟨_, hrun, ?_, .inr ⟨gb, o, cap, _, hv, setRow_heap w gb cur _ e (0, 0) hh, hcnt, hcm, ?_, ?_⟩⟩
    · rw [splice_len (by omega), hxl]
    · rw [List.size_toArray, splice_len (by omega), hcl]; exact hcs
    · apply List.ext_getElem?
      intro q
      have hcur : ∀ q, q < cnt * sz → cur.toList[o + q]? = xs[q]? := fun q hq => by rw [← htk, List.getElem?_take, if_pos hq, List.getElem?_drop]
      rw [List.getElem?_take, splice_get (by omega)]
      by_cases hq : q < cnt * sz
      · rw [if_pos hq, List.getElem?_drop, splice_get (by omega)]
        by_cases hc : p ≤ q ∧ q < p + vals.length
        · rw [if_pos hc, if_pos (by omega)]; congr 1; omega
        · rw [if_neg hc, if_neg (by omega)]; exact hcur q hq
      · rw [if_neg hq, if_neg (by omega), List.getElem?_eq_none (by omega)]

theorem RelM.rowSet {bx : Bx} (h : RelM w0 S0 O g bx w) {b : Nat} {e : Option TypeId} {sz : Nat} {els els' : List (List C)} (hb : bx[b]? = some (some (.arr true e sz els))) {gb o cnt cap : Nat} (hsl : g.sl b = .slice (some ⟨gb, o, none⟩) cnt cap)
    {c' : Array Value} {e' : TypeId} (he : ∀ e0, e = some e0 → e' = e0) {xs' : List Value} (hown : OwnR (w.setRow gb c') e' sz (g.sl b) els'.length xs') (hfl : Flat g.S sz els' xs') (hpos : 0 < sz) :
    RelM w0 S0 O g (bx.set b (some (.arr true e sz els'))) (w.setRow gb c') := by
  have hkb : (g.sl b).ownBlock = some gb := by rw [hsl]; rfl
  have hno := h.none_of hb (k := gb) hkb (fun e sz els hh => by cases hh)
  exact h.boxSet hb (by simp only [blk, hkb]; exact setRow_grown w gb _) (by simp) (S' := g.S) (fun _ _ h => h) (fun _ _ h => .inl h)
    (fun ad u hu hk => by
      simp only [blk, hkb, Option.some.injEq] at hk
      have := hno ad.off ad.spot; rw [hk] at this
      rw [this] at hu; cases hu) (fun z hz => by
      cases hz
      refine ⟨⟨xs', e', he, hown, hfl, hpos, fun h => by cases h⟩, fun k hk => hk, fun k hk off' sp u hu => ?_⟩
      simp only [blk, hkb, Option.some.injEq] at hk; subst hk
      rw [hno off' sp] at hu; cases hu)

/-- a part of a row's elements, as cells -/
theorem Flat.part {S : Addr → Option Value} {sz : Nat} {els : List (List C)} {xs : List Value} (h : Flat S sz els xs) (lo n : Nat) (hle : lo + n ≤ els.length) : Flat S sz ((els.drop lo).take n) ((xs.drop (lo * sz)).take (n * sz)) := by
  have hm : (lo + n) * sz ≤ els.length * sz := Nat.mul_le_mul_right _ hle
  rw [Nat.add_mul] at hm
  refine ⟨?_, fun i e hi => ?_⟩
  · rw [List.length_take, List.length_drop, List.length_take, List.length_drop, h.1]
    rw [Nat.min_eq_left (by omega), Nat.min_eq_left (by omega)]
  · rw [List.getElem?_take] at hi
    split at hi
    · rename_i hin
      rw [List.getElem?_drop] at hi
      obtain ⟨h1, h2⟩ := h.2 _ _ hi
      refine ⟨h1, fun j c hj => ?_⟩
      obtain ⟨u, hu, hr⟩ := h2 j c hj
      have hjs : j < sz := by have := lt_of hj; rw [h1] at this; exact this
      have : (i + 1) * sz ≤ n * sz := Nat.mul_le_mul_right _ hin
      rw [Nat.add_mul, Nat.one_mul] at this
      refine ⟨u, ?_, hr⟩
      rw [List.getElem?_take, if_pos (by omega), List.getElem?_drop, ← hu]
      congr 1
      rw [Nat.add_mul]; omega
    · cases hi

/-- a slice of a row becomes a row of its own -/
theorem narrowT_rel {dr : Bool} {x y : T} {bx bx' : Bx} (hp : narrowT dr x bx = some (y, bx')) (h : RelM w0 S0 O g bx w) {u : Value} (hx : RelT g x u) : ∃ g', Ext g g' ∧ RelM w0 S0 O g' bx' w ∧ RelT g' y u ∧ (dr = true → bx' = bx) := by
  have keep : narrowT dr x bx = some (x, bx) → ∃ g', Ext g g' ∧ RelM w0 S0 O g' bx' w ∧ RelT g' y u ∧ (dr = true → bx' = bx) := by
    intro e
    rw [e] at hp; cases hp
    exact ⟨g, Ext.refl g, h, hx, fun _ => rfl⟩
  cases x with
  | agg m => exact keep rfl
  | w x =>
    cases x with
    | vw b lo hi mx sz0 =>
      simp only [narrowT] at hp
      cases dr with
      | true => cases hp
      | false =>
        rw [cond_false] at hp
        generalize hb : bx.getD b none = bb at hp
        match bb, hp with
        | some (.arr mt e sz els), hp =>
          simp only at hp
          by_cases hc : (mt && Nat.beq sz sz0) = true
          case neg => rw [Bool.not_eq_true] at hc; rw [hc] at hp; cases hp
          rw [hc, cond_true] at hp
          simp only [Option.some.injEq, Prod.mk.injEq] at hp
          obtain ⟨rfl, rfl⟩ := hp
          simp only [Bool.and_eq_true, Nat.beq_eq] at hc
          obtain ⟨rfl, rfl⟩ := hc
          have hb' := getD_some hb
          obtain ⟨hcb, xs, e', he', hown, hfl, hpos, _⟩ := h.box b _ hb'
          obtain ⟨_, hlh, hhm, A, cap, rfl, hmc, hnil, hsome⟩ := hx
          have hless : RelM w0 S0 O g (bx.set b none) w := h.less (by simp; exact h.c) (fun n x hx => by
            rcases set_get hx with ⟨_, h1, _⟩ | ⟨_, h1⟩
            · cases h1
            · exact h1)
          have hlen : (bx.set b none).length = bx.length := by simp
          have hfree : ∀ (n : Nat) y k, (bx.set b none)[n]? = some (some y) → blk g n y = some k → (g.sl b).ownBlock ≠ some k := by
            intro n y k hy hk he
            rcases set_get hy with ⟨_, h1, _⟩ | ⟨hne, h1⟩
            · cases h1
            · exact hne (h.disj n b y _ k h1 hb' hk he)
          have hfree' := hfree
          have hnew : (g.push (bx.set b none).length 0 (.slice A (hi - lo) cap)).sl (bx.set b none).length = .slice A (hi - lo) cap := by simp [G.push]
          have hext : Ext g (g.push (bx.set b none).length 0 (.slice A (hi - lo) cap)) := G.push_ext hless.fresh
          -- the new row
          have hrow : ∃ xs', OwnR w e' sz (.slice A (hi - lo) cap) ((els.drop lo).take (hi - lo)).length xs' ∧ Flat g.S sz ((els.drop lo).take (hi - lo)) xs' ∧ (∀ k, (Value.slice A (hi - lo) cap).ownBlock = some k → (g.sl b).ownBlock = some k) := by
            rcases hown.2 with ⟨h0, hn0⟩ | ⟨gb, o, cc, cur, h0, hh, hcnt, hcm, hcs, htk⟩
            · obtain ⟨rfl, rfl, rfl⟩ := hnil h0
              have hlo : lo = 0 := by omega
              have hhi : hi = 0 := by omega
              subst hlo hhi
              have : els = [] := List.eq_nil_of_length_eq_zero hn0
              subst this
              exact ⟨[], ⟨by simp, .inl ⟨rfl, by simp⟩⟩, Flat.nil _ _, fun k hk => by simp [Value.ownBlock] at hk⟩
            · obtain ⟨hmn, hlc, l, hll, hl0, rfl⟩ := hsome gb o _ _ h0
              have hpl : ((els.drop lo).take (hi - lo)).length = hi - lo := by rw [List.length_take, List.length_drop]; omega
              have hpart := hfl.part lo (hi - lo) (by omega)
              refine ⟨_, ⟨by rw [hpl]; exact hpart.1.trans (by rw [hpl]), .inr ⟨gb, o + l * sz, cap, cur, by rw [hpl], hh, by omega, by omega, ?_, ?_⟩⟩, hpart, fun k hk => by rw [h0]; exact hk⟩
              · have h1 : (lo + cap) * sz ≤ cc * sz := Nat.mul_le_mul_right _ hlc
                rw [Nat.add_mul] at h1
                have h2 : l * sz ≤ lo * sz := Nat.mul_le_mul_right _ hll
                omega
              · rw [hpl]
                by_cases hz : hi - lo = 0
                · rw [hz]; simp
                · have hcap : 0 < cap := by omega
                  rw [hl0 hcap, ← htk]
                  rw [List.drop_take, List.take_take, List.drop_drop]
                  have h1 : hi * sz ≤ els.length * sz := Nat.mul_le_mul_right _ (by omega)
                  rw [Nat.sub_mul]
                  rw [Nat.min_eq_left (by omega)]
          obtain ⟨xs', hown', hfl', hblk⟩ := hrow
          have hM := hless.boxAdd (w' := w) (row := (g.sl b).ownBlock) (World.grownBy.refl w _) (fun k hk => h.low b _ k hb' hk) (S' := g.S) (fun _ _ h => h) (fun _ _ h => .inl h) (fun a v hv _ => h.mem a v hv) hfree
            (x := .arr true e sz ((els.drop lo).take (hi - lo))) (k := 0) (v := .slice A (hi - lo) cap)
            ⟨xs', e', he', by rw [hnew]; exact hown', hfl', hpos, fun h => by cases h⟩
            (fun kk hk => by simp only [blk, hnew] at hk; exact .inl (hblk kk hk))
            (fun kk hk off sp u hu => by
              simp only [blk, hnew] at hk
              have := h.none_of hb' (k := kk) (hblk kk hk) (fun e sz els hh => by cases hh) off sp
              rw [this] at hu; cases hu)
          rw [hlen] at hM hext
          exact ⟨_, hext, hM, ⟨by simp [G.push], by simp [G.push], rfl⟩, fun h => by cases h⟩
    | _ => exact keep rfl

/-- a row without elements -/
theorem arrNil_m {bx : Bx} (h : RelM w0 S0 O g bx w) (e : TypeId) (sz : Nat) (hs : 0 < sz) :
    RelM w0 S0 O (g.push bx.length 0 (.slice none 0 0)) (bx ++ [some (.arr true (some e) sz [])]) w := by
  have hsl : (g.push bx.length 0 (.slice none 0 0)).sl bx.length = .slice none 0 0 := by simp [G.push]
  have := h.boxAdd (World.grownBy.refl w none) (fun k hk => by cases hk) (S' := g.S) (fun _ _ h => h) (fun _ _ h => .inl h) (fun _ _ _ hr => by cases hr) (fun _ _ _ _ _ hr => by cases hr)
    (x := .arr true (some e) sz []) (k := 0) (v := .slice none 0 0) ⟨[], e, fun e0 h => (by cases h; rfl), by rw [hsl]; exact ⟨by simp, .inl ⟨rfl, rfl⟩⟩, Flat.nil _ _, hs, fun h => by cases h⟩
    (fun kk hk => by simp only [blk, hsl] at hk; simp [Value.ownBlock] at hk) (fun kk hk => by simp only [blk, hsl] at hk; simp [Value.ownBlock] at hk)
  exact this

include cx
theorem snd_storeNil {t : TypeId} {x y : Operand} (ho : o.op = .store t x y) (hnil : isNilSlice y = true) (hv : (match eszE cf t, cf.ti t, st.ev cf x with
     | some (e, sz), some i, .t (.w (.ptr b off)) =>
       (match st.bx.getD b none with
        | some (.cells m) =>
          bif i.size == 1 && Nat.ble (off + 1) m.n && Nat.ble 1 sz
          then k (({ st with bx := st.bx.set b (some (.cells (m.put off ⟨[.nf], [(0, .arr st.bx.length)], 1⟩))) ++ [some (.arr true (some e) sz [])] } : St).set o.dst (.tup [])) else none
        | _ => none)
     | _, _, _ => none) = some r) (h : Rel w0 S0 O g0 g st a w) (hn : Hands w0 S0 O g0 k r next) : o.wp P a w next Q := by
  have hx := ev_rel cx h x
  have hea2 := nilSlice_eval hnil a
  generalize eszE cf t = ee at hv
  generalize hti : cf.ti t = ti at hv
  generalize st.ev cf x = e1 at hv hx
  match ee, ti, e1, hv, hx with
  | some (e, sz), some i, .t (.w (.ptr b off)), hv, hx =>
    simp only at hv
    generalize hb : st.bx.getD b none = bb at hv
    match bb, hv with
    | some (.cells m), hv =>
      simp only at hv
      have hb' := getD_some hb
      by_cases hc : (i.size == 1 && Nat.ble (off + 1) m.n && Nat.ble 1 sz) = true
      case neg => rw [Bool.not_eq_true] at hc; rw [hc] at hv; cases hv
      rw [hc, cond_true] at hv
      simp only [Bool.and_eq_true, beq_iff_eq, Nat.ble_eq] at hc
      obtain ⟨⟨hc1, hc2⟩, hc3⟩ := hc
      obtain ⟨hblt, cs, e', hh, hcs⟩ := h.m.box b _ hb'
      have hcells : (a.eval y).cells.toList = [.slice none 0 0] := by rw [hea2]; rfl
      -- the new row first
      have hpe : Ext g (g.push st.bx.length 0 (.slice none 0 0)) := G.push_ext h.m.fresh
      have hM1 := arrNil_m h.m e sz (by omega)
      have hb1 : (st.bx ++ [some (Box.arr true (some e) sz [])])[b]? = some (some (.cells m)) := by rw [List.getElem?_append_left (lt_of hb')]; exact hb'
      have hbx : (g.push st.bx.length 0 (.slice none 0 0)).bx b = g.bx b := hpe.bx b hblt
      have hrun : (execOp a.eval o).run P w = .ok .skip (w.setRow (g.bx b) (cs.take off ++ [Value.slice none 0 0] ++ cs.drop (off + 1)).toArray) := by
        unfold execOp
        simp only [ho, Sem.run_bind, hx.2, Instr.storeAt, Instr.sureAddr, Sem.run_pure, Result.andThen_ok, storeVar, sizeOf_run cx hti]
        have hsz : ¬ ((a.eval y).cells.size ≠ i.size) := by
          rw [← Array.length_toList, hcells, hc1]; simp
        rw [if_neg hsz]
        have := run_storeCells_at (P := P) (g.bx b) off e' [.slice none 0 0] 0 cs.toArray w hh (by
          have := hcs.n; simp only [Nat.add_zero, List.size_toArray, List.length_singleton]; omega) (fun v hv => by simp at hv; subst hv; rfl)
        simp only [Nat.add_zero] at this
        rw [hcells]
        simp only [this, Result.andThen_ok]
        rfl
      have hno := hM1.none_of hb1 (k := g.bx b) (by simp [blk, hbx]) (fun e sz els hh => by cases hh)
      have hnew : RelMx (g.push st.bx.length 0 (.slice none 0 0)) ⟨[.nf], [(0, .arr st.bx.length)], 1⟩ [.slice none 0 0] := by
        refine ⟨⟨rfl, rfl⟩, fun j z v hz hv => ?_⟩
        cases j with
        | zero => simp [M.get, lkGet] at hz hv; subst hz hv; exact ⟨by simp [G.push], by simp [G.push], rfl⟩
        | succ j => simp at hv
      have hm := hM1.boxSet hb1 (y := some (.cells (m.put off ⟨[.nf], [(0, .arr st.bx.length)], 1⟩))) (w' := w.setRow (g.bx b) (cs.take off ++ [Value.slice none 0 0] ++ cs.drop (off + 1)).toArray)
        (by simp only [blk, hbx]; exact setRow_grown w (g.bx b) _) (by simp) (S' := g.S) (fun _ _ h => h) (fun _ _ h => .inl h)
        (fun ad u hu hk => by
          simp only [blk, hbx, Option.some.injEq] at hk
          have := hno ad.off ad.spot; rw [hk] at this
          have hu' : (g.push st.bx.length 0 (.slice none 0 0)).S ad = some u := hu
          rw [this] at hu'; cases hu') (fun z hz => by
          cases hz
          refine ⟨⟨_, e', by rw [show ({ g.push st.bx.length 0 (.slice none 0 0) with S := g.S } : G).bx b = g.bx b from hbx]; exact setRow_heap w (g.bx b) cs.toArray _ e' (0, 0) hh, (hcs.weak hpe.weak).put hnew (by simp only; omega)⟩, fun k hk => hk, fun k hk off' sp u hu => ?_⟩
          simp only [blk, hbx, Option.some.injEq] at hk; subst hk
          have hu' : (g.push st.bx.length 0 (.slice none 0 0)).S ⟨g.bx b, off', sp⟩ = some u := hu
          rw [hno off' sp] at hu'; cases hu')
      have hset : (st.bx ++ [some (Box.arr true (some e) sz [])]).set b (some (.cells (m.put off ⟨[.nf], [(0, .arr st.bx.length)], 1⟩))) = st.bx.set b (some (.cells (m.put off ⟨[.nf], [(0, .arr st.bx.length)], 1⟩))) ++ [some (.arr true (some e) sz [])] := by
        rw [List.set_append_left _ _ (lt_of hb')]
      rw [hset] at hm
      exact wp_skip' hrun (hn _ _ _ _ ((h.with hpe hm).put (v := .tup []) ⟨[], rfl, .nil⟩) hv)

theorem snd_store {t : TypeId} {x y : Operand} (ho : o.op = .store t x y) (hv : vop cf dr o k st = some r) (h : Rel w0 S0 O g0 g st a w) (hn : Hands w0 S0 O g0 k r next) : o.wp P a w next Q := by
  unfold vop at hv; rw [ho] at hv; simp only [vStore] at hv
  by_cases hnil : (isNilSlice y && !dr) = true
  · rw [hnil, cond_true] at hv
    rw [Bool.and_eq_true] at hnil
    exact snd_storeNil cx ho hnil.1 hv h hn
  rw [Bool.not_eq_true] at hnil
  rw [hnil, cond_false] at hv
  have hx := ev_rel cx h x
  have hy := evT_rel cx h t y
  generalize hti : cf.ti t = ti at hv
  generalize st.evT cf t y = e2 at hv hy
  match ti, e2, hv, hy with
  | some i, .t v, hv, hy =>
    simp only at hv
    have hexec : ∀ ad, a.eval x = .pointer (some ad) → (a.eval y).cells.toList.length = i.size → (execOp a.eval o).run P w = ((storeCells ad (a.eval y).cells.toList).run P w).andThen fun _ w => .ok .skip w := by
      intro ad hea hlen
      unfold execOp
      simp only [ho, Sem.run_bind, hea, Instr.storeAt, Instr.sureAddr, Sem.run_pure, Result.andThen_ok, storeVar, sizeOf_run cx hti]
      have hsz : ¬ ((a.eval y).cells.size ≠ i.size) := by
        rw [Array.length_toList] at hlen; simp [hlen]
      rw [if_neg hsz]
    generalize st.ev cf x = e1 at hv hx
    match e1, hv, hx with
    | .t (.w (.ptr b off)), hv, hx0 =>
      simp only at hv
      cases hnr : narrowT dr v st.bx with
      | none => rw [hnr] at hv; cases hv
      | some q =>
      obtain ⟨v, bx1⟩ := q
      rw [hnr] at hv; simp only at hv
      obtain ⟨g, hxt, hm1, hy, _⟩ := narrowT_rel hnr h.m hy
      have hx : RelW g (.ptr b off) (a.eval x) := hxt.weak _ _ hx0
      replace h := h.with hxt hm1
      generalize hb : bx1.getD b none = bb at hv
      match bb, hv with
      | some (.cells m), hv =>
        simp only at hv
        have hb' := getD_some hb
        by_cases hc : (v.toM.n == i.size && Nat.ble (off + i.size) m.n) = true
        · rw [hc, cond_true] at hv
          simp only [Bool.and_eq_true, beq_iff_eq, Nat.ble_eq] at hc
          obtain ⟨hc1, hc2⟩ := hc
          obtain ⟨_, cs, e, hh, hcs⟩ := h.m.box b _ hb'
          have hcells := RelT.cells hy
          have hlen : (a.eval y).cells.toList.length = i.size := by rw [hcells.n, hc1]
          have hrun : (execOp a.eval o).run P w = .ok .skip (w.setRow (g.bx b) (cs.take off ++ (a.eval y).cells.toList ++ cs.drop (off + (a.eval y).cells.toList.length)).toArray) := by
            rw [hexec _ hx.2 hlen]
            have := run_storeCells_at (P := P) (g.bx b) off e (a.eval y).cells.toList 0 cs.toArray w hh (by
              have := hcs.n; simp only [Nat.add_zero, List.size_toArray]; omega) (relT_one hy)
            simp only [Nat.add_zero] at this
            simp only [this, Result.andThen_ok]
          refine wp_skip' hrun (hn g _ _ _ ?_ hv)
          have hno := h.m.none_of hb' (k := g.bx b) rfl (fun e sz els hh => by cases hh)
          have hm := h.m.boxSet hb' (y := some (.cells (m.put off v.toM))) (setRow_grown w (g.bx b) _) (by simp) (S' := g.S) (fun _ _ h => h) (fun _ _ h => .inl h)
            (fun ad u hu hk => by
              simp only [blk, Option.some.injEq] at hk
              have := hno ad.off ad.spot; rw [hk] at this
              rw [this] at hu; cases hu) (fun z hz => by
              cases hz
              refine ⟨⟨_, e, setRow_heap w (g.bx b) cs.toArray _ e (0, 0) hh, hcs.put hcells (by rw [hc1]; exact hc2)⟩, fun k hk => hk, fun k hk off' sp u hu => ?_⟩
              simp only [blk, Option.some.injEq] at hk; subst hk
              rw [hno off' sp] at hu; cases hu)
          exact (h.with (Ext.refl g) hm).put ⟨[], rfl, .nil⟩
        · rw [Bool.not_eq_true] at hc; rw [hc] at hv; cases hv
    | .t (.w (.ea b n sz0 off)), hv, hx =>
      simp only at hv
      cases hfz : frzT dr v st.bx with
      | none => rw [hfz] at hv; cases hv
      | some q =>
        obtain ⟨⟨cs, csn⟩, bx1⟩ := q
        rw [hfz] at hv; simp only at hv
        obtain ⟨g1, hmore, hR1, _, _, hall0⟩ := frzT_rel hfz h.m
        obtain ⟨hall, hcsn⟩ := hall0 _ hy
        subst hcsn
        generalize hb : bx1.getD b none = bb at hv
        match bb, hv with
        | some (.arr mt e sz els), hv =>
          simp only at hv
          by_cases hc0 : (mt && sz0 == sz) = true
          case neg => rw [Bool.not_eq_true] at hc0; rw [hc0] at hv; cases hv
          rw [hc0, cond_true] at hv
          simp only [Bool.and_eq_true, beq_iff_eq] at hc0
          obtain ⟨rfl, rfl⟩ := hc0
          unfold getT at hv
          cases hel : els[n]? with
          | none => rw [hel] at hv; cases hv
          | some el =>
            rw [hel] at hv; simp only at hv
            by_cases hc : (cs.length == i.size && Nat.ble (off + i.size) sz0) = true
            case neg => rw [Bool.not_eq_true] at hc; rw [hc] at hv; cases hv
            rw [hc, cond_true] at hv
            simp only [Bool.and_eq_true, beq_iff_eq, Nat.ble_eq] at hc
            obtain ⟨hc1, hc2⟩ := hc
            have hb' := getD_some hb
            obtain ⟨_, xs, e', he', hown, hfl, hpos, _⟩ := hR1.box b _ hb'
            obtain ⟨_, gb, o0, cnt, cap, hsl, hea⟩ := hmore.ext.weak (.ea b n sz0 off) _ hx
            have hlen : (a.eval y).cells.toList.length = i.size := by rw [hall.1, hc1]
            obtain ⟨hle, hfl2⟩ := hfl.set hel hall (off := off) (by omega)
            have hvo : ∀ u ∈ (a.eval y).cells.toList, u.oneCell' = true := relT_one hy
            obtain ⟨c', hrun0, hown'⟩ := hown.store (P := P) hsl hvo (p := n * sz0 + off) (by rw [← hown.1]; exact hle)
            have hrun : (execOp a.eval o).run P w = .ok .skip (w.setRow gb c') := by
              rw [hexec _ hea hlen, hrun0]; rfl
            have hm := hR1.rowSet hb' hsl he' (els' := els.set n (putL el off cs)) (by simp only [List.length_set]; exact hown') hfl2 hpos
            exact wp_skip' hrun (hn g1 _ _ _ (((h.more hmore hR1).with (Ext.refl g1) hm).put (v := .tup []) ⟨[], rfl, .nil⟩) hv)

omit cx in
theorem rowNew (w : World) (o : Obj) : (w.alloc o).heap[w.heap.size]? = some o := heap_alloc_new w o

omit cx in
theorem alloc_grown (w : World) (ob : Obj) : w.grownBy (w.alloc ob) none := ⟨rfl, rfl, rfl, by simp, fun k hk _ => heap_alloc_old w ob k hk⟩

omit cx in
/-- a new block for a box -/
theorem boxNew_rel (h : Rel w0 S0 O g0 g st a w) (x : Box) (ob : Obj) (hna : blk (g.push st.bx.length w.heap.size undef) st.bx.length x = some w.heap.size)
    (hb : BoxRel (g.push st.bx.length w.heap.size undef) (w.alloc ob) st.bx.length x) : Ext g (g.push st.bx.length w.heap.size undef) ∧ Rel w0 S0 O g0 (g.push st.bx.length w.heap.size undef) (st.boxNew x) a (w.alloc ob) := by
  have hext : Ext g (g.push st.bx.length w.heap.size undef) := G.push_ext h.m.fresh
  refine ⟨hext, h.with hext (h.m.boxAdd (alloc_grown w ob) (fun k hk => by cases hk) (S' := g.S) (fun _ _ h => h) (fun _ _ h => .inl h) (fun _ _ _ hr => by cases hr) (fun _ _ _ _ _ hr => by cases hr) hb
    (fun kk hk => by rw [hna] at hk; cases hk; exact .inr (Nat.le_refl _)) (fun kk hk off sp u hu => ?_))⟩
  rw [hna] at hk; cases hk
  have := h.m.S_lt hu; simp at this

theorem snd_assign {x : Operand} (ho : o.op = .assign x) (hv : vop cf dr o k st = some r) (h : Rel w0 S0 O g0 g st a w) (hn : Hands w0 S0 O g0 k r next) : o.wp P a w next Q := by
  unfold vop at hv; rw [ho] at hv; simp only at hv
  have hrun : (execOp a.eval o).run P w = .ok (.value (a.eval x)) w := by unfold execOp; simp only [ho, Sem.run_pure]
  by_cases hnil : isNilSlice x = true
  · rw [hnil, cond_true] at hv
    have hea := nilSlice_eval hnil a
    generalize eszE cf o.type = ee at hv
    match ee, hv with
    | some (e, sz), hv =>
      simp only at hv
      by_cases hp : Nat.ble 1 sz = true
      · rw [hp, cond_true] at hv
        have hs : 0 < sz := by rw [Nat.ble_eq] at hp; omega
        cases hd : (dr || nilOf cf o) with
        | true =>
          rw [hd, cond_true] at hv
          exact snd_val (v := vc (.sl sz [])) hv h hn ⟨a.eval x, hrun, by rw [hea]; exact relC_nil _ _⟩
        | false =>
          rw [hd, cond_false] at hv
          have h1 := h.with (G.push_ext h.m.fresh) (arrNil_m h.m e sz hs)
          refine wp_val hrun (hn _ _ _ _ (h1.put (v := .t (.w (.arr st.bx.length))) ?_) hv)
          rw [hea]
          exact ⟨by simp [G.push], by simp [G.push], rfl⟩
      · rw [Bool.not_eq_true] at hp; rw [hp] at hv; cases hv
  · rw [Bool.not_eq_true] at hnil; rw [hnil, cond_false] at hv
    exact snd_val hv h hn ⟨a.eval x, hrun, ev_rel cx h x⟩

omit cx in
theorem zeroM_rel : ∀ (z : List Z) (j : Nat) (zs : List Value) {g : G} {bx : Bx} {l : List C} {lk : List (Nat × W)} {b : Bx}, RelM w0 S0 O g bx w → All2 ZRel z zs → zeroM dr bx.length z j = (l, lk, b) →
    ∃ g', Ext g g' ∧ RelM w0 S0 O g' (bx ++ b) w ∧ l.length = z.length ∧ (∀ i x, lkGet lk i = some x → j ≤ i) ∧
      ∀ (i : Nat) x u, (match lkGet lk (j + i) with | some x => some x | none => (match l[i]? with | some c => some (W.d c) | none => none)) = some x → zs[i]? = some u → RelW g' x u := by
  intro z
  induction z with
  | nil =>
    intro j zs g bx l lk b h hz he
    simp [zeroM] at he; obtain ⟨rfl, rfl, rfl⟩ := he
    exact ⟨g, .refl g, by simpa using h, rfl, fun i x hx => by simp [lkGet] at hx, fun i x u hx => by simp [lkGet] at hx⟩
  | cons y q ih =>
    intro j zs g bx l lk b h hz he
    cases zs with
    | nil => exact absurd hz.1 (by simp)
    | cons v vs =>
      cases y with
      | c c =>
        simp only [zeroM] at he
        generalize hr : zeroM dr bx.length q (j + 1) = rr at he
        obtain ⟨l1, lk1, b1⟩ := rr
        simp only [Prod.mk.injEq] at he; obtain ⟨rfl, rfl, rfl⟩ := he
        obtain ⟨g1, hext, hm, hl, hlo, hat⟩ := ih (j + 1) vs h hz.tail hr
        refine ⟨g1, hext, hm, by simp [hl], fun i x hx => by have := hlo i x hx; omega, fun i x u hx hu => ?_⟩
        cases i with
        | zero =>
          simp only [Nat.add_zero] at hx
          cases hk : lkGet lk1 j with
          | some y => have := hlo j y hk; omega
          | none =>
            rw [hk] at hx; simp at hx hu; subst hx hu
            exact RelC.mono (fun a v hv => by cases hv) hz.head
        | succ i => exact hat i x u (by rw [show j + 1 + i = j + (i + 1) by omega]; simpa using hx) (by simpa using hu)
      | s e sz =>
        simp only [zeroM] at he
        obtain ⟨hu, hs⟩ := hz.head
        cases hd : dr with
        | true =>
          rw [hd, cond_true] at he
          generalize hr : zeroM true bx.length q (j + 1) = rr at he
          obtain ⟨l1, lk1, b1⟩ := rr
          simp only [Prod.mk.injEq] at he; obtain ⟨rfl, rfl, rfl⟩ := he
          obtain ⟨g1, hext, hm, hl, hlo, hat⟩ := ih (j + 1) vs (l := l1) (lk := lk1) (b := b1) h hz.tail (by rw [hd]; exact hr)
          refine ⟨g1, hext, hm, by simp [hl], fun i x hx => by have := hlo i x hx; omega, fun i x u hx hu' => ?_⟩
          cases i with
          | zero =>
            simp only [Nat.add_zero] at hx
            cases hk : lkGet lk1 j with
            | some y => have := hlo j y hk; omega
            | none =>
              rw [hk] at hx; simp at hx hu'; subst hx hu'
              rw [hu]; exact relC_nil _ _
          | succ i => exact hat i x u (by rw [show j + 1 + i = j + (i + 1) by omega]; simpa using hx) (by simpa using hu')
        | false =>
          rw [hd, cond_false] at he
          generalize hr : zeroM false (bx.length + 1) q (j + 1) = rr at he
          obtain ⟨l1, lk1, b1⟩ := rr
          simp only [Prod.mk.injEq] at he; obtain ⟨rfl, rfl, rfl⟩ := he
          have h2 := arrNil_m h e sz hs
          have hlen : (bx ++ [some (Box.arr true (some e) sz [])]).length = bx.length + 1 := by simp
          obtain ⟨g1, hext, hm, hl, hlo, hat⟩ := ih (j + 1) vs (l := l1) (lk := lk1) (b := b1) h2 hz.tail (by rw [hlen, hd]; exact hr)
          have hpe : Ext g (g.push bx.length 0 (.slice none 0 0)) := G.push_ext h.fresh
          refine ⟨g1, hpe.trans hext, by simpa using hm, by simp [hl], fun i x hx => ?_, fun i x u hx hu' => ?_⟩
          · simp only [lkGet] at hx
            by_cases hi : j = i
            · omega
            · rw [beq_false_of_ne hi, cond_false] at hx; have := hlo i x hx; omega
          · cases i with
            | zero =>
              simp [lkGet] at hx hu'; subst hx hu'
              rw [hu]
              exact hext.weak (.arr bx.length) _ ⟨by simp [G.push], by simp [G.push], rfl⟩
            | succ i =>
              refine hat i x u ?_ (by simpa using hu')
              simp only [lkGet, beq_false_of_ne (show j ≠ j + (i + 1) by omega), cond_false] at hx
              rw [show j + 1 + i = j + (i + 1) by omega]; simpa using hx

omit cx in
theorem zero_rel (h : Rel w0 S0 O g0 g st a w) {z : List Z} {zs : List Value} (hz : All2 ZRel z zs) {m : M} {st' : St} (he : st.zero dr z = (m, st')) :
    ∃ g', Ext g g' ∧ Rel w0 S0 O g0 g' st' a w ∧ RelMx g' m zs := by
  unfold St.zero at he
  generalize hr : zeroM dr st.bx.length z 0 = rr at he
  obtain ⟨l, lk, b⟩ := rr
  simp only [Prod.mk.injEq] at he; obtain ⟨rfl, rfl⟩ := he
  obtain ⟨g', hext, hm, hl, _, hat⟩ := zeroM_rel z 0 zs h.m hz hr
  refine ⟨g', hext, h.with hext hm, ⟨by rw [hl, ← hz.1], hl⟩, fun j x u hx hu => hat j x u ?_ hu⟩
  simp only [M.get] at hx; rw [Nat.zero_add]; exact hx

theorem snd_alloc {t : TypeId} (ho : o.op = .alloc t) (hv : vop cf dr o k st = some r) (h : Rel w0 S0 O g0 g st a w) (hn : Hands w0 S0 O g0 k r next) : o.wp P a w next Q := by
  unfold vop at hv; rw [ho] at hv; simp only [vAlloc] at hv
  generalize hti : cf.ti t = ti at hv
  match ti, hv with
  | some i, hv =>
    simp only at hv
    obtain ⟨z, hz, hz2, hz3, _⟩ := zero_run cx hti w
    generalize he : st.zero false i.zero = q at hv
    obtain ⟨m, st1⟩ := q
    simp only at hv
    obtain ⟨g1, _, h1, h4⟩ := zero_rel h hz2 he
    have hrun : (execOp a.eval o).run P w = .ok (.value (.pointer (some ⟨w.heap.size, 0, none⟩))) (w.alloc (.cells z.cells t)) := by
      unfold execOp
      simp only [ho, Sem.run_bind, Instr.alloc, hz, Result.andThen_ok, newVar, newRow, run_newObj, Sem.run_pure]
      rfl
    obtain ⟨hext, h2⟩ := boxNew_rel h1 (.cells m) (.cells z.cells t) (by simp [blk, G.push]) ⟨z.cells.toList, t, by simp only [G.push, if_true]; rw [Array.toArray_toList]; exact rowNew w _, h4.weak (G.push_ext h1.m.fresh).weak⟩
    exact wp_val hrun (hn _ _ _ _ (h2.put (v := .t (.w (.ptr st1.bx.length 0))) ⟨by simp [G.push], by simp [G.push]⟩) hv)

theorem snd_box {t : TypeId} {x : Operand} (ho : o.op = .box t x) (hv : vop cf dr o k st = some r) (h : Rel w0 S0 O g0 g st a w) (hn : Hands w0 S0 O g0 k r next) : o.wp P a w next Q := by
  unfold vop at hv; rw [ho] at hv; simp only [vBox] at hv
  have he := evT_rel cx h t x
  generalize st.evT cf t x = e at hv he
  match e, hv, he with
  | .t v, hv, he =>
    have hrun : (execOp a.eval o).run P w = .ok (.value (.pointer (some ⟨w.heap.size, 0, none⟩))) (w.alloc (.cells (a.eval x).cells t)) := by
      unfold execOp
      simp only [ho, Sem.run_bind, Instr.box, Result.andThen_ok, newVar, newRow, run_newObj, Sem.run_pure]
      rfl
    obtain ⟨hext, h2⟩ := boxNew_rel h (.cells v.toM) (.cells (a.eval x).cells t) (by simp [blk, G.push]) ⟨(a.eval x).cells.toList, t, by simp only [G.push, if_true]; rw [Array.toArray_toList]; exact rowNew w _, (RelT.cells he).weak (G.push_ext h.m.fresh).weak⟩
    exact wp_val hrun (hn _ _ _ _ (h2.put (v := .t (.w (.ptr st.bx.length 0))) ⟨by simp [G.push], by simp [G.push]⟩) hv)

theorem snd_range {t : TypeId} {x : Operand} (ho : o.op = .range t x) (hv : vop cf dr o k st = some r) (h : Rel w0 S0 O g0 g st a w) (hn : Hands w0 S0 O g0 k r next) : o.wp P a w next Q := by
  unfold vop at hv; rw [ho] at hv; simp only [vRange] at hv
  have he := ev_rel cx h x
  generalize hti : cf.ti t = ti at hv
  generalize st.ev cf x = e at hv he
  match ti, e, hv, he with
  | some ⟨.string, z1, z2, z3, z4, z5⟩, .t (.w (.d (.str s))), hv, he =>
    have hs := relC_str he
    have hrun : (execOp a.eval o).run P w = .ok (.value (.pointer (some ⟨w.heap.size, 0, none⟩))) (w.alloc (.stringIter s 0)) := by
      unfold execOp
      simp only [ho, Sem.run_bind, Instr.range, hs, run_underlying (cx.ti t _ hti).und, Result.andThen_ok, Sem.run_pure, run_newObj]
      rfl
    obtain ⟨hext, h2⟩ := boxNew_rel h (.iter s 0) (.stringIter s 0) (by simp [blk, G.push]) (by simp only [BoxRel, G.push, if_true]; exact rowNew w _)
    exact wp_val hrun (hn _ _ _ _ (h2.put (v := .t (.w (.ptr st.bx.length 0))) ⟨by simp [G.push], by simp [G.push]⟩) hv)

theorem snd_next {x : Operand} (ho : o.op = .next x true) (hv : vop cf dr o k st = some r) (h : Rel w0 S0 O g0 g st a w) (hn : Hands w0 S0 O g0 k r next) : o.wp P a w next Q := by
  unfold vop at hv; rw [ho] at hv; simp only [vNext] at hv
  have he := ev_rel cx h x
  generalize st.ev cf x = e at hv he
  match e, hv, he with
  | .t (.w (.ptr b 0)), hv, he =>
    simp only at hv
    generalize hb : st.bx.getD b none = bb at hv
    match bb, hv with
    | some (.iter s pos), hv =>
      simp only at hv
      have hb' := getD_some hb
      have hh : w.heap[g.bx b]? = some (.stringIter s pos) := (h.m.box b _ hb').2
      have hea : a.eval x = .pointer (some ⟨g.bx b, 0, none⟩) := he.2
      have hobj : (getObj (g.bx b)).run P w = .ok (.stringIter s pos) w := by
        simp only [getObj, Sem.run, hh]
      by_cases hp : pos < s.size
      · rw [decide_eq_true hp, cond_true] at hv
        let w' : World := { w with heap := w.heap.setIfInBounds (g.bx b) (.stringIter s (pos + (Utf8.decode s pos).2)) }
        have hset : ∀ ob, (setObj (g.bx b) ob).run P w = .ok () { w with heap := w.heap.setIfInBounds (g.bx b) ob } := by
          intro ob; simp only [setObj, Sem.run, hh]
        have hrun : (execOp a.eval o).run P w = .ok (.value (.tuple #[.bool true, goInt pos, .int .i32 (Utf8.decode s pos).1])) w' := by
          unfold execOp
          simp only [ho, Sem.run_bind, Instr.next, hea, Result.andThen_ok, Sem.run_pure, hobj, hp, if_true, hset]
          rfl
        have hlt : g.bx b < w.heap.size := (Array.getElem?_eq_some_iff.1 hh).1
        have hno := h.m.none_of hb' (k := g.bx b) rfl (fun e sz els hh => by cases hh)
        have hm := h.m.boxSet hb' (y := some (.iter s (pos + (Utf8.decode s pos).2))) (w' := w')
          ⟨rfl, rfl, rfl, by simp [w'], fun k _ hk => by simp only [w']; rw [Array.getElem?_setIfInBounds_ne (fun e => hk (by simp [blk, e]))]⟩ (by simp [w']) (S' := g.S) (fun _ _ h => h) (fun _ _ h => .inl h)
          (fun ad u hu hk => by
            simp only [blk, Option.some.injEq] at hk
            have := hno ad.off ad.spot; rw [hk] at this
            rw [this] at hu; cases hu) (fun z hz => by
            cases hz
            refine ⟨by simp [BoxRel, w', hlt], fun k hk => hk, fun k hk off' sp u hu => ?_⟩
            simp only [blk, Option.some.injEq] at hk; subst hk
            rw [hno off' sp] at hu; cases hu)
        refine wp_val hrun (hn g _ _ _ ?_ hv)
        refine (h.with (Ext.refl g) hm).put ⟨[.bool true, goInt pos, .int .i32 (Utf8.decode s pos).1], rfl, ?_⟩
        exact .cons (RelC.bool _) (.cons (RelC.int _ _) (.cons (RelC.int _ _) .nil))
      · rw [decide_eq_false hp, cond_false] at hv
        have hrun : (execOp a.eval o).run P w = .ok (.value (.tuple #[.bool false])) w := by
          unfold execOp
          simp only [ho, Sem.run_bind, Instr.next, hea, Result.andThen_ok, Sem.run_pure, hobj, hp, if_false]
        exact snd_val hv h hn ⟨_, hrun, ⟨[.bool false], rfl, .cons (RelC.bool _) .nil⟩⟩
end
end Vm

/- Vm, part H: each operation of the interpreter is the model's (3): places, slices. -/
namespace Vm
open Go

theorem add_add' (a : Addr) (i j : Nat) : (a.add i).add j = a.add (i + j) := by
  unfold Addr.add
  by_cases hi : i = 0 <;> by_cases hj : j = 0 <;> simp [hi, hj, Nat.add_assoc]
theorem add_spot {a : Addr} (h : a.spot = none) (n : Nat) : (a.add n).spot = none := by unfold Addr.add; split <;> simp [h]

theorem relC_ip {S : Addr → Option Value} {l : List C} {u : Value} (h : RelC S (.ip l) u) :
    ∃ (ad : Addr) (uf : Nat → Value), u = .pointer (some ad) ∧ ad.spot = none ∧ (∀ (j : Nat) c, l[j]? = some c → S (ad.add j) = some (uf j)) ∧ (∀ (j : Nat) c, l[j]? = some c → RelC S c (uf j)) := by
  cases h with
  | ip l a uf hsp hS hr => exact ⟨a, uf, rfl, hsp, hS, hr⟩

theorem ip_drop {S : Addr → Option Value} {l : List C} {ad : Addr} {uf : Nat → Value} (hsp : ad.spot = none) (hS : ∀ (j : Nat) c, l[j]? = some c → S (ad.add j) = some (uf j))
    (hr : ∀ (j : Nat) c, l[j]? = some c → RelC S c (uf j)) (n : Nat) : RelC S (.ip (l.drop n)) (.pointer (some (ad.add n))) :=
  .ip _ _ (fun j => uf (n + j)) (add_spot hsp n) (fun j c hj => by rw [add_add']; exact hS _ c (by simpa using hj)) (fun j c hj => hr _ c (by simpa using hj))

/-- a cut of a slice -/
theorem sl_cut {S : Addr → Option Value} {sz : Nat} {els : List (List C)} {A : Option Addr} {cap : Nat} {uf : Nat → Nat → Value}
    (hc : els.length ≤ cap) (hsz : ∀ e ∈ els, e.length = sz) (hA : els ≠ [] → ∃ a, A = some a) (hsp : els ≠ [] → ∀ a, A = some a → a.spot = none)
    (hS : ∀ a, A = some a → ∀ (i : Nat) e, els[i]? = some e → ∀ (j : Nat) c, e[j]? = some c → S (a.add (i * sz + j)) = some (uf i j))
    (hr : ∀ (i : Nat) e, els[i]? = some e → ∀ (j : Nat) c, e[j]? = some c → RelC S c (uf i j)) {l h : Nat} (hl : l ≤ h) (hh : h ≤ els.length) :
    RelC S (.sl sz ((els.drop l).take (h - l))) (.slice (if cap = l then A else A.map (·.add (l * sz))) (h - l) (cap - l)) := by
  have hlen : ((els.drop l).take (h - l)).length = h - l := by simp; omega
  have hget : ∀ (i : Nat) e, ((els.drop l).take (h - l))[i]? = some e → els[l + i]? = some e := by
    intro i e hi
    rw [List.getElem?_take] at hi
    split at hi
    · simpa using hi
    · cases hi
  have hcl : cap = l → (els.drop l).take (h - l) = [] := by
    intro e; apply List.eq_nil_of_length_eq_zero; rw [hlen]; omega
  have := RelC.sl (S := S) sz ((els.drop l).take (h - l)) (if cap = l then A else A.map (·.add (l * sz))) (cap - l) (fun i j => uf (l + i) j) (by rw [hlen]; omega)
    (fun e he => hsz e (List.mem_of_mem_drop (List.mem_of_mem_take he))) (fun hne => by
      have : els ≠ [] := fun e => hne (by rw [e]; simp)
      obtain ⟨a, ha⟩ := hA this
      by_cases e : cap = l
      · exact absurd (hcl e) hne
      · exact ⟨_, by rw [if_neg e, ha]; rfl⟩) (fun hne a ha => by
      have hne' : els ≠ [] := fun e => hne (by rw [e]; simp)
      by_cases e : cap = l
      · rw [if_pos e] at ha; exact hsp hne' a ha
      · rw [if_neg e] at ha
        cases A with
        | none => cases ha
        | some a0 => cases ha; exact add_spot (hsp hne' a0 rfl) _) (fun a ha i e hi j c hj => by
      by_cases e' : cap = l
      · rw [hcl e'] at hi; simp at hi
      · rw [if_neg e'] at ha
        cases A with
        | none => cases ha
        | some a0 =>
          cases ha
          have := hS a0 rfl (l + i) e (hget i e hi) j c hj
          rw [add_add']; rw [← this]; congr 2; rw [Nat.add_mul]; omega) (fun i e hi j c hj => hr (l + i) e (hget i e hi) j c hj)
  rw [hlen] at this
  exact this

section
variable {P : Program} {cf : Cfg} {S0 : Addr → Option Value} {w0 : World} {O : Nat → Prop} (cx : Ctx P cf S0 w0 O)
variable {g0 g : G} {st : St} {a : Act} {w : World}
variable {R : Type} {dr : Bool} {o : Oper} {k : St → Option R} {r : R} {next : Act → World → Prop} {Q : Exit → Act → World → Prop}

theorem fieldOf_toList {fs : Array Field} {i : Nat} {f : Field} (h : fieldOf fs.toList i = some f) : fs[i]? = some f := by
  unfold fieldOf at h; simpa using h

include cx
theorem sizeOfT_run {t : TypeId} {n : Nat} (h : sizeOfT cf t = some n) (w : World) : (Go.sizeOf t).run P w = .ok n w := by
  unfold sizeOfT at h
  cases hi : cf.ti t with
  | none => rw [hi] at h; cases h
  | some i => rw [hi] at h; cases h; exact sizeOf_run cx hi w

theorem snd_fieldAddr {s : TypeId} {x : Operand} {f : Nat} (ho : o.op = .fieldAddr s x f) (hv : vop cf dr o k st = some r) (h : Rel w0 S0 O g0 g st a w) (hn : Hands w0 S0 O g0 k r next) : o.wp P a w next Q := by
  unfold vop at hv; rw [ho] at hv; simp only [vFieldAddr] at hv
  have he := ev_rel cx h x
  generalize hti : cf.ti s = ti at hv
  match ti, hv with
  | some ⟨.struct fs, z1, z2, z3, z4, z5⟩, hv =>
    simp only at hv
    have hu := (cx.ti s _ hti).und
    cases hf : fieldOf fs.toList f with
    | none => rw [hf] at hv; cases hv
    | some fd =>
      rw [hf] at hv; simp only at hv
      have hf' := fieldOf_toList hf
      generalize hsz : sizeOfT cf fd.type = sz at hv
      generalize st.ev cf x = e at hv he
      have hplace : ∀ n, sizeOfT cf fd.type = some (n + 1) → ∀ ad, (fieldPlace ad fd).run P w = .ok (ad.add fd.offset) w := by
        intro n hn ad
        unfold fieldPlace
        simp only [Sem.run_bind, sizeOfT_run cx hn, Result.andThen_ok]
        rw [if_neg (by omega)]; rfl
      match sz, e, hv, he with
      | some (n + 1), .t (.w (.ptr b off)), hv, he =>
        have hea : a.eval x = .pointer (some ⟨g.bx b, off, none⟩) := he.2
        refine snd_val hv h hn ⟨.pointer (some ⟨g.bx b, off + fd.offset, none⟩), ?_, he.1, rfl⟩
        unfold execOp
        simp only [ho, Sem.run_bind, Instr.fieldAt, run_underlying hu, Result.andThen_ok, hf', hea, Instr.sureAddr, Sem.run_pure, hplace n hsz, add_plain']
      | some (n + 1), .t (.w (.ea b i sz off)), hv, he =>
        obtain ⟨hlt, gb, o0, cnt, cap, hsl, hea⟩ := he
        refine snd_val hv h hn ⟨.pointer (some ⟨gb, o0 + (i * sz + off) + fd.offset, none⟩), ?_, hlt, gb, o0, cnt, cap, hsl, by rw [Nat.add_assoc, Nat.add_assoc]⟩
        unfold execOp
        simp only [ho, Sem.run_bind, Instr.fieldAt, run_underlying hu, Result.andThen_ok, hf', hea, Instr.sureAddr, Sem.run_pure, hplace n hsz, add_plain']
      | some (n + 1), .t (.w (.d (.ip l))), hv, he =>
        obtain ⟨ad, uf, hea, hsp, hS, hr⟩ := relC_ip he
        refine snd_val hv h hn ⟨.pointer (some (ad.add fd.offset)), ?_, ip_drop hsp hS hr _⟩
        unfold execOp
        simp only [ho, Sem.run_bind, Instr.fieldAt, run_underlying hu, Result.andThen_ok, hf', hea, Instr.sureAddr, Sem.run_pure, hplace n hsz]

/-- a part of a value's cells -/
theorem part_runW {t : TypeId} {i : TI} (hti : cf.ti t = some i) {us : List Value} {v : T} {off : Nat}
    (hw : (i.ag = true → RelT g v (.agg ((us.drop off).take i.size).toArray) ∧ i.size ≤ (us.drop off).length) ∧ (i.ag = false → ∃ u, (us.drop off)[0]? = some u ∧ RelT g v u)) :
    ∃ u, (part t us.toArray off).run P w = .ok u w ∧ RelT g v u := by
  unfold part
  simp only [Sem.run_bind, isAgg_run cx hti, Result.andThen_ok]
  cases hag : i.ag with
  | true =>
    obtain ⟨h1, h2⟩ := hw.1 hag
    simp only [if_true, Sem.run_bind, sizeOf_run cx hti, Result.andThen_ok, Sem.run_pure]
    refine ⟨_, rfl, ?_⟩
    have : (us.toArray.extract off (off + i.size)) = ((us.drop off).take i.size).toArray := by
      apply Array.ext'; simp [List.take_drop]
    rw [this]; exact h1
  | false =>
    obtain ⟨u, h1, h2⟩ := hw.2 hag
    have : us.toArray[off]? = some u := by simpa using h1
    simp only [this]
    exact ⟨u, by simp, h2⟩
theorem part_run {t : TypeId} {i : TI} (hti : cf.ti t = some i) {us : List Value} {m : M} {v : T} {off : Nat} (hl : RelMx g m us) (hc : cut i.ag i.size m off = some v) :
    ∃ u, (part t us.toArray off).run P w = .ok u w ∧ RelT g v u := part_runW cx hti (cut_rel (i := i) hl hc)
theorem part_runX {β : Type} {t : TypeId} {i : TI} (hti : cf.ti t = some i) {us : List Value} {m : M} {k : T → Option β} {rr : β} {off : Nat} (hl : RelMx g m us) (hc : cutX i m off k = some rr) :
    ∃ v u, k v = some rr ∧ (part t us.toArray off).run P w = .ok u w ∧ RelT g v u := by
  unfold cutX at hc
  split at hc
  · obtain ⟨v, hk, hw⟩ := cutK_rel ((all_of_relM hl).drop off) hc
    obtain ⟨u, h1, h2⟩ := part_runW (w := w) cx hti hw
    exact ⟨v, u, hk, h1, h2⟩
  · split at hc
    · rename_i v hcut
      obtain ⟨u, h1, h2⟩ := part_run (w := w) cx hti hl hcut
      exact ⟨v, u, hc, h1, h2⟩
    · cases hc
theorem snd_field {s : TypeId} {x : Operand} {f : Nat} (ho : o.op = .field s x f) (hv : vop cf dr o k st = some r) (h : Rel w0 S0 O g0 g st a w) (hn : Hands w0 S0 O g0 k r next) : o.wp P a w next Q := by
  unfold vop at hv; rw [ho] at hv; simp only [vField] at hv
  have he := ev_rel cx h x
  generalize hti : cf.ti s = ti at hv
  generalize st.ev cf x = e at hv he
  match ti, e, hv, he with
  | some ⟨.struct fs, z1, z2, z3, z4, z5⟩, .t (.agg l), hv, he =>
    simp only at hv
    have hu := (cx.ti s _ hti).und
    cases hf : fieldOf fs.toList f with
    | none => rw [hf] at hv; cases hv
    | some fd =>
      rw [hf] at hv; simp only at hv
      have hf' := fieldOf_toList hf
      cases hi : cf.ti fd.type with
      | none => rw [hi] at hv; cases hv
      | some i =>
        rw [hi] at hv; simp only at hv
        cases hc : cut i.ag i.size l fd.offset with
        | none => rw [hc] at hv; cases hv
        | some v =>
          rw [hc] at hv; simp only at hv
          obtain ⟨us, hus, hall⟩ := he
          obtain ⟨u, hr, hu2⟩ := part_run (w := w) cx hi hall hc
          refine snd_val hv h hn ⟨u, ?_, hu2⟩
          unfold execOp
          simp only [ho, Sem.run_bind, Instr.field, run_underlying hu, Result.andThen_ok, hf', hus, asAgg, Sem.run_pure, hr]

theorem eszE_und {t e : TypeId} {n : Nat} (h : eszE cf t = some (e, n)) : P.underlying t = some (.slice e) ∧ ∃ i, cf.ti e = some i ∧ i.size = n := by
  unfold eszE at h
  generalize hti : cf.ti t = ti at h
  match ti, h with
  | some ⟨.slice e', z1, z2, z3, z4, z5⟩, h =>
    simp only at h
    cases hi : cf.ti e' with
    | none => rw [hi] at h; cases h
    | some i => rw [hi] at h; cases h; exact ⟨(cx.ti t _ hti).und, i, hi, rfl⟩

omit cx in
theorem esz_E {t : TypeId} {n : Nat} (h : esz cf t = some n) : ∃ e, eszE cf t = some (e, n) := by
  unfold esz at h
  cases he : eszE cf t with
  | none => rw [he] at h; cases h
  | some p => rw [he] at h; cases h; exact ⟨p.1, rfl⟩

theorem indexSl {t : TypeId} {x ix : Operand} (ho : o.op = .indexAddr t x ix) {i : Int} {ki : IntKind} (hix : a.eval ix = .int ki i) {sz n : Nat} {els : List (List C)} (hx : RelC g.S (.sl sz els) (a.eval x))
    (hs : esz cf t = some n) (hns : n = sz) (h0 : 0 ≤ i) {e : List C} (he : els[i.toNat]? = some e) : ∃ u, (execOp a.eval o).run P w = .ok (.value u) w ∧ RelC g.S (.ip e) u := by
  subst hns
  obtain ⟨et, hE⟩ := esz_E hs
  obtain ⟨hu, ti, hte, hsz'⟩ := eszE_und cx hE
  obtain ⟨A, cap, uf, hea, hc, hsz, hA, hsp, hS, hr⟩ := relC_sl hx
  have hlt : i.toNat < els.length := (List.getElem?_eq_some_iff.1 he).1
  obtain ⟨ad, rfl⟩ := hA (fun e => by rw [e] at hlt; simp at hlt)
  refine ⟨.pointer (some (ad.add (i.toNat * n))), ?_, ?_⟩
  · unfold execOp
    have hcond : (0 ≤ i ∧ i < (els.length : Int)) := ⟨h0, by omega⟩
    simp only [ho, Sem.run_bind, Instr.indexAt, hix, asIntOf, run_underlying hu, Result.andThen_ok, hea, Sem.run_pure, hcond, and_self, if_true, sizeOf_run cx hte, hsz']
  · exact .ip e _ (fun j => uf i.toNat j) (add_spot (hsp (fun hn => by rw [hn] at he; simp at he) ad rfl) _) (fun j c hj => by rw [add_add']; exact hS ad rfl _ e he j c hj) (fun j c hj => hr _ e he j c hj)

theorem snd_indexAddr {t : TypeId} {x ix : Operand} (ho : o.op = .indexAddr t x ix) (hv : vop cf dr o k st = some r) (h : Rel w0 S0 O g0 g st a w) (hn : Hands w0 S0 O g0 k r next) : o.wp P a w next Q := by
  unfold vop at hv; rw [ho] at hv; simp only [vIndexAddr] at hv
  have hi := ev_rel cx h ix
  have he := ev_rel cx h x
  generalize st.ev cf ix = ei at hv hi
  match ei, hv, hi with
  | .t (.w (.d (.int ki i))), hv, hi =>
    simp only at hv
    have hix := relC_int hi
    generalize hti : cf.ti t = ti at hv
    generalize st.ev cf x = e at hv he
    match ti, e, hv, he with
    | some ⟨.slice et, z1, z2, z3, z4, z5⟩, .t (.w (.d (.sl sz els))), hv, he =>
      simp only at hv
      cases hs : esz cf t with
      | none => rw [hs] at hv; cases hv
      | some n =>
        rw [hs] at hv; simp only at hv
        by_cases hc : (n == sz && decide (0 ≤ i)) = true
        · rw [hc, cond_true] at hv
          simp only [Bool.and_eq_true, beq_iff_eq, decide_eq_true_eq] at hc
          unfold getT at hv
          cases hg : els[i.toNat]? with
          | none => rw [hg] at hv; cases hv
          | some e => rw [hg] at hv; exact snd_val hv h hn (indexSl cx ho hix he hs hc.1 hc.2 hg)
        · rw [Bool.not_eq_true] at hc; rw [hc] at hv; cases hv
    | some ⟨.slice et, z1, z2, z3, z4, z5⟩, .t (.w (.arr b)), hv, he =>
      simp only at hv
      cases hs : esz cf t with
      | none => rw [hs] at hv; cases hv
      | some n =>
        rw [hs] at hv
        generalize hb : st.bx.getD b none = bb at hv
        match bb, hv with
        | some (.arr mt e0 sz els), hv =>
          simp only at hv
          by_cases hc : (n == sz && decide (0 ≤ i)) = true
          case neg => rw [Bool.not_eq_true] at hc; rw [hc] at hv; cases hv
          rw [hc, cond_true] at hv
          simp only [Bool.and_eq_true, beq_iff_eq, decide_eq_true_eq] at hc
          obtain ⟨rfl, h0⟩ := hc
          unfold getT at hv
          cases hg : els[i.toNat]? with
          | none => rw [hg] at hv; cases hv
          | some e =>
            rw [hg] at hv; simp only at hv
            obtain ⟨hblt, xs, e', he', hown, hfl, hpos, hrc⟩ := h.m.box b _ (getD_some hb)
            obtain ⟨_, hea, _⟩ := he
            cases mt with
            | false =>
              rw [cond_false] at hv
              exact snd_val hv h hn (indexSl cx ho hix (by rw [hea]; exact hrc rfl) hs rfl h0 hg)
            | true =>
              rw [cond_true] at hv
              obtain ⟨et', hE⟩ := esz_E hs
              obtain ⟨hu, ti, hte, hsz'⟩ := eszE_und cx hE
              have hlt : i.toNat < els.length := lt_of hg
              rcases hown.2 with ⟨_, hx⟩ | ⟨gb, o0, cap, cur, hsl, _⟩
              · rw [hx] at hlt; omega
              · refine snd_val hv h hn ⟨.pointer (some ⟨gb, o0 + i.toNat * n, none⟩), ?_, hblt, gb, o0, _, cap, hsl, by simp⟩
                unfold execOp
                have hcond : (0 ≤ i ∧ i < (els.length : Int)) := ⟨h0, by omega⟩
                simp only [ho, Sem.run_bind, Instr.indexAt, hix, asIntOf, run_underlying hu, Result.andThen_ok, hea, hsl, Sem.run_pure, hcond, and_self, if_true, sizeOf_run cx hte, hsz', add_plain']
    | some ⟨.slice et, z1, z2, z3, z4, z5⟩, .t (.w (.vw b lo hi mx sz0)), hv, he =>
      simp only at hv
      cases hs : esz cf t with
      | none => rw [hs] at hv; cases hv
      | some n =>
        rw [hs] at hv
        generalize hb : st.bx.getD b none = bb at hv
        match bb, hv with
        | some (.arr true e0 sz els), hv =>
          simp only at hv
          by_cases hc : (n == sz && Nat.beq sz sz0 && decide (0 ≤ i ∧ i < ((hi - lo : Nat) : Int))) = true
          case neg => rw [Bool.not_eq_true] at hc; rw [hc] at hv; cases hv
          rw [hc, cond_true] at hv
          simp only [Bool.and_eq_true, beq_iff_eq, decide_eq_true_eq, Nat.beq_eq] at hc
          have hq := hv
          obtain ⟨⟨rfl, rfl⟩, h0, h1⟩ := hc
          replace hv := hq
          unfold getT at hv
          cases hg : els[lo + i.toNat]? with
          | none => rw [hg] at hv; cases hv
          | some e =>
            rw [hg] at hv; simp only at hv
            obtain ⟨hblt, xs, e', he', hown, hfl, hpos, hrc⟩ := h.m.box b _ (getD_some hb)
            obtain ⟨_, hlh, hhm, A, cap, hea, hmc, hnil, hsome⟩ := he
            obtain ⟨et', hE⟩ := esz_E hs
            obtain ⟨hu, ti, hte, hsz'⟩ := eszE_und cx hE
            rcases hown.2 with ⟨hsl, hx⟩ | ⟨gb, o0, cap0, cur, hsl, _⟩
            · have := (hnil hsl).2.1; omega
            · obtain ⟨_, _, l, hll, hl0, rfl⟩ := hsome gb o0 _ _ hsl
              have hl1 := hl0 (by omega)
              subst hl1
              refine snd_val hv h hn ⟨.pointer (some ⟨gb, o0 + l * n + i.toNat * n, none⟩), ?_, hblt, gb, o0, _, cap0, hsl, by rw [Nat.add_mul]; simp [Nat.add_assoc]⟩
              unfold execOp
              have hcond : (0 ≤ i ∧ i < ((hi - l : Nat) : Int)) := ⟨h0, h1⟩
              simp only [ho, Sem.run_bind, Instr.indexAt, hix, asIntOf, run_underlying hu, Result.andThen_ok, hea, Sem.run_pure, hcond, and_self, if_true, sizeOf_run cx hte, hsz', add_plain']
    | some ⟨.array len et, z1, z2, z3, z4, z5⟩, .t (.w (.ptr b off)), hv, he =>
      simp only at hv
      cases hs : sizeOfT cf et with
      | none => rw [hs] at hv; cases hv
      | some n =>
        rw [hs] at hv; simp only at hv
        by_cases hc : 0 ≤ i ∧ i < (len : Int)
        · rw [decide_eq_true hc, cond_true] at hv
          have hea : a.eval x = .pointer (some ⟨g.bx b, off, none⟩) := he.2
          refine snd_val hv h hn ⟨.pointer (some ⟨g.bx b, off + i.toNat * n, none⟩), ?_, he.1, rfl⟩
          unfold execOp
          simp only [ho, Sem.run_bind, Instr.indexAt, hix, asIntOf, run_underlying (cx.ti t _ hti).und, Result.andThen_ok, hea, Instr.sureAddr, Sem.run_pure, hc, and_self, if_true, sizeOfT_run cx hs, add_plain']
        · rw [decide_eq_false hc] at hv; cases hv
    | some ⟨.array len et, z1, z2, z3, z4, z5⟩, .t (.w (.ea b j sz off)), hv, he =>
      simp only at hv
      cases hs : sizeOfT cf et with
      | none => rw [hs] at hv; cases hv
      | some n =>
        rw [hs] at hv; simp only at hv
        by_cases hc : 0 ≤ i ∧ i < (len : Int)
        · rw [decide_eq_true hc, cond_true] at hv
          obtain ⟨hlt, gb, o0, cnt, cap, hsl, hea⟩ := he
          refine snd_val hv h hn ⟨.pointer (some ⟨gb, o0 + (j * sz + off) + i.toNat * n, none⟩), ?_, hlt, gb, o0, cnt, cap, hsl, by rw [Nat.add_assoc, Nat.add_assoc]⟩
          unfold execOp
          simp only [ho, Sem.run_bind, Instr.indexAt, hix, asIntOf, run_underlying (cx.ti t _ hti).und, Result.andThen_ok, hea, Instr.sureAddr, Sem.run_pure, hc, and_self, if_true, sizeOfT_run cx hs, add_plain']
        · rw [decide_eq_false hc] at hv; cases hv
    | some ⟨.array len et, z1, z2, z3, z4, z5⟩, .t (.w (.d (.ip l))), hv, he =>
      simp only at hv
      cases hs : sizeOfT cf et with
      | none => rw [hs] at hv; cases hv
      | some n =>
        rw [hs] at hv; simp only at hv
        by_cases hc : 0 ≤ i ∧ i < (len : Int)
        · rw [decide_eq_true hc, cond_true] at hv
          obtain ⟨ad, uf, hea, hsp, hS, hr⟩ := relC_ip he
          refine snd_val hv h hn ⟨.pointer (some (ad.add (i.toNat * n))), ?_, ip_drop hsp hS hr _⟩
          unfold execOp
          simp only [ho, Sem.run_bind, Instr.indexAt, hix, asIntOf, run_underlying (cx.ti t _ hti).und, Result.andThen_ok, hea, Instr.sureAddr, Sem.run_pure, hc, and_self, if_true, sizeOfT_run cx hs]
        · rw [decide_eq_false hc] at hv; cases hv

theorem snd_index {t : TypeId} {x ix : Operand} (ho : o.op = .index t x ix) (hv : vop cf dr o k st = some r) (h : Rel w0 S0 O g0 g st a w) (hn : Hands w0 S0 O g0 k r next) : o.wp P a w next Q := by
  unfold vop at hv; rw [ho] at hv; simp only [vIndex] at hv
  have hi := ev_rel cx h ix
  have he := ev_rel cx h x
  generalize st.ev cf ix = ei at hv hi
  match ei, hv, hi with
  | .t (.w (.d (.int ki i))), hv, hi =>
    simp only at hv
    have hix := relC_int hi
    generalize hti : cf.ti t = ti at hv
    generalize st.ev cf x = e at hv he
    match ti, e, hv, he with
    | some ⟨.string, z1, z2, z3, z4, z5⟩, .t (.w (.d (.str s))), hv, he =>
      simp only at hv
      have hs := relC_str he
      by_cases h0 : 0 ≤ i
      · rw [decide_eq_true h0, cond_true] at hv
        unfold getT at hv
        cases hg : s.data.toList[i.toNat]? with
        | none => rw [hg] at hv; cases hv
        | some b =>
          rw [hg] at hv
          have hb : s[i.toNat]? = some b := by
            have : s.data[i.toNat]? = some b := by simpa using hg
            rw [← this]; rfl
          refine snd_val hv h hn ⟨.int .u8 b.toNat, ?_, RelC.int _ _⟩
          unfold execOp
          simp only [ho, Sem.run_bind, Instr.index, hix, asIntOf, run_underlying (cx.ti t _ hti).und, Result.andThen_ok, hs, Sem.run_pure, h0, if_true, hb]
      · rw [decide_eq_false h0] at hv; cases hv
    | some ⟨.array len et, z1, z2, z3, z4, z5⟩, .t (.agg l), hv, he =>
      simp only at hv
      cases hte : cf.ti et with
      | none => rw [hte] at hv; cases hv
      | some i2 =>
        rw [hte] at hv; simp only at hv
        by_cases hc : 0 ≤ i ∧ i < (len : Int)
        · rw [decide_eq_true hc, cond_true] at hv
          obtain ⟨us, hus, hall⟩ := he
          obtain ⟨v, u, hk, hr, hu2⟩ := part_runX (w := w) cx hte hall hv
          refine snd_val (v := .t v) hk h hn ⟨u, ?_, hu2⟩
          unfold execOp
          simp only [ho, Sem.run_bind, Instr.index, hix, asIntOf, run_underlying (cx.ti t _ hti).und, Result.andThen_ok, hus, Sem.run_pure, hc, and_self, if_true, sizeOf_run cx hte, hr]
        · rw [decide_eq_false hc] at hv; cases hv

theorem bnd_rel (h : Rel w0 S0 O g0 g st a w) {d : Nat} {x : Option Operand} {i : Int} (hb : bnd cf st d x = some i) : (x = none ∧ i = d) ∨ ∃ y ki, x = some y ∧ a.eval y = .int ki i := by
  unfold bnd at hb
  cases x with
  | none => simp at hb; exact .inl ⟨rfl, hb.symm⟩
  | some y =>
    simp only at hb
    have he := ev_rel cx h y
    generalize st.ev cf y = e at hb he
    match e, hb, he with
    | .t (.w (.d (.int ki n))), hb, he => simp only [Option.some.injEq] at hb; subst hb; exact .inr ⟨y, ki, rfl, relC_int he⟩

theorem bounds_run (h : Rel w0 S0 O g0 g st a w) (isS : Bool) {len cap : Nat} {lo hi : Option Operand} {l u : Int} (hl : bnd cf st 0 lo = some l) (hh : bnd cf st len hi = some u)
    (h1 : 0 ≤ l) (h2 : l ≤ u) (h3 : u ≤ cap) : (Instr.sliceBounds isS len cap (lo.map a.eval) (hi.map a.eval) none).run P w = .ok (l.toNat, u.toNat, cap) w := by
  have hb : ∀ (ki : IntKind) (i : Int) (y : Nat) (c : BoundsCode), 0 ≤ i → i ≤ y → (Instr.sliceBound (.int ki i) y c).run P w = .ok i.toNat w := by
    intro ki i y c h0 hy
    unfold Instr.sliceBound
    simp only [Sem.run_bind, asIntOf, Sem.run_pure, Result.andThen_ok]
    rw [if_pos ⟨h0, hy⟩]; rfl
  unfold Instr.sliceBounds
  have hu : 0 ≤ u := by omega
  rcases bnd_rel cx h hl with ⟨rfl, el⟩ | ⟨y, ki, rfl, ey⟩ <;> rcases bnd_rel cx h hh with ⟨rfl, eh⟩ | ⟨z, kz, rfl, ez⟩
  · subst el eh
    simp only [Option.map_none, Sem.run_bind, Sem.run_pure, Result.andThen_ok, Int.toNat_natCast]
  · subst el
    simp only [Option.map_none, Option.map_some, ez, Sem.run_bind, Sem.run_pure, Result.andThen_ok, hb kz u cap _ hu h3]
    rfl
  · subst eh
    simp only [Option.map_none, Option.map_some, ey, Sem.run_bind, Sem.run_pure, Result.andThen_ok, hb ki l len _ h1 h2, Int.toNat_natCast]
  · have hul : l ≤ (u.toNat : Int) := by omega
    simp only [Option.map_some, ey, ez, Sem.run_bind, Sem.run_pure, Result.andThen_ok, hb kz u cap _ hu h3, hb ki l u.toNat _ h1 hul]

theorem sliceSl (h : Rel w0 S0 O g0 g st a w) {S : Addr → Option Value} {t : TypeId} {x : Operand} {lo hi : Option Operand} (ho : o.op = .slice t x lo hi none) {sz n : Nat} {els : List (List C)} (hx : RelC S (.sl sz els) (a.eval x))
    (hs : esz cf t = some n) (hns : n = sz) {l u : Int} (hl : bnd cf st 0 lo = some l) (hh : bnd cf st els.length hi = some u) (hb : 0 ≤ l ∧ l ≤ u ∧ u ≤ els.length) :
    ∃ v, (execOp a.eval o).run P w = .ok (.value v) w ∧ RelC S (.sl sz ((els.drop l.toNat).take (u.toNat - l.toNat))) v := by
  subst hns
  obtain ⟨et, hE⟩ := esz_E hs
  obtain ⟨hu, ti, hte, hsz'⟩ := eszE_und cx hE
  obtain ⟨A, cap, uf, hea, hc, hsz, hA, hsp, hS, hr⟩ := relC_sl hx
  have hrun := bounds_run (P := P) cx h true hl hh hb.1 hb.2.1 (cap := cap) (by omega)
  refine ⟨_, ?_, sl_cut hc hsz hA hsp hS hr (l := l.toNat) (h := u.toNat) (by omega) (by omega)⟩
  unfold execOp
  simp only [ho, Sem.run_bind, Instr.sliceAt, run_underlying hu, Result.andThen_ok, hea, Instr.slice, Option.map_none, hrun, sizeOf_run cx hte, hsz', Sem.run_pure]

theorem bounds_run3 (h : Rel w0 S0 O g0 g st a w) (isS : Bool) {len cap d e : Nat} {lo hi mx : Option Operand} {l u c : Int} (hl : bnd cf st 0 lo = some l) (hh : bnd cf st len hi = some u) (hc : bnd cf st d mx = some c) (hm : mx.isSome = true) (hi0 : hi.isSome = true)
    (h1 : 0 ≤ l) (h2 : l ≤ u) (h3 : u ≤ c) (h4 : c ≤ cap) : (Instr.sliceBounds isS e cap (lo.map a.eval) (hi.map a.eval) (mx.map a.eval)).run P w = .ok (l.toNat, u.toNat, c.toNat) w := by
  have hb : ∀ (ki : IntKind) (i : Int) (y : Nat) (c : BoundsCode), 0 ≤ i → i ≤ y → (Instr.sliceBound (.int ki i) y c).run P w = .ok i.toNat w := by
    intro ki i y c h0 hy
    unfold Instr.sliceBound
    simp only [Sem.run_bind, asIntOf, Sem.run_pure, Result.andThen_ok]
    rw [if_pos ⟨h0, hy⟩]; rfl
  unfold Instr.sliceBounds
  rcases bnd_rel cx h hc with ⟨rfl, _⟩ | ⟨y3, k3, rfl, e3⟩
  · cases hm
  rcases bnd_rel cx h hh with ⟨rfl, _⟩ | ⟨y2, k2, rfl, e2⟩
  · cases hi0
  have hm1 : u ≤ (c.toNat : Int) := by omega
  have hm2 : l ≤ (u.toNat : Int) := by omega
  rcases bnd_rel cx h hl with ⟨rfl, el⟩ | ⟨y1, k1, rfl, e1⟩
  · subst el
    simp only [Option.map_none, Option.map_some, e2, e3, Sem.run_bind, Sem.run_pure, Result.andThen_ok, hb k3 c cap _ (by omega) h4, hb k2 u c.toNat _ (by omega) hm1]
    rfl
  · simp only [Option.map_some, e1, e2, e3, Sem.run_bind, Sem.run_pure, Result.andThen_ok, hb k3 c cap _ (by omega) h4, hb k2 u c.toNat _ (by omega) hm1, hb k1 l u.toNat _ h1 hm2]

omit cx in
/-- a row as a slice of itself -/
theorem viewOf_rel {bx : Bx} (h : RelM w0 S0 O g bx w) {v : V} {b lo hi mx sz : Nat} (hv : viewOf bx v = some (b, lo, hi, mx, sz)) {u : Value} (hr : RelV g v u) :
    RelW g (.vw b lo hi mx sz) u ∧ ∃ e els, bx[b]? = some (some (.arr true e sz els)) := by
  unfold viewOf at hv
  split at hv
  · rename_i b'
    split at hv
    · rename_i e sz' els hb
      simp only [Option.some.injEq, Prod.mk.injEq] at hv
      obtain ⟨rfl, rfl, rfl, rfl, rfl⟩ := hv
      refine ⟨?_, e, els, getD_some hb⟩
      obtain ⟨hcb, xs, e', he', hown, hfl, hpos, _⟩ := h.box _ _ (getD_some hb)
      obtain ⟨_, hea, _⟩ := hr
      refine ⟨hcb, Nat.zero_le _, Nat.le_refl _, ?_⟩
      rcases hown.2 with ⟨hsl, hx⟩ | ⟨gb, o0, cap0, cur, hsl, hh, hcnt, _⟩
      · exact ⟨none, 0, by rw [hea, hsl, hx], by omega, fun _ => ⟨rfl, hx, rfl⟩, fun gb o n c h => by rw [hsl] at h; simp at h⟩
      · refine ⟨some ⟨gb, o0, none⟩, cap0, by rw [hea, hsl]; simp, by omega, fun h => by rw [hsl] at h; simp at h, fun gb' o' n' c' h => ?_⟩
        rw [hsl] at h
        simp only [Value.slice.injEq, Option.some.injEq, Addr.mk.injEq, and_true] at h
        obtain ⟨⟨rfl, rfl⟩, rfl, rfl⟩ := h
        exact ⟨Nat.le_refl _, by omega, 0, Nat.le_refl _, fun _ => rfl, by simp⟩
    · cases hv
  · rename_i b' lo' hi' mx' sz0
    split at hv
    · rename_i e sz' els hb
      by_cases hc : Nat.beq sz' sz0 = true
      case neg => rw [Bool.not_eq_true] at hc; rw [hc] at hv; cases hv
      rw [hc, cond_true] at hv
      rw [Nat.beq_eq] at hc
      subst hc
      simp only [Option.some.injEq, Prod.mk.injEq] at hv
      obtain ⟨rfl, rfl, rfl, rfl, rfl⟩ := hv
      exact ⟨hr, e, els, getD_some hb⟩
    · cases hv
  · cases hv

theorem sliceView (h : Rel w0 S0 O g0 g st a w) {t : TypeId} {x : Operand} {lo hi mx : Option Operand} (ho : o.op = .slice t x lo hi mx) {b lo0 hi0 mx0 sz n : Nat} (hx : RelW g (.vw b lo0 hi0 mx0 sz) (a.eval x))
    (hs : esz cf t = some n) (hns : n = sz) {l u c : Int} (hl : bnd cf st 0 lo = some l) (hh : bnd cf st (hi0 - lo0) hi = some u) (hc : bnd cf st (mx0 - lo0) mx = some c) (hm : mx.isNone = true ∨ hi.isSome = true) (hb : 0 ≤ l ∧ l ≤ u ∧ u ≤ c ∧ c ≤ ((mx0 - lo0 : Nat) : Int)) :
    ∃ v, (execOp a.eval o).run P w = .ok (.value v) w ∧ RelW g (.vw b (lo0 + l.toNat) (lo0 + u.toNat) (lo0 + c.toNat) sz) v := by
  subst hns
  obtain ⟨et, hE⟩ := esz_E hs
  obtain ⟨hu, ti, hte, hsz'⟩ := eszE_und cx hE
  obtain ⟨hcb, hlh, hhm, A, cap, hea, hmc, hnil, hsome⟩ := hx
  obtain ⟨b1, b2, b3, b4⟩ := hb
  -- what the bounds come to
  have hbnd : ∃ m : Nat, (Instr.sliceBounds true (hi0 - lo0) cap (lo.map a.eval) (hi.map a.eval) (mx.map a.eval)).run P w = .ok (l.toNat, u.toNat, m) w ∧ c.toNat ≤ m ∧ m ≤ cap := by
    cases hmx : mx with
    | none => exact ⟨cap, bounds_run cx h true hl hh b1 b2 (by omega), by omega, Nat.le_refl _⟩
    | some z =>
      subst hmx
      have hi1 : hi.isSome = true := by rcases hm with h1 | h1; cases h1; exact h1
      exact ⟨c.toNat, bounds_run3 cx h true hl hh hc rfl hi1 b1 b2 b3 (by omega), Nat.le_refl _, by omega⟩
  obtain ⟨m, hrun, hm1, hm2⟩ := hbnd
  refine ⟨.slice (if m = l.toNat then A else A.map (·.add (l.toNat * n))) (u.toNat - l.toNat) (m - l.toNat), ?_, hcb, by omega, by omega, _, m - l.toNat, by congr 1; omega, by omega, fun h0 => ?_, fun gb o0 nn cc h0 => ?_⟩
  · unfold execOp
    simp only [ho, Sem.run_bind, Instr.sliceAt, run_underlying hu, Result.andThen_ok, hea, Instr.slice, hrun, sizeOf_run cx hte, hsz', Sem.run_pure]
  · obtain ⟨rfl, hmx, hcap⟩ := hnil h0
    refine ⟨?_, by omega, by omega⟩
    split <;> rfl
  · obtain ⟨h1, h2, l0, h3, h4, rfl⟩ := hsome gb o0 nn cc h0
    refine ⟨by omega, by omega, ?_⟩
    by_cases hml : m = l.toNat
    · rw [if_pos hml]
      exact ⟨l0, by omega, fun h => by omega, rfl⟩
    · rw [if_neg hml]
      have hl0 := h4 (by omega)
      subst hl0
      refine ⟨l0 + l.toNat, Nat.le_refl _, fun _ => rfl, ?_⟩
      rw [Option.map_some, add_plain', Nat.add_mul, Nat.add_assoc]

theorem snd_slice {t : TypeId} {x : Operand} {lo hi mx : Option Operand} (ho : o.op = .slice t x lo hi mx) (hv : vop cf dr o k st = some r) (h : Rel w0 S0 O g0 g st a w) (hn : Hands w0 S0 O g0 k r next) : o.wp P a w next Q := by
  unfold vop at hv; rw [ho] at hv; simp only [vSlice] at hv
  have he := ev_rel cx h x
  generalize hti : cf.ti t = ti at hv
  generalize st.ev cf x = e at hv he
  match ti, mx, ho, hv with
  | some ⟨.string, z1, z2, z3, z4, z5⟩, none, ho, hv =>
    simp only at hv
    match e, hv, he with
    | .t (.w (.d (.str s))), hv, he =>
      simp only at hv
      have hs := relC_str he
      cases hl : bnd cf st 0 lo with
      | none => rw [hl] at hv; cases hv
      | some l =>
        rw [hl] at hv
        cases hh : bnd cf st s.size hi with
        | none => rw [hh] at hv; cases hv
        | some u =>
          rw [hh] at hv; simp only at hv
          by_cases hb : 0 ≤ l ∧ l ≤ u ∧ u ≤ (s.size : Int)
          · rw [decide_eq_true hb, cond_true] at hv
            have hrun := bounds_run (P := P) cx h false hl hh hb.1 hb.2.1 hb.2.2
            refine snd_val hv h hn ⟨.string (s.extract l.toNat u.toNat), ?_, RelC.str _⟩
            unfold execOp
            simp only [ho, Sem.run_bind, Instr.sliceAt, run_underlying (cx.ti t _ hti).und, Result.andThen_ok, hs, Instr.slice, Option.map_none, Option.isSome_none, Bool.false_eq_true, if_false, hrun, Sem.run_pure]
          · rw [decide_eq_false hb] at hv; cases hv
  | some ⟨.slice et, z1, z2, z3, z4, z5⟩, mx, ho, hv =>
    simp only at hv
    cases hbor : borOf cf o with
    | true =>
      rw [hbor, cond_true] at hv
      generalize hvw : viewOf st.bx e = vw at hv
      match vw, hv with
      | some (b, lo0, hi0, mx0, sz), hv =>
        simp only at hv
        obtain ⟨hrw, e1, els, hb1⟩ := viewOf_rel h.m hvw he
        cases hs : esz cf t with
        | none => rw [hs] at hv; cases hv
        | some n =>
          cases hl : bnd cf st 0 lo with
          | none => rw [hs, hl] at hv; cases hv
          | some l =>
            cases hh : bnd cf st (hi0 - lo0) hi with
            | none => rw [hs, hl, hh] at hv; cases hv
            | some u =>
              cases hcc : bnd cf st (mx0 - lo0) mx with
              | none => rw [hs, hl, hh, hcc] at hv; cases hv
              | some c =>
                rw [hs, hl, hh, hcc] at hv; simp only at hv
                by_cases hb : (n == sz && (mx.isNone || hi.isSome) && decide (0 ≤ l ∧ l ≤ u ∧ u ≤ c ∧ c ≤ ((mx0 - lo0 : Nat) : Int))) = true
                · rw [hb, cond_true] at hv
                  simp only [Bool.and_eq_true, beq_iff_eq, decide_eq_true_eq, Bool.or_eq_true] at hb
                  exact snd_val (v := .t (.w (.vw b (lo0 + l.toNat) (lo0 + u.toNat) (lo0 + c.toNat) sz))) hv h hn (sliceView cx h ho hrw hs hb.1.1 hl hh hcc hb.1.2 hb.2)
                · rw [Bool.not_eq_true] at hb; rw [hb] at hv; cases hv
    | false =>
    rw [hbor, cond_false] at hv
    cases hmx : mx with
    | some z => rw [hmx] at hv; cases hv
    | none =>
    subst hmx
    simp only [Option.isSome_none, cond_false] at hv
    generalize hp : passV dr e st.bx = pp at hv
    match pp, hv with
    | some (.t (.w (.d (.sl sz els))), bx1), hv =>
      simp only at hv
      obtain ⟨g1, hmore, hR1, _, _, hw⟩ := passV_rel hp h.m
      have he1 := hw _ he
      cases hs : esz cf t with
      | none => rw [hs] at hv; cases hv
      | some n =>
        rw [hs] at hv
        cases hl : bnd cf st 0 lo with
        | none => rw [hl] at hv; cases hv
        | some l =>
          rw [hl] at hv
          cases hh : bnd cf st els.length hi with
          | none => rw [hh] at hv; cases hv
          | some u =>
            rw [hh] at hv; simp only at hv
            by_cases hb : (n == sz && decide (0 ≤ l ∧ l ≤ u ∧ u ≤ (els.length : Int))) = true
            · rw [hb, cond_true] at hv
              simp only [Bool.and_eq_true, beq_iff_eq, decide_eq_true_eq] at hb
              exact snd_more hmore hR1 hv h hn (sliceSl cx h ho he1 hs hb.1 hl hh hb.2)
            · rw [Bool.not_eq_true] at hb; rw [hb] at hv; cases hv
  | some ⟨.array n el, z1, z2, z3, z4, z5⟩, none, ho, hv =>
    simp only at hv
    generalize hs : sizeOfT cf el = es at hv
    match e, lo, hi, es, ho, hv, he, hs with
    | .t (.w (.ptr b off)), none, none, some 1, ho, hv, he, hs =>
      simp only at hv
      obtain ⟨hblt, hea⟩ := he
      have hrun : (execOp a.eval o).run P w = .ok (.value (.slice (some ⟨g.bx b, off, none⟩) n n)) w := by
        unfold execOp
        simp only [ho, Sem.run_bind, Instr.sliceAt, run_underlying (cx.ti t _ hti).und, Result.andThen_ok, hea, Instr.sureAddr, Sem.run_pure, Instr.sliceBounds, Option.map_none, sizeOfT_run cx hs, Nat.sub_zero, Nat.zero_mul]
        have : (⟨g.bx b, off, none⟩ : Addr).add 0 = ⟨g.bx b, off, none⟩ := by rw [add_plain', Nat.add_zero]
        by_cases hn : n = 0
        · rw [if_pos hn]
        · rw [if_neg hn, this]
      cases hbor : borOf cf o with
      | false =>
        rw [hbor, cond_false] at hv
        exact snd_val hv h hn ⟨_, hrun, hblt, rfl⟩
      | true =>
        rw [hbor, cond_true] at hv
        generalize hb : st.bx.getD b none = bb at hv
        match bb, hv with
        | some (.cells ⟨l, [], ln⟩), hv2 =>
          simp only at hv2
          by_cases hc : (Nat.beq off 0 && ln == n && !dr && decide (n ≤ 9223372036854775807)) = true
          case neg => rw [Bool.not_eq_true] at hc; rw [hc] at hv2; cases hv2
          rw [hc, cond_true] at hv2
          simp only [Bool.and_eq_true, beq_iff_eq, decide_eq_true_eq, Nat.beq_eq] at hc
          obtain ⟨⟨⟨rfl, hl⟩, _⟩, hmax⟩ := hc
          have hb' := getD_some hb
          obtain ⟨_, cs, e', hh, hcs⟩ := h.m.box b _ hb'
          have hl : l.length = n := hcs.1.2.trans hl
          have hall := all_of_relM hcs
          have hm1 : RelM w0 S0 O g (st.bx.set b none) w := h.m.less (by simp; exact h.m.c) (fun n y hy => by
            rcases set_get hy with ⟨_, e, _⟩ | ⟨_, e⟩
            · cases e
            · exact e)
          have hlen : (l.map fun c => [c]).length = n := by simp [hl]
          have hno := h.m.none_of hb' (k := g.bx b) rfl (fun e sz els hh => by cases hh)
          have hcl : cs.length = n := by rw [hall.1, hl]
          have hsl : (g.push (st.bx.set b none).length 0 (.slice (some ⟨g.bx b, 0, none⟩) n n)).sl (st.bx.set b none).length = .slice (some ⟨g.bx b, 0, none⟩) n n := by simp [G.push]
          have hM := hm1.boxAdd (x := .arr true none 1 (l.map fun c => [c])) (k := 0) (v := .slice (some ⟨g.bx b, 0, none⟩) n n) (S' := g.S) (World.grownBy.refl w (some (g.bx b))) (fun k hk => by cases hk; exact h.m.low b _ _ hb' rfl) (fun _ _ h => h) (fun _ _ h => .inl h) (fun ad u hu _ => h.m.mem ad u hu)
            (fun m y k hy hk hr => by
              cases hr
              rcases set_get hy with ⟨_, e, _⟩ | ⟨hne, hy⟩
              · cases e
              · exact hne (h.m.disj m b y _ _ hy hb' hk rfl))
            ⟨cs, e', fun e0 h => (by cases h), by
              rw [hsl, hlen]
              exact ⟨by omega, .inr ⟨g.bx b, 0, n, _, rfl, hh, Nat.le_refl _, by simp only [maxLen]; omega, by simp [hcl], by simp only [Nat.mul_one, List.drop_zero]; rw [← hcl]; exact List.take_length⟩⟩,
              ⟨by simp [hall.1], fun i e hi => by
                simp only [List.getElem?_map, Option.map_eq_some_iff] at hi
                obtain ⟨c, hc, rfl⟩ := hi
                refine ⟨rfl, fun j c' hj => ?_⟩
                cases j with
                | zero =>
                  simp at hj; subst hj
                  obtain ⟨u, hu, hr⟩ := hall.get hc
                  exact ⟨u, by simpa using hu, hr⟩
                | succ j => simp at hj⟩, by omega, fun h => by cases h⟩
            (fun kk hk => by simp only [blk, hsl] at hk; left; exact hk)
            (fun kk hk off' sp u hu => by
              simp only [blk, hsl] at hk
              simp only [Value.ownBlock, Option.some.injEq] at hk; subst hk
              rw [hno off' sp] at hu; cases hu)
          have hpe : Ext g (g.push (st.bx.set b none).length 0 (.slice (some ⟨g.bx b, 0, none⟩) n n)) := G.push_ext hm1.fresh
          refine wp_val hrun (hn _ _ _ _ ((h.with ⟨hpe.S, hpe.bx, hpe.sl, hpe.c⟩ hM).put (v := .t (.w (.arr st.bx.length))) ?_) hv2)
          exact ⟨by simp [G.push], by simp [G.push], rfl⟩
end
end Vm
