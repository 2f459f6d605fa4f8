/- Vm, part F: each operation of the interpreter is the model's (1): values, loads. -/
import Derived.Test.YtniiimpcakmkbaaDoorWE
import Derived.Laws.StructEq
namespace Vm
open Go

def ZRel : Z → Value → Prop
  | .c c, u => RelC (fun _ => none) c u
  | .s _ sz, u => u = .slice none 0 0 ∧ 0 < sz

structure TIok (P : Program) (t : TypeId) (i : TI) : Prop where
  und : P.underlying t = some i.desc
  inf : ∃ z, (P.info? t).map (fun f => (f.zero, f.size, f.bytes)) = some (some z, i.size, i.bytes) ∧ All2 ZRel i.zero z.cells.toList ∧ i.zero.length = i.size ∧ (i.ag = true ↔ z = .agg z.cells)
  ag : i.ag = (match i.desc with | .struct _ | .array _ _ => true | _ => false)

structure Ctx (P : Program) (cf : Cfg) (S0 : Addr → Option Value) : Prop where
  mix : P.follows .mixedOrders = true
  ti : ∀ t i, cf.ti t = some i → TIok P t i
  glob : ∀ g l, cf.glob g = some l → RelC S0 (.ip l) (.pointer (some ⟨g, 0, none⟩))
  eq : ∀ t, cf.eqs t = true → P.stoodInHeld t = false ∧ P.eqGuardType P.depth t = false


section
variable {P : Program} {cf : Cfg} {S0 : Addr → Option Value} (cx : Ctx P cf S0)
variable {w0 : World} {O : Nat → Prop} {g0 g : G} {st : St} {a : Act} {w : World}
include cx

theorem info_of {t : TypeId} {i : TI} (h : cf.ti t = some i) : ∃ f, P.info? t = some f ∧ f.size = i.size ∧ f.bytes = i.bytes ∧ ∃ z, f.zero = some z ∧ All2 ZRel i.zero z.cells.toList ∧ i.zero.length = i.size ∧ (i.ag = true ↔ z = .agg z.cells) := by
  obtain ⟨z, hz, h2, h3, h4⟩ := (cx.ti t i h).inf
  cases hf : P.info? t with
  | none => rw [hf] at hz; cases hz
  | some f =>
    rw [hf] at hz
    simp only [Option.map_some, Option.some.injEq, Prod.mk.injEq] at hz
    exact ⟨f, rfl, hz.2.1, hz.2.2, z, hz.1, h2, h3, h4⟩

theorem ev_rel (h : Rel w0 S0 O g0 g st a w) (x : Operand) : RelV g (st.ev cf x) (a.eval x) := by
  cases x with
  | tmp t =>
    simp only [St.ev, getV_eq, Act.eval]
    cases hv : st.env[t]? with
    | none => simp [List.getD, hv]; trivial
    | some v => simp only [List.getD, hv, Option.getD_some]; exact h.env t v hv
  | const v =>
    simp only [St.ev, Act.eval]
    cases v <;> simp only [constV] <;> first | trivial | exact RelC.bool _ | exact RelC.int _ _ | exact RelC.str _ | exact RelC.ni | exact RelC.nf | skip
    rename_i p; cases p <;> simp only [] <;> first | trivial | exact RelC.np
  | func f => exact RelC.fn f [] [] rfl (fun j c u h => by simp at h)
  | global n =>
    simp only [St.ev, Act.eval]
    cases hg : cf.glob n with
    | none => trivial
    | some l => exact RelC.mono h.m.sub (cx.glob n l hg)

omit cx in
theorem nilSlice_eval {x : Operand} (h : isNilSlice x = true) (a : Act) : a.eval x = .slice none 0 0 := by
  unfold isNilSlice at h
  split at h
  · simp at h; obtain ⟨rfl, rfl⟩ := h; rfl
  · cases h

theorem evT_rel (h : Rel w0 S0 O g0 g st a w) (t : TypeId) (x : Operand) : RelV g (st.evT cf t x) (a.eval x) := by
  unfold St.evT
  by_cases hn : isNilSlice x = true
  · rw [hn, nilSlice_eval hn a, cond_true]
    cases esz cf t with
    | none => trivial
    | some sz => exact relC_nil _ sz
  · rw [Bool.not_eq_true] at hn; rw [hn]; exact ev_rel cx h x

omit cx in
theorem wp_val {o : Oper} {v : Value} {w' : World} (hr : (execOp a.eval o).run P w = .ok (.value v) w') {next : Act → World → Prop} {Q : Exit → Act → World → Prop}
    (h : next (a.put o.dst v) w') : o.wp P a w next Q := by
  unfold Oper.wp; rw [hr]; exact h

omit cx in
theorem wp_skip' {o : Oper} {w' : World} (hr : (execOp a.eval o).run P w = .ok .skip w') {next : Act → World → Prop} {Q : Exit → Act → World → Prop}
    (h : next (a.put o.dst undef) w') : o.wp P a w next Q := by
  unfold Oper.wp; rw [hr]; exact h

/-- an operation whose run gives a value and leaves the world -/
theorem isAgg_run {t : TypeId} {i : TI} (h : cf.ti t = some i) (w : World) : (isAgg t).run P w = .ok i.ag w := by
  have := (cx.ti t i h)
  unfold isAgg
  simp only [Sem.run_bind, run_underlying this.und, Result.andThen_ok]
  rw [this.ag]
  cases i.desc <;> rfl

theorem sizeOf_run {t : TypeId} {i : TI} (h : cf.ti t = some i) (w : World) : (Go.sizeOf t).run P w = .ok i.size w := by
  obtain ⟨f, hf, h1, _⟩ := info_of cx h
  simp only [Go.sizeOf, Sem.run_bind, run_typeInfo _ hf, Result.andThen_ok, Sem.run_pure, h1]

theorem zero_run {t : TypeId} {i : TI} (h : cf.ti t = some i) (w : World) : ∃ z, (zeroValue t).run P w = .ok z w ∧ All2 ZRel i.zero z.cells.toList ∧ i.zero.length = i.size ∧ (i.ag = true ↔ z = .agg z.cells) := by
  obtain ⟨f, hf, _, _, z, hz, h2, h3, h4⟩ := info_of cx h
  exact ⟨z, by simp only [zeroValue, Sem.run_bind, run_typeInfo _ hf, Result.andThen_ok, hz, Sem.run_pure], h2, h3, h4⟩

/-- a load from a row of cells that are known -/
theorem load_run {t : TypeId} {i : TI} (h : cf.ti t = some i) {ad : Addr} {us : List Value} {w : World} (hc : ∀ j u, us[j]? = some u → w.cell? (ad.add j) = some u) :
    (i.ag = true → i.size ≤ us.length → (loadVar t ad).run P w = .ok (.agg (us.take i.size).toArray) w) ∧ (i.ag = false → ∀ u, us[0]? = some u → (loadVar t ad).run P w = .ok u w) := by
  refine ⟨fun hag hs => ?_, fun hag u hu => ?_⟩
  · unfold loadVar
    simp only [Sem.run_bind, isAgg_run cx h, Result.andThen_ok, hag, if_true, sizeOf_run cx h]
    have hlen : (us.take i.size).length = i.size := by rw [List.length_take]; omega
    have := run_loadCells_list (P := P) w ad (us.take i.size) (fun j v hj => hc j v (by
      rw [List.getElem?_take] at hj; split at hj
      · exact hj
      · cases hj))
    rw [hlen] at this
    simp only [this, Result.andThen_ok, Sem.run_pure]
  · unfold loadVar
    simp only [Sem.run_bind, isAgg_run cx h, Result.andThen_ok, hag]
    have h0 := hc 0 u hu
    have he : ad.add 0 = ad := by simp [Addr.add]
    rw [he] at h0
    simp [run_load, h0]


omit cx in
theorem cut_rel {i : TI} {m : M} {off : Nat} {us : List Value} {v : T} (hl : RelMx g m us) (hc : cut i.ag i.size m off = some v) :
    (i.ag = true → RelT g v (.agg ((us.drop off).take i.size).toArray) ∧ i.size ≤ (us.drop off).length) ∧ (i.ag = false → ∃ u, (us.drop off)[0]? = some u ∧ RelT g v u) := by
  unfold cut at hc
  have hlen := hl.n
  cases hag : i.ag with
  | true =>
    rw [hag] at hc; simp only [cond_true] at hc
    refine ⟨fun _ => ?_, fun h => by cases h⟩
    by_cases hs : off + i.size ≤ m.n
    · rw [show Nat.ble (off + i.size) m.n = true by simpa [Nat.ble_eq] using hs] at hc; cases hc
      refine ⟨⟨(us.drop off).take i.size, rfl, hl.sub hs⟩, ?_⟩
      rw [List.length_drop]; omega
    · rw [show Nat.ble (off + i.size) m.n = false by rw [Bool.eq_false_iff]; intro h; exact hs (by simpa [Nat.ble_eq] using h)] at hc; cases hc
  | false =>
    rw [hag] at hc; simp only [cond_false] at hc
    refine ⟨fun h => (by cases h), fun _ => ?_⟩
    by_cases hlt : off < m.n
    · rw [show Nat.blt off m.n = true by simpa [Nat.blt_eq] using hlt, cond_true] at hc
      cases hg : m.get off with
      | none => rw [hg] at hc; cases hc
      | some x =>
        rw [hg] at hc; cases hc
        exact ⟨us[off], by simp [hlen, hlt], hl.2 off x _ hg (List.getElem?_eq_getElem (by omega))⟩
    · have : Nat.blt off m.n = false := by rw [Bool.eq_false_iff]; intro h; exact hlt (by simpa [Nat.blt_eq] using h)
      rw [this] at hc; cases hc

omit cx in
theorem cutK_rel {β : Type} {i : TI} {l : List C} {k : T → Option β} {r : β} {us : List Value} (hl : All2 (RelC g.S) l us) (hc : cutK i l k = some r) : ∃ v, k v = some r ∧
    (i.ag = true → RelT g v (.agg (us.take i.size).toArray) ∧ i.size ≤ us.length) ∧ (i.ag = false → ∃ u, us[0]? = some u ∧ RelT g v u) := by
  obtain ⟨v, hk, h1, h2⟩ := cutK_some hc
  refine ⟨v, hk, fun hag => ?_, fun hag => ?_⟩
  · obtain ⟨rfl, hs⟩ := h1 hag
    exact ⟨⟨us.take i.size, rfl, relM_of_all (hl.take _) (by rw [List.length_take]; omega)⟩, by rw [hl.1]; exact hs⟩
  · obtain ⟨c, hc, rfl⟩ := h2 hag
    obtain ⟨u, hu, hr⟩ := hl.get hc
    exact ⟨u, hu, hr⟩

omit cx in
/-- cells of an element of a row -/
theorem elem_cells {w : World} {n : Nat} {e : Option TypeId} {sz : Nat} {els : List (List C)} {mt : Bool} (hb : BoxRel g w n (.arr mt e sz els)) {gb cnt cap : Nat} (hv : g.sl n = .slice (some ⟨gb, 0, none⟩) cnt cap) {i : Nat} {el : List C} (hi : els[i]? = some el) :
    ∃ us : List Value, All2 (RelC g.S) el us ∧ ∀ j u, us[j]? = some u → w.cell? ⟨gb, i * sz + j, none⟩ = some u := by
  obtain ⟨xs, _, _, hown, hfl, _, _⟩ := hb
  obtain ⟨h1, h2⟩ := hfl.2 i el hi
  refine ⟨(xs.drop (i * sz)).take el.length, ⟨?_, fun j c u hc hu => ?_⟩, fun j u hu => ?_⟩
  · have hlt := lt_of hi
    have : (i + 1) * sz ≤ els.length * sz := Nat.mul_le_mul_right _ hlt
    rw [Nat.add_mul, Nat.one_mul] at this
    rw [List.length_take, List.length_drop, hfl.1, h1]; omega
  · obtain ⟨u', hu', hr⟩ := h2 j c hc
    rw [List.getElem?_take] at hu
    split at hu
    · rw [List.getElem?_drop] at hu; rw [hu] at hu'; cases hu'; exact hr
    · cases hu
  · rw [List.getElem?_take] at hu
    split at hu
    · rw [List.getElem?_drop] at hu
      exact own_cells hown (k := gb) (by rw [hv]; rfl) _ u hu
    · cases hu

end

section
variable {P : Program} {cf : Cfg} {S0 : Addr → Option Value} (cx : Ctx P cf S0)
variable {w0 : World} {O : Nat → Prop} {g0 g : G} {st : St} {a : Act} {w : World}
variable {R : Type} {dr : Bool} {o : Oper} {k : St → Option R} {r : R} {next : Act → World → Prop} {Q : Exit → Act → World → Prop}

/-- what a step must hand on -/
abbrev Hands (w0 : World) (S0 : Addr → Option Value) (O : Nat → Prop) (g0 : G) {R : Type} (k : St → Option R) (r : R) (next : Act → World → Prop) : Prop :=
  ∀ g' st' a' w', Rel w0 S0 O g0 g' st' a' w' → k st' = some r → next a' w'

theorem snd_val {v : V} (hk : k (st.set o.dst v) = some r) (h : Rel w0 S0 O g0 g st a w) (hn : Hands w0 S0 O g0 k r next)
    (hexec : ∃ u, (execOp a.eval o).run P w = .ok (.value u) w ∧ RelV g v u) : o.wp P a w next Q := by
  obtain ⟨u, hr, hu⟩ := hexec
  exact wp_val hr (hn _ _ _ _ (h.put hu) hk)


/-- a value, and boxes that turned -/
theorem snd_more {v : V} {bx' : Bx} {g' : G} (hm : More g g') (hR : RelM w0 S0 O g' bx' w) (hk : k (({ st with bx := bx' } : St).set o.dst v) = some r) (h : Rel w0 S0 O g0 g st a w) (hn : Hands w0 S0 O g0 k r next)
    (hexec : ∃ u, (execOp a.eval o).run P w = .ok (.value u) w ∧ RelV g' v u) : o.wp P a w next Q := by
  obtain ⟨u, hr, hu⟩ := hexec
  exact wp_val hr (hn _ _ _ _ ((h.more hm hR).put hu) hk)

include cx
/-- a load from cells that are known -/
theorem snd_load1 {t : TypeId} {i : TI} {x : Operand} (ho : o.op = .load t x) (hi : cf.ti t = some i) {ad : Addr} (hea : a.eval x = .pointer (some ad)) {us : List Value}
    (hcell : ∀ j u, us[j]? = some u → w.cell? (ad.add j) = some u) {v : T} (hw : (i.ag = true → RelT g v (.agg (us.take i.size).toArray) ∧ i.size ≤ us.length) ∧ (i.ag = false → ∃ u, us[0]? = some u ∧ RelT g v u)) :
    ∃ u, (execOp a.eval o).run P w = .ok (.value u) w ∧ RelT g v u := by
  have hl := load_run cx hi hcell
  have hexec : (execOp a.eval o).run P w = ((Instr.loadAt t (a.eval x)).run P w).andThen fun v w => .ok (.value v) w := by
    unfold execOp; simp only [ho, Sem.run_bind, Sem.run_pure]
  rw [hexec, hea]
  simp only [Instr.loadAt, Instr.sureAddr, Sem.run_bind, Sem.run_pure, Result.andThen_ok]
  cases hag : i.ag with
  | true => obtain ⟨h1, h2⟩ := hw.1 hag; rw [hl.1 hag h2]; exact ⟨_, rfl, h1⟩
  | false => obtain ⟨u, h1, h2⟩ := hw.2 hag; rw [hl.2 hag u h1]; exact ⟨u, rfl, h2⟩

omit cx in
theorem ip_cells {S : Addr → Option Value} {l : List C} {u : Value} (h : RelC S (.ip l) u) (hS : ∀ a v, S a = some v → w.cell? a = some v) :
    ∃ (ad : Addr) (us : List Value), u = .pointer (some ad) ∧ All2 (RelC S) l us ∧ ∀ j u, us[j]? = some u → w.cell? (ad.add j) = some u := by
  cases h with
  | ip l ad uf hsp hS' hr =>
    refine ⟨ad, (List.range l.length).map uf, rfl, ⟨by simp, fun j c u hc hu => ?_⟩, fun j u hu => ?_⟩
    · simp only [List.getElem?_map, Option.map_eq_some_iff] at hu
      obtain ⟨i', hi', rfl⟩ := hu
      have hlt : j < l.length := lt_of hc
      have : i' = j := by simpa [hlt] using hi'.symm
      subst this
      exact hr i' c hc
    · simp only [List.getElem?_map, Option.map_eq_some_iff] at hu
      obtain ⟨i', hi', rfl⟩ := hu
      have hlt : j < l.length := by simpa using (List.getElem?_eq_some_iff.1 hi').1
      have : i' = j := by simpa [hlt] using hi'.symm
      subst this
      exact hS _ _ (hS' i' _ (List.getElem?_eq_getElem hlt))

theorem snd_load {t : TypeId} {x : Operand} (ho : o.op = .load t x) (hv : vLoad cf o t x k st = some r) (h : Rel w0 S0 O g0 g st a w) (hn : Hands w0 S0 O g0 k r next) : o.wp P a w next Q := by
  unfold vLoad at hv
  cases hi : cf.ti t with
  | none => rw [hi] at hv; cases hv
  | some i =>
    rw [hi] at hv; simp only at hv
    have he := ev_rel cx h x
    generalize hev : st.ev cf x = e at hv he
    match e, hv, he with
    | .t (.w (.ptr b off)), hv, he =>
      simp only at hv
      generalize hb : st.bx.getD b none = bb at hv
      match bb, hv with
      | some (.cells m), hv =>
        simp only at hv
        cases hc : cut i.ag i.size m off with
        | none => rw [hc] at hv; cases hv
        | some v =>
          rw [hc] at hv; simp only at hv
          obtain ⟨_, cs, e, hh, hcs⟩ := h.m.box b _ (getD_some hb)
          refine snd_val (v := .t v) hv h hn (snd_load1 cx ho hi he.2 (us := cs.drop off) (fun j u hj => ?_) (cut_rel hcs hc))
          rw [add_plain', cell_of_row w (g.bx b) (off + j) cs.toArray e (0, 0) hh]
          simpa using hj
    | .t (.w (.ea b n sz0 off)), hv, he =>
      simp only at hv
      generalize hb : st.bx.getD b none = bb at hv
      match bb, hv with
      | some (.arr mt e sz els), hv =>
        simp only at hv
        by_cases hs : sz0 = sz
        case neg => rw [beq_false_of_ne hs] at hv; cases hv
        subst hs
        rw [beq_self_eq_true, cond_true] at hv
        unfold getT at hv
        cases hel : els[n]? with
        | none => rw [hel] at hv; cases hv
        | some el =>
          rw [hel] at hv; simp only at hv
          obtain ⟨_, gb, cnt, cap, hsl, hea⟩ := he
          obtain ⟨us, hus, hcell⟩ := elem_cells (h.m.box b _ (getD_some hb)).2 hsl hel
          obtain ⟨v, hv, hw⟩ := cutK_rel (hus.drop off) hv
          refine snd_val (v := .t v) hv h hn (snd_load1 cx ho hi hea (us := us.drop off) (fun j u hj => ?_) hw)
          rw [add_plain', Nat.add_assoc]
          exact hcell _ u (by simpa using hj)
    | .t (.w (.d (.ip l))), hv, he =>
      simp only at hv
      obtain ⟨ad, us, hea, hus, hcell⟩ := ip_cells he h.m.mem
      obtain ⟨v, hv, hw⟩ := cutK_rel hus hv
      exact snd_val (v := .t v) hv h hn (snd_load1 cx ho hi hea hcell hw)


theorem snd_move {x : Operand} (ho : o.op = .move x) (hv : vop cf dr o k st = some r) (h : Rel w0 S0 O g0 g st a w) (hn : Hands w0 S0 O g0 k r next) : o.wp P a w next Q := by
  unfold vop at hv; rw [ho] at hv
  exact snd_val hv h hn ⟨a.eval x, by unfold execOp; simp only [ho, Sem.run_pure], evT_rel cx h _ _⟩

theorem snd_pick {c x y : Operand} (ho : o.op = .pick c x y) (hv : vop cf dr o k st = some r) (h : Rel w0 S0 O g0 g st a w) (hn : Hands w0 S0 O g0 k r next) : o.wp P a w next Q := by
  unfold vop at hv; rw [ho] at hv; simp only at hv
  have he := ev_rel cx h c
  generalize st.ev cf c = e at hv he
  match e, hv, he with
  | .t (.w (.d (.bool t))), hv, he =>
    have hb := relC_bool he
    refine snd_val hv h hn ⟨if t then a.eval x else a.eval y, by unfold execOp; simp only [ho, Sem.run_bind, hb, asBool, Sem.run_pure, Result.andThen_ok], ?_⟩
    cases t
    · exact evT_rel cx h _ _
    · exact evT_rel cx h _ _

theorem snd_nilCheck {x : Operand} (ho : o.op = .nilCheck x) (hv : vop cf dr o k st = some r) (h : Rel w0 S0 O g0 g st a w) (hn : Hands w0 S0 O g0 k r next) : o.wp P a w next Q := by
  unfold vop at hv; rw [ho] at hv; simp only at hv
  have he := ev_rel cx h x
  generalize st.ev cf x = e at hv he
  match e, hv, he with
  | .t (.w (.ptr b off)), hv, he =>
    have hb : a.eval x = .pointer (some ⟨g.bx b, off, none⟩) := he.2
    exact snd_val hv h hn ⟨a.eval x, by unfold execOp; simp only [ho, hb, Sem.run_pure], he⟩
  | .t (.w (.ea b n sz off)), hv, he =>
    obtain ⟨_, gb, cnt, cap, _, hb⟩ := id he
    exact snd_val hv h hn ⟨a.eval x, by unfold execOp; simp only [ho, hb, Sem.run_pure], he⟩
  | .t (.w (.d (.ip l))), hv, he =>
    have he' : RelC g.S (.ip l) (a.eval x) := he
    generalize hq : a.eval x = q at he'
    cases he' with
    | ip l ad uf hsp hS hr => exact snd_val hv h hn ⟨.pointer (some ad), by unfold execOp; simp only [ho, hq, Sem.run_pure], RelC.ip l ad uf hsp hS hr⟩
  | .t (.w (.d (.fn f l))), hv, he =>
    have he' : RelC g.S (.fn f l) (a.eval x) := he
    generalize hq : a.eval x = q at he'
    cases he' with
    | fn f l us hl hh => exact snd_val hv h hn ⟨.func (.func f) #[] us.toArray, by unfold execOp; simp only [ho, hq, Sem.run_pure], RelC.fn f l us hl hh⟩

theorem snd_un {op : UnOp} {t : TypeId} {x : Operand} (ho : o.op = .unOp op t x) (hv : vop cf dr o k st = some r) (h : Rel w0 S0 O g0 g st a w) (hn : Hands w0 S0 O g0 k r next) : o.wp P a w next Q := by
  unfold vop at hv; rw [ho] at hv; simp only [vUn] at hv
  have he := ev_rel cx h x
  generalize st.ev cf x = e at hv he
  match op, e, hv, he with
  | .not, .t (.w (.d (.bool b))), hv, he =>
    have hb := relC_bool he
    exact snd_val hv h hn ⟨.bool (!b), by unfold execOp; simp only [ho, Sem.run_bind, hb, Op.unary, Sem.run_pure, Result.andThen_ok], RelC.bool _⟩
  | .neg, .t (.w (.d (.int kx n))), hv, he =>
    have hb := relC_int he
    exact snd_val hv h hn ⟨.int kx (kx.wrap (0 - n)), by unfold execOp; simp only [ho, Sem.run_bind, hb, Op.unary, Op.intArith, Sem.run_pure, Result.andThen_ok], RelC.int _ _⟩

theorem snd_extract {x : Operand} {i : Nat} (ho : o.op = .extract x i) (hv : vop cf dr o k st = some r) (h : Rel w0 S0 O g0 g st a w) (hn : Hands w0 S0 O g0 k r next) : o.wp P a w next Q := by
  unfold vop at hv; rw [ho] at hv; simp only [vExtract] at hv
  have he := ev_rel cx h x
  generalize st.ev cf x = e at hv he
  match e, hv, he with
  | .tup l, hv, he =>
    simp only at hv
    obtain ⟨us, hu, hall⟩ := he
    cases hl : l[i]? with
    | none => rw [hl] at hv; cases hv
    | some v =>
      rw [hl] at hv; simp only at hv
      obtain ⟨u, hu2, hr⟩ := hall.get hl
      have hu3 : us.toArray[i]? = some u := by simpa using hu2
      exact snd_val hv h hn ⟨u, by unfold execOp; simp only [ho, Sem.run_bind, hu, Instr.extract, hu3, Sem.run_pure, Result.andThen_ok], hr⟩

omit cx in
theorem run_intOp {op : BinOp} {kx : IntKind} {x y : Int} {c : C} (h : intOp op kx x y = some c) (w : World) :
    ∃ u, (binOp op 0 (.int kx x) (.int kx y)).run P w = .ok u w ∧ ∀ S, RelC S c u := by
  unfold intOp at h
  cases op <;> simp only [Option.some.injEq] at h <;> first
    | (subst h; exact ⟨_, by simp only [binOp, ne_eq, not_true_eq_false, if_false, Op.intArith, Op.intCmp, Sem.run_pure]; rfl, fun S => by first | exact .int _ _ | exact .bool _⟩)
    | skip
  all_goals first
    | (cases h; done)
    | (by_cases hy : y = 0
       · subst hy; simp at h
       · have hb : (y == 0) = false := by simpa using hy
         rw [hb] at h; simp only [cond_false, Option.some.injEq] at h; subst h
         exact ⟨_, by simp only [binOp, ne_eq, not_true_eq_false, if_false, Op.intDiv, hy, Sem.run_pure], fun S => .int _ _⟩)

omit cx in
theorem run_strOp {op : BinOp} {x y : ByteArray} {c : C} (h : strOp op x y = some c) (w : World) :
    ∃ u, (binOp op 0 (.string x) (.string y)).run P w = .ok u w ∧ ∀ S, RelC S c u := by
  unfold strOp at h
  cases op
  case add =>
    simp only at h
    by_cases hy : ((x.size + y.size : Nat) : Int) > IntKind.i64.max
    · rw [decide_eq_true hy] at h; cases h
    · rw [decide_eq_false hy] at h; cases h
      exact ⟨.string (x ++ y), by simp only [binOp, Op.stringOp, hy, if_false, Sem.run_pure], fun S => .str _⟩
  all_goals first
    | (cases h; done)
    | (cases h; exact ⟨_, rfl, fun S => .bool _⟩)

omit cx in
theorem binOp_int_type (op : BinOp) (t t' : TypeId) (kx ky : IntKind) (x y : Int) : binOp op t (.int kx x) (.int ky y) = binOp op t' (.int kx x) (.int ky y) := by
  unfold binOp; cases op <;> rfl
omit cx in
theorem binOp_str_type (op : BinOp) (t t' : TypeId) (x y : ByteArray) : binOp op t (.string x) (.string y) = binOp op t' (.string x) (.string y) := by
  unfold binOp; cases op <;> rfl

theorem eqW_run {t : TypeId} {i : TI} {x y : Operand} {p q : W} {e : Bool} {u v : Value} (hti : cf.ti t = some i) (he : eqW i.desc y p q = some e) (hp : RelW g p u) (hq : RelW g q v) (op : BinOp) :
    (Op.equal t u v).run P w = .ok e w ∧ (eqGuard op t x y u v).run P w = .ok () w := by
  have hu := (cx.ti t i hti).und
  generalize hd : i.desc = d at he hu
  have hg : ∀ a b : Value, (a = .nilIface → b = .nilIface → ∃ c, y = .const c) → (∀ m n, a = .agg m → b ≠ .agg n) → (eqGuard op t x y a b).run P w = .ok () w := by
    intro a b h1 h2
    unfold eqGuard
    cases op <;> try rfl
    all_goals
      cases a <;> first | rfl | skip
      all_goals cases b <;> first | rfl | skip
      all_goals first
        | (obtain ⟨c, rfl⟩ := h1 rfl rfl; cases x <;> rfl)
        | exact absurd rfl (h2 _ _ rfl)
  match d, p, q, he, hp, hq with
  | .pointer el, .ptr b off, .d .np, he, hp, hq =>
    cases he; obtain ⟨_, rfl⟩ := hp; cases hq
    exact ⟨by unfold Op.equal Op.maxDepth Op.equalIn; simp only [Sem.run_bind, run_underlying hu, Result.andThen_ok, Sem.run_pure], hg _ _ (fun h => by cases h) (fun _ _ h => by cases h)⟩
  | .pointer el, .ea b n sz off, .d .np, he, hp, hq =>
    cases he; obtain ⟨_, gb, cnt, cap, _, rfl⟩ := hp; cases hq
    exact ⟨by unfold Op.equal Op.maxDepth Op.equalIn; simp only [Sem.run_bind, run_underlying hu, Result.andThen_ok, Sem.run_pure], hg _ _ (fun h => by cases h) (fun _ _ h => by cases h)⟩
  | .pointer el, .d (.ip l), .d .np, he, hp, hq =>
    cases he; cases hq; cases hp
    exact ⟨by unfold Op.equal Op.maxDepth Op.equalIn; simp only [Sem.run_bind, run_underlying hu, Result.andThen_ok, Sem.run_pure], hg _ _ (fun h => by cases h) (fun _ _ h => by cases h)⟩
  | .pointer el, .d .np, .d .np, he, hp, hq =>
    cases he; cases hp; cases hq
    exact ⟨by unfold Op.equal Op.maxDepth Op.equalIn; simp only [Sem.run_bind, run_underlying hu, Result.andThen_ok, Sem.run_pure, Option.isNone_none], hg _ _ (fun h => by cases h) (fun _ _ h => by cases h)⟩
  | .interface ms, .d (.ifc t' ag l), .d .ni, he, hp, hq =>
    cases he; cases hq
    cases hp <;> exact ⟨by unfold Op.equal Op.maxDepth Op.equalIn; simp only [Sem.run_bind, run_underlying hu, Result.andThen_ok, Sem.run_pure], hg _ _ (fun h => by cases h) (fun _ _ h => by cases h)⟩
  | .interface ms, .d .ni, .d .ni, he, hp, hq =>
    cases hp; cases hq
    simp only [eqW] at he
    cases y with
    | const c =>
      cases he
      exact ⟨by unfold Op.equal Op.maxDepth Op.equalIn; simp only [Sem.run_bind, run_underlying hu, Result.andThen_ok, Sem.run_pure], hg _ _ (fun _ _ => ⟨c, rfl⟩) (fun _ _ h => by cases h)⟩
    | _ => cases he

omit cx in
theorem binOp_cells (t : TypeId) {p : W} {d : TypeDesc} {y : Operand} {q : W} {e : Bool} {u v : Value} (he : eqW d y p q = some e) (hp : RelW g p u) (hq : RelW g q v) :
    binOp .eql t u v = (do pure (.bool (← Op.equal t u v))) ∧ binOp .neq t u v = (do pure (.bool (!(← Op.equal t u v)))) := by
  match d, p, q, he, hp, hq with
  | .pointer el, .ptr b off, .d .np, he, hp, hq => obtain ⟨_, rfl⟩ := hp; cases hq; exact ⟨rfl, rfl⟩
  | .pointer el, .ea b n sz off, .d .np, he, hp, hq => obtain ⟨_, gb, cnt, cap, _, rfl⟩ := hp; cases hq; exact ⟨rfl, rfl⟩
  | .pointer el, .d (.ip l), .d .np, he, hp, hq => cases hq; cases hp; exact ⟨rfl, rfl⟩
  | .pointer el, .d .np, .d .np, he, hp, hq => cases hp; cases hq; exact ⟨rfl, rfl⟩
  | .interface ms, .d (.ifc t' ag l), .d .ni, he, hp, hq => cases hq; cases hp <;> exact ⟨rfl, rfl⟩
  | .interface ms, .d .ni, .d .ni, he, hp, hq => cases hp; cases hq; exact ⟨rfl, rfl⟩

theorem eqC_run {t : TypeId} {i : TI} (hti : cf.ti t = some i) (d : Nat) {x y : C} {u v : Value} {b : Bool} (he : eqC i.desc x y = some b) (hu : RelC g.S x u) (hv : RelC g.S y v) : (Op.equalIn (d + 1) t u v).run P w = .ok b w := by
  have hund := (cx.ti t i hti).und
  generalize i.desc = ds at he hund
  match ds, x, y, he with
  | .int kd, .int k a, .int j c, he =>
    simp only [eqC] at he
    by_cases hk : k = j
    · subst hk
      rw [decide_eq_true rfl, cond_true] at he
      cases he
      have h1 := relC_int hu; have h2 := relC_int hv
      rw [h1, h2]
      exact run_equalIn_int w d t k kd a c hund
    · rw [decide_eq_false hk] at he; cases he
  | .bool, .bool a, .bool c, he =>
    cases he
    have h1 := relC_bool hu; have h2 := relC_bool hv
    rw [h1, h2]
    exact run_equalIn_bool' w d t a c hund
  | .string, .str a, .str c, he =>
    cases he
    have h1 := relC_str hu; have h2 := relC_str hv
    rw [h1, h2]
    exact run_equalIn_string w d t a c hund
/-- fields that are plain cells, compared one by one -/
theorem eqFields_run {us vs : List Value} (d : Nat) : ∀ (fs : List Field) (L M : List C) (j : Nat) (e : Bool), All2 (RelC g.S) L (us.drop j) → All2 (RelC g.S) M (vs.drop j) →
    eqCs cf j fs L M = some e → (Op.eqFields (d + 1) us.toArray vs.toArray fs).run P w = .ok e w := by
  intro fs
  induction fs with
  | nil =>
    intro L M j e hL hM he
    match L, M, he with
    | [], [], he =>
      cases he
      simp only [Op.eqFields, Sem.run_pure]
  | cons f r ih =>
    intro L M j e hL hM he
    match L, M, he with
    | x :: L, y :: M, he =>
      simp only [eqCs] at he
      cases hc : (f.name != "_" && Nat.beq f.offset j) with
      | false => rw [hc] at he; cases he
      | true =>
        rw [hc, cond_true] at he
        simp only [Bool.and_eq_true, bne_iff_ne, ne_eq] at hc
        obtain ⟨hn, ho⟩ := hc
        have ho := Nat.eq_of_beq_eq_true ho
        cases hti : cf.ti f.type with
        | none => rw [hti] at he; cases he
        | some i =>
          rw [hti] at he
          simp only at he
          cases hag : i.ag with
          | true => rw [hag] at he; cases he
          | false =>
            rw [hag, cond_false] at he
            have hL1 := hL.get (j := 0) (x := x) rfl
            have hM1 := hM.get (j := 0) (x := y) rfl
            obtain ⟨u, hu, hcu⟩ := hL1
            obtain ⟨v, hv, hcv⟩ := hM1
            have pu : (part f.type us.toArray f.offset).run P w = .ok u w := by
              rw [List.getElem?_drop, Nat.add_zero] at hu
              rw [ho]
              unfold part
              simp only [Sem.run_bind, isAgg_run cx hti, hag, Result.andThen_ok, Bool.false_eq_true, if_false]
              simp [hu]
            have pv : (part f.type vs.toArray f.offset).run P w = .ok v w := by
              rw [List.getElem?_drop, Nat.add_zero] at hv
              rw [ho]
              unfold part
              simp only [Sem.run_bind, isAgg_run cx hti, hag, Result.andThen_ok, Bool.false_eq_true, if_false]
              simp [hv]
            cases hx : eqC i.desc x y with
            | none => rw [hx] at he; cases he
            | some b =>
              cases hy : eqCs cf (j + 1) r L M with
              | none => rw [hx, hy] at he; cases he
              | some c =>
                rw [hx, hy] at he
                simp only [Option.some.injEq] at he
                have d1 : us.drop (j + 1) = (us.drop j).drop 1 := by rw [List.drop_drop]
                have d2 : vs.drop (j + 1) = (vs.drop j).drop 1 := by rw [List.drop_drop]
                have hrest := ih L M (j + 1) c (by rw [d1]; exact hL.drop 1) (by rw [d2]; exact hM.drop 1) hy
                have heq := eqC_run (w := w) cx hti d hx hcu hcv
                have hn' : f.name ≠ "_" := hn
                unfold Op.eqFields
                rw [if_pos hn']
                simp only [Sem.run_bind, pu, pv, heq, Result.andThen_ok]
                cases b with
                | true => simp [hrest, ← he]
                | false => simp [← he]
theorem snd_bin {op : BinOp} {t t2 : TypeId} {x y : Operand} (ho : o.op = .binOp op t x y t2) (hv : vop cf dr o k st = some r) (h : Rel w0 S0 O g0 g st a w) (hn : Hands w0 S0 O g0 k r next) : o.wp P a w next Q := by
  unfold vop at hv; rw [ho] at hv; simp only at hv
  have hx := ev_rel cx h x
  have hy := ev_rel cx h y
  unfold vBin at hv
  split at hv
  · rename_i kx p ky q e1 e2
    rw [e1] at hx; rw [e2] at hy
    have h1 := relC_int hx; have h2 := relC_int hy
    by_cases hk : kx = ky
    · subst hk
      simp only [decide_true, cond_true] at hv
      cases hc : intOp op kx p q with
      | none => rw [hc] at hv; cases hv
      | some c =>
        rw [hc] at hv; simp only at hv
        obtain ⟨u, hr, hu⟩ := run_intOp (P := P) hc w
        refine snd_val hv h hn ⟨u, ?_, hu _⟩
        have hg : (eqGuard op t x y (.int kx p) (.int kx q)).run P w = .ok () w := by
          unfold eqGuard; cases op <;> rfl
        unfold execOp
        simp only [ho, Sem.run_bind, h1, h2, hg, Result.andThen_ok, binOp_int_type op t 0 kx kx p q, hr, Sem.run_pure]
    · simp [hk] at hv
  · rename_i p q e1 e2
    rw [e1] at hx; rw [e2] at hy
    have h1 := relC_str hx; have h2 := relC_str hy
    rw [strOpK_eq] at hv
    cases hc : strOp op p q with
    | none => rw [hc] at hv; cases hv
    | some c =>
      rw [hc] at hv; simp only at hv
      obtain ⟨u, hr, hu⟩ := run_strOp (P := P) hc w
      refine snd_val hv h hn ⟨u, ?_, hu _⟩
      have hg : (eqGuard op t x y (.string p) (.string q)).run P w = .ok () w := by
        unfold eqGuard; cases op <;> rfl
      unfold execOp
      simp only [ho, Sem.run_bind, h1, h2, hg, Result.andThen_ok, binOp_str_type op t 0 p q, hr, Sem.run_pure]
  · rename_i p q e1 e2
    rw [e1] at hx; rw [e2] at hy
    have h1 := relC_bool hx; have h2 := relC_bool hy
    have key : ∀ i, cf.ti t = some i → i.desc = .bool → P.underlying t = some .bool := fun i hi hd => by have := (cx.ti t i hi).und; rw [hd] at this; exact this
    generalize hti : cf.ti t = ti at hv
    match ti, op, hv with
    | some { desc := .bool, .. }, .eql, hv =>
      have hu := key _ hti rfl
      refine snd_val hv h hn ⟨_, ?_, RelC.bool _⟩
      unfold execOp
      simp only [ho, Sem.run_bind, h1, h2]
      have hg : (eqGuard .eql t x y (.bool p) (.bool q)).run P w = .ok () w := rfl
      simp only [hg, Result.andThen_ok, binOp, Op.equal, Op.maxDepth, Sem.run_bind, Sem.run_pure]
      unfold Op.equalIn
      simp only [Sem.run_bind, run_underlying hu, Result.andThen_ok, Sem.run_pure]
    | some { desc := .bool, .. }, .neq, hv =>
      have hu := key _ hti rfl
      refine snd_val hv h hn ⟨_, ?_, RelC.bool _⟩
      unfold execOp
      simp only [ho, Sem.run_bind, h1, h2]
      have hg : (eqGuard .neq t x y (.bool p) (.bool q)).run P w = .ok () w := rfl
      simp only [hg, Result.andThen_ok, binOp, Op.equal, Op.maxDepth, Sem.run_bind, Sem.run_pure]
      unfold Op.equalIn
      simp only [Sem.run_bind, run_underlying hu, Result.andThen_ok, Sem.run_pure]
  · rename_i la na lb nb e1 e2
    rw [e1] at hx; rw [e2] at hy
    obtain ⟨us, hus, hru⟩ := hx
    obtain ⟨vs, hvs, hrv⟩ := hy
    unfold vBinS at hv
    generalize hti : cf.ti t = ti at hv
    match ti, hv with
    | some ⟨.struct fs, z1, z2, z3, z4, z5⟩, hv =>
      simp only at hv
      cases hq : cf.eqs t with
      | false => rw [hq] at hv; cases hv
      | true =>
        rw [hq, cond_true] at hv
        obtain ⟨hst, hgt⟩ := cx.eq t hq
        have hund := (cx.ti t _ hti).und
        have hfo : P.fieldsOf t = fs := by unfold Program.fieldsOf; rw [hund]
        cases he : eqCs cf 0 fs.toList la lb with
        | none => rw [he] at hv; cases hv
        | some e =>
          rw [he] at hv; simp only at hv
          have hrun : (Op.equalIn 10000 t (.agg us.toArray) (.agg vs.toArray)).run P w = .ok e w := by
            rw [run_equalIn_struct w 9999 t _ _ (by rw [hfo]; exact hund) hst, hfo]
            exact eqFields_run cx 9998 fs.toList la lb 0 e (all_of_relM hru) (all_of_relM hrv) he
          cases op with
          | eql =>
            refine snd_val hv h hn ⟨_, ?_, RelC.bool _⟩
            unfold execOp
            simp only [ho, Sem.run_bind, hus, hvs, run_eqGuard_agg w .eql t x y _ _ hgt, Result.andThen_ok, run_eql_struct, hrun, Sem.run_pure]
          | neq =>
            refine snd_val hv h hn ⟨_, ?_, RelC.bool _⟩
            unfold execOp
            simp only [ho, Sem.run_bind, hus, hvs, run_eqGuard_agg w .neq t x y _ _ hgt, Result.andThen_ok, run_neq_struct, hrun, Sem.run_pure]
          | _ => cases hv
  · unfold vBinP at hv
    generalize hti : cf.ti t = ti at hv
    generalize hea : st.ev cf x = ea at hv hx
    generalize heb : st.ev cf y = eb at hv hy
    match ti, ea, eb, hv, hx, hy with
    | some i, .t (.w p), .t (.w q), hv, hx, hy =>
      simp only at hv
      cases he : eqW i.desc y p q with
      | none => rw [he] at hv; cases hv
      | some e =>
        rw [he] at hv; simp only at hv
        have hb := binOp_cells t he hx hy
        cases op with
        | eql =>
          obtain ⟨h1, h2⟩ := eqW_run (P := P) (w := w) cx (x := x) hti he hx hy .eql
          refine snd_val hv h hn ⟨_, ?_, RelC.bool _⟩
          unfold execOp
          simp only [ho, Sem.run_bind, h2, Result.andThen_ok, hb.1, h1, Sem.run_pure]
        | neq =>
          obtain ⟨h1, h2⟩ := eqW_run (P := P) (w := w) cx (x := x) hti he hx hy .neq
          refine snd_val hv h hn ⟨_, ?_, RelC.bool _⟩
          unfold execOp
          simp only [ho, Sem.run_bind, h2, Result.andThen_ok, hb.2, h1, Sem.run_pure]
        | _ => cases hv

theorem snd_makeIface {t : TypeId} {x : Operand} (ho : o.op = .makeInterface t x) (hv : vop cf dr o k st = some r) (h : Rel w0 S0 O g0 g st a w) (hn : Hands w0 S0 O g0 k r next) : o.wp P a w next Q := by
  unfold vop at hv; rw [ho] at hv; simp only [vMakeIface] at hv
  have he := evT_rel cx h t x
  generalize ht : cf.ti t = ti at hv
  generalize st.evT cf t x = e at hv he
  match ti, e, hv, he with
  | some i, .t v, hv, he =>
    simp only at hv
    have hd : ∀ ms, i.desc ≠ .interface ms := by
      intro ms hm; rw [hm] at hv; simp at hv
    have hu := (cx.ti t i ht).und
    have hrun : (execOp a.eval o).run P w = .ok (.value (.iface t (a.eval x))) w := by
      unfold execOp
      simp only [ho, Sem.run_bind, Instr.makeInterface, run_underlying hu, Result.andThen_ok]
      generalize i.desc = dd at hd
      cases dd <;> first | rfl | (exact absurd rfl (hd _))
    have hv2 : ∃ l ln bx, frzT dr v st.bx = some ((l, ln), bx) ∧ k (({ st with bx := bx } : St).set o.dst (vc (.ifc t v.isAgg l))) = some r := by
      generalize i.desc = dd at hd hv
      generalize frzT dr v st.bx = q at hv ⊢
      cases dd <;> first | (exact absurd rfl (hd _)) | (rcases q with _ | ⟨⟨l, ln⟩, bx⟩ <;> simp at hv; exact ⟨_, _, _, rfl, hv⟩)
    obtain ⟨l, ln, bx, hl, hv2⟩ := hv2
    obtain ⟨g', hm, hR, _, _, hall0⟩ := frzT_rel hl h.m
    refine snd_more hm hR hv2 h hn ⟨_, hrun, ?_⟩
    have hall := (hall0 _ he).1
    clear hall0
    cases v with
    | w y =>
      have h1 := RelW.one he
      rw [oneCell_cells h1] at hall
      have hl1 := hall.1
      match l, hl1, hall with
      | [c], _, hall => exact RelC.ifc1 t c _ hall.head
    | agg ws =>
      obtain ⟨us, hus, _⟩ := he
      rw [hus] at hall ⊢
      exact RelC.ifcA t l us (by simpa [Value.cells] using hall.1) (fun j c u hc hu => hall.2 j c u hc (by simpa [Value.cells] using hu))
end
end Vm
