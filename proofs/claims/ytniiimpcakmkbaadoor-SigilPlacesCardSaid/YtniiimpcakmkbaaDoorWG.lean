/- Vm, part G: each operation of the interpreter is the model's (2): boxes, places. -/
import Derived.Test.YtniiimpcakmkbaaDoorWF
namespace Vm
open Go

theorem splice_get {α : Type} {l v : List α} {o : Nat} (h : o + v.length ≤ l.length) (p : Nat) : (l.take o ++ v ++ l.drop (o + v.length))[p]? = if o ≤ p ∧ p < o + v.length then v[p - o]? else l[p]? := by
  have h1 : (l.take o).length = o := by rw [List.length_take]; omega
  rw [List.append_assoc]
  by_cases hp : p < o
  · rw [if_neg (by omega), List.getElem?_append_left (by omega), List.getElem?_take, if_pos hp]
  · rw [List.getElem?_append_right (by omega), h1]
    by_cases hq : p < o + v.length
    · rw [if_pos ⟨by omega, hq⟩, List.getElem?_append_left (by omega)]
    · rw [if_neg (by omega), List.getElem?_append_right (by omega), List.getElem?_drop]
      congr 1; omega

theorem splice_len {α : Type} {l v : List α} {o : Nat} (h : o + v.length ≤ l.length) : (l.take o ++ v ++ l.drop (o + v.length)).length = l.length := by simp; omega

/-- a write into an element -/
theorem Flat.set {S : Addr → Option Value} {sz : Nat} {els : List (List C)} {xs : List Value} (h : Flat S sz els xs) {n : Nat} {el cs : List C} {vals : List Value} (hn : els[n]? = some el) (hv : All2 (RelC S) cs vals) {off : Nat} (ho : off + cs.length ≤ sz) :
    n * sz + off + vals.length ≤ xs.length ∧ Flat S sz (els.set n (putL el off cs)) (xs.take (n * sz + off) ++ vals ++ xs.drop (n * sz + off + vals.length)) := by
  have hlt := lt_of hn
  have hb : (n + 1) * sz ≤ els.length * sz := Nat.mul_le_mul_right _ hlt
  rw [Nat.add_mul, Nat.one_mul] at hb
  have hvl := hv.1
  have hle : n * sz + off + vals.length ≤ xs.length := by rw [h.1]; omega
  obtain ⟨hel, _⟩ := h.2 n el hn
  refine ⟨hle, by rw [splice_len hle, h.1]; simp, fun i e hi => ?_⟩
  by_cases hni : n = i
  · subst hni
    rw [List.getElem?_set_self hlt] at hi; cases hi
    refine ⟨by unfold putL; rw [splice_len (by omega), hel], fun j c hj => ?_⟩
    unfold putL at hj
    rw [splice_get (by omega)] at hj
    rw [splice_get hle]
    have hjs : j < sz := by
      split at hj
      · omega
      · have := lt_of hj; omega
    split at hj
    · rename_i hc
      rw [if_pos (by omega)]
      obtain ⟨u, hu, hr⟩ := hv.get hj
      exact ⟨u, by rw [← hu]; congr 1; omega, hr⟩
    · rename_i hc
      rw [if_neg (by omega)]
      exact (h.2 n el hn).2 j c hj
  · rw [List.getElem?_set_ne hni] at hi
    refine ⟨(h.2 i e hi).1, fun j c hj => ?_⟩
    obtain ⟨u, hu, hr⟩ := (h.2 i e hi).2 j c hj
    refine ⟨u, ?_, hr⟩
    rw [splice_get hle, if_neg, hu]
    rintro ⟨h1, h2⟩
    have hjs : j < sz := by have := lt_of hj; rw [(h.2 i e hi).1] at this; exact this
    rcases Nat.lt_or_ge i n with h3 | h3
    · have : (i + 1) * sz ≤ n * sz := Nat.mul_le_mul_right _ h3
      rw [Nat.add_mul, Nat.one_mul] at this; omega
    · have : (n + 1) * sz ≤ i * sz := Nat.mul_le_mul_right _ (by omega)
      rw [Nat.add_mul, Nat.one_mul] at this; omega

section
variable {P : Program} {cf : Cfg} {S0 : Addr → Option Value} (cx : Ctx P cf S0)
variable {w0 : World} {O : Nat → Prop} {g0 g : G} {st : St} {a : Act} {w : World}
variable {R : Type} {dr : Bool} {o : Oper} {k : St → Option R} {r : R} {next : Act → World → Prop} {Q : Exit → Act → World → Prop}

theorem relM_one {m : M} {us : List Value} (h : RelMx g m us) : ∀ x ∈ us, x.oneCell' = true := by
  intro x hx
  obtain ⟨j, hj, rfl⟩ := List.getElem_of_mem hx
  have hlt : j < m.l.length := by rw [← h.1.1]; exact hj
  cases hg : lkGet m.lk j with
  | some y => exact RelW.one (h.2 j y _ (by simp [M.get, hg]) (List.getElem?_eq_getElem hj))
  | none => exact RelW.one (h.2 j (.d m.l[j]) _ (by simp [M.get, hg, hlt]) (List.getElem?_eq_getElem hj))

theorem relT_one {v : T} {u : Value} (h : RelT g v u) : ∀ x ∈ u.cells.toList, x.oneCell' = true := relM_one (RelT.cells h)

/-- what isn't a row of stable elements has no stable cells -/
theorem RelM.none_of {bx : Bx} (h : RelM w0 S0 O g bx w) {n : Nat} {x : Box} {k : Nat} (hx : bx[n]? = some (some x)) (hk : blk g n x = some k) (hne : ∀ e sz els, x ≠ .arr false e sz els) : ∀ off sp, g.S ⟨k, off, sp⟩ = none := by
  intro off sp
  cases hS : g.S ⟨k, off, sp⟩ with
  | none => rfl
  | some v => obtain ⟨e, sz, els, h1, _⟩ := h.sep n x k hx hk off sp v hS; exact absurd h1 (hne e sz els)

theorem setRow_grown (w : World) (k : Nat) (cs : Array Value) : w.grownBy (w.setRow k cs) (some k) := ⟨rfl, rfl, rfl, by simp, fun j _ hj => setRow_other w k j _ (fun e => hj (by rw [e]))⟩

/-- a row without elements -/
theorem arrNil_m {bx : Bx} (h : RelM w0 S0 O g bx w) (e : TypeId) (sz : Nat) (hs : 0 < sz) :
    RelM w0 S0 O (g.push bx.length 0 (.slice none 0 0)) (bx ++ [some (.arr true (some e) sz [])]) w := by
  have hsl : (g.push bx.length 0 (.slice none 0 0)).sl bx.length = .slice none 0 0 := by simp [G.push]
  have := h.boxAdd (World.grownBy.refl w none) (fun k hk => by cases hk) (S' := g.S) (fun _ _ h => h) (fun _ _ h => .inl h) (fun _ _ _ hr => by cases hr) (fun _ _ _ _ _ hr => by cases hr)
    (x := .arr true (some e) sz []) (k := 0) (v := .slice none 0 0) ⟨[], e, fun e0 h => (by cases h; rfl), by rw [hsl]; exact ⟨by simp, .inl ⟨rfl, rfl⟩⟩, Flat.nil _ _, hs, fun h => by cases h⟩
    (fun kk hk => by simp only [blk, hsl] at hk; simp [Value.ownBlock] at hk) (fun kk hk => by simp only [blk, hsl] at hk; simp [Value.ownBlock] at hk)
  exact this

include cx
theorem snd_storeNil {t : TypeId} {x y : Operand} (ho : o.op = .store t x y) (hnil : isNilSlice y = true) (hv : (match eszE cf t, cf.ti t, st.ev cf x with
     | some (e, sz), some i, .t (.w (.ptr b off)) =>
       (match st.bx.getD b none with
        | some (.cells m) =>
          bif i.size == 1 && Nat.ble (off + 1) m.n && Nat.ble 1 sz
          then k (({ st with bx := st.bx.set b (some (.cells (m.put off ⟨[.nf], [(0, .arr st.bx.length)], 1⟩))) ++ [some (.arr true (some e) sz [])] } : St).set o.dst (.tup [])) else none
        | _ => none)
     | _, _, _ => none) = some r) (h : Rel w0 S0 O g0 g st a w) (hn : Hands w0 S0 O g0 k r next) : o.wp P a w next Q := by
  have hx := ev_rel cx h x
  have hea2 := nilSlice_eval hnil a
  generalize eszE cf t = ee at hv
  generalize hti : cf.ti t = ti at hv
  generalize st.ev cf x = e1 at hv hx
  match ee, ti, e1, hv, hx with
  | some (e, sz), some i, .t (.w (.ptr b off)), hv, hx =>
    simp only at hv
    generalize hb : st.bx.getD b none = bb at hv
    match bb, hv with
    | some (.cells m), hv =>
      simp only at hv
      have hb' := getD_some hb
      by_cases hc : (i.size == 1 && Nat.ble (off + 1) m.n && Nat.ble 1 sz) = true
      case neg => rw [Bool.not_eq_true] at hc; rw [hc] at hv; cases hv
      rw [hc, cond_true] at hv
      simp only [Bool.and_eq_true, beq_iff_eq, Nat.ble_eq] at hc
      obtain ⟨⟨hc1, hc2⟩, hc3⟩ := hc
      obtain ⟨hblt, cs, e', hh, hcs⟩ := h.m.box b _ hb'
      have hcells : (a.eval y).cells.toList = [.slice none 0 0] := by rw [hea2]; rfl
      -- the new row first
      have hpe : Ext g (g.push st.bx.length 0 (.slice none 0 0)) := G.push_ext h.m.fresh
      have hM1 := arrNil_m h.m e sz (by omega)
      have hb1 : (st.bx ++ [some (Box.arr true (some e) sz [])])[b]? = some (some (.cells m)) := by rw [List.getElem?_append_left (lt_of hb')]; exact hb'
      have hbx : (g.push st.bx.length 0 (.slice none 0 0)).bx b = g.bx b := hpe.bx b hblt
      have hrun : (execOp a.eval o).run P w = .ok .skip (w.setRow (g.bx b) (cs.take off ++ [Value.slice none 0 0] ++ cs.drop (off + 1)).toArray) := by
        unfold execOp
        simp only [ho, Sem.run_bind, hx.2, Instr.storeAt, Instr.sureAddr, Sem.run_pure, Result.andThen_ok, storeVar, sizeOf_run cx hti]
        have hsz : ¬ ((a.eval y).cells.size ≠ i.size) := by
          rw [← Array.length_toList, hcells, hc1]; simp
        rw [if_neg hsz]
        have := run_storeCells_at (P := P) (g.bx b) off e' [.slice none 0 0] 0 cs.toArray w hh (by
          have := hcs.n; simp only [Nat.add_zero, List.size_toArray, List.length_singleton]; omega) (fun v hv => by simp at hv; subst hv; rfl)
        simp only [Nat.add_zero] at this
        rw [hcells]
        simp only [this, Result.andThen_ok]
        rfl
      have hno := hM1.none_of hb1 (k := g.bx b) (by simp [blk, hbx]) (fun e sz els hh => by cases hh)
      have hnew : RelMx (g.push st.bx.length 0 (.slice none 0 0)) ⟨[.nf], [(0, .arr st.bx.length)], 1⟩ [.slice none 0 0] := by
        refine ⟨⟨rfl, rfl⟩, fun j z v hz hv => ?_⟩
        cases j with
        | zero => simp [M.get, lkGet] at hz hv; subst hz hv; exact ⟨by simp [G.push], by simp [G.push], rfl⟩
        | succ j => simp at hv
      have hm := hM1.boxSet hb1 (y := some (.cells (m.put off ⟨[.nf], [(0, .arr st.bx.length)], 1⟩))) (w' := w.setRow (g.bx b) (cs.take off ++ [Value.slice none 0 0] ++ cs.drop (off + 1)).toArray)
        (by simp only [blk, hbx]; exact setRow_grown w (g.bx b) _) (by simp) (S' := g.S) (fun _ _ h => h) (fun _ _ h => .inl h)
        (fun ad u hu hk => by
          simp only [blk, hbx, Option.some.injEq] at hk
          have := hno ad.off ad.spot; rw [hk] at this
          have hu' : (g.push st.bx.length 0 (.slice none 0 0)).S ad = some u := hu
          rw [this] at hu'; cases hu') (fun z hz => by
          cases hz
          refine ⟨⟨_, e', by rw [show ({ g.push st.bx.length 0 (.slice none 0 0) with S := g.S } : G).bx b = g.bx b from hbx]; exact setRow_heap w (g.bx b) cs.toArray _ e' (0, 0) hh, (hcs.weak hpe.weak).put hnew (by simp only; omega)⟩, fun k hk => hk, fun k hk off' sp u hu => ?_⟩
          simp only [blk, hbx, Option.some.injEq] at hk; subst hk
          have hu' : (g.push st.bx.length 0 (.slice none 0 0)).S ⟨g.bx b, off', sp⟩ = some u := hu
          rw [hno off' sp] at hu'; cases hu')
      have hset : (st.bx ++ [some (Box.arr true (some e) sz [])]).set b (some (.cells (m.put off ⟨[.nf], [(0, .arr st.bx.length)], 1⟩))) = st.bx.set b (some (.cells (m.put off ⟨[.nf], [(0, .arr st.bx.length)], 1⟩))) ++ [some (.arr true (some e) sz [])] := by
        rw [List.set_append_left _ _ (lt_of hb')]
      rw [hset] at hm
      exact wp_skip' hrun (hn _ _ _ _ ((h.with hpe hm).put (v := .tup []) ⟨[], rfl, .nil⟩) hv)

theorem snd_store {t : TypeId} {x y : Operand} (ho : o.op = .store t x y) (hv : vop cf dr o k st = some r) (h : Rel w0 S0 O g0 g st a w) (hn : Hands w0 S0 O g0 k r next) : o.wp P a w next Q := by
  unfold vop at hv; rw [ho] at hv; simp only [vStore] at hv
  by_cases hnil : (isNilSlice y && !dr) = true
  · rw [hnil, cond_true] at hv
    rw [Bool.and_eq_true] at hnil
    exact snd_storeNil cx ho hnil.1 hv h hn
  rw [Bool.not_eq_true] at hnil
  rw [hnil, cond_false] at hv
  have hx := ev_rel cx h x
  have hy := evT_rel cx h t y
  generalize hti : cf.ti t = ti at hv
  generalize st.evT cf t y = e2 at hv hy
  match ti, e2, hv, hy with
  | some i, .t v, hv, hy =>
    simp only at hv
    have hexec : ∀ ad, a.eval x = .pointer (some ad) → (a.eval y).cells.toList.length = i.size → (execOp a.eval o).run P w = ((storeCells ad (a.eval y).cells.toList).run P w).andThen fun _ w => .ok .skip w := by
      intro ad hea hlen
      unfold execOp
      simp only [ho, Sem.run_bind, hea, Instr.storeAt, Instr.sureAddr, Sem.run_pure, Result.andThen_ok, storeVar, sizeOf_run cx hti]
      have hsz : ¬ ((a.eval y).cells.size ≠ i.size) := by
        rw [Array.length_toList] at hlen; simp [hlen]
      rw [if_neg hsz]
    generalize st.ev cf x = e1 at hv hx
    match e1, hv, hx with
    | .t (.w (.ptr b off)), hv, hx =>
      simp only at hv
      generalize hb : st.bx.getD b none = bb at hv
      match bb, hv with
      | some (.cells m), hv =>
        simp only at hv
        have hb' := getD_some hb
        by_cases hc : (v.toM.n == i.size && Nat.ble (off + i.size) m.n) = true
        · rw [hc, cond_true] at hv
          simp only [Bool.and_eq_true, beq_iff_eq, Nat.ble_eq] at hc
          obtain ⟨hc1, hc2⟩ := hc
          obtain ⟨_, cs, e, hh, hcs⟩ := h.m.box b _ hb'
          have hcells := RelT.cells hy
          have hlen : (a.eval y).cells.toList.length = i.size := by rw [hcells.n, hc1]
          have hrun : (execOp a.eval o).run P w = .ok .skip (w.setRow (g.bx b) (cs.take off ++ (a.eval y).cells.toList ++ cs.drop (off + (a.eval y).cells.toList.length)).toArray) := by
            rw [hexec _ hx.2 hlen]
            have := run_storeCells_at (P := P) (g.bx b) off e (a.eval y).cells.toList 0 cs.toArray w hh (by
              have := hcs.n; simp only [Nat.add_zero, List.size_toArray]; omega) (relT_one hy)
            simp only [Nat.add_zero] at this
            simp only [this, Result.andThen_ok]
          refine wp_skip' hrun (hn g _ _ _ ?_ hv)
          have hno := h.m.none_of hb' (k := g.bx b) rfl (fun e sz els hh => by cases hh)
          have hm := h.m.boxSet hb' (y := some (.cells (m.put off v.toM))) (setRow_grown w (g.bx b) _) (by simp) (S' := g.S) (fun _ _ h => h) (fun _ _ h => .inl h)
            (fun ad u hu hk => by
              simp only [blk, Option.some.injEq] at hk
              have := hno ad.off ad.spot; rw [hk] at this
              rw [this] at hu; cases hu) (fun z hz => by
              cases hz
              refine ⟨⟨_, e, setRow_heap w (g.bx b) cs.toArray _ e (0, 0) hh, hcs.put hcells (by rw [hc1]; exact hc2)⟩, fun k hk => hk, fun k hk off' sp u hu => ?_⟩
              simp only [blk, Option.some.injEq] at hk; subst hk
              rw [hno off' sp] at hu; cases hu)
          exact (h.with (Ext.refl g) hm).put ⟨[], rfl, .nil⟩
        · rw [Bool.not_eq_true] at hc; rw [hc] at hv; cases hv
    | .t (.w (.ea b n sz0 off)), hv, hx =>
      simp only at hv
      cases hfz : frzT dr v st.bx with
      | none => rw [hfz] at hv; cases hv
      | some q =>
        obtain ⟨⟨cs, csn⟩, bx1⟩ := q
        rw [hfz] at hv; simp only at hv
        obtain ⟨g1, hmore, hR1, _, _, hall0⟩ := frzT_rel hfz h.m
        obtain ⟨hall, hcsn⟩ := hall0 _ hy
        subst hcsn
        generalize hb : bx1.getD b none = bb at hv
        match bb, hv with
        | some (.arr mt e sz els), hv =>
          simp only at hv
          by_cases hc0 : (mt && sz0 == sz) = true
          case neg => rw [Bool.not_eq_true] at hc0; rw [hc0] at hv; cases hv
          rw [hc0, cond_true] at hv
          simp only [Bool.and_eq_true, beq_iff_eq] at hc0
          obtain ⟨rfl, rfl⟩ := hc0
          unfold getT at hv
          cases hel : els[n]? with
          | none => rw [hel] at hv; cases hv
          | some el =>
            rw [hel] at hv; simp only at hv
            by_cases hc : (cs.length == i.size && Nat.ble (off + i.size) sz0) = true
            case neg => rw [Bool.not_eq_true] at hc; rw [hc] at hv; cases hv
            rw [hc, cond_true] at hv
            simp only [Bool.and_eq_true, beq_iff_eq, Nat.ble_eq] at hc
            obtain ⟨hc1, hc2⟩ := hc
            have hb' := getD_some hb
            obtain ⟨_, xs, e', he', hown, hfl, hpos, _⟩ := hR1.box b _ hb'
            obtain ⟨_, gb, cnt, cap, hsl, hea⟩ := hmore.ext.weak (.ea b n sz0 off) _ hx
            have hlen : (a.eval y).cells.toList.length = i.size := by rw [hall.1, hc1]
            obtain ⟨hle, hfl2⟩ := hfl.set hel hall (off := off) (by omega)
            -- the row
            rcases hown.2 with ⟨h0, _⟩ | ⟨gb', cap', cur, h0, hgb, hh, hcnt, hcm, hcs, htk⟩
            · rw [hsl] at h0; simp at h0
            · rw [hsl] at h0; simp only [Value.slice.injEq, Option.some.injEq, Addr.mk.injEq, and_true] at h0
              obtain ⟨rfl, rfl, rfl⟩ := h0
              have hxl := hown.1
              have hmul : els.length * sz0 ≤ cap * sz0 := Nat.mul_le_mul_right _ hcnt
              have hcl : cur.toList.length = cap * sz0 := by simpa using hcs
              have hvo : ∀ u ∈ (a.eval y).cells.toList, u.oneCell' = true := relT_one hy
              generalize hvals : (a.eval y).cells.toList = vals at hall hlen hle hfl2 hvo
              have hrun : (execOp a.eval o).run P w = .ok .skip (w.setRow gb (cur.toList.take (n * sz0 + off) ++ vals ++ cur.toList.drop (n * sz0 + off + vals.length)).toArray) := by
                rw [hexec _ hea (by rw [hvals]; exact hlen)]
                have := run_storeCells_at (P := P) gb (n * sz0 + off) e' vals 0 cur w hh (by rw [← Array.length_toList]; omega) hvo
                simp only [Nat.add_zero] at this
                rw [hvals]
                simp only [this, Result.andThen_ok]
              refine wp_skip' hrun (hn g1 _ _ _ ?_ hv)
              have hkb : (g1.sl b).ownBlock = some gb := by rw [hsl]; rfl
              have hno := hR1.none_of hb' (k := gb) hkb (fun e sz els hh => by cases hh)
              have hle2 : n * sz0 + off + vals.length ≤ cur.toList.length := by omega
              have hm := hR1.boxSet hb' (y := some (.arr true e sz0 (els.set n (putL el off cs)))) (w' := w.setRow gb (cur.toList.take (n * sz0 + off) ++ vals ++ cur.toList.drop (n * sz0 + off + vals.length)).toArray)
                (by simp only [blk, hkb]; exact setRow_grown w gb _) (by simp) (S' := g1.S) (fun _ _ h => h) (fun _ _ h => .inl h)
                (fun ad u hu hk => by
                  simp only [blk, hkb, Option.some.injEq] at hk
                  have := hno ad.off ad.spot; rw [hk] at this
                  rw [this] at hu; cases hu) (fun z hz => by
                  cases hz
                  refine ⟨⟨_, e', he', ⟨?_, .inr ⟨gb, cap, _, by simp only [List.length_set]; exact hsl, hgb, setRow_heap w gb cur _ e' (0, 0) hh, by simp; exact hcnt, hcm, ?_, ?_⟩⟩, hfl2, hpos, fun h => by cases h⟩, fun k hk => hk, fun k hk off' sp u hu => ?_⟩
                  · rw [splice_len hle, hxl]; simp
                  · rw [List.size_toArray, splice_len hle2, hcl]
                  · simp only [List.length_set]
                    apply List.ext_getElem?
                    intro p
                    rw [List.getElem?_take, splice_get hle]
                    have hcur : ∀ p, p < els.length * sz0 → cur.toList[p]? = xs[p]? := fun p hp => by rw [← htk, List.getElem?_take, if_pos hp]
                    by_cases hp : p < els.length * sz0
                    · rw [if_pos hp, splice_get hle2]
                      split
                      · rfl
                      · exact hcur p hp
                    · rw [if_neg hp, if_neg (by omega), List.getElem?_eq_none (by omega)]
                  · simp only [blk, hkb, Option.some.injEq] at hk; subst hk
                    rw [hno off' sp] at hu; cases hu)
              exact ((h.more hmore hR1).with (Ext.refl g1) hm).put ⟨[], rfl, .nil⟩

omit cx in
theorem rowNew (w : World) (o : Obj) : (w.alloc o).heap[w.heap.size]? = some o := heap_alloc_new w o

omit cx in
theorem alloc_grown (w : World) (ob : Obj) : w.grownBy (w.alloc ob) none := ⟨rfl, rfl, rfl, by simp, fun k hk _ => heap_alloc_old w ob k hk⟩

omit cx in
/-- a new block for a box -/
theorem boxNew_rel (h : Rel w0 S0 O g0 g st a w) (x : Box) (ob : Obj) (hna : blk (g.push st.bx.length w.heap.size undef) st.bx.length x = some w.heap.size)
    (hb : BoxRel (g.push st.bx.length w.heap.size undef) (w.alloc ob) st.bx.length x) : Ext g (g.push st.bx.length w.heap.size undef) ∧ Rel w0 S0 O g0 (g.push st.bx.length w.heap.size undef) (st.boxNew x) a (w.alloc ob) := by
  have hext : Ext g (g.push st.bx.length w.heap.size undef) := G.push_ext h.m.fresh
  refine ⟨hext, h.with hext (h.m.boxAdd (alloc_grown w ob) (fun k hk => by cases hk) (S' := g.S) (fun _ _ h => h) (fun _ _ h => .inl h) (fun _ _ _ hr => by cases hr) (fun _ _ _ _ _ hr => by cases hr) hb
    (fun kk hk => by rw [hna] at hk; cases hk; exact .inr (Nat.le_refl _)) (fun kk hk off sp u hu => ?_))⟩
  rw [hna] at hk; cases hk
  have := h.m.S_lt hu; simp at this

theorem snd_assign {x : Operand} (ho : o.op = .assign x) (hv : vop cf dr o k st = some r) (h : Rel w0 S0 O g0 g st a w) (hn : Hands w0 S0 O g0 k r next) : o.wp P a w next Q := by
  unfold vop at hv; rw [ho] at hv; simp only at hv
  have hrun : (execOp a.eval o).run P w = .ok (.value (a.eval x)) w := by unfold execOp; simp only [ho, Sem.run_pure]
  by_cases hnil : isNilSlice x = true
  · rw [hnil, cond_true] at hv
    have hea := nilSlice_eval hnil a
    generalize eszE cf o.type = ee at hv
    match ee, hv with
    | some (e, sz), hv =>
      simp only at hv
      by_cases hp : Nat.ble 1 sz = true
      · rw [hp, cond_true] at hv
        have hs : 0 < sz := by rw [Nat.ble_eq] at hp; omega
        cases hd : dr with
        | true =>
          rw [hd, cond_true] at hv
          exact snd_val (v := vc (.sl sz [])) hv h hn ⟨a.eval x, hrun, by rw [hea]; exact relC_nil _ _⟩
        | false =>
          rw [hd, cond_false] at hv
          have h1 := h.with (G.push_ext h.m.fresh) (arrNil_m h.m e sz hs)
          refine wp_val hrun (hn _ _ _ _ (h1.put (v := .t (.w (.arr st.bx.length))) ?_) hv)
          rw [hea]
          exact ⟨by simp [G.push], by simp [G.push], rfl⟩
      · rw [Bool.not_eq_true] at hp; rw [hp] at hv; cases hv
  · rw [Bool.not_eq_true] at hnil; rw [hnil, cond_false] at hv
    exact snd_val hv h hn ⟨a.eval x, hrun, ev_rel cx h x⟩

omit cx in
theorem zeroM_rel : ∀ (z : List Z) (j : Nat) (zs : List Value) {g : G} {bx : Bx} {l : List C} {lk : List (Nat × W)} {b : Bx}, RelM w0 S0 O g bx w → All2 ZRel z zs → zeroM dr bx.length z j = (l, lk, b) →
    ∃ g', Ext g g' ∧ RelM w0 S0 O g' (bx ++ b) w ∧ l.length = z.length ∧ (∀ i x, lkGet lk i = some x → j ≤ i) ∧
      ∀ (i : Nat) x u, (match lkGet lk (j + i) with | some x => some x | none => (match l[i]? with | some c => some (W.d c) | none => none)) = some x → zs[i]? = some u → RelW g' x u := by
  intro z
  induction z with
  | nil =>
    intro j zs g bx l lk b h hz he
    simp [zeroM] at he; obtain ⟨rfl, rfl, rfl⟩ := he
    exact ⟨g, .refl g, by simpa using h, rfl, fun i x hx => by simp [lkGet] at hx, fun i x u hx => by simp [lkGet] at hx⟩
  | cons y q ih =>
    intro j zs g bx l lk b h hz he
    cases zs with
    | nil => exact absurd hz.1 (by simp)
    | cons v vs =>
      cases y with
      | c c =>
        simp only [zeroM] at he
        generalize hr : zeroM dr bx.length q (j + 1) = rr at he
        obtain ⟨l1, lk1, b1⟩ := rr
        simp only [Prod.mk.injEq] at he; obtain ⟨rfl, rfl, rfl⟩ := he
        obtain ⟨g1, hext, hm, hl, hlo, hat⟩ := ih (j + 1) vs h hz.tail hr
        refine ⟨g1, hext, hm, by simp [hl], fun i x hx => by have := hlo i x hx; omega, fun i x u hx hu => ?_⟩
        cases i with
        | zero =>
          simp only [Nat.add_zero] at hx
          cases hk : lkGet lk1 j with
          | some y => have := hlo j y hk; omega
          | none =>
            rw [hk] at hx; simp at hx hu; subst hx hu
            exact RelC.mono (fun a v hv => by cases hv) hz.head
        | succ i => exact hat i x u (by rw [show j + 1 + i = j + (i + 1) by omega]; simpa using hx) (by simpa using hu)
      | s e sz =>
        simp only [zeroM] at he
        obtain ⟨hu, hs⟩ := hz.head
        cases hd : dr with
        | true =>
          rw [hd, cond_true] at he
          generalize hr : zeroM true bx.length q (j + 1) = rr at he
          obtain ⟨l1, lk1, b1⟩ := rr
          simp only [Prod.mk.injEq] at he; obtain ⟨rfl, rfl, rfl⟩ := he
          obtain ⟨g1, hext, hm, hl, hlo, hat⟩ := ih (j + 1) vs (l := l1) (lk := lk1) (b := b1) h hz.tail (by rw [hd]; exact hr)
          refine ⟨g1, hext, hm, by simp [hl], fun i x hx => by have := hlo i x hx; omega, fun i x u hx hu' => ?_⟩
          cases i with
          | zero =>
            simp only [Nat.add_zero] at hx
            cases hk : lkGet lk1 j with
            | some y => have := hlo j y hk; omega
            | none =>
              rw [hk] at hx; simp at hx hu'; subst hx hu'
              rw [hu]; exact relC_nil _ _
          | succ i => exact hat i x u (by rw [show j + 1 + i = j + (i + 1) by omega]; simpa using hx) (by simpa using hu')
        | false =>
          rw [hd, cond_false] at he
          generalize hr : zeroM false (bx.length + 1) q (j + 1) = rr at he
          obtain ⟨l1, lk1, b1⟩ := rr
          simp only [Prod.mk.injEq] at he; obtain ⟨rfl, rfl, rfl⟩ := he
          have h2 := arrNil_m h e sz hs
          have hlen : (bx ++ [some (Box.arr true (some e) sz [])]).length = bx.length + 1 := by simp
          obtain ⟨g1, hext, hm, hl, hlo, hat⟩ := ih (j + 1) vs (l := l1) (lk := lk1) (b := b1) h2 hz.tail (by rw [hlen, hd]; exact hr)
          have hpe : Ext g (g.push bx.length 0 (.slice none 0 0)) := G.push_ext h.fresh
          refine ⟨g1, hpe.trans hext, by simpa using hm, by simp [hl], fun i x hx => ?_, fun i x u hx hu' => ?_⟩
          · simp only [lkGet] at hx
            by_cases hi : j = i
            · omega
            · rw [beq_false_of_ne hi, cond_false] at hx; have := hlo i x hx; omega
          · cases i with
            | zero =>
              simp [lkGet] at hx hu'; subst hx hu'
              rw [hu]
              exact hext.weak (.arr bx.length) _ ⟨by simp [G.push], by simp [G.push], rfl⟩
            | succ i =>
              refine hat i x u ?_ (by simpa using hu')
              simp only [lkGet, beq_false_of_ne (show j ≠ j + (i + 1) by omega), cond_false] at hx
              rw [show j + 1 + i = j + (i + 1) by omega]; simpa using hx

omit cx in
theorem zero_rel (h : Rel w0 S0 O g0 g st a w) {z : List Z} {zs : List Value} (hz : All2 ZRel z zs) {m : M} {st' : St} (he : st.zero dr z = (m, st')) :
    ∃ g', Ext g g' ∧ Rel w0 S0 O g0 g' st' a w ∧ RelMx g' m zs := by
  unfold St.zero at he
  generalize hr : zeroM dr st.bx.length z 0 = rr at he
  obtain ⟨l, lk, b⟩ := rr
  simp only [Prod.mk.injEq] at he; obtain ⟨rfl, rfl⟩ := he
  obtain ⟨g', hext, hm, hl, _, hat⟩ := zeroM_rel z 0 zs h.m hz hr
  refine ⟨g', hext, h.with hext hm, ⟨by rw [hl, ← hz.1], hl⟩, fun j x u hx hu => hat j x u ?_ hu⟩
  simp only [M.get] at hx; rw [Nat.zero_add]; exact hx

theorem snd_alloc {t : TypeId} (ho : o.op = .alloc t) (hv : vop cf dr o k st = some r) (h : Rel w0 S0 O g0 g st a w) (hn : Hands w0 S0 O g0 k r next) : o.wp P a w next Q := by
  unfold vop at hv; rw [ho] at hv; simp only [vAlloc] at hv
  generalize hti : cf.ti t = ti at hv
  match ti, hv with
  | some i, hv =>
    simp only at hv
    obtain ⟨z, hz, hz2, hz3, _⟩ := zero_run cx hti w
    generalize he : st.zero false i.zero = q at hv
    obtain ⟨m, st1⟩ := q
    simp only at hv
    obtain ⟨g1, _, h1, h4⟩ := zero_rel h hz2 he
    have hrun : (execOp a.eval o).run P w = .ok (.value (.pointer (some ⟨w.heap.size, 0, none⟩))) (w.alloc (.cells z.cells t)) := by
      unfold execOp
      simp only [ho, Sem.run_bind, Instr.alloc, hz, Result.andThen_ok, newVar, newRow, run_newObj, Sem.run_pure]
      rfl
    obtain ⟨hext, h2⟩ := boxNew_rel h1 (.cells m) (.cells z.cells t) (by simp [blk, G.push]) ⟨z.cells.toList, t, by simp only [G.push, if_true]; rw [Array.toArray_toList]; exact rowNew w _, h4.weak (G.push_ext h1.m.fresh).weak⟩
    exact wp_val hrun (hn _ _ _ _ (h2.put (v := .t (.w (.ptr st1.bx.length 0))) ⟨by simp [G.push], by simp [G.push]⟩) hv)

theorem snd_box {t : TypeId} {x : Operand} (ho : o.op = .box t x) (hv : vop cf dr o k st = some r) (h : Rel w0 S0 O g0 g st a w) (hn : Hands w0 S0 O g0 k r next) : o.wp P a w next Q := by
  unfold vop at hv; rw [ho] at hv; simp only [vBox] at hv
  have he := evT_rel cx h t x
  generalize st.evT cf t x = e at hv he
  match e, hv, he with
  | .t v, hv, he =>
    have hrun : (execOp a.eval o).run P w = .ok (.value (.pointer (some ⟨w.heap.size, 0, none⟩))) (w.alloc (.cells (a.eval x).cells t)) := by
      unfold execOp
      simp only [ho, Sem.run_bind, Instr.box, Result.andThen_ok, newVar, newRow, run_newObj, Sem.run_pure]
      rfl
    obtain ⟨hext, h2⟩ := boxNew_rel h (.cells v.toM) (.cells (a.eval x).cells t) (by simp [blk, G.push]) ⟨(a.eval x).cells.toList, t, by simp only [G.push, if_true]; rw [Array.toArray_toList]; exact rowNew w _, (RelT.cells he).weak (G.push_ext h.m.fresh).weak⟩
    exact wp_val hrun (hn _ _ _ _ (h2.put (v := .t (.w (.ptr st.bx.length 0))) ⟨by simp [G.push], by simp [G.push]⟩) hv)

theorem snd_range {t : TypeId} {x : Operand} (ho : o.op = .range t x) (hv : vop cf dr o k st = some r) (h : Rel w0 S0 O g0 g st a w) (hn : Hands w0 S0 O g0 k r next) : o.wp P a w next Q := by
  unfold vop at hv; rw [ho] at hv; simp only [vRange] at hv
  have he := ev_rel cx h x
  generalize hti : cf.ti t = ti at hv
  generalize st.ev cf x = e at hv he
  match ti, e, hv, he with
  | some ⟨.string, z1, z2, z3, z4, z5⟩, .t (.w (.d (.str s))), hv, he =>
    have hs := relC_str he
    have hrun : (execOp a.eval o).run P w = .ok (.value (.pointer (some ⟨w.heap.size, 0, none⟩))) (w.alloc (.stringIter s 0)) := by
      unfold execOp
      simp only [ho, Sem.run_bind, Instr.range, hs, run_underlying (cx.ti t _ hti).und, Result.andThen_ok, Sem.run_pure, run_newObj]
      rfl
    obtain ⟨hext, h2⟩ := boxNew_rel h (.iter s 0) (.stringIter s 0) (by simp [blk, G.push]) (by simp only [BoxRel, G.push, if_true]; exact rowNew w _)
    exact wp_val hrun (hn _ _ _ _ (h2.put (v := .t (.w (.ptr st.bx.length 0))) ⟨by simp [G.push], by simp [G.push]⟩) hv)

theorem snd_next {x : Operand} (ho : o.op = .next x true) (hv : vop cf dr o k st = some r) (h : Rel w0 S0 O g0 g st a w) (hn : Hands w0 S0 O g0 k r next) : o.wp P a w next Q := by
  unfold vop at hv; rw [ho] at hv; simp only [vNext] at hv
  have he := ev_rel cx h x
  generalize st.ev cf x = e at hv he
  match e, hv, he with
  | .t (.w (.ptr b 0)), hv, he =>
    simp only at hv
    generalize hb : st.bx.getD b none = bb at hv
    match bb, hv with
    | some (.iter s pos), hv =>
      simp only at hv
      have hb' := getD_some hb
      have hh : w.heap[g.bx b]? = some (.stringIter s pos) := (h.m.box b _ hb').2
      have hea : a.eval x = .pointer (some ⟨g.bx b, 0, none⟩) := he.2
      have hobj : (getObj (g.bx b)).run P w = .ok (.stringIter s pos) w := by
        simp only [getObj, Sem.run, hh]
      by_cases hp : pos < s.size
      · rw [decide_eq_true hp, cond_true] at hv
        let w' : World := { w with heap := w.heap.setIfInBounds (g.bx b) (.stringIter s (pos + (Utf8.decode s pos).2)) }
        have hset : ∀ ob, (setObj (g.bx b) ob).run P w = .ok () { w with heap := w.heap.setIfInBounds (g.bx b) ob } := by
          intro ob; simp only [setObj, Sem.run, hh]
        have hrun : (execOp a.eval o).run P w = .ok (.value (.tuple #[.bool true, goInt pos, .int .i32 (Utf8.decode s pos).1])) w' := by
          unfold execOp
          simp only [ho, Sem.run_bind, Instr.next, hea, Result.andThen_ok, Sem.run_pure, hobj, hp, if_true, hset]
          rfl
        have hlt : g.bx b < w.heap.size := (Array.getElem?_eq_some_iff.1 hh).1
        have hno := h.m.none_of hb' (k := g.bx b) rfl (fun e sz els hh => by cases hh)
        have hm := h.m.boxSet hb' (y := some (.iter s (pos + (Utf8.decode s pos).2))) (w' := w')
          ⟨rfl, rfl, rfl, by simp [w'], fun k _ hk => by simp only [w']; rw [Array.getElem?_setIfInBounds_ne (fun e => hk (by simp [blk, e]))]⟩ (by simp [w']) (S' := g.S) (fun _ _ h => h) (fun _ _ h => .inl h)
          (fun ad u hu hk => by
            simp only [blk, Option.some.injEq] at hk
            have := hno ad.off ad.spot; rw [hk] at this
            rw [this] at hu; cases hu) (fun z hz => by
            cases hz
            refine ⟨by simp [BoxRel, w', hlt], fun k hk => hk, fun k hk off' sp u hu => ?_⟩
            simp only [blk, Option.some.injEq] at hk; subst hk
            rw [hno off' sp] at hu; cases hu)
        refine wp_val hrun (hn g _ _ _ ?_ hv)
        refine (h.with (Ext.refl g) hm).put ⟨[.bool true, goInt pos, .int .i32 (Utf8.decode s pos).1], rfl, ?_⟩
        exact .cons (RelC.bool _) (.cons (RelC.int _ _) (.cons (RelC.int _ _) .nil))
      · rw [decide_eq_false hp, cond_false] at hv
        have hrun : (execOp a.eval o).run P w = .ok (.value (.tuple #[.bool false])) w := by
          unfold execOp
          simp only [ho, Sem.run_bind, Instr.next, hea, Result.andThen_ok, Sem.run_pure, hobj, hp, if_false]
        exact snd_val hv h hn ⟨_, hrun, ⟨[.bool false], rfl, .cons (RelC.bool _) .nil⟩⟩
end
end Vm
