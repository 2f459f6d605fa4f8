/- Vm, part H: each operation of the interpreter is the model's (3): places, slices. -/
import Derived.Test.YtniiimpcakmkbaaDoorWG
namespace Vm
open Go

theorem add_add' (a : Addr) (i j : Nat) : (a.add i).add j = a.add (i + j) := by
  unfold Addr.add
  by_cases hi : i = 0 <;> by_cases hj : j = 0 <;> simp [hi, hj, Nat.add_assoc]
theorem add_spot {a : Addr} (h : a.spot = none) (n : Nat) : (a.add n).spot = none := by unfold Addr.add; split <;> simp [h]

theorem relC_ip {S : Addr → Option Value} {l : List C} {u : Value} (h : RelC S (.ip l) u) :
    ∃ (ad : Addr) (uf : Nat → Value), u = .pointer (some ad) ∧ ad.spot = none ∧ (∀ (j : Nat) c, l[j]? = some c → S (ad.add j) = some (uf j)) ∧ (∀ (j : Nat) c, l[j]? = some c → RelC S c (uf j)) := by
  cases h with
  | ip l a uf hsp hS hr => exact ⟨a, uf, rfl, hsp, hS, hr⟩

theorem ip_drop {S : Addr → Option Value} {l : List C} {ad : Addr} {uf : Nat → Value} (hsp : ad.spot = none) (hS : ∀ (j : Nat) c, l[j]? = some c → S (ad.add j) = some (uf j))
    (hr : ∀ (j : Nat) c, l[j]? = some c → RelC S c (uf j)) (n : Nat) : RelC S (.ip (l.drop n)) (.pointer (some (ad.add n))) :=
  .ip _ _ (fun j => uf (n + j)) (add_spot hsp n) (fun j c hj => by rw [add_add']; exact hS _ c (by simpa using hj)) (fun j c hj => hr _ c (by simpa using hj))

/-- a cut of a slice -/
theorem sl_cut {S : Addr → Option Value} {sz : Nat} {els : List (List C)} {A : Option Addr} {cap : Nat} {uf : Nat → Nat → Value}
    (hc : els.length ≤ cap) (hsz : ∀ e ∈ els, e.length = sz) (hA : els ≠ [] → ∃ a, A = some a) (hsp : els ≠ [] → ∀ a, A = some a → a.spot = none)
    (hS : ∀ a, A = some a → ∀ (i : Nat) e, els[i]? = some e → ∀ (j : Nat) c, e[j]? = some c → S (a.add (i * sz + j)) = some (uf i j))
    (hr : ∀ (i : Nat) e, els[i]? = some e → ∀ (j : Nat) c, e[j]? = some c → RelC S c (uf i j)) {l h : Nat} (hl : l ≤ h) (hh : h ≤ els.length) :
    RelC S (.sl sz ((els.drop l).take (h - l))) (.slice (if cap = l then A else A.map (·.add (l * sz))) (h - l) (cap - l)) := by
  have hlen : ((els.drop l).take (h - l)).length = h - l := by simp; omega
  have hget : ∀ (i : Nat) e, ((els.drop l).take (h - l))[i]? = some e → els[l + i]? = some e := by
    intro i e hi
    rw [List.getElem?_take] at hi
    split at hi
    · simpa using hi
    · cases hi
  have hcl : cap = l → (els.drop l).take (h - l) = [] := by
    intro e; apply List.eq_nil_of_length_eq_zero; rw [hlen]; omega
  have := RelC.sl (S := S) sz ((els.drop l).take (h - l)) (if cap = l then A else A.map (·.add (l * sz))) (cap - l) (fun i j => uf (l + i) j) (by rw [hlen]; omega)
    (fun e he => hsz e (List.mem_of_mem_drop (List.mem_of_mem_take he))) (fun hne => by
      have : els ≠ [] := fun e => hne (by rw [e]; simp)
      obtain ⟨a, ha⟩ := hA this
      by_cases e : cap = l
      · exact absurd (hcl e) hne
      · exact ⟨_, by rw [if_neg e, ha]; rfl⟩) (fun hne a ha => by
      have hne' : els ≠ [] := fun e => hne (by rw [e]; simp)
      by_cases e : cap = l
      · rw [if_pos e] at ha; exact hsp hne' a ha
      · rw [if_neg e] at ha
        cases A with
        | none => cases ha
        | some a0 => cases ha; exact add_spot (hsp hne' a0 rfl) _) (fun a ha i e hi j c hj => by
      by_cases e' : cap = l
      · rw [hcl e'] at hi; simp at hi
      · rw [if_neg e'] at ha
        cases A with
        | none => cases ha
        | some a0 =>
          cases ha
          have := hS a0 rfl (l + i) e (hget i e hi) j c hj
          rw [add_add']; rw [← this]; congr 2; rw [Nat.add_mul]; omega) (fun i e hi j c hj => hr (l + i) e (hget i e hi) j c hj)
  rw [hlen] at this
  exact this

section
variable {P : Program} {cf : Cfg} {S0 : Addr → Option Value} (cx : Ctx P cf S0)
variable {w0 : World} {O : Nat → Prop} {g0 g : G} {st : St} {a : Act} {w : World}
variable {R : Type} {dr : Bool} {o : Oper} {k : St → Option R} {r : R} {next : Act → World → Prop} {Q : Exit → Act → World → Prop}

theorem fieldOf_toList {fs : Array Field} {i : Nat} {f : Field} (h : fieldOf fs.toList i = some f) : fs[i]? = some f := by
  unfold fieldOf at h; simpa using h

include cx
theorem sizeOfT_run {t : TypeId} {n : Nat} (h : sizeOfT cf t = some n) (w : World) : (Go.sizeOf t).run P w = .ok n w := by
  unfold sizeOfT at h
  cases hi : cf.ti t with
  | none => rw [hi] at h; cases h
  | some i => rw [hi] at h; cases h; exact sizeOf_run cx hi w

theorem snd_fieldAddr {s : TypeId} {x : Operand} {f : Nat} (ho : o.op = .fieldAddr s x f) (hv : vop cf dr o k st = some r) (h : Rel w0 S0 O g0 g st a w) (hn : Hands w0 S0 O g0 k r next) : o.wp P a w next Q := by
  unfold vop at hv; rw [ho] at hv; simp only [vFieldAddr] at hv
  have he := ev_rel cx h x
  generalize hti : cf.ti s = ti at hv
  match ti, hv with
  | some ⟨.struct fs, z1, z2, z3, z4, z5⟩, hv =>
    simp only at hv
    have hu := (cx.ti s _ hti).und
    cases hf : fieldOf fs.toList f with
    | none => rw [hf] at hv; cases hv
    | some fd =>
      rw [hf] at hv; simp only at hv
      have hf' := fieldOf_toList hf
      generalize hsz : sizeOfT cf fd.type = sz at hv
      generalize st.ev cf x = e at hv he
      have hplace : ∀ n, sizeOfT cf fd.type = some (n + 1) → ∀ ad, (fieldPlace ad fd).run P w = .ok (ad.add fd.offset) w := by
        intro n hn ad
        unfold fieldPlace
        simp only [Sem.run_bind, sizeOfT_run cx hn, Result.andThen_ok]
        rw [if_neg (by omega)]; rfl
      match sz, e, hv, he with
      | some (n + 1), .t (.w (.ptr b off)), hv, he =>
        have hea : a.eval x = .pointer (some ⟨g.bx b, off, none⟩) := he.2
        refine snd_val hv h hn ⟨.pointer (some ⟨g.bx b, off + fd.offset, none⟩), ?_, he.1, rfl⟩
        unfold execOp
        simp only [ho, Sem.run_bind, Instr.fieldAt, run_underlying hu, Result.andThen_ok, hf', hea, Instr.sureAddr, Sem.run_pure, hplace n hsz, add_plain']
      | some (n + 1), .t (.w (.ea b i sz off)), hv, he =>
        obtain ⟨hlt, gb, cnt, cap, hsl, hea⟩ := he
        refine snd_val hv h hn ⟨.pointer (some ⟨gb, i * sz + off + fd.offset, none⟩), ?_, hlt, gb, cnt, cap, hsl, by rw [Nat.add_assoc]⟩
        unfold execOp
        simp only [ho, Sem.run_bind, Instr.fieldAt, run_underlying hu, Result.andThen_ok, hf', hea, Instr.sureAddr, Sem.run_pure, hplace n hsz, add_plain']
      | some (n + 1), .t (.w (.d (.ip l))), hv, he =>
        obtain ⟨ad, uf, hea, hsp, hS, hr⟩ := relC_ip he
        refine snd_val hv h hn ⟨.pointer (some (ad.add fd.offset)), ?_, ip_drop hsp hS hr _⟩
        unfold execOp
        simp only [ho, Sem.run_bind, Instr.fieldAt, run_underlying hu, Result.andThen_ok, hf', hea, Instr.sureAddr, Sem.run_pure, hplace n hsz]

/-- a part of a value's cells -/
theorem part_runW {t : TypeId} {i : TI} (hti : cf.ti t = some i) {us : List Value} {v : T} {off : Nat}
    (hw : (i.ag = true → RelT g v (.agg ((us.drop off).take i.size).toArray) ∧ i.size ≤ (us.drop off).length) ∧ (i.ag = false → ∃ u, (us.drop off)[0]? = some u ∧ RelT g v u)) :
    ∃ u, (part t us.toArray off).run P w = .ok u w ∧ RelT g v u := by
  unfold part
  simp only [Sem.run_bind, isAgg_run cx hti, Result.andThen_ok]
  cases hag : i.ag with
  | true =>
    obtain ⟨h1, h2⟩ := hw.1 hag
    simp only [if_true, Sem.run_bind, sizeOf_run cx hti, Result.andThen_ok, Sem.run_pure]
    refine ⟨_, rfl, ?_⟩
    have : (us.toArray.extract off (off + i.size)) = ((us.drop off).take i.size).toArray := by
      apply Array.ext'; simp [List.take_drop]
    rw [this]; exact h1
  | false =>
    obtain ⟨u, h1, h2⟩ := hw.2 hag
    have : us.toArray[off]? = some u := by simpa using h1
    simp only [this]
    exact ⟨u, by simp, h2⟩
theorem part_run {t : TypeId} {i : TI} (hti : cf.ti t = some i) {us : List Value} {m : M} {v : T} {off : Nat} (hl : RelMx g m us) (hc : cut i.ag i.size m off = some v) :
    ∃ u, (part t us.toArray off).run P w = .ok u w ∧ RelT g v u := part_runW cx hti (cut_rel (i := i) hl hc)
theorem part_runX {β : Type} {t : TypeId} {i : TI} (hti : cf.ti t = some i) {us : List Value} {m : M} {k : T → Option β} {rr : β} {off : Nat} (hl : RelMx g m us) (hc : cutX i m off k = some rr) :
    ∃ v u, k v = some rr ∧ (part t us.toArray off).run P w = .ok u w ∧ RelT g v u := by
  unfold cutX at hc
  split at hc
  · obtain ⟨v, hk, hw⟩ := cutK_rel ((all_of_relM hl).drop off) hc
    obtain ⟨u, h1, h2⟩ := part_runW (w := w) cx hti hw
    exact ⟨v, u, hk, h1, h2⟩
  · split at hc
    · rename_i v hcut
      obtain ⟨u, h1, h2⟩ := part_run (w := w) cx hti hl hcut
      exact ⟨v, u, hc, h1, h2⟩
    · cases hc
theorem snd_field {s : TypeId} {x : Operand} {f : Nat} (ho : o.op = .field s x f) (hv : vop cf dr o k st = some r) (h : Rel w0 S0 O g0 g st a w) (hn : Hands w0 S0 O g0 k r next) : o.wp P a w next Q := by
  unfold vop at hv; rw [ho] at hv; simp only [vField] at hv
  have he := ev_rel cx h x
  generalize hti : cf.ti s = ti at hv
  generalize st.ev cf x = e at hv he
  match ti, e, hv, he with
  | some ⟨.struct fs, z1, z2, z3, z4, z5⟩, .t (.agg l), hv, he =>
    simp only at hv
    have hu := (cx.ti s _ hti).und
    cases hf : fieldOf fs.toList f with
    | none => rw [hf] at hv; cases hv
    | some fd =>
      rw [hf] at hv; simp only at hv
      have hf' := fieldOf_toList hf
      cases hi : cf.ti fd.type with
      | none => rw [hi] at hv; cases hv
      | some i =>
        rw [hi] at hv; simp only at hv
        cases hc : cut i.ag i.size l fd.offset with
        | none => rw [hc] at hv; cases hv
        | some v =>
          rw [hc] at hv; simp only at hv
          obtain ⟨us, hus, hall⟩ := he
          obtain ⟨u, hr, hu2⟩ := part_run (w := w) cx hi hall hc
          refine snd_val hv h hn ⟨u, ?_, hu2⟩
          unfold execOp
          simp only [ho, Sem.run_bind, Instr.field, run_underlying hu, Result.andThen_ok, hf', hus, asAgg, Sem.run_pure, hr]

theorem eszE_und {t e : TypeId} {n : Nat} (h : eszE cf t = some (e, n)) : P.underlying t = some (.slice e) ∧ ∃ i, cf.ti e = some i ∧ i.size = n := by
  unfold eszE at h
  generalize hti : cf.ti t = ti at h
  match ti, h with
  | some ⟨.slice e', z1, z2, z3, z4, z5⟩, h =>
    simp only at h
    cases hi : cf.ti e' with
    | none => rw [hi] at h; cases h
    | some i => rw [hi] at h; cases h; exact ⟨(cx.ti t _ hti).und, i, hi, rfl⟩

omit cx in
theorem esz_E {t : TypeId} {n : Nat} (h : esz cf t = some n) : ∃ e, eszE cf t = some (e, n) := by
  unfold esz at h
  cases he : eszE cf t with
  | none => rw [he] at h; cases h
  | some p => rw [he] at h; cases h; exact ⟨p.1, rfl⟩

theorem indexSl {t : TypeId} {x ix : Operand} (ho : o.op = .indexAddr t x ix) {i : Int} {ki : IntKind} (hix : a.eval ix = .int ki i) {sz n : Nat} {els : List (List C)} (hx : RelC g.S (.sl sz els) (a.eval x))
    (hs : esz cf t = some n) (hns : n = sz) (h0 : 0 ≤ i) {e : List C} (he : els[i.toNat]? = some e) : ∃ u, (execOp a.eval o).run P w = .ok (.value u) w ∧ RelC g.S (.ip e) u := by
  subst hns
  obtain ⟨et, hE⟩ := esz_E hs
  obtain ⟨hu, ti, hte, hsz'⟩ := eszE_und cx hE
  obtain ⟨A, cap, uf, hea, hc, hsz, hA, hsp, hS, hr⟩ := relC_sl hx
  have hlt : i.toNat < els.length := (List.getElem?_eq_some_iff.1 he).1
  obtain ⟨ad, rfl⟩ := hA (fun e => by rw [e] at hlt; simp at hlt)
  refine ⟨.pointer (some (ad.add (i.toNat * n))), ?_, ?_⟩
  · unfold execOp
    have hcond : (0 ≤ i ∧ i < (els.length : Int)) := ⟨h0, by omega⟩
    simp only [ho, Sem.run_bind, Instr.indexAt, hix, asIntOf, run_underlying hu, Result.andThen_ok, hea, Sem.run_pure, hcond, and_self, if_true, sizeOf_run cx hte, hsz']
  · exact .ip e _ (fun j => uf i.toNat j) (add_spot (hsp (fun hn => by rw [hn] at he; simp at he) ad rfl) _) (fun j c hj => by rw [add_add']; exact hS ad rfl _ e he j c hj) (fun j c hj => hr _ e he j c hj)

theorem snd_indexAddr {t : TypeId} {x ix : Operand} (ho : o.op = .indexAddr t x ix) (hv : vop cf dr o k st = some r) (h : Rel w0 S0 O g0 g st a w) (hn : Hands w0 S0 O g0 k r next) : o.wp P a w next Q := by
  unfold vop at hv; rw [ho] at hv; simp only [vIndexAddr] at hv
  have hi := ev_rel cx h ix
  have he := ev_rel cx h x
  generalize st.ev cf ix = ei at hv hi
  match ei, hv, hi with
  | .t (.w (.d (.int ki i))), hv, hi =>
    simp only at hv
    have hix := relC_int hi
    generalize hti : cf.ti t = ti at hv
    generalize st.ev cf x = e at hv he
    match ti, e, hv, he with
    | some ⟨.slice et, z1, z2, z3, z4, z5⟩, .t (.w (.d (.sl sz els))), hv, he =>
      simp only at hv
      cases hs : esz cf t with
      | none => rw [hs] at hv; cases hv
      | some n =>
        rw [hs] at hv; simp only at hv
        by_cases hc : (n == sz && decide (0 ≤ i)) = true
        · rw [hc, cond_true] at hv
          simp only [Bool.and_eq_true, beq_iff_eq, decide_eq_true_eq] at hc
          unfold getT at hv
          cases hg : els[i.toNat]? with
          | none => rw [hg] at hv; cases hv
          | some e => rw [hg] at hv; exact snd_val hv h hn (indexSl cx ho hix he hs hc.1 hc.2 hg)
        · rw [Bool.not_eq_true] at hc; rw [hc] at hv; cases hv
    | some ⟨.slice et, z1, z2, z3, z4, z5⟩, .t (.w (.arr b)), hv, he =>
      simp only at hv
      cases hs : esz cf t with
      | none => rw [hs] at hv; cases hv
      | some n =>
        rw [hs] at hv
        generalize hb : st.bx.getD b none = bb at hv
        match bb, hv with
        | some (.arr mt e0 sz els), hv =>
          simp only at hv
          by_cases hc : (n == sz && decide (0 ≤ i)) = true
          case neg => rw [Bool.not_eq_true] at hc; rw [hc] at hv; cases hv
          rw [hc, cond_true] at hv
          simp only [Bool.and_eq_true, beq_iff_eq, decide_eq_true_eq] at hc
          obtain ⟨rfl, h0⟩ := hc
          unfold getT at hv
          cases hg : els[i.toNat]? with
          | none => rw [hg] at hv; cases hv
          | some e =>
            rw [hg] at hv; simp only at hv
            obtain ⟨hblt, xs, e', he', hown, hfl, hpos, hrc⟩ := h.m.box b _ (getD_some hb)
            obtain ⟨_, hea, _⟩ := he
            cases mt with
            | false =>
              rw [cond_false] at hv
              exact snd_val hv h hn (indexSl cx ho hix (by rw [hea]; exact hrc rfl) hs rfl h0 hg)
            | true =>
              rw [cond_true] at hv
              obtain ⟨et', hE⟩ := esz_E hs
              obtain ⟨hu, ti, hte, hsz'⟩ := eszE_und cx hE
              have hlt : i.toNat < els.length := lt_of hg
              rcases hown.2 with ⟨_, hx⟩ | ⟨gb, cap, cur, hsl, _⟩
              · rw [hx] at hlt; omega
              · refine snd_val hv h hn ⟨.pointer (some ⟨gb, i.toNat * n, none⟩), ?_, hblt, gb, _, cap, hsl, by simp⟩
                unfold execOp
                have hcond : (0 ≤ i ∧ i < (els.length : Int)) := ⟨h0, by omega⟩
                simp only [ho, Sem.run_bind, Instr.indexAt, hix, asIntOf, run_underlying hu, Result.andThen_ok, hea, hsl, Sem.run_pure, hcond, and_self, if_true, sizeOf_run cx hte, hsz', add_plain', Nat.zero_add]
    | some ⟨.array len et, z1, z2, z3, z4, z5⟩, .t (.w (.ptr b off)), hv, he =>
      simp only at hv
      cases hs : sizeOfT cf et with
      | none => rw [hs] at hv; cases hv
      | some n =>
        rw [hs] at hv; simp only at hv
        by_cases hc : 0 ≤ i ∧ i < (len : Int)
        · rw [decide_eq_true hc, cond_true] at hv
          have hea : a.eval x = .pointer (some ⟨g.bx b, off, none⟩) := he.2
          refine snd_val hv h hn ⟨.pointer (some ⟨g.bx b, off + i.toNat * n, none⟩), ?_, he.1, rfl⟩
          unfold execOp
          simp only [ho, Sem.run_bind, Instr.indexAt, hix, asIntOf, run_underlying (cx.ti t _ hti).und, Result.andThen_ok, hea, Instr.sureAddr, Sem.run_pure, hc, and_self, if_true, sizeOfT_run cx hs, add_plain']
        · rw [decide_eq_false hc] at hv; cases hv
    | some ⟨.array len et, z1, z2, z3, z4, z5⟩, .t (.w (.ea b j sz off)), hv, he =>
      simp only at hv
      cases hs : sizeOfT cf et with
      | none => rw [hs] at hv; cases hv
      | some n =>
        rw [hs] at hv; simp only at hv
        by_cases hc : 0 ≤ i ∧ i < (len : Int)
        · rw [decide_eq_true hc, cond_true] at hv
          obtain ⟨hlt, gb, cnt, cap, hsl, hea⟩ := he
          refine snd_val hv h hn ⟨.pointer (some ⟨gb, j * sz + off + i.toNat * n, none⟩), ?_, hlt, gb, cnt, cap, hsl, by rw [Nat.add_assoc]⟩
          unfold execOp
          simp only [ho, Sem.run_bind, Instr.indexAt, hix, asIntOf, run_underlying (cx.ti t _ hti).und, Result.andThen_ok, hea, Instr.sureAddr, Sem.run_pure, hc, and_self, if_true, sizeOfT_run cx hs, add_plain']
        · rw [decide_eq_false hc] at hv; cases hv
    | some ⟨.array len et, z1, z2, z3, z4, z5⟩, .t (.w (.d (.ip l))), hv, he =>
      simp only at hv
      cases hs : sizeOfT cf et with
      | none => rw [hs] at hv; cases hv
      | some n =>
        rw [hs] at hv; simp only at hv
        by_cases hc : 0 ≤ i ∧ i < (len : Int)
        · rw [decide_eq_true hc, cond_true] at hv
          obtain ⟨ad, uf, hea, hsp, hS, hr⟩ := relC_ip he
          refine snd_val hv h hn ⟨.pointer (some (ad.add (i.toNat * n))), ?_, ip_drop hsp hS hr _⟩
          unfold execOp
          simp only [ho, Sem.run_bind, Instr.indexAt, hix, asIntOf, run_underlying (cx.ti t _ hti).und, Result.andThen_ok, hea, Instr.sureAddr, Sem.run_pure, hc, and_self, if_true, sizeOfT_run cx hs]
        · rw [decide_eq_false hc] at hv; cases hv

theorem snd_index {t : TypeId} {x ix : Operand} (ho : o.op = .index t x ix) (hv : vop cf dr o k st = some r) (h : Rel w0 S0 O g0 g st a w) (hn : Hands w0 S0 O g0 k r next) : o.wp P a w next Q := by
  unfold vop at hv; rw [ho] at hv; simp only [vIndex] at hv
  have hi := ev_rel cx h ix
  have he := ev_rel cx h x
  generalize st.ev cf ix = ei at hv hi
  match ei, hv, hi with
  | .t (.w (.d (.int ki i))), hv, hi =>
    simp only at hv
    have hix := relC_int hi
    generalize hti : cf.ti t = ti at hv
    generalize st.ev cf x = e at hv he
    match ti, e, hv, he with
    | some ⟨.string, z1, z2, z3, z4, z5⟩, .t (.w (.d (.str s))), hv, he =>
      simp only at hv
      have hs := relC_str he
      by_cases h0 : 0 ≤ i
      · rw [decide_eq_true h0, cond_true] at hv
        unfold getT at hv
        cases hg : s.data.toList[i.toNat]? with
        | none => rw [hg] at hv; cases hv
        | some b =>
          rw [hg] at hv
          have hb : s[i.toNat]? = some b := by
            have : s.data[i.toNat]? = some b := by simpa using hg
            rw [← this]; rfl
          refine snd_val hv h hn ⟨.int .u8 b.toNat, ?_, RelC.int _ _⟩
          unfold execOp
          simp only [ho, Sem.run_bind, Instr.index, hix, asIntOf, run_underlying (cx.ti t _ hti).und, Result.andThen_ok, hs, Sem.run_pure, h0, if_true, hb]
      · rw [decide_eq_false h0] at hv; cases hv
    | some ⟨.array len et, z1, z2, z3, z4, z5⟩, .t (.agg l), hv, he =>
      simp only at hv
      cases hte : cf.ti et with
      | none => rw [hte] at hv; cases hv
      | some i2 =>
        rw [hte] at hv; simp only at hv
        by_cases hc : 0 ≤ i ∧ i < (len : Int)
        · rw [decide_eq_true hc, cond_true] at hv
          obtain ⟨us, hus, hall⟩ := he
          obtain ⟨v, u, hk, hr, hu2⟩ := part_runX (w := w) cx hte hall hv
          refine snd_val (v := .t v) hk h hn ⟨u, ?_, hu2⟩
          unfold execOp
          simp only [ho, Sem.run_bind, Instr.index, hix, asIntOf, run_underlying (cx.ti t _ hti).und, Result.andThen_ok, hus, Sem.run_pure, hc, and_self, if_true, sizeOf_run cx hte, hr]
        · rw [decide_eq_false hc] at hv; cases hv

theorem bnd_rel (h : Rel w0 S0 O g0 g st a w) {d : Nat} {x : Option Operand} {i : Int} (hb : bnd cf st d x = some i) : (x = none ∧ i = d) ∨ ∃ y ki, x = some y ∧ a.eval y = .int ki i := by
  unfold bnd at hb
  cases x with
  | none => simp at hb; exact .inl ⟨rfl, hb.symm⟩
  | some y =>
    simp only at hb
    have he := ev_rel cx h y
    generalize st.ev cf y = e at hb he
    match e, hb, he with
    | .t (.w (.d (.int ki n))), hb, he => simp only [Option.some.injEq] at hb; subst hb; exact .inr ⟨y, ki, rfl, relC_int he⟩

theorem bounds_run (h : Rel w0 S0 O g0 g st a w) (isS : Bool) {len cap : Nat} {lo hi : Option Operand} {l u : Int} (hl : bnd cf st 0 lo = some l) (hh : bnd cf st len hi = some u)
    (h1 : 0 ≤ l) (h2 : l ≤ u) (h3 : u ≤ cap) : (Instr.sliceBounds isS len cap (lo.map a.eval) (hi.map a.eval) none).run P w = .ok (l.toNat, u.toNat, cap) w := by
  have hb : ∀ (ki : IntKind) (i : Int) (y : Nat) (c : BoundsCode), 0 ≤ i → i ≤ y → (Instr.sliceBound (.int ki i) y c).run P w = .ok i.toNat w := by
    intro ki i y c h0 hy
    unfold Instr.sliceBound
    simp only [Sem.run_bind, asIntOf, Sem.run_pure, Result.andThen_ok]
    rw [if_pos ⟨h0, hy⟩]; rfl
  unfold Instr.sliceBounds
  have hu : 0 ≤ u := by omega
  rcases bnd_rel cx h hl with ⟨rfl, el⟩ | ⟨y, ki, rfl, ey⟩ <;> rcases bnd_rel cx h hh with ⟨rfl, eh⟩ | ⟨z, kz, rfl, ez⟩
  · subst el eh
    simp only [Option.map_none, Sem.run_bind, Sem.run_pure, Result.andThen_ok, Int.toNat_natCast]
  · subst el
    simp only [Option.map_none, Option.map_some, ez, Sem.run_bind, Sem.run_pure, Result.andThen_ok, hb kz u cap _ hu h3]
    rfl
  · subst eh
    simp only [Option.map_none, Option.map_some, ey, Sem.run_bind, Sem.run_pure, Result.andThen_ok, hb ki l len _ h1 h2, Int.toNat_natCast]
  · have hul : l ≤ (u.toNat : Int) := by omega
    simp only [Option.map_some, ey, ez, Sem.run_bind, Sem.run_pure, Result.andThen_ok, hb kz u cap _ hu h3, hb ki l u.toNat _ h1 hul]

theorem sliceSl (h : Rel w0 S0 O g0 g st a w) {S : Addr → Option Value} {t : TypeId} {x : Operand} {lo hi : Option Operand} (ho : o.op = .slice t x lo hi none) {sz n : Nat} {els : List (List C)} (hx : RelC S (.sl sz els) (a.eval x))
    (hs : esz cf t = some n) (hns : n = sz) {l u : Int} (hl : bnd cf st 0 lo = some l) (hh : bnd cf st els.length hi = some u) (hb : 0 ≤ l ∧ l ≤ u ∧ u ≤ els.length) :
    ∃ v, (execOp a.eval o).run P w = .ok (.value v) w ∧ RelC S (.sl sz ((els.drop l.toNat).take (u.toNat - l.toNat))) v := by
  subst hns
  obtain ⟨et, hE⟩ := esz_E hs
  obtain ⟨hu, ti, hte, hsz'⟩ := eszE_und cx hE
  obtain ⟨A, cap, uf, hea, hc, hsz, hA, hsp, hS, hr⟩ := relC_sl hx
  have hrun := bounds_run (P := P) cx h true hl hh hb.1 hb.2.1 (cap := cap) (by omega)
  refine ⟨_, ?_, sl_cut hc hsz hA hsp hS hr (l := l.toNat) (h := u.toNat) (by omega) (by omega)⟩
  unfold execOp
  simp only [ho, Sem.run_bind, Instr.sliceAt, run_underlying hu, Result.andThen_ok, hea, Instr.slice, Option.map_none, hrun, sizeOf_run cx hte, hsz', Sem.run_pure]

theorem snd_slice {t : TypeId} {x : Operand} {lo hi mx : Option Operand} (ho : o.op = .slice t x lo hi mx) (hv : vop cf dr o k st = some r) (h : Rel w0 S0 O g0 g st a w) (hn : Hands w0 S0 O g0 k r next) : o.wp P a w next Q := by
  unfold vop at hv; rw [ho] at hv; simp only [vSlice] at hv
  have he := ev_rel cx h x
  generalize hti : cf.ti t = ti at hv
  generalize st.ev cf x = e at hv he
  match ti, mx, ho, hv with
  | some ⟨.string, z1, z2, z3, z4, z5⟩, none, ho, hv =>
    simp only at hv
    match e, hv, he with
    | .t (.w (.d (.str s))), hv, he =>
      simp only at hv
      have hs := relC_str he
      cases hl : bnd cf st 0 lo with
      | none => rw [hl] at hv; cases hv
      | some l =>
        rw [hl] at hv
        cases hh : bnd cf st s.size hi with
        | none => rw [hh] at hv; cases hv
        | some u =>
          rw [hh] at hv; simp only at hv
          by_cases hb : 0 ≤ l ∧ l ≤ u ∧ u ≤ (s.size : Int)
          · rw [decide_eq_true hb, cond_true] at hv
            have hrun := bounds_run (P := P) cx h false hl hh hb.1 hb.2.1 hb.2.2
            refine snd_val hv h hn ⟨.string (s.extract l.toNat u.toNat), ?_, RelC.str _⟩
            unfold execOp
            simp only [ho, Sem.run_bind, Instr.sliceAt, run_underlying (cx.ti t _ hti).und, Result.andThen_ok, hs, Instr.slice, Option.map_none, Option.isSome_none, Bool.false_eq_true, if_false, hrun, Sem.run_pure]
          · rw [decide_eq_false hb] at hv; cases hv
  | some ⟨.slice et, z1, z2, z3, z4, z5⟩, none, ho, hv =>
    simp only at hv
    generalize hp : passV dr e st.bx = pp at hv
    match pp, hv with
    | some (.t (.w (.d (.sl sz els))), bx1), hv =>
      simp only at hv
      obtain ⟨g1, hmore, hR1, _, _, hw⟩ := passV_rel hp h.m
      have he1 := hw _ he
      cases hs : esz cf t with
      | none => rw [hs] at hv; cases hv
      | some n =>
        rw [hs] at hv
        cases hl : bnd cf st 0 lo with
        | none => rw [hl] at hv; cases hv
        | some l =>
          rw [hl] at hv
          cases hh : bnd cf st els.length hi with
          | none => rw [hh] at hv; cases hv
          | some u =>
            rw [hh] at hv; simp only at hv
            by_cases hb : (n == sz && decide (0 ≤ l ∧ l ≤ u ∧ u ≤ (els.length : Int))) = true
            · rw [hb, cond_true] at hv
              simp only [Bool.and_eq_true, beq_iff_eq, decide_eq_true_eq] at hb
              exact snd_more hmore hR1 hv h hn (sliceSl cx h ho he1 hs hb.1 hl hh hb.2)
            · rw [Bool.not_eq_true] at hb; rw [hb] at hv; cases hv
  | some ⟨.array n el, z1, z2, z3, z4, z5⟩, none, ho, hv =>
    simp only at hv
    generalize hs : sizeOfT cf el = es at hv
    match e, lo, hi, es, ho, hv, he, hs with
    | .t (.w (.ptr b off)), none, none, some 1, ho, hv, he, hs =>
      simp only at hv
      obtain ⟨hblt, hea⟩ := he
      have hrun : (execOp a.eval o).run P w = .ok (.value (.slice (some ⟨g.bx b, off, none⟩) n n)) w := by
        unfold execOp
        simp only [ho, Sem.run_bind, Instr.sliceAt, run_underlying (cx.ti t _ hti).und, Result.andThen_ok, hea, Instr.sureAddr, Sem.run_pure, Instr.sliceBounds, Option.map_none, sizeOfT_run cx hs, Nat.sub_zero, Nat.zero_mul]
        have : (⟨g.bx b, off, none⟩ : Addr).add 0 = ⟨g.bx b, off, none⟩ := by rw [add_plain', Nat.add_zero]
        by_cases hn : n = 0
        · rw [if_pos hn]
        · rw [if_neg hn, this]
      cases hbor : borOf cf o with
      | false =>
        rw [hbor, cond_false] at hv
        exact snd_val hv h hn ⟨_, hrun, hblt, rfl⟩
      | true =>
        rw [hbor, cond_true] at hv
        generalize hb : st.bx.getD b none = bb at hv
        match bb, hv with
        | some (.cells ⟨l, [], ln⟩), hv2 =>
          simp only at hv2
          by_cases hc : (Nat.beq off 0 && ln == n && !dr && decide (n ≤ 9223372036854775807)) = true
          case neg => rw [Bool.not_eq_true] at hc; rw [hc] at hv2; cases hv2
          rw [hc, cond_true] at hv2
          simp only [Bool.and_eq_true, beq_iff_eq, decide_eq_true_eq, Nat.beq_eq] at hc
          obtain ⟨⟨⟨rfl, hl⟩, _⟩, hmax⟩ := hc
          have hb' := getD_some hb
          obtain ⟨_, cs, e', hh, hcs⟩ := h.m.box b _ hb'
          have hl : l.length = n := hcs.1.2.trans hl
          have hall := all_of_relM hcs
          have hm1 : RelM w0 S0 O g (st.bx.set b none) w := h.m.less (by simp; exact h.m.c) (fun n y hy => by
            rcases set_get hy with ⟨_, e, _⟩ | ⟨_, e⟩
            · cases e
            · exact e)
          have hlen : (l.map fun c => [c]).length = n := by simp [hl]
          have hno := h.m.none_of hb' (k := g.bx b) rfl (fun e sz els hh => by cases hh)
          have hcl : cs.length = n := by rw [hall.1, hl]
          have hsl : (g.push (st.bx.set b none).length 0 (.slice (some ⟨g.bx b, 0, none⟩) n n)).sl (st.bx.set b none).length = .slice (some ⟨g.bx b, 0, none⟩) n n := by simp [G.push]
          have hM := hm1.boxAdd (x := .arr true none 1 (l.map fun c => [c])) (k := 0) (v := .slice (some ⟨g.bx b, 0, none⟩) n n) (S' := g.S) (World.grownBy.refl w (some (g.bx b))) (fun k hk => by cases hk; exact h.m.low b _ _ hb' rfl) (fun _ _ h => h) (fun _ _ h => .inl h) (fun ad u hu _ => h.m.mem ad u hu)
            (fun m y k hy hk hr => by
              cases hr
              rcases set_get hy with ⟨_, e, _⟩ | ⟨hne, hy⟩
              · cases e
              · exact hne (h.m.disj m b y _ _ hy hb' hk rfl))
            ⟨cs, e', fun e0 h => (by cases h), by
              rw [hsl, hlen]
              exact ⟨by omega, .inr ⟨g.bx b, n, _, rfl, Nat.zero_le _, hh, Nat.le_refl _, by simp only [maxLen]; omega, by simp [hcl], by simp only [Nat.mul_one]; rw [← hcl]; exact List.take_length⟩⟩,
              ⟨by simp [hall.1], fun i e hi => by
                simp only [List.getElem?_map, Option.map_eq_some_iff] at hi
                obtain ⟨c, hc, rfl⟩ := hi
                refine ⟨rfl, fun j c' hj => ?_⟩
                cases j with
                | zero =>
                  simp at hj; subst hj
                  obtain ⟨u, hu, hr⟩ := hall.get hc
                  exact ⟨u, by simpa using hu, hr⟩
                | succ j => simp at hj⟩, by omega, fun h => by cases h⟩
            (fun kk hk => by simp only [blk, hsl] at hk; left; exact hk)
            (fun kk hk off' sp u hu => by
              simp only [blk, hsl] at hk
              simp only [Value.ownBlock, Option.some.injEq] at hk; subst hk
              rw [hno off' sp] at hu; cases hu)
          have hpe : Ext g (g.push (st.bx.set b none).length 0 (.slice (some ⟨g.bx b, 0, none⟩) n n)) := G.push_ext hm1.fresh
          refine wp_val hrun (hn _ _ _ _ ((h.with ⟨hpe.S, hpe.bx, hpe.sl, hpe.c⟩ hM).put (v := .t (.w (.arr st.bx.length))) ?_) hv2)
          exact ⟨by simp [G.push], by simp [G.push], rfl⟩
end
end Vm
