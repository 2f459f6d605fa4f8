/- Vm, part L: regions, control, functions: what the interpreter answers, the machine answers. -/
import Derived.Test.YtniiimpcakmkbaaDoorWK
namespace Vm
open Go

section
variable {P : Program} {cf : Cfg} {S0 : Addr → Option Value} (cx : Ctx P cf S0) (hpc : PcOk P cf)
variable {w0 : World} {O : Nat → Prop} {g0 g : G} {st : St} {a : Act} {w : World}
variable {R : Type} {dr : Bool} {o : Oper} {r : R} {Q : Exit → Act → World → Prop}

theorem split_rel {dst : Option Nat} {k : St → Option R} (h : Rel w0 S0 O g0 g st a w) (hs : split st dst k = some r) : ∃ st', Rel w0 S0 O g0 g st' a w ∧ k st' = some r := by
  unfold split at hs
  simp only [getV_eq] at hs
  cases dst with
  | none => exact ⟨st, h, hs⟩
  | some d =>
    simp only at hs
    have key : ∀ b, st.env.getD d vu = vb b → Rel w0 S0 O g0 g (st.set (some d) (vb b)) a w := by
      intro b hb
      refine ⟨h.df, by simp [St.set, setV_eq, h.len], h.np, h.np0, h.pin, fun i v hv => ?_, h.m⟩
      simp only [St.set, setV_eq] at hv
      rw [List.getElem?_set] at hv
      split at hv
      · rename_i e
        split at hv
        · rename_i hlt
          cases hv
          subst e
          have : st.env[d]? = some (vb b) := by
            rw [List.getD_eq_getElem?_getD, List.getElem?_eq_getElem hlt] at hb
            rw [List.getElem?_eq_getElem hlt]; simpa using hb
          exact h.env d _ this
        · cases hv
      · exact h.env i v hv
    generalize he : st.env.getD d vu = e at hs key
    match e, hs, key with
    | .t (.w (.d (.bool b))), hs, key =>
      cases b with
      | true => exact ⟨_, key true rfl, hs⟩
      | false => exact ⟨_, key false rfl, hs⟩
    | .u, hs, _ => exact ⟨st, h, hs⟩
    | .tup l, hs, _ => exact ⟨st, h, hs⟩
    | .t (.agg l), hs, _ => exact ⟨st, h, hs⟩
    | .t (.w .u), hs, _ => exact ⟨st, h, hs⟩
    | .t (.w (.ptr b c)), hs, _ => exact ⟨st, h, hs⟩
    | .t (.w (.arr b)), hs, _ => exact ⟨st, h, hs⟩
    | .t (.w (.ea b i s f)), hs, _ => exact ⟨st, h, hs⟩
    | .t (.w (.pv b i f)), hs, _ => exact ⟨st, h, hs⟩
    | .t (.w (.es sz)), hs, _ => exact ⟨st, h, hs⟩
    | .t (.w (.d (.int k1 n1))), hs, _ => exact ⟨st, h, hs⟩
    | .t (.w (.d (.str s))), hs, _ => exact ⟨st, h, hs⟩
    | .t (.w (.d (.sl s q))), hs, _ => exact ⟨st, h, hs⟩
    | .t (.w (.d (.fn f q))), hs, _ => exact ⟨st, h, hs⟩
    | .t (.w (.d (.ifc t ag q))), hs, _ => exact ⟨st, h, hs⟩
    | .t (.w (.d .ni)), hs, _ => exact ⟨st, h, hs⟩
    | .t (.w (.d .nf)), hs, _ => exact ⟨st, h, hs⟩
    | .t (.w (.d .np)), hs, _ => exact ⟨st, h, hs⟩
    | .t (.w (.d (.ip q))), hs, _ => exact ⟨st, h, hs⟩

theorem wanted_rel {ops : Array Oper} {b : Bool} (h : Rel w0 S0 O g0 g st a w) (hw : wantedV ops.toList st o = some b) : Region.wanted o (yielded ops a.tmps) = b := by
  unfold wantedV at hw
  unfold Region.wanted
  cases hg : o.guard with
  | none => rw [hg] at hw; cases hw; rfl
  | some jw =>
    obtain ⟨j, want⟩ := jw
    rw [hg] at hw; simp only at hw ⊢
    have hops : ops.toList[j]? = ops[j]? := by simp
    rw [hops] at hw
    unfold yielded
    cases hj : ops[j]? with
    | none => rw [hj] at hw; cases hw
    | some gp =>
      rw [hj] at hw; simp only at hw
      cases hd : gp.dst with
      | none => rw [hd] at hw; cases hw
      | some d =>
        rw [hd] at hw; simp only [getO_eq] at hw
        simp only [Option.bind_some, hd]
        generalize he : st.env[d]? = e at hw
        have hlt : ∀ v, st.env[d]? = some v → ∃ u, a.tmps[d]? = some u ∧ RelV g v u := by
          intro v hv
          have h1 : d < st.env.length := (List.getElem?_eq_some_iff.1 hv).1
          have h2 : d < a.tmps.size := by rw [h.len]; exact h1
          have := h.env d v hv
          have e1 : a.tmps.getD d undef = a.tmps[d] := by simp [h2]
          rw [e1] at this
          exact ⟨_, Array.getElem?_eq_getElem h2, this⟩
        match e, hw with
        | some (.t (.w (.d (.bool bb)))), hw =>
          obtain ⟨u, hu, hr⟩ := hlt _ he
          rw [hu]; have := relC_bool hr; subst this
          cases hw; cases bb <;> cases want <;> rfl
        | some (.tup l), hw =>
          obtain ⟨u, hu, us, hr, _⟩ := hlt _ he
          rw [hu, hr]; cases hw; rfl

/-- how the interpreter leaves code -/
def toE : X → Exit
  | .nm => .normal
  | .ex id => .exit id
  | .rt => .ret

def QX (w0 : World) (S0 : Addr → Option Value) (O : Nat → Prop) (g0 : G) (k : X → St → Option R) (r : R) : Exit → Act → World → Prop :=
  fun e a w => ∃ x g st, toE x = e ∧ Rel w0 S0 O g0 g st a w ∧ k x st = some r

include cx hpc

theorem runOps_rel (ops : Array Oper) (k : St → Option R) : ∀ (rest : List Oper) (i : Nat) {g : G} {st : St} {a : Act} {w : World}, ops.toList.drop i = rest → Rel w0 S0 O g0 g st a w →
    runOps cf dr ops.toList rest k st = some r → (∀ g' st' a' w', Rel w0 S0 O g0 g' st' a' w' → k st' = some r → Q .normal a' w') →
    wpOps P ops Q (List.range' i rest.length) a w := by
  intro rest
  induction rest with
  | nil =>
    intro i g st a w _ h hr hq
    exact hq _ _ _ _ h hr
  | cons o q ih =>
    intro i g st a w hd h hr hq
    have hlt : i < ops.toList.length := by
      rcases Nat.lt_or_ge i ops.toList.length with h1 | h1
      · exact h1
      · rw [List.drop_eq_nil_of_le h1] at hd; cases hd
    have hdd := List.drop_eq_getElem_cons hlt
    rw [hd] at hdd
    injection hdd with ho hq'
    have hoi : ops[i]? = some o := by rw [ho]; simp
    simp only [List.length_cons, List.range'_succ, wpOps, hoi]
    simp only [runOps] at hr
    cases hw : wantedV ops.toList st o with
    | none => rw [hw] at hr; cases hr
    | some b =>
      rw [hw] at hr
      have hwr := wanted_rel h hw
      cases b with
      | false =>
        simp only at hr
        rw [hwr]; simp only [Bool.false_eq_true, if_false]
        exact ih (i + 1) hq'.symm (h.put (v := .tup []) ⟨[], rfl, .nil⟩) hr hq
      | true =>
        simp only at hr
        rw [hwr]; simp only [if_true]
        left
        refine snd_vop cx hpc hr h ?_
        intro g' st' a' w' h' hk'
        by_cases hgd : isGuard ops.toList o.dst q = true
        · simp only [hgd, cond_true] at hk'
          obtain ⟨st2, h2, hk2⟩ := split_rel h' hk'
          exact ih (i + 1) hq'.symm h2 hk2 hq
        · rw [Bool.not_eq_true] at hgd
          simp only [hgd, cond_false] at hk'
          exact ih (i + 1) hq'.symm h' hk' hq

omit cx hpc
theorem maskV_rel : ∀ (m : List Bool) (e : List V) (i : Nat) v, (maskV m e)[i]? = some v → v = vu ∨ e[i]? = some v := by
  intro m
  induction m with
  | nil => intro e i v h; cases e <;> simp [maskV] at h <;> exact .inr h
  | cons b r ih =>
    intro e i v h
    cases e with
    | nil => cases b <;> simp [maskV] at h
    | cons y q =>
      cases b with
      | true =>
        cases i with
        | zero => simp [maskV] at h; exact .inr (by simpa using h)
        | succ i => simp [maskV] at h; exact (ih q i v h).imp id (fun hh => by simpa using hh)
      | false =>
        cases i with
        | zero => simp [maskV] at h; exact .inl h.symm
        | succ i => simp [maskV] at h; exact (ih q i v h).imp id (fun hh => by simpa using hh)

theorem maskV_len : ∀ (m : List Bool) (e : List V), (maskV m e).length = e.length := by
  intro m
  induction m with
  | nil => intro e; cases e <;> simp [maskV]
  | cons b r ih =>
    intro e
    cases e with
    | nil => cases b <;> simp [maskV]
    | cons y q => cases b <;> simp [maskV, ih]

theorem head_rel (h : Rel w0 S0 O g0 g st a w) (m : List Bool) : ∃ g', Rel w0 S0 O g0 g' (headM m st) a w := by
  rw [headM_eq]
  refine canon_rel (g := g) ⟨h.df, by simp [maskV_len, h.len], h.np, h.np0, h.pin, fun i v hv => ?_, h.m⟩
  rcases maskV_rel _ _ i v hv with rfl | hv
  · trivial
  · exact h.env i v hv

theorem foldPre {α : Type} {f : Bx → α → Bx} (hf : ∀ (x : α) {g : G} {bx : Bx}, RelM w0 S0 O g bx w → ∃ g', More g g' ∧ RelM w0 S0 O g' (f bx x) w) : ∀ (l : List α) {g : G} {bx : Bx}, RelM w0 S0 O g bx w → ∃ g', More g g' ∧ RelM w0 S0 O g' (l.foldl f bx) w := by
  intro l
  induction l with
  | nil => intro g bx h; exact ⟨g, .refl g, h⟩
  | cons x r ih =>
    intro g bx h
    obtain ⟨g1, m1, h1⟩ := hf x h
    obtain ⟨g2, m2, h2⟩ := ih h1
    exact ⟨g2, m1.trans m2, h2⟩

theorem preW (x : V) {g : G} {bx : Bx} (hm : RelM w0 S0 O g bx w) : ∃ g', More g g' ∧ RelM w0 S0 O g' (preV x bx) w := by
  unfold preV
  cases hp : passV false x bx with
  | none => exact ⟨g, .refl g, hm⟩
  | some q => obtain ⟨y, bx'⟩ := q; obtain ⟨g', h1, h2, _⟩ := passV_rel hp hm; exact ⟨g', h1, h2⟩

theorem pre_rel (ops : List Oper) (h : Rel w0 S0 O g0 g st a w) : ∃ g', Rel w0 S0 O g0 g' (pre cf ops st) a w := by
  obtain ⟨g', hm, hR⟩ := foldPre (f := fun bx o => preOp cf st o bx) (fun o {g bx} hb => by
    unfold preOp
    split
    · exact foldPre (fun x {g bx} hb => preW _ hb) _ hb
    · exact preW _ hb
    · exact preW _ hb
    · exact foldPre (fun x {g bx} hb => preW _ hb) _ hb
    · exact ⟨g, .refl g, hb⟩) ops h.m
  exact ⟨g', h.more hm hR⟩
end
end Vm
