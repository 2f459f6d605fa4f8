/- Vm, part T: from what arguments read as to values of the interpreter; from a function's answer to a call's. -/
import Derived.Test.YtniiimpcakmkbaaDoorWS
import Derived.WalkKit
import Derived.ProofKit
import Derived.OpenShut
import Derived.Below
import Derived.Carry
namespace Vm
open Go Go.RowKit

/-- cells of a type of plain data -/
def hasT (P : Program) : Nat → TypeId → List C → Prop
  | 0, _, _ => False
  | f + 1, t, l =>
    match P.underlying t with
    | some .bool => ∃ b, l = [.bool b]
    | some (.int k) => ∃ n, l = [.int k n] ∧ (Lit.int k n).wf = true
    | some .string => ∃ s, l = [.str s] ∧ s.size ≤ maxLen
    | some (.slice e) => ∃ els : List (List C), l = [.sl (P.cellsOf e) els] ∧ els.length ≤ maxLen ∧ ∀ x ∈ els, hasT P f e x
    | some (.struct fs) => l.length = P.cellsOf t ∧ ∀ fd ∈ fs.toList, hasT P f fd.type ((l.drop fd.offset).take (P.cellsOf fd.type))
    | some (.array n e) => l.length = P.cellsOf t ∧ ∀ i, i < n → hasT P f e ((l.drop (i * P.cellsOf e)).take (P.cellsOf e))
    | _ => False

/-- fields, one behind the other -/
def tiles (P : Program) : Nat → List Field → Nat → Bool
  | o, [], n => o == n
  | o, f :: r, n => f.offset == o && tiles P (o + P.cellsOf f.type) r n
def plainT (P : Program) (ts : List TypeId) (t : TypeId) : Bool :=
  match P.underlying t with
  | some .bool | some (.int _) | some .string => P.cellsOf t == 1
  | some (.slice e) => P.cellsOf t == 1 && ts.contains e && Nat.blt 0 (P.cellsOf e)
  | some (.struct fs) => fs.toList.all (fun f => ts.contains f.type) && tiles P 0 fs.toList (P.cellsOf t)
  | some (.array n e) => ts.contains e && P.cellsOf t == n * P.cellsOf e
  | _ => false
def plainTs (P : Program) (ts : List TypeId) : Bool := ts.all (plainT P ts)

/-- a list out of what there is for each number -/
theorem list_of {α : Type} {Q : Nat → α → Prop} : ∀ n, (∀ i, i < n → ∃ x, Q i x) → ∃ l : List α, l.length = n ∧ ∀ (i : Nat) x, l[i]? = some x → Q i x := by
  intro n
  induction n with
  | zero => intro _; exact ⟨[], rfl, fun i x h => by simp at h⟩
  | succ n ih =>
    intro h
    obtain ⟨l, hl, hq⟩ := ih (fun i hi => h i (by omega))
    obtain ⟨x, hx⟩ := h n (by omega)
    refine ⟨l ++ [x], by simp [hl], fun i y hy => ?_⟩
    by_cases hi : i < l.length
    · rw [List.getElem?_append_left hi] at hy; exact hq i y hy
    · rw [List.getElem?_append_right (by omega)] at hy
      have : i - l.length = 0 := by
        have := (List.getElem?_eq_some_iff.1 hy).1; simp at this; omega
      rw [this] at hy; simp at hy; subst hy
      have : i = n := by omega
      subst this; exact hx

theorem mapM_in {α β : Type} {f : α → Option β} {l : List α} {r : List β} (h : l.mapM f = some r) : ∀ x ∈ l, ∃ y, f x = some y := by
  intro x hx
  obtain ⟨j, hj⟩ := List.getElem?_of_mem hx
  have hlt := (List.getElem?_eq_some_iff.1 hj).1
  have hl := mapM_some_length h
  exact ⟨r[j]'(by omega), by rw [mapM_some_get h j x hj]; exact List.getElem?_eq_getElem _⟩

theorem cells_get {w : World} {base : Nat} {a : Addr} {n : Nat} {cs : List Value} (h : w.cells? base a n = some cs) : cs.length = n ∧ ∀ (j : Nat) u, cs[j]? = some u → w.cell? (a.add j) = some u := by
  unfold World.cells? at h
  split at h
  · refine ⟨by rw [mapM_some_length h]; simp, fun j u hj => ?_⟩
    have hlt : j < n := by
      have := (List.getElem?_eq_some_iff.1 hj).1
      rw [mapM_some_length h] at this; simpa using this
    have := mapM_some_get h j j (by simp [hlt])
    rw [this]; exact hj
  · cases h

section
variable {H : Type} {enc : TypeId × Value → H} {P : Program} {w : World} {base : Nat} {spare : Nat → Bool} {held : Bool}

/-- fields, one behind the other, each read -/
theorem fields_rel {ts : List TypeId} {f : Nat} (ih : ∀ t, t ∈ ts → ∀ cs x, DataW.trod enc P w base spare held f t cs = some x → ∃ l, All2 (RelC w.cell?) l cs ∧ hasT P f t l) {cs : List Value} :
    ∀ (fs : List Field) (o n : Nat), tiles P o fs n = true → cs.length = n → (∀ fd ∈ fs, fd.type ∈ ts) →
      (∀ fd ∈ fs, ∃ x, DataW.trod enc P w base spare held f fd.type ((cs.drop fd.offset).take (P.cellsOf fd.type)) = some x) → o ≤ n →
      ∃ l, All2 (RelC w.cell?) l (cs.drop o) ∧ ∀ fd ∈ fs, o ≤ fd.offset ∧ hasT P f fd.type ((l.drop (fd.offset - o)).take (P.cellsOf fd.type)) := by
  intro fs
  induction fs with
  | nil =>
    intro o n ht hl _ _ _
    simp only [tiles, beq_iff_eq] at ht
    refine ⟨[], ?_, by simp⟩
    rw [List.drop_eq_nil_of_le (by omega)]; exact .nil
  | cons fd r ihr =>
    intro o n ht hl hts hx hon
    simp only [tiles, Bool.and_eq_true, beq_iff_eq] at ht
    obtain ⟨ho, ht⟩ := ht
    obtain ⟨x, hx0⟩ := hx fd (by simp)
    obtain ⟨l0, hr0, hh0⟩ := ih fd.type (hts fd (by simp)) _ _ hx0
    have hle : o + P.cellsOf fd.type ≤ n := by
      have : ∀ (fs : List Field) (o : Nat), tiles P o fs n = true → o ≤ n := by
        intro fs
        induction fs with
        | nil => intro o h; simp [tiles] at h; omega
        | cons f r ih => intro o h; simp only [tiles, Bool.and_eq_true] at h; have := ih _ h.2; omega
      exact this r _ ht
    obtain ⟨l1, hr1, hh1⟩ := ihr _ n ht hl (fun g hg => hts g (by simp [hg])) (fun g hg => hx g (by simp [hg])) hle
    have hsplit : cs.drop o = (cs.drop fd.offset).take (P.cellsOf fd.type) ++ cs.drop (o + P.cellsOf fd.type) := by
      have := List.take_append_drop (P.cellsOf fd.type) (cs.drop o)
      rw [List.drop_drop] at this
      rw [ho]; exact this.symm
    have hl0 : l0.length = P.cellsOf fd.type := by
      have := hr0.1; simp at this; omega
    refine ⟨l0 ++ l1, by rw [hsplit]; exact hr0.append hr1, fun g hg => ?_⟩
    rcases List.mem_cons.1 hg with rfl | hg
    · refine ⟨by omega, ?_⟩
      rw [ho, Nat.sub_self, List.drop_zero, List.take_append_of_le_length (by omega), List.take_of_length_le (by omega)]
      exact hh0
    · obtain ⟨h1, h2⟩ := hh1 g hg
      refine ⟨by omega, ?_⟩
      have : g.offset - o = l0.length + (g.offset - (o + P.cellsOf fd.type)) := by omega
      rw [this, List.drop_append, List.drop_eq_nil_of_le (by omega), List.nil_append, Nat.add_sub_cancel_left]
      exact h2

/-- elements of an array -/
theorem elems_rel {f : Nat} {e : TypeId} (ih : ∀ cs x, DataW.trod enc P w base spare held f e cs = some x → ∃ l, All2 (RelC w.cell?) l cs ∧ hasT P f e l) {cs : List Value} {n : Nat} (hl : cs.length = n * P.cellsOf e)
    (hx : ∀ i, i < n → ∃ x, DataW.trod enc P w base spare held f e ((cs.drop (i * P.cellsOf e)).take (P.cellsOf e)) = some x) :
    ∀ k, k ≤ n → ∃ l, All2 (RelC w.cell?) l (cs.take (k * P.cellsOf e)) ∧ ∀ i, i < k → hasT P f e ((l.drop (i * P.cellsOf e)).take (P.cellsOf e)) := by
  intro k
  induction k with
  | zero => intro _; exact ⟨[], by simp; exact .nil, fun i hi => by omega⟩
  | succ k ihk =>
    intro hk
    obtain ⟨l, hr, hh⟩ := ihk (by omega)
    obtain ⟨x, hx0⟩ := hx k (by omega)
    obtain ⟨l0, hr0, hh0⟩ := ih _ _ hx0
    have hmul : (k + 1) * P.cellsOf e ≤ n * P.cellsOf e := Nat.mul_le_mul_right _ hk
    rw [Nat.add_mul, Nat.one_mul] at hmul
    have hll : l.length = k * P.cellsOf e := by have := hr.1; simp at this; omega
    have hl0 : l0.length = P.cellsOf e := by have := hr0.1; simp at this; omega
    refine ⟨l ++ l0, ?_, fun i hi => ?_⟩
    · rw [Nat.add_mul, Nat.one_mul, List.take_add]
      exact hr.append hr0
    · by_cases hik : i < k
      · have hm2 : (i + 1) * P.cellsOf e ≤ k * P.cellsOf e := Nat.mul_le_mul_right _ hik
        rw [Nat.add_mul, Nat.one_mul] at hm2
        rw [List.drop_append_of_le_length (by omega), List.take_append_of_le_length (by simp; omega)]
        exact hh i hik
      · have : i = k := by omega
        subst this
        rw [List.drop_append, List.drop_eq_nil_of_le (by omega), List.nil_append, hll, Nat.sub_self, List.drop_zero, List.take_of_length_le (by omega)]
        exact hh0

/-- what reads as plain data is meant by cells that never change -/
theorem trod_rel {ts : List TypeId} (hts : plainTs P ts = true) : ∀ (f : Nat) (t : TypeId), t ∈ ts → ∀ cs x, DataW.trod enc P w base spare held f t cs = some x → ∃ l, All2 (RelC w.cell?) l cs ∧ hasT P f t l := by
  intro f
  induction f with
  | zero => intro t _ cs x h; simp [DataW.trod] at h
  | succ f ih =>
    intro t ht cs x h
    have hp := List.all_eq_true.1 hts t ht
    unfold plainT at hp
    unfold DataW.trod at h
    unfold hasT
    generalize hu : P.underlying t = u at hp h
    match u, hp with
    | some .bool, hp =>
      match cs, h with
      | [.bool b], h => exact ⟨[.bool b], .cons (.bool b) .nil, b, rfl⟩
    | some (.int k), hp =>
      match cs, h with
      | [.int k' n], h =>
        simp only at h
        split at h
        · rename_i hc; obtain ⟨rfl, hw⟩ := hc
          exact ⟨[.int k' n], .cons (.int k' n) .nil, n, rfl, hw⟩
        · cases h
    | some .string, hp =>
      match cs, h with
      | [.string s], h =>
        simp only at h
        split at h
        · rename_i hc
          exact ⟨[.str s], .cons (.str s) .nil, s, rfl, hc⟩
        · cases h
    | some (.slice e), hp =>
      simp only [Bool.and_eq_true, beq_iff_eq, Nat.blt_eq] at hp
      obtain ⟨⟨_, he⟩, hpos⟩ := hp
      have he : e ∈ ts := by simpa using he
      match cs, h with
      | [.slice none 0 0], h =>
        exact ⟨[.sl (P.cellsOf e) []], .cons (relC_nil _ _) .nil, [], rfl, by simp, by simp⟩
      | [.slice (some a) len cap], h =>
        simp only at h
        split at h
        · rename_i hc
          obtain ⟨hb, hlc, hcm⟩ := hc
          obtain ⟨elems, hel, _⟩ := Option.bind_eq_some_iff.1 h
          have hget : ∀ i, i < len → ∃ l : List C, ∃ csi, w.cells? base (a.add (i * P.cellsOf e)) (P.cellsOf e) = some csi ∧ All2 (RelC w.cell?) l csi ∧ hasT P f e l := by
            intro i hi
            obtain ⟨y, hy⟩ := mapM_in hel i (by simpa using hi)
            obtain ⟨csi, hcsi, hy⟩ := Option.bind_eq_some_iff.1 hy
            obtain ⟨l, h1, h2⟩ := ih e he _ _ hy
            exact ⟨l, csi, hcsi, h1, h2⟩
          obtain ⟨els, hlen, hels⟩ := list_of len hget
          have hcell : ∀ (i : Nat) el, els[i]? = some el → el.length = P.cellsOf e ∧ ∀ (j : Nat) c, el[j]? = some c → ∃ u, w.cell? (a.add (i * P.cellsOf e + j)) = some u ∧ RelC w.cell? c u := by
            intro i el hi
            obtain ⟨csi, h1, h2, h3⟩ := hels i el hi
            obtain ⟨h4, h5⟩ := cells_get h1
            refine ⟨by have := h2.1; omega, fun j c hj => ?_⟩
            obtain ⟨u, hu1, hu2⟩ := h2.get hj
            have := h5 j u hu1
            rw [add_add'] at this
            exact ⟨u, this, hu2⟩
          refine ⟨[.sl (P.cellsOf e) els], .cons ?_ .nil, els, rfl, by omega, fun y hy => ?_⟩
          · subst hlen
            refine RelC.sl _ els (some a) cap (fun i j => (w.cell? (a.add (i * P.cellsOf e + j))).getD undef) (by omega) (fun y hy => ?_) (fun _ => ⟨a, rfl⟩) (fun hne b hb => ?_) (fun b hb i el hi j c hj => ?_) (fun i el hi j c hj => ?_)
            · obtain ⟨i, hi⟩ := List.getElem?_of_mem hy
              exact (hcell i y hi).1
            · cases hb
              obtain ⟨y, hy⟩ := List.exists_mem_of_ne_nil _ hne
              obtain ⟨i, hi⟩ := List.getElem?_of_mem hy
              have h0 : ∃ y0, els[0]? = some y0 := by
                have := (List.getElem?_eq_some_iff.1 hi).1
                exact ⟨_, List.getElem?_eq_getElem (by omega)⟩
              obtain ⟨y0, hy0⟩ := h0
              obtain ⟨h1, h2⟩ := hcell 0 y0 hy0
              obtain ⟨u, hu1, _⟩ := h2 0 _ (List.getElem?_eq_getElem (by omega))
              have e0 : a.add (0 * P.cellsOf e + 0) = a := by simp [Addr.add]
              rw [e0] at hu1
              exact World.cell?_spot hu1
            · cases hb
              obtain ⟨u, hu1, _⟩ := (hcell i el hi).2 j c hj
              rw [hu1]; rfl
            · obtain ⟨u, hu1, hu2⟩ := (hcell i el hi).2 j c hj
              rw [hu1]; exact hu2
          · obtain ⟨i, hi⟩ := List.getElem?_of_mem hy
            obtain ⟨_, _, _, h3⟩ := hels i y hi
            exact h3
        · cases h
    | some (.struct fs), hp =>
      simp only [Bool.and_eq_true] at hp
      obtain ⟨hf, htl⟩ := hp
      simp only at h
      split at h
      · rename_i hl
        obtain ⟨xs, hxs, _⟩ := Option.map_eq_some_iff.1 h
        obtain ⟨l, h1, h2⟩ := fields_rel (ih) (cs := cs) fs.toList 0 (P.cellsOf t) htl hl (fun fd hfd => by simpa using List.all_eq_true.1 hf fd hfd) (fun fd hfd => mapM_in hxs fd hfd) (Nat.zero_le _)
        rw [List.drop_zero] at h1
        refine ⟨l, h1, by have := h1.1; omega, fun fd hfd => ?_⟩
        have := (h2 fd hfd).2
        rwa [Nat.sub_zero] at this
      · cases h
    | some (.array n e), hp =>
      simp only [Bool.and_eq_true, beq_iff_eq] at hp
      obtain ⟨he, hcn⟩ := hp
      have he : e ∈ ts := by simpa using he
      simp only at h
      split at h
      · rename_i hl
        obtain ⟨xs, hxs, _⟩ := Option.map_eq_some_iff.1 h
        obtain ⟨l, h1, h2⟩ := elems_rel (ih e he) (cs := cs) (n := n) (by omega) (fun i hi => mapM_in hxs i (by simpa using hi)) n (Nat.le_refl _)
        rw [List.take_of_length_le (by omega)] at h1
        exact ⟨l, h1, by have := h1.1; omega, h2⟩
      · cases h

/-- a parameter's value -/
def argV (P : Program) (t : TypeId) (v : V) : Prop :=
  ∃ f l, hasT P f t l ∧ v = (match P.underlying t with | some (.struct _) | some (.array _ _) => .t (.agg ⟨l, [], l.length⟩) | _ => vc (l.getD 0 .nf))
def argVs (P : Program) : List TypeId → List V → Prop
  | [], [] => True
  | t :: ts, v :: vs => argV P t v ∧ argVs P ts vs
  | _, _ => False

theorem okWide_cells {r : Reach} {t : TypeId} {v : Value} {ts : List TypeId} (hp : plainT P ts t = true) (h : Value.okWide P w r base t v) :
    (match P.underlying t with | some (.struct _) | some (.array _ _) => ∃ cs, v = .agg cs | _ => v.cells = #[v]) := by
  unfold plainT at hp
  unfold Value.okWide Cell.okWide Cell.ok at h
  generalize P.underlying t = u at hp h
  match u, hp, h with
  | some (.struct _), _, h => obtain ⟨cs, rfl, _⟩ := h; exact ⟨cs, rfl⟩
  | some (.array _ _), _, h => obtain ⟨cs, rfl, _⟩ := h; exact ⟨cs, rfl⟩
  | some .bool, _, h => cases v <;> first | rfl | exact h.elim
  | some (.int k), _, h => cases v <;> first | rfl | exact h.elim
  | some .string, _, h => cases v <;> first | rfl | exact h.elim
  | some (.slice e), _, h => cases v <;> first | rfl | exact h.elim

def stG (w : World) : G := { S := w.cell?, bx := fun _ => 0, sl := fun _ => undef, c := fun _ => False }

theorem arg_rel {ts : List TypeId} (hts : plainTs P ts = true) {t : TypeId} (ht : t ∈ ts) {v : Value} {d : DataW H} {ps : List MemPlace} {r : Reach} {b0 : Nat} (hok : Value.okWide P w r b0 t v) (h : DataW.Trod enc P w base spare held t v d ps) :
    ∃ x, argV P t x ∧ RelV (stG w) x v := by
  obtain ⟨f, hf⟩ := h
  obtain ⟨l, h1, h2⟩ := trod_rel hts f t ht _ _ hf
  have hc := okWide_cells (List.all_eq_true.1 hts t ht) hok
  have hp := List.all_eq_true.1 hts t ht
  unfold plainT at hp
  refine ⟨_, ⟨f, l, h2, rfl⟩, ?_⟩
  have key : v.cells = #[v] → RelV (stG w) (vc (l.getD 0 .nf)) v := by
    intro hv
    rw [hv] at h1
    match l, h1 with
    | [c], h1 => exact h1.head
    | [], h1 => exact absurd h1.1 (by simp)
    | _ :: _ :: _, h1 => exact absurd h1.1 (by simp)
  have key2 : ∀ cs, v = .agg cs → RelV (stG w) (.t (.agg ⟨l, [], l.length⟩)) v := by
    rintro cs rfl
    refine ⟨cs.toList, by simp, ⟨by have := h1.1; simpa [Value.cells] using this, rfl⟩, fun j x u hx hu => ?_⟩
    simp only [M.get, lkGet] at hx
    cases hl : l[j]? with
    | none => rw [hl] at hx; cases hx
    | some c =>
      rw [hl] at hx; cases hx
      exact h1.2 j c u hl (by simpa [Value.cells] using hu)
  generalize P.underlying t = u at hp hc
  match u, hp, hc with
  | some (.struct _), _, hc => obtain ⟨cs, hcs⟩ := hc; exact key2 cs hcs
  | some (.array _ _), _, hc => obtain ⟨cs, hcs⟩ := hc; exact key2 cs hcs
  | some .bool, _, hc => exact key hc
  | some (.int k), _, hc => exact key hc
  | some .string, _, hc => exact key hc
  | some (.slice e), _, hc => exact key hc

theorem args_rel {ts : List TypeId} (hts : plainTs P ts = true) : ∀ {params : List TypeId} {args : List Value} {ds : List (DataW H)} {ps : List MemPlace}, (∀ t ∈ params, t ∈ ts) →
    (∀ (j : Nat) t v, params[j]? = some t → args[j]? = some v → ∃ r b0, Value.okWide P w r b0 t v) → DataW.TrodAll enc P w base spare held params args ds ps →
    ∃ xs, argVs P params xs ∧ All2 (RelV (stG w)) xs args := by
  intro params
  induction params with
  | nil =>
    intro args ds ps _ _ h
    match args, ds, h with
    | [], [], _ => exact ⟨[], trivial, .nil⟩
  | cons t r ih =>
    intro args ds ps hin hok h
    match args, ds, h with
    | v :: vs, d :: ds, h =>
      obtain ⟨p, q, h1, h2, _⟩ := h
      obtain ⟨rr, b0, hv⟩ := hok 0 t v rfl rfl
      obtain ⟨x, hx1, hx2⟩ := arg_rel hts (hin t (by simp)) hv h1
      obtain ⟨xs, hxs1, hxs2⟩ := ih (fun t' ht' => hin t' (by simp [ht'])) (fun j t' v' h3 h4 => hok (j + 1) t' v' (by simpa using h3) (by simpa using h4)) h2
      exact ⟨x :: xs, ⟨hx1, hxs1⟩, .cons hx2 hxs2⟩

theorem trodAll_below {params : List TypeId} (hl : laidOutB P = true) (hr : params.all (fun t => P.readableRec t && decide (t < P.types.size)) = true) {W W' : World} (bel : Below W.heap.size W W') :
    ∀ {args : List Value} {ds : List (DataW H)} {ps : List MemPlace}, DataW.TrodAll enc P W 0 (fun _ => true) true params args ds ps → DataW.TrodAll enc P W' 0 (fun b => decide (b < W.heap.size)) true params args ds ps := by
  induction params with
  | nil => intro args ds ps h; match args, ds, h with | [], [], h => exact h
  | cons t r ih =>
    intro args ds ps h
    match args, ds, h with
    | v :: vs, d :: ds, h =>
      obtain ⟨p, q, h1, h2, h3⟩ := h
      simp only [List.all_cons, Bool.and_eq_true, decide_eq_true_eq] at hr
      have lt : ∀ x ∈ p, x.block < W.heap.size := by obtain ⟨m, hm⟩ := h1; exact DataW.trod_lt m _ _ _ hm
      exact ⟨p, q, Below.trod hl hr.1.1 hr.1.2 h1 bel lt, ih (by simpa using hr.2) h2, h3⟩

/-- what a function answers to values, its call answers to what reads as these -/
theorem law_calls {f : FuncId} {ts params : List TypeId} {args : Array Value} (hts : plainTs P ts = true) (hin : params.all (fun t => ts.contains t) = true)
    (hok : ∀ (j : Nat) t v, params[j]? = some t → args[j]? = some v → ∃ r b0, Value.okWide P w r b0 t v) {ds : List (DataW H)} {ps : List MemPlace} (hA : DataW.TrodAll enc P w base spare held params args.toList ds ps)
    (hbody : ∃ fn c, P.funcs[f]? = some fn ∧ fn.body = some c ∧ (fn.name == "runtime.NumGoroutine") = false)
    (hlaw : ∀ xs, argVs P params xs → ∃ b, FnRes P (fun _ => none) f xs [] (vb true) b) :
    Calls P f args w fun e w' => e = .returned (.bool true) ∧ Below w.heap.size w w' := by
  obtain ⟨xs, h1, h2⟩ := args_rel hts (fun t ht => by simpa using List.all_eq_true.1 hin t ht) (fun j t v hj hv => hok j t v hj (by simpa using hv)) hA
  obtain ⟨b, hb⟩ := hlaw xs h1
  have hM : RelM w (stG w).S (fun _ => False) (stG w) [] w :=
    ⟨rfl, rfl, rfl, Nat.le_refl _, fun _ _ _ => rfl, fun _ _ h => h, fun _ _ h => .inl h, fun _ _ h => h, fun _ h => h.elim, fun n x h => by simp at h, fun n m x y k h => by simp at h, fun n x k h => by simp at h, fun n x k h => by simp at h⟩
  have := hb (stG w) w (fun _ => False) args.toList hM (fun k hk => by simp at hk) (fun g' l h => by cases h) h2
  have hcf : ∀ c w', PcPost (stG w) w (fun _ => False) 0 (vb true) b c w' → c = .bool true ∧ Below w.heap.size w w' := by
    rintro c w' ⟨g', _, _, hv, hm⟩
    exact ⟨relC_bool hv, hm.os, hm.tape, hm.output, hm.size, fun k hk => hm.old k hk (fun h => h)⟩
  rcases this with ⟨_, hc⟩ | ⟨c, w', hc, _⟩
  · have e : args.toList.toArray = args := by simp
    rw [e] at hc
    refine hc.mono fun e w' ⟨c, he, hp⟩ => ?_
    obtain ⟨rfl, hbel⟩ := hcf c w' hp
    exact ⟨he, hbel⟩
  · obtain ⟨fn, cd, hf, hbd, hn⟩ := hbody
    rw [callFunc_enter hf (by rw [hbd]; rfl) hn] at hc
    cases hc
end
end Vm
