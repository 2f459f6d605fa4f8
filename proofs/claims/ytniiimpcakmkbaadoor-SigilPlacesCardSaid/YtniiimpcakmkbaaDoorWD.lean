/- Vm, part D: names: a state under other names, what a call is handed, what comes back. -/
import Derived.Test.YtniiimpcakmkbaaDoorWC
namespace Vm
open Go

theorem memN_iff {b : Nat} : ∀ {l : List Nat}, memN b l = true ↔ b ∈ l := by
  intro l
  induction l with
  | nil => simp [memN]
  | cons c r ih =>
    simp only [memN, Bool.or_eq_true, beq_iff_eq, ih, List.mem_cons]
    constructor
    · rintro (h | h)
      · exact .inl h.symm
      · exact .inr h
    · rintro (h | h)
      · exact .inl h.symm
      · exact .inr h

/-- names, each once, behind some that were -/
structure Grow (bx : Bx) (acc l : List Nat) : Prop where
  nodup : acc.Nodup → l.Nodup
  pre : ∃ m, l = acc ++ m
  live : ∀ b ∈ l, b ∈ acc ∨ ∃ x, bx[b]? = some (some x)

theorem Grow.refl (bx : Bx) (acc : List Nat) : Grow bx acc acc := ⟨id, ⟨[], by simp⟩, fun b hb => .inl hb⟩
theorem Grow.trans {bx : Bx} {a b c : List Nat} (h : Grow bx a b) (h' : Grow bx b c) : Grow bx a c := by
  refine ⟨fun h0 => h'.nodup (h.nodup h0), ?_, fun x hx => ?_⟩
  · obtain ⟨m, rfl⟩ := h.pre; obtain ⟨m', rfl⟩ := h'.pre; exact ⟨m ++ m', by simp⟩
  · rcases h'.live x hx with h1 | h1
    · exact h.live x h1
    · exact .inr h1

theorem getD_some {α : Type} {l : List (Option α)} {b : Nat} {x : α} (h : l.getD b none = some x) : l[b]? = some (some x) := by
  rw [List.getD_eq_getElem?_getD] at h
  cases hq : l[b]? with
  | none => rw [hq] at h; simp at h
  | some y => rw [hq] at h; simp at h; rw [h]

theorem addNames_grow (bx : Bx) : ∀ (l acc : List Nat), Grow bx acc (addNames bx acc l) := by
  intro l
  induction l with
  | nil => intro acc; exact .refl bx acc
  | cons b r ih =>
    intro acc
    simp only [addNames]
    cases hm : memN b acc with
    | true => exact ih acc
    | false =>
      rw [cond_false]
      cases hb : bx.getD b none with
      | none => exact ih acc
      | some x =>
        refine Grow.trans ?_ (ih (acc ++ [b]))
        have hnb : b ∉ acc := fun h => by rw [memN_iff.2 h] at hm; cases hm
        refine ⟨fun h => ?_, ⟨[b], rfl⟩, fun c hc => ?_⟩
        · rw [List.nodup_append]
          refine ⟨h, by simp, fun a ha c hc => ?_⟩
          simp at hc; subst hc; exact fun e => hnb (e ▸ ha)
        · rcases List.mem_append.1 hc with h | h
          · exact .inl h
          · simp at h; subst h; exact .inr ⟨x, getD_some hb⟩

theorem reach_grow (bx : Bx) : ∀ (n i : Nat) (acc : List Nat), Grow bx acc (reach bx n i acc) := by
  intro n
  induction n with
  | zero => intro i acc; exact .refl bx acc
  | succ n ih =>
    intro i acc
    simp only [reach]
    cases acc[i]? with
    | none => exact .refl bx acc
    | some b =>
      simp only
      cases bx.getD b none with
      | none => exact ih _ _
      | some x => exact (addNames_grow bx _ acc).trans (ih _ _)

theorem reachAll_grow (bx : Bx) (acc roots : List Nat) : Grow bx acc (reachAll bx acc roots) := (addNames_grow bx roots acc).trans (reach_grow bx _ _ _)

theorem idx_some {b k : Nat} : ∀ {l : List Nat}, idx b l = some k → l[k]? = some b := by
  intro l
  induction l generalizing k with
  | nil => intro h; cases h
  | cons c r ih =>
    intro h
    simp only [idx] at h
    cases hc : c == b with
    | true => rw [hc] at h; simp at h hc; subst h hc; rfl
    | false =>
      rw [hc] at h; simp only [cond_false] at h
      cases hi : idx b r with
      | none => rw [hi] at h; cases h
      | some j => rw [hi] at h; simp at h; subst h; simpa using ih hi

def G.ren (g : G) (order : List Nat) : G := { S := g.S, bx := fun k => g.bx (order.getD k 0), sl := fun k => g.sl (order.getD k 0), c := fun k => k < order.length }

theorem getD_of {l : List Nat} {k b : Nat} (h : l[k]? = some b) : l.getD k 0 = b := by rw [List.getD_eq_getElem?_getD, h]; rfl
theorem lt_of {α : Type} {l : List α} {k : Nat} {b : α} (h : l[k]? = some b) : k < l.length := (List.getElem?_eq_some_iff.1 h).1

theorem ren_idD (f : Nat → Option Nat) : IdD (W.ren f) := fun _ => rfl

/-- names turn by a map -/
theorem weak_ren {g g' : G} {f : Nat → Option Nat} (hS : ∀ a v, g.S a = some v → g'.S a = some v) (hf : ∀ b k, g.c b → f b = some k → g'.c k ∧ g'.bx k = g.bx b ∧ g'.sl k = g.sl b) : Weak g g' (W.ren f) := by
  intro x u hx
  cases x with
  | u => exact hx
  | d c => exact RelC.mono hS hx
  | ptr b off =>
    simp only [W.ren]
    cases hi : f b with
    | none => exact RelW.one hx
    | some k => obtain ⟨h1, h2, _⟩ := hf b k hx.1 hi; exact ⟨h1, by rw [h2]; exact hx.2⟩
  | arr b =>
    simp only [W.ren]
    cases hi : f b with
    | none => exact RelW.one hx
    | some k => obtain ⟨h1, _, h2⟩ := hf b k hx.1 hi; exact ⟨h1, by rw [h2]; exact hx.2.1, hx.2.2⟩
  | ea b i sz off =>
    simp only [W.ren]
    cases hi : f b with
    | none => exact RelW.one hx
    | some k => obtain ⟨h1, _, h2⟩ := hf b k hx.1 hi; exact ⟨h1, by rw [h2]; exact hx.2⟩
  | pv b off n =>
    simp only [W.ren]
    cases hi : f b with
    | none => exact RelW.one hx
    | some k => obtain ⟨h1, h2, _⟩ := hf b k hx.1 hi; exact ⟨h1, by rw [h2]; exact hx.2⟩
  | es sz => exact hx

theorem weak_idx (g : G) (order : List Nat) : Weak g (g.ren order) (W.ren fun b => idx b order) :=
  weak_ren (fun _ _ h => h) (fun b k _ h => ⟨lt_of (idx_some h), by simp only [G.ren]; rw [getD_of (idx_some h)], by simp only [G.ren]; rw [getD_of (idx_some h)]⟩)

theorem BoxRel.map {g g' : G} {w : World} {n n' : Nat} {x : Box} {f : W → W} (hf : Weak g g' f) (hd : IdD f) (hS : ∀ a v, g.S a = some v → g'.S a = some v) (hb : g'.bx n' = g.bx n) (hs : g'.sl n' = g.sl n)
    (h : BoxRel g w n x) : BoxRel g' w n' (x.mapW f) := by
  cases x with
  | cells m => obtain ⟨cs, e, hh, ha⟩ := h; exact ⟨cs, e, by rw [hb]; exact hh, ha.map hf hd⟩
  | iter s p => simp only [BoxRel, Box.mapW] at h ⊢; rw [hb]; exact h
  | arr mt e sz els => obtain ⟨xs, e', he', hr, hfl, hp, hm⟩ := h; exact ⟨xs, e', he', by rw [hs]; exact hr, hfl.mono hS, hp, fun h => by rw [hs]; exact (hm h).mono hS⟩

theorem blk_map {g g' : G} {n n' : Nat} {x : Box} {f : W → W} (hb : g'.bx n' = g.bx n) (hs : g'.sl n' = g.sl n) : blk g' n' (x.mapW f) = blk g n x := by
  cases x <;> simp only [blk, Box.mapW, hb, hs]

theorem map_arr {x : Box} {f : W → W} {e : Option TypeId} {sz : Nat} {els : List (List C)} (h : x = .arr false e sz els) : x.mapW f = .arr false e sz els := by subst h; rfl
theorem arr_map {x : Box} {f : W → W} {e : Option TypeId} {sz : Nat} {els : List (List C)} (h : x.mapW f = .arr false e sz els) : x = .arr false e sz els := by
  cases x <;> simp [Box.mapW] at h ⊢ <;> exact h

theorem renBx_get {order : List Nat} {bx : Bx} {k : Nat} {y : Box} (h : (renBx order bx)[k]? = some (some y)) : ∃ b x, order[k]? = some b ∧ bx[b]? = some (some x) ∧ y = x.mapW (.ren fun b => idx b order) := by
  simp only [renBx, List.getElem?_map, Option.map_eq_some_iff] at h
  obtain ⟨b, hb, hx⟩ := h
  cases hq : bx.getD b none with
  | none => rw [hq] at hx; cases hx
  | some x => rw [hq] at hx; cases hx; exact ⟨b, x, hb, getD_some hq, rfl⟩

theorem ren_at {g : G} {order : List Nat} {k b : Nat} (h : order[k]? = some b) : (g.ren order).bx k = g.bx b ∧ (g.ren order).sl k = g.sl b := by
  simp only [G.ren]; rw [getD_of h]; exact ⟨rfl, rfl⟩

theorem nodup_inj {l : List Nat} (h : l.Nodup) {i j b : Nat} (hi : l[i]? = some b) (hj : l[j]? = some b) : i = j := by
  obtain ⟨h1, h2⟩ := List.getElem?_eq_some_iff.1 hi
  obtain ⟨h3, h4⟩ := List.getElem?_eq_some_iff.1 hj
  have hp := List.pairwise_iff_getElem.1 h
  rcases Nat.lt_trichotomy i j with h5 | h5 | h5
  · exact absurd (h2.trans h4.symm) (hp i j h1 h3 h5)
  · exact h5
  · exact absurd (h4.trans h2.symm) (hp j i h3 h1 h5)

section
variable {w0 : World} {S0 : Addr → Option Value} {O : Nat → Prop} {g0 g : G} {bx : Bx} {st : St} {a : Act} {w : World}

theorem RelM.ren (h : RelM w0 S0 O g bx w) {order : List Nat} (hn : order.Nodup) : RelM w0 S0 O (g.ren order) (renBx order bx) w := by
  refine ⟨h.os, h.tape, h.output, h.size, h.old, h.sub, h.new, h.mem, by simp [G.ren, renBx], fun n y hy => ?_, fun n m x y k hx hy kx ky => ?_, fun n x k hx hk => ?_, fun n x k hx hk off sp v hv => ?_⟩
  · obtain ⟨b, x, hb, hx, rfl⟩ := renBx_get hy
    exact ⟨lt_of hb, BoxRel.map (weak_idx g order) (ren_idD _) (fun _ _ h => h) (ren_at hb).1 (ren_at hb).2 (h.box b x hx).2⟩
  · obtain ⟨b, x', hb, hx', rfl⟩ := renBx_get hx
    obtain ⟨c, y', hc, hy', rfl⟩ := renBx_get hy
    rw [blk_map (ren_at hb).1 (ren_at hb).2] at kx
    rw [blk_map (ren_at hc).1 (ren_at hc).2] at ky
    have := h.disj b c x' y' k hx' hy' kx ky
    subst this
    exact nodup_inj hn hb hc
  · obtain ⟨b, x', hb, hx', rfl⟩ := renBx_get hx
    rw [blk_map (ren_at hb).1 (ren_at hb).2] at hk
    exact h.low b x' k hx' hk
  · obtain ⟨b, x', hb, hx', rfl⟩ := renBx_get hx
    rw [blk_map (ren_at hb).1 (ren_at hb).2] at hk
    obtain ⟨e, sz, els, h1, h2⟩ := h.sep b x' k hx' hk off sp v hv
    exact ⟨e, sz, els, map_arr h1, h2⟩

theorem vs_ren (h : ∀ (i : Nat) v, st.env[i]? = some v → RelV g v (a.tmps.getD i undef)) (order : List Nat) (i : Nat) (v : V) (hv : (renVs order st.env)[i]? = some v) : RelV (g.ren order) v (a.tmps.getD i undef) := by
  simp only [renVs, List.getElem?_map, Option.map_eq_some_iff] at hv
  obtain ⟨y, hy, rfl⟩ := hv
  exact (h i y hy).map (weak_idx g order) (ren_idD _)

theorem canon_rel (h : Rel w0 S0 O g0 g st a w) : ∃ g', Rel w0 S0 O g0 g' (canonSt st) a w := by
  rw [canonSt_eq]
  have hgr := reachAll_grow st.bx (List.range st.np) (vsNames st.env)
  generalize reachAll st.bx (List.range st.np) (vsNames st.env) = order at hgr
  obtain ⟨m, hm⟩ := hgr.pre
  have hn := hgr.nodup List.nodup_range
  have hk : ∀ k, k < st.np → order[k]? = some k := fun k hk => by
    rw [hm, List.getElem?_append_left (by simpa using hk)]; simp [hk]
  refine ⟨g.ren order, h.df, by simp [renVs, h.len], fun k hlt => lt_of (hk k hlt), h.np0, fun k hlt => ?_, vs_ren h.env order, h.m.ren hn⟩
  obtain ⟨h1, h2⟩ := ren_at (g := g) (hk k hlt)
  obtain ⟨h3, h4⟩ := h.pin k hlt
  exact ⟨h1.trans h3, h2.trans h4⟩

/-- what a call is handed -/
def Passed (g : G) (order : List Nat) (bx : Bx) (k : Nat) : Prop := ∃ b x, b ∈ order ∧ bx[b]? = some (some x) ∧ blk g b x = some k

theorem RelM.enter (h : RelM w0 S0 O g bx w) {order : List Nat} (hn : order.Nodup) : RelM w g.S (Passed g order bx) (g.ren order) (renBx order bx) w := by
  have h' := h.ren hn
  refine ⟨rfl, rfl, rfl, Nat.le_refl _, fun _ _ _ => rfl, fun _ _ h => h, fun _ _ h => .inl h, h.mem, h'.c, h'.box, h'.disj, fun n y k hy hk => ?_, h'.sep⟩
  obtain ⟨b, x, hb, hx, rfl⟩ := renBx_get hy
  rw [blk_map (ren_at hb).1 (ren_at hb).2] at hk
  exact .inr ⟨b, x, List.mem_of_getElem? hb, hx, hk⟩

theorem setAll_len : ∀ (order : List Nat) (xs bx : Bx), (setAll order xs bx).length = bx.length := by
  intro order
  induction order with
  | nil => intro xs bx; simp [setAll]
  | cons b r ih =>
    intro xs bx
    cases xs with
    | nil => simp [setAll]
    | cons x q => simp [setAll, ih]

theorem setAll_get : ∀ (order : List Nat) (xs bx : Bx), order.Nodup → ∀ (n : Nat) y, (setAll order xs bx)[n]? = some (some y) →
    (∃ j : Nat, order[j]? = some n ∧ xs[j]? = some (some y)) ∨ ((∀ j : Nat, order[j]? = some n → xs.length ≤ j) ∧ bx[n]? = some (some y)) := by
  intro order
  induction order with
  | nil => intro xs bx _ n y h; exact .inr ⟨fun j hj => by simp at hj, by simpa [setAll] using h⟩
  | cons b r ih =>
    intro xs bx hn n y h
    have hnr := (List.nodup_cons.1 hn)
    cases xs with
    | nil => exact .inr ⟨fun j _ => by simp, by simpa [setAll] using h⟩
    | cons x q =>
      simp only [setAll] at h
      rcases ih q (bx.set b x) hnr.2 n y h with ⟨j, h1, h2⟩ | ⟨h1, h2⟩
      · exact .inl ⟨j + 1, by simpa using h1, by simpa using h2⟩
      · rcases set_get h2 with ⟨rfl, e, _⟩ | ⟨hne, h2⟩
        · exact .inl ⟨0, rfl, by simp [e]⟩
        · refine .inr ⟨fun j hj => ?_, h2⟩
          cases j with
          | zero => simp at hj; exact absurd hj.symm hne
          | succ j => have := h1 j (by simpa using hj); simp; omega

/-- what stands behind names once a call is back -/
def G.back (g g' : G) (N K L : Nat) : G :=
  { S := g'.S, bx := fun n => if n < N then g.bx n else g'.bx (K + (n - N)), sl := fun n => if n < N then g.sl n else g'.sl (K + (n - N)), c := fun k => (k < N ∧ g.c k) ∨ (N ≤ k ∧ k < N + (L - K)) }

theorem weak_back {g' : G} {order : List Nat} {N L : Nat} (hpin : ∀ k, k < order.length → g'.bx k = (g.ren order).bx k ∧ g'.sl k = (g.ren order).sl k) (hlt : ∀ b ∈ order, b < N) (hlv : ∀ b ∈ order, g.c b) (hc : ∀ n, g'.c n → n < L) :
    Weak g' (g.back g' N order.length L) (W.ren (Vm.back order N)) := by
  refine weak_ren (fun _ _ h => h) (fun k n hk hb => ?_)
  unfold Vm.back at hb
  cases ho : order[k]? with
  | some b =>
    rw [ho] at hb; cases hb
    have h1 := hlt n (List.mem_of_getElem? ho)
    obtain ⟨h2, h3⟩ := hpin k (lt_of ho)
    obtain ⟨h4, h5⟩ := ren_at (g := g) ho
    simp only [G.back]
    exact ⟨.inl ⟨h1, hlv n (List.mem_of_getElem? ho)⟩, by rw [if_pos h1, h2, h4], by rw [if_pos h1, h3, h5]⟩
  | none =>
    rw [ho] at hb; cases hb
    have h1 : order.length ≤ k := List.getElem?_eq_none_iff.1 ho
    simp only [G.back]
    have hkL := hc k hk
    refine ⟨.inr ⟨by omega, by omega⟩, ?_, ?_⟩ <;> (rw [if_neg (by omega)]; congr 1; omega)

theorem RelM.back (h : RelM w0 S0 O g bx w) {order : List Nat} (hn : order.Nodup) (hlive : ∀ b ∈ order, ∃ x, bx[b]? = some (some x)) {g' : G} {bxs : Bx} {w' : World}
    (h' : RelM w g.S (Passed g order bx) g' bxs w') (hpin : ∀ k, k < order.length → g'.bx k = (g.ren order).bx k ∧ g'.sl k = (g.ren order).sl k) (hK : order.length ≤ bxs.length) :
    let g2 := g.back g' bx.length order.length bxs.length
    Ext g g2 ∧ RelM w0 S0 O g2 (({ env := [], bx := bx, np := 0 } : St).return order bxs).bx w' := by
  have hlt : ∀ b ∈ order, b < bx.length := fun b hb => by obtain ⟨x, hx⟩ := hlive b hb; exact lt_of hx
  have hlv : ∀ b ∈ order, g.c b := fun b hb => by obtain ⟨x, hx⟩ := hlive b hb; exact (h.box b x hx).1
  have hwk := weak_back (g := g) hpin hlt hlv h'.c
  have hext : Ext g (g.back g' bx.length order.length bxs.length) :=
    ⟨fun a v hv => h'.sub a v hv, fun n hn => by simp only [G.back]; rw [if_pos (h.c n hn)], fun n hn => by simp only [G.back]; rw [if_pos (h.c n hn)], fun n hn => .inl ⟨h.c n hn, hn⟩⟩
  refine ⟨hext, ?_⟩
  -- whose a box is
  have hcase : ∀ (n : Nat) y, (({ env := [], bx := bx, np := 0 } : St).return order bxs).bx[n]? = some (some y) →
      (n < bx.length ∧ n ∉ order ∧ bx[n]? = some (some y)) ∨
      (∃ k x, bxs[k]? = some (some x) ∧ y = x.mapW (.ren (Vm.back order bx.length)) ∧ Vm.back order bx.length k = some n ∧ (g.back g' bx.length order.length bxs.length).c n ∧
        (g.back g' bx.length order.length bxs.length).bx n = g'.bx k ∧ (g.back g' bx.length order.length bxs.length).sl n = g'.sl k) := by
    intro n y hy
    simp only [St.return] at hy
    have hmap : ∀ (l : Bx) (j : Nat), (l.map (Option.map (Box.mapW (.ren (Vm.back order bx.length)))))[j]? = some (some y) → ∃ x, l[j]? = some (some x) ∧ y = x.mapW (.ren (Vm.back order bx.length)) := by
      intro l j hj
      simp only [List.getElem?_map, Option.map_eq_some_iff] at hj
      obtain ⟨o, ho, hx⟩ := hj
      cases o with
      | none => simp at hx
      | some x => simp at hx; obtain rfl := hx; exact ⟨x, ho, rfl⟩
    rw [List.getElem?_append, setAll_len] at hy
    split at hy
    · rename_i hnl
      rcases setAll_get order _ bx hn n y hy with ⟨j, h1, h2⟩ | ⟨h1, h2⟩
      · obtain ⟨x, hx, e⟩ := hmap _ _ h2
        refine .inr ⟨j, x, hx, e, by simp [Vm.back, h1], .inl ⟨hnl, hlv n (List.mem_of_getElem? h1)⟩, ?_, ?_⟩
        · simp only [G.back]; rw [if_pos hnl, (hpin j (lt_of h1)).1, (ren_at h1).1]
        · simp only [G.back]; rw [if_pos hnl, (hpin j (lt_of h1)).2, (ren_at h1).2]
      · refine .inl ⟨hnl, fun hm => ?_, h2⟩
        obtain ⟨j, hj, hjb⟩ := List.getElem_of_mem hm
        have := h1 j (by rw [List.getElem?_eq_getElem hj, hjb])
        simp at this; omega
    · rename_i hnl
      obtain ⟨x, hx, e⟩ := hmap _ _ hy
      rw [List.getElem?_drop] at hx
      refine .inr ⟨order.length + (n - bx.length), x, hx, e, ?_, ?_, ?_, ?_⟩
      · have : order[order.length + (n - bx.length)]? = none := List.getElem?_eq_none_iff.2 (by omega)
        simp only [Vm.back, this]
        congr 1; omega
      · have := lt_of hx; exact .inr ⟨by omega, by omega⟩
      · simp only [G.back]; rw [if_neg hnl]
      · simp only [G.back]; rw [if_neg hnl]
  have hnotO : ∀ (n : Nat) y k, n ∉ order → bx[n]? = some (some y) → blk g n y = some k → ¬ Passed g order bx k := by
    rintro n y k hno hy hk ⟨b, x, hb, hx, hbk⟩
    exact hno (h.disj n b y x k hy hx hk hbk ▸ hb)
  have hOlow : ∀ k, Passed g order bx k → k < w.heap.size ∧ (w0.heap.size ≤ k ∨ O k) := by
    rintro k ⟨b, x, _, hx, hk⟩
    exact ⟨h.blk_lt hx hk, h.low b x k hx hk⟩
  have hlowN : ∀ k, (w.heap.size ≤ k ∨ Passed g order bx k) → w0.heap.size ≤ k ∨ O k := by
    rintro k (h1 | h1)
    · exact .inl (Nat.le_trans h.size h1)
    · exact (hOlow k h1).2
  have hblkB : ∀ (n : Nat) y, n < bx.length → blk (g.back g' bx.length order.length bxs.length) n y = blk g n y := by
    intro n y hnl
    exact blk_eq (by simp only [G.back]; rw [if_pos hnl]) (by simp only [G.back]; rw [if_pos hnl])
  refine ⟨h'.os.trans h.os, h'.tape.trans h.tape, h'.output.trans h.output, Nat.le_trans h.size h'.size, fun k hk hO => ?_, fun a v hv => h'.sub a v (h.sub a v hv), fun a v hv => ?_, h'.mem, ?_, fun n y hy => ?_,
    fun n m x y k hx hy kx ky => ?_, fun n y k hy hk => ?_, fun n y k hy hk off sp v hv => ?_⟩
  · refine (h'.old k (Nat.lt_of_lt_of_le hk h.size) fun hp => ?_).trans (h.old k hk hO)
    rcases (hOlow k hp).2 with h1 | h1
    · omega
    · exact hO h1
  · rcases h'.new a v hv with h1 | h1
    · exact h.new a v h1
    · exact .inr (hlowN a.block h1)
  · intro n hn
    simp only [St.return, List.length_append, setAll_len, List.length_map, List.length_drop]
    rcases hn with ⟨h1, _⟩ | ⟨h1, h2⟩ <;> omega
  · rcases hcase n y hy with ⟨hnl, hno, hy0⟩ | ⟨k, x, hx, rfl, _, hlt2, hb, hs⟩
    · have hb := h.box n y hy0
      refine ⟨hext.c _ hb.1, ?_⟩
      refine BoxRel.later hext.weak hext.S (hext.bx n hb.1) (hext.sl n hb.1) (BoxRel.world (fun k hk => ?_) hb.2)
      exact h'.old k (h.blk_lt hy0 hk) (hnotO n y k hno hy0 hk)
    · exact ⟨hlt2, BoxRel.map hwk (ren_idD _) (fun _ _ h => h) hb hs (h'.box k x hx).2⟩
  · rcases hcase n x hx with ⟨hnl, hno, hx0⟩ | ⟨i, x', hx', rfl, hbi, _, hb, hs⟩ <;> rcases hcase m y hy with ⟨hml, hmo, hy0⟩ | ⟨j, y', hy', rfl, hbj, _, hb2, hs2⟩
    · rw [hblkB n x hnl] at kx; rw [hblkB m y hml] at ky
      exact h.disj n m x y k hx0 hy0 kx ky
    · exfalso
      rw [hblkB n x hnl] at kx; rw [blk_map hb2 hs2] at ky
      rcases h'.low j y' k hy' ky with h1 | h1
      · have := h.blk_lt hx0 kx; omega
      · exact hnotO n x k hno hx0 kx h1
    · exfalso
      rw [hblkB m y hml] at ky; rw [blk_map hb hs] at kx
      rcases h'.low i x' k hx' kx with h1 | h1
      · have := h.blk_lt hy0 ky; omega
      · exact hnotO m y k hmo hy0 ky h1
    · rw [blk_map hb hs] at kx; rw [blk_map hb2 hs2] at ky
      have := h'.disj i j x' y' k hx' hy' kx ky
      subst this
      rw [hbi] at hbj; cases hbj; rfl
  · rcases hcase n y hy with ⟨hnl, hno, hy0⟩ | ⟨i, x', hx', rfl, _, _, hb, hs⟩
    · rw [hblkB n y hnl] at hk; exact h.low n y k hy0 hk
    · rw [blk_map hb hs] at hk; exact hlowN k (h'.low i x' k hx' hk)
  · rcases hcase n y hy with ⟨hnl, hno, hy0⟩ | ⟨i, x', hx', rfl, _, _, hb, hs⟩
    · rw [hblkB n y hnl] at hk
      rcases h'.new _ v hv with h1 | h1 | h1
      · exact h.sep n y k hy0 hk off sp v h1
      · have := h.blk_lt hy0 hk; simp at h1; omega
      · exact absurd h1 (hnotO n y k hno hy0 hk)
    · rw [blk_map hb hs] at hk
      obtain ⟨e, sz, els, h1, h2⟩ := h'.sep i x' k hx' hk off sp v hv
      exact ⟨e, sz, els, map_arr h1, h2⟩
end
end Vm
