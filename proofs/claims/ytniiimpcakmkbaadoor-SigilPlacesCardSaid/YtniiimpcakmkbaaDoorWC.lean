/- Vm, part C: how the relation moves: new boxes, stores, cells that become stable, other names. -/
import Derived.Test.YtniiimpcakmkbaaDoorWB
namespace Vm
open Go

theorem BoxRel.world {g : G} {w w' : World} {n : Nat} {x : Box} (hk : ∀ k, blk g n x = some k → w'.heap[k]? = w.heap[k]?) (h : BoxRel g w n x) : BoxRel g w' n x := by
  cases x with
  | cells m => obtain ⟨cs, e, hh, ha⟩ := h; exact ⟨cs, e, by rw [hk _ rfl]; exact hh, ha⟩
  | iter s p => simp only [BoxRel] at h ⊢; rw [hk _ rfl]; exact h
  | arr mt e sz els =>
    obtain ⟨xs, e', he', hr, hrest⟩ := h
    refine ⟨xs, e', he', ⟨hr.1, hr.2.imp id ?_⟩, hrest⟩
    rintro ⟨gb, cap, cur, hv, hb, hh, r⟩
    exact ⟨gb, cap, cur, hv, hb, by rw [hk gb (by simp only [blk]; rw [hv]; rfl)]; exact hh, r⟩

theorem BoxRel.later {g g' : G} {w : World} {n : Nat} {x : Box} (hf : Weak g g' id) (hS : ∀ a v, g.S a = some v → g'.S a = some v) (hb : g'.bx n = g.bx n) (hs : g'.sl n = g.sl n) (h : BoxRel g w n x) : BoxRel g' w n x := by
  cases x with
  | cells m => obtain ⟨cs, e, hh, ha⟩ := h; exact ⟨cs, e, by rw [hb]; exact hh, ha.weak hf⟩
  | iter s p => simp only [BoxRel] at h ⊢; rw [hb]; exact h
  | arr mt e sz els => obtain ⟨xs, e', he', hr, hfl, hp, hm⟩ := h; exact ⟨xs, e', he', by rw [hs]; exact hr, hfl.mono hS, hp, fun h => by rw [hs]; exact (hm h).mono hS⟩

/-- the same names mean the same -/
structure Ext (g g' : G) : Prop where
  S : ∀ a v, g.S a = some v → g'.S a = some v
  bx : ∀ n, g.c n → g'.bx n = g.bx n
  sl : ∀ n, g.c n → g'.sl n = g.sl n
  c : ∀ n, g.c n → g'.c n

theorem Ext.refl (g : G) : Ext g g := ⟨fun _ _ h => h, fun _ _ => rfl, fun _ _ => rfl, fun _ h => h⟩
theorem Ext.trans {g g' g'' : G} (h : Ext g g') (h' : Ext g' g'') : Ext g g'' :=
  ⟨fun _ _ hv => h'.S _ _ (h.S _ _ hv), fun n hn => (h'.bx n (h.c n hn)).trans (h.bx n hn), fun n hn => (h'.sl n (h.c n hn)).trans (h.sl n hn), fun n hn => h'.c n (h.c n hn)⟩

theorem Ext.weak {g g' : G} (h : Ext g g') : Weak g g' id := by
  intro x u hx
  cases x with
  | u => exact hx
  | d c => exact RelC.mono h.S hx
  | ptr b off => exact ⟨h.c _ hx.1, by rw [h.bx b hx.1]; exact hx.2⟩
  | arr b => exact ⟨h.c _ hx.1, by rw [h.sl b hx.1]; exact hx.2.1, hx.2.2⟩
  | ea b i sz off => exact ⟨h.c _ hx.1, by rw [h.sl b hx.1]; exact hx.2⟩
  | pv b off n => exact ⟨h.c _ hx.1, by rw [h.bx b hx.1]; exact hx.2⟩
  | es sz => exact hx

section
variable {w0 : World} {S0 : Addr → Option Value} {O : Nat → Prop} {g : G} {bx : Bx} {w : World}

/-- a step: at most one box is new or turns -/
theorem RelM.step (h : RelM w0 S0 O g bx w) {g' : G} {bx' : Bx} {w' : World} {row : Option Nat} {N : Nat} (hg : w.grownBy w' row)
    (hrow : ∀ k, row = some k → w0.heap.size ≤ k ∨ O k)
    (h1 : ∀ a v, g.S a = some v → g'.S a = some v)
    (h2 : ∀ a v, g'.S a = some v → g.S a = some v ∨ (w'.cell? a = some v ∧ (row = some a.block ∨ w.heap.size ≤ a.block)))
    (h3 : ∀ a v, g.S a = some v → row = some a.block → w'.cell? a = some v)
    (hc : ∀ n, g'.c n → n < bx'.length)
    (hbx : ∀ (n : Nat) y, bx'[n]? = some (some y) → g'.c n ∧
      ((n ≠ N ∧ bx[n]? = some (some y) ∧ blk g' n y = blk g n y ∧ (∀ k, blk g n y = some k → row ≠ some k) ∧ (BoxRel g w' n y → BoxRel g' w' n y)) ∨
       (n = N ∧ BoxRel g' w' n y ∧ (∀ k, blk g' n y = some k → row = some k ∨ w.heap.size ≤ k) ∧
         (∀ k, blk g' n y = some k → ∀ off sp v, g'.S ⟨k, off, sp⟩ = some v → ∃ e sz els, y = .arr false e sz els ∧ off < els.length * sz)))) : RelM w0 S0 O g' bx' w' := by
  refine ⟨hg.os.trans h.os, hg.tape.trans h.tape, hg.output.trans h.output, Nat.le_trans h.size hg.size, fun k hk hO => ?_, fun a v hv => h1 a v (h.sub a v hv), fun a v hv => ?_, fun a v hv => ?_, hc,
    fun n x hx => ?_, fun n m x y k hx hy kx ky => ?_, fun n x k hx hk => ?_, fun n x k hx hk off sp v hv => ?_⟩
  · have hne : some k ≠ row := fun e => by rcases hrow k e.symm with h4 | h4; omega; exact hO h4
    exact (hg.block k (Nat.lt_of_lt_of_le hk h.size) hne).trans (h.old k hk hO)
  · rcases h2 a v hv with h4 | ⟨_, h4 | h4⟩
    · exact h.new a v h4
    · exact .inr (hrow _ h4)
    · exact .inr (.inl (Nat.le_trans h.size h4))
  · rcases h2 a v hv with h4 | ⟨h4, _⟩
    · by_cases hr : row = some a.block
      · exact h3 a v h4 hr
      · rw [World.cell?_of_block (hg.block a.block (h.S_lt h4) (fun e => hr e.symm))]; exact h.mem a v h4
    · exact h4
  · obtain ⟨hn, h4 | h4⟩ := hbx n x hx
    · obtain ⟨_, hx0, _, hk, hl⟩ := h4
      refine ⟨hn, hl (BoxRel.world (fun k hb => hg.block k (h.blk_lt hx0 hb) (fun e => hk k hb e.symm)) (h.box n x hx0).2)⟩
    · exact ⟨hn, h4.2.1⟩
  · obtain ⟨_, h4 | h4⟩ := hbx n x hx <;> obtain ⟨_, h5 | h5⟩ := hbx m y hy
    · exact h.disj n m x y k h4.2.1 h5.2.1 (h4.2.2.1 ▸ kx) (h5.2.2.1 ▸ ky)
    · exfalso
      have hkx := h4.2.2.1 ▸ kx
      rcases h5.2.2.1 k ky with h6 | h6
      · exact h4.2.2.2.1 k hkx h6
      · have := h.blk_lt h4.2.1 hkx; omega
    · exfalso
      have hky := h5.2.2.1 ▸ ky
      rcases h4.2.2.1 k kx with h6 | h6
      · exact h5.2.2.2.1 k hky h6
      · have := h.blk_lt h5.2.1 hky; omega
    · rw [h4.1, h5.1]
  · obtain ⟨_, h4 | h4⟩ := hbx n x hx
    · exact h.low n x k h4.2.1 (h4.2.2.1 ▸ hk)
    · rcases h4.2.2.1 k hk with h6 | h6
      · exact hrow k h6
      · exact .inl (Nat.le_trans h.size h6)
  · obtain ⟨_, h4 | h4⟩ := hbx n x hx
    · have hk' := h4.2.2.1 ▸ hk
      rcases h2 _ v hv with h5 | ⟨_, h5 | h5⟩
      · exact h.sep n x k h4.2.1 hk' off sp v h5
      · exact absurd h5 (h4.2.2.2.1 k hk')
      · have := h.blk_lt h4.2.1 hk'; simp at h5; omega
    · exact h4.2.2.2 k hk off sp v hv

/-- less is kept -/
theorem RelM.less (h : RelM w0 S0 O g bx w) {bx' : Bx} (hc : ∀ n, g.c n → n < bx'.length) (hb : ∀ (n : Nat) x, bx'[n]? = some (some x) → bx[n]? = some (some x)) : RelM w0 S0 O g bx' w :=
  ⟨h.os, h.tape, h.output, h.size, h.old, h.sub, h.new, h.mem, hc, fun n x hx => h.box n x (hb n x hx), fun n m x y k hx hy => h.disj n m x y k (hb n x hx) (hb m y hy),
    fun n x k hx => h.low n x k (hb n x hx), fun n x k hx => h.sep n x k (hb n x hx)⟩

/-- a new box under the next name -/
def G.push (g : G) (n k : Nat) (v : Value) : G := { g with bx := fun m => if m = n then k else g.bx m, sl := fun m => if m = n then v else g.sl m, c := fun m => m = n ∨ g.c m }
theorem G.push_ext {g : G} {n k : Nat} {v : Value} (h : ¬ g.c n) : Ext g (g.push n k v) :=
  ⟨fun _ _ h => h, fun m hm => if_neg (fun e => h (by rw [← e]; exact hm)), fun m hm => if_neg (fun e => h (by rw [← e]; exact hm)), fun m hm => .inr hm⟩

theorem push_get {α : Type} {l : List α} {x y : α} {n : Nat} (h : (l ++ [x])[n]? = some y) : (n = l.length ∧ y = x) ∨ (n < l.length ∧ l[n]? = some y) := by
  rw [List.getElem?_append] at h
  split at h
  · rename_i hl; exact .inr ⟨hl, h⟩
  · rename_i hl
    have : n - l.length = 0 := by
      by_cases h0 : n - l.length = 0
      · exact h0
      · rw [List.getElem?_eq_none (by simp; omega)] at h; cases h
    rw [this] at h; simp at h
    exact .inl ⟨by omega, h.symm⟩

theorem blk_eq {g g' : G} {n : Nat} {y : Box} (h1 : g'.bx n = g.bx n) (h2 : g'.sl n = g.sl n) : blk g' n y = blk g n y := by
  cases y <;> simp only [blk, h1, h2]

theorem RelM.boxAdd (h : RelM w0 S0 O g bx w) {w' : World} {row : Option Nat} (hg : w.grownBy w' row) (hrow : ∀ k, row = some k → w0.heap.size ≤ k ∨ O k)
    {S' : Addr → Option Value} (h1 : ∀ a v, g.S a = some v → S' a = some v)
    (h2 : ∀ a v, S' a = some v → g.S a = some v ∨ (w'.cell? a = some v ∧ (row = some a.block ∨ w.heap.size ≤ a.block)))
    (h3 : ∀ a v, g.S a = some v → row = some a.block → w'.cell? a = some v)
    (hfree : ∀ (n : Nat) y k, bx[n]? = some (some y) → blk g n y = some k → row ≠ some k)
    {x : Box} {k : Nat} {v : Value} (hb : BoxRel { g.push bx.length k v with S := S' } w' bx.length x)
    (hk : ∀ kk, blk (g.push bx.length k v) bx.length x = some kk → row = some kk ∨ w.heap.size ≤ kk)
    (hs : ∀ kk, blk (g.push bx.length k v) bx.length x = some kk → ∀ off sp u, S' ⟨kk, off, sp⟩ = some u → ∃ e sz els, x = .arr false e sz els ∧ off < els.length * sz) :
    RelM w0 S0 O { g.push bx.length k v with S := S' } (bx ++ [some x]) w' := by
  have hext : Ext g { g.push bx.length k v with S := S' } := by
    have := G.push_ext (k := k) (v := v) h.fresh
    exact ⟨h1, this.bx, this.sl, this.c⟩
  refine h.step (N := bx.length) hg hrow h1 h2 h3 (fun n hn => by rcases hn with rfl | hn; simp; have := h.c n hn; simp; omega) (fun n y hy => ?_)
  rcases push_get hy with ⟨rfl, e⟩ | ⟨hn, hy⟩
  · cases e
    exact ⟨.inl rfl, .inr ⟨rfl, hb, hk, hs⟩⟩
  · have hc := (h.box n y hy).1
    exact ⟨.inr hc, .inl ⟨by omega, hy, blk_eq (hext.bx n hc) (hext.sl n hc), fun k hk => hfree n y k hy hk, BoxRel.later hext.weak h1 (hext.bx n hc) (hext.sl n hc)⟩⟩

/-- the same with the box forgotten -/
theorem RelM.stepS (h : RelM w0 S0 O g bx w) {w' : World} {row : Option Nat} (hg : w.grownBy w' row) (hrow : ∀ k, row = some k → w0.heap.size ≤ k ∨ O k)
    {S' : Addr → Option Value} (h1 : ∀ a v, g.S a = some v → S' a = some v)
    (h2 : ∀ a v, S' a = some v → g.S a = some v ∨ (w'.cell? a = some v ∧ (row = some a.block ∨ w.heap.size ≤ a.block)))
    (h3 : ∀ a v, g.S a = some v → row = some a.block → w'.cell? a = some v)
    (hfree : ∀ (n : Nat) y k, bx[n]? = some (some y) → blk g n y = some k → row ≠ some k) : RelM w0 S0 O { g with S := S' } bx w' := by
  have hext : Ext g { g with S := S' } := ⟨h1, fun _ _ => rfl, fun _ _ => rfl, fun _ h => h⟩
  refine h.step (N := bx.length) hg hrow h1 h2 h3 h.c (fun n y hy => ?_)
  have hc := (h.box n y hy).1
  exact ⟨hc, .inl ⟨by have := h.c n hc; omega, hy, rfl, fun k hk => hfree n y k hy hk, BoxRel.later hext.weak h1 rfl rfl⟩⟩

theorem set_get {α : Type} {l : List (Option α)} {b n : Nat} {x : Option α} {y : α} (h : (l.set b x)[n]? = some (some y)) : (n = b ∧ x = some y ∧ b < l.length) ∨ (n ≠ b ∧ l[n]? = some (some y)) := by
  rw [List.getElem?_set] at h
  split at h
  · rename_i e
    split at h
    · rename_i hl; simp only [Option.some.injEq] at h; exact .inl ⟨e.symm, h, hl⟩
    · cases h
  · rename_i e; exact .inr ⟨fun e' => e e'.symm, h⟩

/-- a box's contents turn, in the world too -/
theorem RelM.boxSet (h : RelM w0 S0 O g bx w) {b : Nat} {x : Box} (hx : bx[b]? = some (some x)) {y : Option Box} {w' : World}
    (hg : w.grownBy w' (blk g b x)) (_ : w'.heap.size = w.heap.size)
    {S' : Addr → Option Value} (h1 : ∀ a v, g.S a = some v → S' a = some v)
    (h2 : ∀ a v, S' a = some v → g.S a = some v ∨ (w'.cell? a = some v ∧ blk g b x = some a.block))
    (h3 : ∀ a v, g.S a = some v → blk g b x = some a.block → w'.cell? a = some v)
    (hy : ∀ z, y = some z → BoxRel { g with S := S' } w' b z ∧ (∀ k, blk g b z = some k → blk g b x = some k) ∧
      (∀ k, blk g b z = some k → ∀ off sp u, S' ⟨k, off, sp⟩ = some u → ∃ e sz els, z = .arr false e sz els ∧ off < els.length * sz)) :
    RelM w0 S0 O { g with S := S' } (bx.set b y) w' := by
  have hext : Ext g { g with S := S' } := ⟨h1, fun _ _ => rfl, fun _ _ => rfl, fun _ h => h⟩
  refine h.step (N := b) hg (fun k hk => h.low b x k hx hk) h1 (fun a v hv => (h2 a v hv).imp id (fun h => ⟨h.1, .inl h.2⟩)) h3 (by simp; exact h.c) (fun n z hz => ?_)
  rcases set_get hz with ⟨rfl, e, _⟩ | ⟨hn, hz⟩
  · obtain ⟨h4, h5, h6⟩ := hy z e
    exact ⟨(h.box n x hx).1, .inr ⟨rfl, h4, fun k hk => .inl (h5 k hk), h6⟩⟩
  · exact ⟨(h.box n z hz).1, .inl ⟨hn, hz, rfl, fun k hk e => hn (h.disj n b z x k hz hx hk e), BoxRel.later hext.weak h1 rfl rfl⟩⟩
end

section
variable {w0 : World} {S0 : Addr → Option Value} {O : Nat → Prop} {g0 g : G} {st : St} {a : Act} {w : World}

theorem Rel.put (h : Rel w0 S0 O g0 g st a w) {dst : Option Nat} {v : V} {u : Value} (hv : RelV g v u) : Rel w0 S0 O g0 g (st.set dst v) (a.put dst u) w := by
  cases dst with
  | none => exact h
  | some d =>
    refine ⟨h.df, by simp [St.set, setV_eq, Act.put, h.len], h.np, h.np0, h.pin, fun i x hx => ?_, h.m⟩
    simp only [St.set, setV_eq, Act.put] at hx ⊢
    rw [List.getElem?_set] at hx
    by_cases hd : d = i
    · subst hd
      rw [if_pos rfl] at hx
      split at hx
      · rename_i hlt
        cases hx
        have hlt' : d < a.tmps.size := by rw [h.len]; exact hlt
        simp [hlt']
        exact hv
      · cases hx
    · rw [if_neg hd] at hx
      have := h.env i x hx
      simpa [Array.getElem?_setIfInBounds_ne hd] using this

theorem Rel.with (h : Rel w0 S0 O g0 g st a w) {g' : G} {bx' : Bx} {w' : World} (hf : Ext g g') (hm : RelM w0 S0 O g' bx' w') :
    Rel w0 S0 O g0 g' { st with bx := bx' } a w' := by
  have hp := h.np
  refine ⟨h.df, h.len, fun k hk => hf.c k (hp k hk), h.np0, fun k hk => ?_, fun i v hv => (h.env i v hv).weak hf.weak, hm⟩
  obtain ⟨h1, h2⟩ := h.pin k hk
  exact ⟨(hf.bx k (hp k hk)).trans h1, (hf.sl k (hp k hk)).trans h2⟩
end
end Vm
