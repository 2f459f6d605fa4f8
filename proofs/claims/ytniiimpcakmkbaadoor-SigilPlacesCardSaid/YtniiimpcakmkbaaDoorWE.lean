/- Vm, part E: rows of elements, cells that become stable, values that are handed on. -/
import Derived.Test.YtniiimpcakmkbaaDoorWD
import Derived.Lib.AppendStr
import Derived.Laws.CopyRow
import Derived.ChangeKeysEq
import Derived.Lib.ConvBytes
import Derived.Laws.BytesString
import Derived.Laws.MakeOwn
namespace Vm
open Go

theorem relC_int {S : Addr → Option Value} {k : IntKind} {n : Int} {u : Value} (h : RelC S (.int k n) u) : u = .int k n := by cases h; rfl
theorem relC_bool {S : Addr → Option Value} {b : Bool} {u : Value} (h : RelC S (.bool b) u) : u = .bool b := by cases h; rfl
theorem relC_str {S : Addr → Option Value} {s : ByteArray} {u : Value} (h : RelC S (.str s) u) : u = .string s := by cases h; rfl
theorem relC_sl {S : Addr → Option Value} {sz : Nat} {els : List (List C)} {u : Value} (h : RelC S (.sl sz els) u) :
    ∃ (A : Option Addr) (cap : Nat) (uf : Nat → Nat → Value), u = .slice A els.length cap ∧ els.length ≤ cap ∧ (∀ e ∈ els, e.length = sz) ∧ (els ≠ [] → ∃ a, A = some a) ∧ (els ≠ [] → ∀ a, A = some a → a.spot = none) ∧
      (∀ a, A = some a → ∀ (i : Nat) e, els[i]? = some e → ∀ (j : Nat) c, e[j]? = some c → S (a.add (i * sz + j)) = some (uf i j)) ∧
      (∀ (i : Nat) e, els[i]? = some e → ∀ (j : Nat) c, e[j]? = some c → RelC S c (uf i j)) := by
  cases h with
  | sl sz els A cap uf hc hsz hA hsp hS hr => exact ⟨A, cap, uf, rfl, hc, hsz, hA, hsp, hS, hr⟩


theorem relC_nil (S : Addr → Option Value) (sz : Nat) : RelC S (.sl sz []) (.slice none 0 0) :=
  .sl sz [] none 0 (fun _ _ => undef) (by simp) (by simp) (by simp) (by simp) (by simp) (by simp)

theorem add_plain' (gb o j : Nat) : (⟨gb, o, none⟩ : Addr).add j = ⟨gb, o + j, none⟩ := by
  unfold Addr.add; split
  · rename_i h; subst h; rfl
  · rfl

theorem Flat.append {S : Addr → Option Value} {sz : Nat} {els els2 : List (List C)} {xs ys : List Value} (h : Flat S sz els xs) (h2 : Flat S sz els2 ys) : Flat S sz (els ++ els2) (xs ++ ys) := by
  refine ⟨by simp [h.1, h2.1, Nat.add_mul], fun i e hi => ?_⟩
  by_cases hlt : i < els.length
  · rw [List.getElem?_append_left hlt] at hi
    obtain ⟨h3, h4⟩ := h.2 i e hi
    refine ⟨h3, fun j c hj => ?_⟩
    obtain ⟨u, hu, hr⟩ := h4 j c hj
    have := (List.getElem?_eq_some_iff.1 hu).1
    exact ⟨u, by rw [List.getElem?_append_left this]; exact hu, hr⟩
  · rw [List.getElem?_append_right (by omega)] at hi
    obtain ⟨h3, h4⟩ := h2.2 _ e hi
    refine ⟨h3, fun j c hj => ?_⟩
    obtain ⟨u, hu, hr⟩ := h4 j c hj
    have hm : (i - els.length) * sz + els.length * sz = i * sz := by rw [← Nat.add_mul]; congr 1; omega
    refine ⟨u, ?_, hr⟩
    rw [List.getElem?_append_right (by rw [h.1]; omega), h.1]
    rw [← hu]; congr 1; omega

theorem Flat.nil (S : Addr → Option Value) (sz : Nat) : Flat S sz [] [] := ⟨by simp, fun i e h => by simp at h⟩

theorem Flat.one {S : Addr → Option Value} {cs : List C} {us : List Value} (h : All2 (RelC S) cs us) : Flat S cs.length [cs] us := by
  refine ⟨by simp [h.1], fun i e hi => ?_⟩
  cases i with
  | zero =>
    simp at hi; subst hi
    refine ⟨rfl, fun j c hj => ?_⟩
    obtain ⟨u, hu, hr⟩ := h.get hj
    exact ⟨u, by simpa using hu, hr⟩
  | succ i => simp at hi

/-- a slice that reads as elements, flat -/
theorem flat_of_sl {S : Addr → Option Value} {sz : Nat} (hsz : 0 < sz) {els : List (List C)} {u : Value} (h : RelC S (.sl sz els) u) :
    ∃ (A : Option Addr) (cap : Nat) (xs : List Value), u = .slice A els.length cap ∧ (0 < els.length → ∃ a, A = some a) ∧ Flat S sz els xs ∧
      (∀ a, A = some a → ∀ (j : Nat) v, xs[j]? = some v → S (a.add j) = some v) ∧ ∀ v ∈ xs, v.oneCell' = true := by
  obtain ⟨A, cap, uf, rfl, hc, hl, hA, hsp, hS, hr⟩ := relC_sl h
  have hget : ∀ j, j < els.length * sz → ∃ e c, els[j / sz]? = some e ∧ e[j % sz]? = some c ∧ j / sz * sz + j % sz = j := by
    intro j hj
    have h1 : j / sz < els.length := Nat.div_lt_of_lt_mul (by rw [Nat.mul_comm]; exact hj)
    have h2 := hl _ (List.getElem_mem h1)
    have h3 : j % sz < (els[j / sz]'h1).length := by rw [h2]; exact Nat.mod_lt _ hsz
    exact ⟨_, _, List.getElem?_eq_getElem h1, List.getElem?_eq_getElem h3, by rw [Nat.mul_comm]; exact Nat.div_add_mod j sz⟩
  refine ⟨A, cap, (List.range (els.length * sz)).map fun j => uf (j / sz) (j % sz), rfl, fun h0 => hA (fun e => by rw [e] at h0; simp at h0), ⟨by simp, fun i e hi => ⟨hl e (List.mem_of_getElem? hi), fun j c hj => ?_⟩⟩, fun a ha j v hv => ?_, fun v hv => ?_⟩
  · have h1 : i < els.length := (List.getElem?_eq_some_iff.1 hi).1
    have h2 : j < sz := by have := (List.getElem?_eq_some_iff.1 hj).1; rw [hl e (List.mem_of_getElem? hi)] at this; exact this
    have h3 : i * sz + j < els.length * sz := by
      have : (i + 1) * sz ≤ els.length * sz := Nat.mul_le_mul_right _ h1
      rw [Nat.add_mul, Nat.one_mul] at this; omega
    have h4 : (i * sz + j) / sz = i := by rw [Nat.mul_comm, Nat.mul_add_div hsz, Nat.div_eq_of_lt h2, Nat.add_zero]
    have h5 : (i * sz + j) % sz = j := by rw [Nat.mul_comm, Nat.mul_add_mod, Nat.mod_eq_of_lt h2]
    exact ⟨uf i j, by simp [h3, h4, h5], hr i e hi j c hj⟩
  · simp only [List.getElem?_map, Option.map_eq_some_iff] at hv
    obtain ⟨j', hj', rfl⟩ := hv
    have hlt : j < els.length * sz := by simpa using (List.getElem?_eq_some_iff.1 hj').1
    have : j' = j := by simpa [hlt] using hj'.symm
    subst this
    obtain ⟨e, c, he, hcc, hj⟩ := hget j' hlt
    have := hS a ha _ e he _ c hcc
    rwa [hj] at this
  · simp only [List.mem_map, List.mem_range] at hv
    obtain ⟨j, hj, rfl⟩ := hv
    obtain ⟨e, c, he, hcc, _⟩ := hget j hj
    exact RelC.one (hr _ e he _ c hcc)

/-- a row that is owned reads as its elements -/
theorem row_rel {S : Addr → Option Value} {w : World} {e : TypeId} {sz : Nat} {v : Value} {els : List (List C)} {xs : List Value} (ho : w.ownsRow 0 e sz v els.length xs) (hf : Flat S sz els xs)
    (hS : ∀ k, v.ownBlock = some k → ∀ (j : Nat) u, xs[j]? = some u → S ⟨k, j, none⟩ = some u) : RelC S (.sl sz els) v := by
  have hsz : ∀ e ∈ els, e.length = sz := fun e he => by obtain ⟨i, hi⟩ := List.getElem?_of_mem he; exact (hf.2 i e hi).1
  have hr : ∀ (i : Nat) e, els[i]? = some e → ∀ (j : Nat) c, e[j]? = some c → RelC S c (xs.getD (i * sz + j) undef) := by
    intro i e hi j c hj
    obtain ⟨u, hu, hr⟩ := (hf.2 i e hi).2 j c hj
    rw [List.getD_eq_getElem?_getD, hu]; exact hr
  rcases ho.2 with ⟨rfl, hn⟩ | ⟨g, cap, cur, rfl, _, hh, hc, _, _, _⟩
  · have : els = [] := List.eq_nil_of_length_eq_zero hn
    subst this
    exact relC_nil S sz
  · exact .sl sz els (some ⟨g, 0, none⟩) cap (fun i j => xs.getD (i * sz + j) undef) hc hsz (fun _ => ⟨_, rfl⟩) (fun _ a ha => by cases ha; rfl)
      (fun a ha i e hi j c hj => by
        cases ha
        obtain ⟨u, hu, _⟩ := (hf.2 i e hi).2 j c hj
        rw [add_plain', Nat.zero_add, List.getD_eq_getElem?_getD, hu]
        exact hS g rfl _ u hu) hr

theorem own_cells {w : World} {e : TypeId} {sz n : Nat} {v : Value} {xs : List Value} (hown : w.ownsRow 0 e sz v n xs) {k : Nat} (hk : v.ownBlock = some k) :
    ∀ (j : Nat) u, xs[j]? = some u → w.cell? ⟨k, j, none⟩ = some u := by
  rcases hown.2 with ⟨rfl, _⟩ | ⟨g, cap, cur, rfl, _, hh, _, _, _, ht⟩
  · simp [Value.ownBlock] at hk
  · simp [Value.ownBlock] at hk; subst hk
    intro j u hj
    rw [cell_of_row w g j cur e (0, 0) hh]
    rw [← ht, List.getElem?_take] at hj
    split at hj
    · simpa using hj
    · cases hj


theorem etaGo {l : List C} : ∀ (sh : List Sh) (j : Nat), shOkGo l j sh = true → l.length = j + shLen sh → shCanon l j sh = l.drop j := by
  intro sh
  induction sh with
  | nil => intro j _ hl; simp only [shCanon]; rw [List.drop_eq_nil_of_le (by simp [shLen] at hl; omega)]
  | cons s r ih =>
    intro j h hl
    have one : (∀ n, s ≠ .run n) → shCanon l j (s :: r) = l.drop j := by
      intro hs
      have hl1 : s.len = 1 := by cases s <;> first | rfl | (exact absurd rfl (hs _))
      have h' : s.ok (l.getD j .nf) = true ∧ shOkGo l (j + 1) r = true := by
        cases s <;> first | (exact absurd rfl (hs _)) | (simpa [shOkGo] using h)
      have hc : shCanon l j (s :: r) = s.canon (l.getD j .nf) :: shCanon l (j + 1) r := by
        cases s <;> first | (exact absurd rfl (hs _)) | rfl
      simp only [shLen, hl1] at hl
      have hlt : j < l.length := by omega
      rw [hc, List.drop_eq_getElem_cons hlt, ih (j + 1) h'.2 (by omega)]
      congr 1
      have hg : l.getD j .nf = l[j] := by rw [List.getD_eq_getElem?_getD, List.getElem?_eq_getElem hlt]; rfl
      rw [hg] at h' ⊢
      obtain ⟨h1, _⟩ := h'
      generalize l[j] = c at h1
      cases s with
      | any => rfl
      | run n => exact absurd rfl (hs n)
      | int k => cases c <;> simp [Sh.ok] at h1; rename_i k' n; simp [Sh.canon, C.toInt, h1]
      | bool => cases c <;> simp [Sh.ok] at h1; rfl
      | str => cases c <;> simp [Sh.ok] at h1; rfl
      | sl n => cases c <;> simp [Sh.ok] at h1; simp [Sh.canon, C.toEls, h1]
    cases s with
    | run n =>
      simp only [shOkGo] at h
      simp only [shLen, Sh.len] at hl
      simp only [shCanon]
      rw [ih (j + n) h (by omega)]
      have : (l.drop j).drop n = l.drop (j + n) := by rw [List.drop_drop]
      rw [← this]
      exact List.take_append_drop n (l.drop j)
    | any => exact one (fun n h => by cases h)
    | int k => exact one (fun n h => by cases h)
    | bool => exact one (fun n h => by cases h)
    | str => exact one (fun n h => by cases h)
    | sl n => exact one (fun n h => by cases h)

theorem eta_some {β : Type} {sh : Option (List Sh)} {l : List C} {k : List C → Option β} {r : β} (h : eta sh l k = some r) : k l = some r := by
  unfold eta at h
  cases sh with
  | none => exact h
  | some sh =>
    simp only at h
    cases hs : shOk sh l with
    | false => rw [hs] at h; cases h
    | true =>
      rw [hs, cond_true] at h
      unfold shOk at hs
      simp only [Bool.and_eq_true, beq_iff_eq] at hs
      have := etaGo sh 0 hs.2 (by rw [hs.1]; omega)
      rw [this] at h; simpa using h

theorem cutK_some {β : Type} {i : TI} {l : List C} {k : T → Option β} {r : β} (h : cutK i l k = some r) : ∃ v, k v = some r ∧
    (i.ag = true → v = .agg ⟨l.take i.size, [], i.size⟩ ∧ i.size ≤ l.length) ∧ (i.ag = false → ∃ c, l[0]? = some c ∧ v = .w (.d c)) := by
  unfold cutK at h
  cases hag : i.ag with
  | true =>
    rw [hag, cond_true] at h
    by_cases hs : (l.take i.size).length = i.size
    · rw [beq_iff_eq.2 hs, cond_true] at h
      refine ⟨_, eta_some h, fun _ => ⟨rfl, by rw [List.length_take] at hs; omega⟩, fun h => by cases h⟩
    · rw [beq_false_of_ne hs] at h; cases h
  | false =>
    rw [hag, cond_false] at h
    cases hc : l[0]? with
    | none => rw [hc] at h; cases h
    | some c => rw [hc] at h; have := eta_some h; exact ⟨_, this, fun h => (by cases h), fun _ => ⟨c, rfl, rfl⟩⟩

/-- cells of a row become stable -/
def withRow (S : Addr → Option Value) (v : Value) (xs : List Value) : Addr → Option Value := fun ad =>
  match S ad with
  | some u => some u
  | none => if v.ownBlock = some ad.block ∧ ad.spot = none then xs[ad.off]? else none

theorem withRow_sub {S : Addr → Option Value} {v : Value} {xs : List Value} : ∀ ad u, S ad = some u → withRow S v xs ad = some u := by
  intro ad u h; simp [withRow, h]

section
variable {w0 : World} {S0 : Addr → Option Value} {O : Nat → Prop} {g : G} {bx : Bx} {w : World}

/-- only more cells are stable -/
structure More (g g' : G) : Prop where
  S : ∀ a v, g.S a = some v → g'.S a = some v
  bx : g'.bx = g.bx
  sl : g'.sl = g.sl
  c : g'.c = g.c
theorem More.refl (g : G) : More g g := ⟨fun _ _ h => h, rfl, rfl, rfl⟩
theorem More.trans {g g' g'' : G} (h : More g g') (h' : More g' g'') : More g g'' := ⟨fun _ _ hv => h'.S _ _ (h.S _ _ hv), h'.bx.trans h.bx, h'.sl.trans h.sl, h'.c.trans h.c⟩
theorem More.ext {g g' : G} (h : More g g') : Ext g g' := ⟨h.S, fun n _ => by rw [h.bx], fun n _ => by rw [h.sl], fun n hn => by rw [h.c]; exact hn⟩

theorem freezeArr (h : RelM w0 S0 O g bx w) {b : Nat} {e : Option TypeId} {sz : Nat} {els : List (List C)} (hb : bx[b]? = some (some (.arr true e sz els))) :
    ∃ g', More g g' ∧ RelM w0 S0 O g' (bx.set b (some (.arr false e sz els))) w ∧ RelC g'.S (.sl sz els) (g.sl b) := by
  obtain ⟨_, xs, e', he', hown, hfl, hp, _⟩ := h.box b _ hb
  have hno : ∀ k, (g.sl b).ownBlock = some k → ∀ off sp, g.S ⟨k, off, sp⟩ = none := by
    intro k hk off sp
    cases hS : g.S ⟨k, off, sp⟩ with
    | none => rfl
    | some v => obtain ⟨_, _, _, h1, _⟩ := h.sep b _ k hb hk off sp v hS; simp at h1
  have hrel : RelC (withRow g.S (g.sl b) xs) (.sl sz els) (g.sl b) := row_rel hown (hfl.mono withRow_sub) (fun k hk j u hu => by
    simp only [withRow, hno k hk j none, hk, and_self, if_true]; exact hu)
  refine ⟨{ g with S := withRow g.S (g.sl b) xs }, ⟨withRow_sub, rfl, rfl, rfl⟩, ?_, hrel⟩
  refine h.boxSet hb (World.grownBy.refl w _) rfl withRow_sub (fun ad u hu => ?_) (fun ad u hu _ => h.mem ad u hu) (fun z hz => ?_)
  · simp only [withRow] at hu
    cases hS : g.S ad with
    | some q => rw [hS] at hu; exact .inl hu
    | none =>
      rw [hS] at hu; simp only at hu
      split at hu
      · rename_i hc
        have := own_cells hown hc.1 ad.off u hu
        refine .inr ⟨?_, hc.1⟩
        rw [show ad = ⟨ad.block, ad.off, none⟩ by cases ad; simp at hc; simp [hc.2]]; exact this
      · cases hu
  · cases hz
    refine ⟨⟨xs, e', he', hown, hfl.mono withRow_sub, hp, fun _ => hrel⟩, fun k hk => hk, fun k hk off sp u hu => ?_⟩
    refine ⟨e, sz, els, rfl, ?_⟩
    simp only [withRow] at hu
    rw [hno k hk off sp] at hu
    simp only at hu
    split at hu
    · rw [← hfl.1]; exact (List.getElem?_eq_some_iff.1 hu).1
    · cases hu

theorem passW_rel {dr : Bool} {x y : W} {bx' : Bx} (hp : passW dr x bx = some (y, bx')) (h : RelM w0 S0 O g bx w) : ∃ g', More g g' ∧ RelM w0 S0 O g' bx' w ∧ (dr = true → bx' = bx) ∧ bx'.length = bx.length ∧ ∀ u, RelW g x u → RelW g' y u := by
  cases x with
  | u => simp [passW] at hp
  | ea b i sz off => simp [passW] at hp
  | pv b off n => simp [passW] at hp
  | es sz => simp [passW] at hp; obtain ⟨rfl, rfl⟩ := hp; exact ⟨g, .refl g, h, fun _ => rfl, rfl, fun u ⟨A, hu⟩ => by subst hu; exact .sl sz [] A 0 (fun _ _ => undef) (by simp) (by simp) (by simp) (by simp) (by simp) (by simp)⟩
  | d c => simp [passW] at hp; obtain ⟨rfl, rfl⟩ := hp; exact ⟨g, .refl g, h, fun _ => rfl, rfl, fun u hu => hu⟩
  | ptr b off => simp [passW] at hp; obtain ⟨rfl, rfl⟩ := hp; exact ⟨g, .refl g, h, fun _ => rfl, rfl, fun u hu => hu⟩
  | arr b =>
    simp only [passW] at hp
    generalize hb : bx.getD b none = bb at hp
    match bb, hp with
    | some (.arr mt e sz els), hp =>
      simp only at hp
      cases mt with
      | false =>
        simp only [cond_false, Option.some.injEq, Prod.mk.injEq] at hp
        obtain ⟨rfl, rfl⟩ := hp
        obtain ⟨_, xs, _, _, _, _, _, hr⟩ := h.box b _ (getD_some hb)
        exact ⟨g, .refl g, h, fun _ => rfl, rfl, fun u hu => by rw [hu.2.1]; exact hr rfl⟩
      | true =>
        cases dr with
        | true => simp at hp
        | false =>
          simp only [cond_true, cond_false, Option.some.injEq, Prod.mk.injEq] at hp
          obtain ⟨rfl, rfl⟩ := hp
          obtain ⟨g', hm, hR, hr⟩ := freezeArr h (getD_some hb)
          exact ⟨g', hm, hR, fun h => (by cases h), by simp, fun u hu => by rw [hu.2.1]; exact hr⟩

theorem passLk_rel {dr : Bool} {n : Nat} : ∀ (lk : List (Nat × W)) (l : List C) {bx bx' : Bx} {m : M} {g : G}, passLk dr n lk l bx = some (m, bx') → RelM w0 S0 O g bx w →
    ∃ g', More g g' ∧ RelM w0 S0 O g' bx' w ∧ (dr = true → bx' = bx) ∧ bx'.length = bx.length ∧ (m.l.length = l.length ∧ m.n = n) ∧ ∀ cs j, RelAt g ⟨l, lk, n⟩ cs j → RelAt g' m cs j := by
  intro lk
  induction lk with
  | nil => intro l bx bx' m g hp h; simp [passLk] at hp; obtain ⟨rfl, rfl⟩ := hp; exact ⟨g, .refl g, h, fun _ => rfl, rfl, ⟨rfl, rfl⟩, fun cs j hj => hj⟩
  | cons p r ih =>
    intro l bx bx' m g hp h
    obtain ⟨i, x⟩ := p
    simp only [passLk] at hp
    cases h1 : passLk dr n r l bx with
    | none => rw [h1] at hp; cases hp
    | some q =>
      obtain ⟨m1, bx1⟩ := q
      rw [h1] at hp; simp only at hp
      obtain ⟨g1, hm1, hR1, hd1, hl1, hlen, hat⟩ := ih l h1 h
      cases h2 : passW dr x bx1 with
      | none => rw [h2] at hp; cases hp
      | some q =>
        obtain ⟨y, bx2⟩ := q
        rw [h2] at hp; simp only at hp
        obtain ⟨g2, hm2, hR2, hd2, hl2, hw⟩ := passW_rel h2 hR1
        -- what holds ahead of the first
        have hrest : ∀ cs j, j ≠ i → RelAt g ⟨l, (i, x) :: r, n⟩ cs j → RelAt g2 m1 cs j := by
          intro cs j hj hr
          have : RelAt g ⟨l, r, n⟩ cs j := by
            intro z u hz hu
            refine hr z u ?_ hu
            simp only [M.get, lkGet, beq_false_of_ne (fun e => hj e.symm), cond_false] at hz ⊢
            exact hz
          intro z u hz hu
          exact hm2.ext.weak _ _ (hat cs j this z u hz hu)
        have hfst : ∀ cs, RelAt g ⟨l, (i, x) :: r, n⟩ cs i → ∀ u, cs[i]? = some u → RelW g2 y u := by
          intro cs hr u hu
          exact hw u (hm1.ext.weak _ _ (hr x u (by simp [M.get, lkGet]) hu))
        by_cases hyd : ∃ c, y = .d c
        · obtain ⟨c, rfl⟩ := hyd
          simp only [Option.some.injEq, Prod.mk.injEq] at hp
          obtain ⟨rfl, rfl⟩ := hp
          refine ⟨g2, hm1.trans hm2, hR2, fun h => (hd2 h).trans (hd1 h), hl2.trans hl1, ⟨by simp [hlen.1], rfl⟩, fun cs j hr z u hz hu => ?_⟩
          simp only [M.get, lkGet_del] at hz
          by_cases hj : j = i
          · subst hj
            rw [if_pos rfl] at hz
            simp only at hz
            cases hc : (m1.l.set j c)[j]? with
            | none => rw [hc] at hz; cases hz
            | some c' =>
              rw [hc] at hz; cases hz
              rw [List.getElem?_set, if_pos rfl] at hc
              split at hc
              · cases hc; exact hfst cs hr u hu
              · cases hc
          · rw [if_neg hj] at hz
            refine hrest cs j hj hr z u ?_ hu
            simp only [M.get]
            rw [List.getElem?_set_ne (fun e => hj e.symm)] at hz
            exact hz
        · have hp' : some ((⟨m1.l, (i, y) :: m1.lk, n⟩ : M), bx2) = some (m, bx') := by
            cases y with
            | d c => exact absurd ⟨c, rfl⟩ hyd
            | _ => exact hp
          simp only [Option.some.injEq, Prod.mk.injEq] at hp'
          obtain ⟨rfl, rfl⟩ := hp'
          refine ⟨g2, hm1.trans hm2, hR2, fun h => (hd2 h).trans (hd1 h), hl2.trans hl1, ⟨hlen.1, rfl⟩, fun cs j hr z u hz hu => ?_⟩
          by_cases hj : j = i
          · subst hj
            simp [M.get, lkGet] at hz; subst hz
            exact hfst cs hr u hu
          · refine hrest cs j hj hr z u ?_ hu
            simp only [M.get, lkGet, beq_false_of_ne (fun e => hj e.symm), cond_false] at hz ⊢
            exact hz

theorem passT_rel {dr : Bool} {x y : T} {bx' : Bx} (hp : passT dr x bx = some (y, bx')) (h : RelM w0 S0 O g bx w) : ∃ g', More g g' ∧ RelM w0 S0 O g' bx' w ∧ (dr = true → bx' = bx) ∧ bx'.length = bx.length ∧ ∀ u, RelT g x u → RelT g' y u := by
  cases x with
  | w x =>
    simp only [passT] at hp
    cases h1 : passW dr x bx with
    | none => rw [h1] at hp; cases hp
    | some q =>
      obtain ⟨y', bx1⟩ := q
      rw [h1] at hp; simp only [Option.some.injEq, Prod.mk.injEq] at hp; obtain ⟨rfl, rfl⟩ := hp
      exact passW_rel h1 h
  | agg m =>
    simp only [passT] at hp
    cases h1 : passLk dr m.n m.lk m.l bx with
    | none => rw [h1] at hp; cases hp
    | some q =>
      obtain ⟨m', bx1⟩ := q
      rw [h1] at hp; simp only [Option.some.injEq, Prod.mk.injEq] at hp; obtain ⟨rfl, rfl⟩ := hp
      obtain ⟨g', h2, h3, h4, h5, h6, h7⟩ := passLk_rel m.lk m.l h1 h
      refine ⟨g', h2, h3, h4, h5, fun u hu => ?_⟩
      obtain ⟨us, rfl, hr⟩ := hu
      exact ⟨us, rfl, ⟨by rw [h6.1]; exact hr.1.1, by rw [h6.1, h6.2]; exact hr.1.2⟩, fun j => h7 us j (hr.2 j)⟩

theorem stabC_rel {x : T} {l : List C} {n : Nat} {u : Value} (hs : x.stabC = some (l, n)) (h : RelT g x u) : All2 (RelC g.S) l u.cells.toList ∧ l.length = n := by
  cases x with
  | w x =>
    cases x with
    | d c => simp [T.stabC] at hs; obtain ⟨rfl, rfl⟩ := hs; rw [oneCell_cells (RelC.one h)]; exact ⟨.cons h .nil, rfl⟩
    | _ => simp [T.stabC] at hs
  | agg m =>
    obtain ⟨l', lk, n'⟩ := m
    cases lk with
    | nil => simp [T.stabC] at hs; obtain ⟨rfl, rfl⟩ := hs; obtain ⟨us, rfl, hr⟩ := h; exact ⟨by simpa [Value.cells] using all_of_relM hr, hr.1.2⟩
    | cons p q => simp [T.stabC] at hs

theorem frzT_rel {dr : Bool} {x : T} {l : List C} {n : Nat} {bx' : Bx} (hp : frzT dr x bx = some ((l, n), bx')) (h : RelM w0 S0 O g bx w) : ∃ g', More g g' ∧ RelM w0 S0 O g' bx' w ∧ (dr = true → bx' = bx) ∧ bx'.length = bx.length ∧ ∀ u, RelT g x u → All2 (RelC g'.S) l u.cells.toList ∧ l.length = n := by
  unfold frzT at hp
  cases h1 : passT dr x bx with
  | none => rw [h1] at hp; cases hp
  | some q =>
    obtain ⟨y, bx1⟩ := q
    rw [h1] at hp; simp only at hp
    cases hs : y.stabC with
    | none => rw [hs] at hp; cases hp
    | some l' =>
      rw [hs] at hp; simp only [Option.some.injEq, Prod.mk.injEq] at hp; obtain ⟨rfl, rfl⟩ := hp
      obtain ⟨g', h2, h3, h4, h5, h6⟩ := passT_rel h1 h
      exact ⟨g', h2, h3, h4, h5, fun u hu => stabC_rel hs (h6 u hu)⟩

theorem passV_rel {dr : Bool} {x y : V} {bx' : Bx} (hp : passV dr x bx = some (y, bx')) (h : RelM w0 S0 O g bx w) : ∃ g', More g g' ∧ RelM w0 S0 O g' bx' w ∧ (dr = true → bx' = bx) ∧ bx'.length = bx.length ∧ ∀ u, RelV g x u → RelV g' y u := by
  cases x with
  | u => simp [passV] at hp
  | tup l => simp [passV] at hp
  | t x =>
    simp only [passV] at hp
    cases h1 : passT dr x bx with
    | none => rw [h1] at hp; cases hp
    | some q =>
      obtain ⟨y', bx1⟩ := q
      rw [h1] at hp; simp only [Option.some.injEq, Prod.mk.injEq] at hp; obtain ⟨rfl, rfl⟩ := hp
      exact passT_rel h1 h

theorem passTs_rel {dr : Bool} : ∀ (xs ys : List T) {bx bx' : Bx} {g : G}, passTs dr xs bx = some (ys, bx') → RelM w0 S0 O g bx w →
    ∃ g', More g g' ∧ RelM w0 S0 O g' bx' w ∧ bx'.length = bx.length ∧ ∀ us, All2 (RelT g) xs us → All2 (RelT g') ys us := by
  intro xs
  induction xs with
  | nil => intro ys bx bx' g hp h; simp [passTs] at hp; obtain ⟨rfl, rfl⟩ := hp; exact ⟨g, .refl g, h, rfl, fun us hu => hu⟩
  | cons x r ih =>
    intro ys bx bx' g hp h
    simp only [passTs] at hp
    cases h1 : passT dr x bx with
    | none => rw [h1] at hp; cases hp
    | some q =>
      obtain ⟨y, bx1⟩ := q
      rw [h1] at hp; simp only at hp
      cases h2 : passTs dr r bx1 with
      | none => rw [h2] at hp; cases hp
      | some q =>
        obtain ⟨l, bx2⟩ := q
        rw [h2] at hp; simp only [Option.some.injEq, Prod.mk.injEq] at hp; obtain ⟨rfl, rfl⟩ := hp
        obtain ⟨g1, a1, a2, _, a3, a4⟩ := passT_rel h1 h
        obtain ⟨g2, b1, b2, b3, b4⟩ := ih l h2 a2
        refine ⟨g2, a1.trans b1, b2, b3.trans a3, fun us hu => ?_⟩
        cases us with
        | nil => exact absurd hu.1 (by simp)
        | cons u us => exact .cons ((a4 u hu.head).weak b1.ext.weak) (b4 us (hu.tail.imp fun _ _ h => h.weak a1.ext.weak))

theorem passArgs_rel {dr b : Bool} : ∀ (xs ys : List V) {bx bx' : Bx} {g : G}, passArgs dr b xs bx = some (ys, bx') → RelM w0 S0 O g bx w →
    ∃ g', More g g' ∧ RelM w0 S0 O g' bx' w ∧ (dr = true → bx' = bx) ∧ ys.length = xs.length ∧ ∀ us, All2 (RelV g) xs us → All2 (RelV g') ys us := by
  intro xs
  induction xs with
  | nil => intro ys bx bx' g hp h; simp [passArgs] at hp; obtain ⟨rfl, rfl⟩ := hp; exact ⟨g, .refl g, h, fun _ => rfl, rfl, fun us hu => hu⟩
  | cons x r ih =>
    intro ys bx bx' g hp h
    simp only [passArgs] at hp
    have key : ∀ y bx1, (bif b && isArr x then some (x, bx) else passV dr x bx) = some (y, bx1) → ∃ g', More g g' ∧ RelM w0 S0 O g' bx1 w ∧ (dr = true → bx1 = bx) ∧ ∀ u, RelV g x u → RelV g' y u := by
      intro y bx1 hy
      cases hb : b && isArr x with
      | true => rw [hb] at hy; simp only [cond_true, Option.some.injEq, Prod.mk.injEq] at hy; obtain ⟨rfl, rfl⟩ := hy; exact ⟨g, .refl g, h, fun _ => rfl, fun u hu => hu⟩
      | false =>
        rw [hb, cond_false] at hy
        obtain ⟨g1, a1, a2, a3, _, a5⟩ := passV_rel hy h
        exact ⟨g1, a1, a2, a3, a5⟩
    generalize (bif b && isArr x then some (x, bx) else passV dr x bx) = q at hp key
    match q, hp with
    | some (y, bx1), hp =>
      simp only at hp
      obtain ⟨g1, a1, a2, a3, a4⟩ := key y bx1 rfl
      cases h2 : passArgs dr b r bx1 with
      | none => rw [h2] at hp; cases hp
      | some q =>
        obtain ⟨l, bx2⟩ := q
        rw [h2] at hp; simp only [Option.some.injEq, Prod.mk.injEq] at hp; obtain ⟨rfl, rfl⟩ := hp
        obtain ⟨g2, b1, b2, b3, b4, b5⟩ := ih l h2 a2
        refine ⟨g2, a1.trans b1, b2, fun h => (b3 h).trans (a3 h), by simp [b4], fun us hu => ?_⟩
        cases us with
        | nil => exact absurd hu.1 (by simp)
        | cons u us => exact .cons ((a4 u hu.head).weak b1.ext.weak) (b5 us (hu.tail.imp fun _ _ h => h.weak a1.ext.weak))
end

section
variable {w0 : World} {S0 : Addr → Option Value} {O : Nat → Prop} {g0 g : G} {st : St} {a : Act} {w : World}
theorem Rel.more (h : Rel w0 S0 O g0 g st a w) {g' : G} {bx' : Bx} (hm : More g g') (hR : RelM w0 S0 O g' bx' w) : Rel w0 S0 O g0 g' { st with bx := bx' } a w := h.with hm.ext hR
end
end Vm
