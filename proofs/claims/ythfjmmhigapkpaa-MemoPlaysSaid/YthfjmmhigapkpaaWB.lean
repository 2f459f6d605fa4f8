/- Vm, part B: what the interpreter's values mean in the model's memory. -/
import Derived.Test.YthfjmmhigapkpaaWA
import Derived.Laws.OwnMore
import Derived.Lib.AppendStr
import Derived.Laws.CopyRow
import Derived.ChangeKeysEq
import Derived.Lib.ConvBytes
import Derived.Laws.BytesString
import Derived.Laws.MakeOwn
namespace Vm
open Go

inductive RelC (S : Addr → Option Value) : C → Value → Prop
  | int (k : IntKind) (n : Int) : RelC S (.int k n) (.int k n)
  | bool (b : Bool) : RelC S (.bool b) (.bool b)
  | str (s : ByteArray) : RelC S (.str s) (.string s)
  | sl (sz : Nat) (els : List (List C)) (A : Option Addr) (cap : Nat) (uf : Nat → Nat → Value)
      (hc : els.length ≤ cap) (hsz : ∀ e ∈ els, e.length = sz) (hA : els ≠ [] → ∃ a, A = some a) (hsp : els ≠ [] → ∀ a, A = some a → a.spot = none)
      (hS : ∀ a, A = some a → ∀ (i : Nat) e, els[i]? = some e → ∀ (j : Nat) c, e[j]? = some c → S (a.add (i * sz + j)) = some (uf i j))
      (hr : ∀ (i : Nat) e, els[i]? = some e → ∀ (j : Nat) c, e[j]? = some c → RelC S c (uf i j)) : RelC S (.sl sz els) (.slice A els.length cap)
  | ni : RelC S .ni .nilIface
  | ifc1 (t : TypeId) (c : C) (u : Value) (h : RelC S c u) : RelC S (.ifc t false [c]) (.iface t u)
  | ifcA (t : TypeId) (l : List C) (us : List Value) (hl : us.length = l.length)
      (h : ∀ (j : Nat) c u, l[j]? = some c → us[j]? = some u → RelC S c u) : RelC S (.ifc t true l) (.iface t (.agg us.toArray))
  | fn (f : FuncId) (l : List C) (us : List Value) (hl : us.length = l.length)
      (h : ∀ (j : Nat) c u, l[j]? = some c → us[j]? = some u → RelC S c u) : RelC S (.fn f l) (.func (.func f) #[] us.toArray)
  | nf : RelC S .nf .nilFunc
  | np : RelC S .np (.pointer none)
  | nm : RelC S .nm (.map none)
  | ip (l : List C) (a : Addr) (uf : Nat → Value) (hsp : a.spot = none)
      (hS : ∀ (j : Nat) c, l[j]? = some c → S (a.add j) = some (uf j))
      (hr : ∀ (j : Nat) c, l[j]? = some c → RelC S c (uf j)) : RelC S (.ip l) (.pointer (some a))
  | er0 (t : TypeId) (gs : List Nat) : RelC S (.er 0 t gs) .nilIface
  | er1 (n : Nat) (t : TypeId) (gs : List Nat) (b : Nat) (a : Addr) (hb : gs[n]? = some b) (hS : S ⟨b, 0, none⟩ = some (.iface t (.pointer (some a)))) : RelC S (.er (n + 1) t gs) (.iface t (.pointer (some a)))

theorem RelC.mono {S S' : Addr → Option Value} (hs : ∀ a v, S a = some v → S' a = some v) {c : C} {u : Value} (h : RelC S c u) : RelC S' c u := by
  induction h with
  | int k n => exact .int k n
  | bool b => exact .bool b
  | str s => exact .str s
  | sl sz els A cap uf hc hsz hA hsp hS hr ih => exact .sl sz els A cap uf hc hsz hA hsp (fun a ha i e hi j c hj => hs _ _ (hS a ha i e hi j c hj)) ih
  | ni => exact .ni
  | ifc1 t c u h ih => exact .ifc1 t c u ih
  | ifcA t l us hl h ih => exact .ifcA t l us hl ih
  | fn f l us hl h ih => exact .fn f l us hl ih
  | nf => exact .nf
  | np => exact .np
  | nm => exact .nm
  | ip l a uf hsp hS hr ih => exact .ip l a uf hsp (fun j c hj => hs _ _ (hS j c hj)) ih
  | er0 t gs => exact .er0 t gs
  | er1 n t gs b a hb hS => exact .er1 n t gs b a hb (hs _ _ hS)

theorem RelC.one {S : Addr → Option Value} {c : C} {u : Value} (h : RelC S c u) : u.oneCell' = true := by
  cases h <;> rfl

/-- what stands behind names: the cells that never change any more, the blocks of boxes, the slices of rows -/
structure G where
  S : Addr → Option Value
  bx : Nat → Nat
  sl : Nat → Value
  c : Nat → Prop

def RelW (g : G) : W → Value → Prop
  | .u, u => u.oneCell' = true
  | .d c, u => RelC g.S c u
  | .ptr b off, u => g.c b ∧ u = .pointer (some ⟨g.bx b, off, none⟩)
  | .arr b, u => g.c b ∧ u = g.sl b ∧ u.oneCell' = true
  | .ea b i sz off, u => g.c b ∧ ∃ gb o n cap, g.sl b = .slice (some ⟨gb, o, none⟩) n cap ∧ u = .pointer (some ⟨gb, o + (i * sz + off), none⟩)
  | .pv b off n, u => g.c b ∧ u = .slice (some ⟨g.bx b, off, none⟩) n n
  | .es _, u => ∃ A, u = .slice A 0 0
  | .vw b lo hi mx sz, u => g.c b ∧ lo ≤ hi ∧ hi ≤ mx ∧ ∃ A cap, u = .slice A (hi - lo) cap ∧ mx - lo ≤ cap ∧
      (g.sl b = .slice none 0 0 → A = none ∧ mx = 0 ∧ cap = 0) ∧
      (∀ gb o n c, g.sl b = .slice (some ⟨gb, o, none⟩) n c → mx ≤ n ∧ lo + cap ≤ c ∧ ∃ l, l ≤ lo ∧ (0 < cap → l = lo) ∧ A = some ⟨gb, o + l * sz, none⟩)
  | .mp b, u => g.c b ∧ u = .map (some (g.bx b))
  | .clo f bs, u => (∀ b ∈ bs, g.c b) ∧ u = .func (.func f) #[] (bs.map fun b => Value.pointer (some ⟨g.bx b, 0, none⟩)).toArray

theorem RelW.one {g : G} {x : W} {u : Value} (h : RelW g x u) : u.oneCell' = true := by
  cases x with
  | u => exact h
  | d c => exact RelC.one h
  | ptr b off => obtain ⟨_, rfl⟩ := h; rfl
  | arr b => exact h.2.2
  | ea b i sz off => obtain ⟨_, gb, o, n, cap, _, rfl⟩ := h; rfl
  | pv b off n => obtain ⟨_, rfl⟩ := h; rfl
  | es sz => obtain ⟨A, rfl⟩ := h; rfl
  | vw b lo hi mx sz => obtain ⟨_, _, _, A, cap, rfl, _⟩ := h; rfl
  | mp b => obtain ⟨_, rfl⟩ := h; rfl
  | clo f bs => obtain ⟨_, rfl⟩ := h; rfl

/-- lists, place by place -/
def All2 {α β : Type} (R : α → β → Prop) (l : List α) (m : List β) : Prop := m.length = l.length ∧ ∀ (j : Nat) x y, l[j]? = some x → m[j]? = some y → R x y

section
variable {α β : Type} {R R' : α → β → Prop}
theorem All2.nil : All2 R [] [] := ⟨rfl, fun j x y h => by simp at h⟩
theorem All2.cons {x : α} {y : β} {l : List α} {m : List β} (h : R x y) (hl : All2 R l m) : All2 R (x :: l) (y :: m) :=
  ⟨by simp [hl.1], fun j a b ha hb => by
    cases j with
    | zero => simp at ha hb; subst ha hb; exact h
    | succ j => simp at ha hb; exact hl.2 j a b ha hb⟩
theorem All2.head {x : α} {y : β} {l : List α} {m : List β} (h : All2 R (x :: l) (y :: m)) : R x y := h.2 0 x y rfl rfl
theorem All2.tail {x : α} {y : β} {l : List α} {m : List β} (h : All2 R (x :: l) (y :: m)) : All2 R l m :=
  ⟨by simpa using h.1, fun j a b ha hb => h.2 (j + 1) a b (by simpa using ha) (by simpa using hb)⟩
theorem All2.imp {l : List α} {m : List β} (h : All2 R l m) (hi : ∀ x y, R x y → R' x y) : All2 R' l m := ⟨h.1, fun j x y hx hy => hi _ _ (h.2 j x y hx hy)⟩
theorem All2.get {l : List α} {m : List β} (h : All2 R l m) {j : Nat} {x : α} (hj : l[j]? = some x) : ∃ y, m[j]? = some y ∧ R x y := by
  have hlt : j < l.length := (List.getElem?_eq_some_iff.1 hj).1
  have hm : m[j]? = some (m[j]'(by have := h.1; omega)) := List.getElem?_eq_getElem _
  exact ⟨_, hm, h.2 j x _ hj hm⟩
theorem All2.drop {l : List α} {m : List β} (h : All2 R l m) (n : Nat) : All2 R (l.drop n) (m.drop n) :=
  ⟨by simp [h.1], fun j x y hx hy => h.2 (n + j) x y (by simpa using hx) (by simpa using hy)⟩
theorem All2.take {l : List α} {m : List β} (h : All2 R l m) (n : Nat) : All2 R (l.take n) (m.take n) :=
  ⟨by simp [h.1], fun j x y hx hy => by
    simp only [List.getElem?_take] at hx hy
    split at hx
    · rename_i hj; rw [if_pos hj] at hy; exact h.2 j x y hx hy
    · cases hx⟩
theorem All2.append {l l2 : List α} {m m2 : List β} (h : All2 R l m) (h2 : All2 R l2 m2) : All2 R (l ++ l2) (m ++ m2) :=
  ⟨by simp [h.1, h2.1], fun j x y hx hy => by
    by_cases hj : j < l.length
    · rw [List.getElem?_append_left hj] at hx
      rw [List.getElem?_append_left (by rw [h.1]; exact hj)] at hy
      exact h.2 j x y hx hy
    · rw [List.getElem?_append_right (by omega)] at hx
      rw [List.getElem?_append_right (by rw [h.1]; omega), h.1] at hy
      exact h2.2 _ x y hx hy⟩
theorem All2.map_left {γ : Type} {f : γ → α} {l : List γ} {m : List β} (h : All2 (fun x y => R (f x) y) l m) : All2 R (l.map f) m :=
  ⟨by simp [h.1], fun j x y hx hy => by
    simp only [List.getElem?_map, Option.map_eq_some_iff] at hx
    obtain ⟨z, hz, rfl⟩ := hx
    exact h.2 j z y hz hy⟩
theorem All2.of_map_left {γ : Type} {f : γ → α} {l : List γ} {m : List β} (h : All2 R (l.map f) m) : All2 (fun x y => R (f x) y) l m :=
  ⟨by simpa using h.1, fun j x y hx hy => h.2 j (f x) y (by simp [hx]) hy⟩
theorem All2.set {l : List α} {m : List β} (h : All2 R l m) (i : Nat) {x : α} {y : β} (hxy : R x y) : All2 R (l.set i x) (m.set i y) :=
  ⟨by simp [h.1], fun j a b ha hb => by
    rw [List.getElem?_set] at ha hb
    split at ha
    · rename_i hij; subst hij
      rw [if_pos rfl] at hb
      split at ha
      · rename_i hi
        rw [if_pos (by rw [h.1]; exact hi)] at hb
        cases ha; cases hb; exact hxy
      · cases ha
    · rename_i hij; rw [if_neg hij] at hb; exact h.2 j a b ha hb⟩
end


/-- a row of cells, place by place -/
def RelAt (g : G) (m : M) (cs : List Value) (j : Nat) : Prop := ∀ x u, m.get j = some x → cs[j]? = some u → RelW g x u
def RelMx (g : G) (m : M) (cs : List Value) : Prop := (cs.length = m.l.length ∧ m.l.length = m.n) ∧ ∀ j, RelAt g m cs j
theorem RelMx.n {g : G} {m : M} {cs : List Value} (h : RelMx g m cs) : cs.length = m.n := h.1.1.trans h.1.2

def RelT (g : G) : T → Value → Prop
  | .w x, u => RelW g x u
  | .agg m, u => ∃ us : List Value, u = .agg us.toArray ∧ RelMx g m us

def RelV (g : G) : V → Value → Prop
  | .u, _ => True
  | .t x, u => RelT g x u
  | .tup l, u => ∃ us : List Value, u = .tuple us.toArray ∧ All2 (RelT g) l us

theorem oneCell_cells {u : Value} (h : u.oneCell' = true) : u.cells = #[u] := by
  cases u <;> first | rfl | (simp [Value.oneCell'] at h)

theorem RelT.cells {g : G} {x : T} {u : Value} (h : RelT g x u) : RelMx g x.toM u.cells.toList := by
  cases x with
  | w x =>
    have h1 := RelW.one h
    rw [oneCell_cells h1]
    have key : ∀ y, x.isD = false → y = x → RelMx g ⟨[.nf], [(0, y)], 1⟩ [u] := by
      intro y _ hy
      refine ⟨⟨rfl, rfl⟩, fun j z v hz hv => ?_⟩
      cases j with
      | zero => simp [M.get, lkGet] at hz hv; subst hz hv; rw [hy]; exact h
      | succ j => simp at hv
    cases x with
    | d c =>
      refine ⟨⟨rfl, rfl⟩, fun j z v hz hv => ?_⟩
      cases j with
      | zero => simp [M.get, lkGet, T.toM] at hz hv; subst hz hv; exact h
      | succ j => simp at hv
    | u => exact key _ rfl rfl
    | ptr b off => exact key _ rfl rfl
    | arr b => exact key _ rfl rfl
    | ea b i sz off => exact key _ rfl rfl
    | pv b off n => exact key _ rfl rfl
    | es sz => exact key _ rfl rfl
    | vw b lo hi mx sz => exact key _ rfl rfl
    | mp b => exact key _ rfl rfl
    | clo f bs => exact key _ rfl rfl
  | agg m => obtain ⟨us, rfl, hu⟩ := h; simpa [Value.cells, T.toM] using hu

/-- a map over cells that turns what isn't meant any more into something weaker -/
def Weak (g g' : G) (f : W → W) : Prop := ∀ x u, RelW g x u → RelW g' (f x) u
/-- and leaves the stable ones -/
def IdD (f : W → W) : Prop := ∀ c, f (.d c) = .d c

theorem lkGet_map (f : W → W) : ∀ (l : List (Nat × W)) (j : Nat), lkGet (lkMap f l) j = (lkGet l j).map f := by
  intro l j
  induction l with
  | nil => rfl
  | cons p r ih =>
    obtain ⟨i, x⟩ := p
    simp only [lkMap, lkGet]
    cases i == j <;> simp [ih]

theorem RelAt.map {g g' : G} {f : W → W} (hf : Weak g g' f) (hd : IdD f) {m : M} {cs : List Value} {j : Nat} (h : RelAt g m cs j) : RelAt g' (m.mapW f) cs j := by
  intro x u hx hu
  simp only [M.get, M.mapW, lkGet_map] at hx
  cases hl : lkGet m.lk j with
  | some y =>
    rw [hl] at hx; simp at hx; subst hx
    exact hf _ _ (h y u (by simp [M.get, hl]) hu)
  | none =>
    rw [hl] at hx; simp only [Option.map_none] at hx
    cases hc : m.l[j]? with
    | none => rw [hc] at hx; simp at hx
    | some c =>
      rw [hc] at hx; simp at hx; subst hx
      have := hf _ _ (h (.d c) u (by simp [M.get, hl, hc]) hu)
      rwa [hd] at this
theorem RelMx.map {g g' : G} {f : W → W} (hf : Weak g g' f) (hd : IdD f) {m : M} {cs : List Value} (h : RelMx g m cs) : RelMx g' (m.mapW f) cs :=
  ⟨h.1, fun j => (h.2 j).map hf hd⟩
theorem RelMx.weak {g g' : G} (hf : Weak g g' id) {m : M} {cs : List Value} (h : RelMx g m cs) : RelMx g' m cs :=
  ⟨h.1, fun j x u hx hu => hf _ _ (h.2 j x u hx hu)⟩

theorem RelT.map {g g' : G} {f : W → W} (hf : Weak g g' f) (hd : IdD f) {x : T} {u : Value} (h : RelT g x u) : RelT g' (x.mapW f) u := by
  cases x with
  | w x => exact hf _ _ h
  | agg l => obtain ⟨us, rfl, hu⟩ := h; exact ⟨us, rfl, hu.map hf hd⟩
theorem RelT.weak {g g' : G} (hf : Weak g g' id) {x : T} {u : Value} (h : RelT g x u) : RelT g' x u := by
  cases x with
  | w x => exact hf _ _ h
  | agg l => obtain ⟨us, rfl, hu⟩ := h; exact ⟨us, rfl, hu.weak hf⟩

theorem RelV.map {g g' : G} {f : W → W} (hf : Weak g g' f) (hd : IdD f) {x : V} {u : Value} (h : RelV g x u) : RelV g' (x.mapW f) u := by
  cases x with
  | u => trivial
  | t x => exact RelT.map hf hd h
  | tup l => obtain ⟨us, rfl, hu⟩ := h; exact ⟨us, rfl, .map_left (hu.imp fun _ _ => RelT.map hf hd)⟩
theorem RelV.weak {g g' : G} (hf : Weak g g' id) {x : V} {u : Value} (h : RelV g x u) : RelV g' x u := by
  cases x with
  | u => trivial
  | t x => exact RelT.weak hf h
  | tup l => obtain ⟨us, rfl, hu⟩ := h; exact ⟨us, rfl, hu.imp fun _ _ => RelT.weak hf⟩

/-! parts of rows of cells -/
theorem lkGet_sub : ∀ (l : List (Nat × W)) (off n j : Nat), lkGet (lkSub off n l) j = if j < n then lkGet l (off + j) else none := by
  intro l off n j
  induction l with
  | nil => simp [lkSub, lkGet]
  | cons p r ih =>
    obtain ⟨i, x⟩ := p
    simp only [lkSub, lkGet]
    by_cases hc : off ≤ i ∧ i < off + n
    · have : (Nat.ble off i && Nat.blt i (off + n)) = true := by simp [Nat.ble_eq, Nat.blt_eq, hc]
      rw [this, cond_true]
      simp only [lkGet]
      by_cases hj : i = off + j
      · have e1 : (i - off == j) = true := by simp; omega
        have e2 : (i == off + j) = true := by simp [hj]
        rw [e1, e2, cond_true, cond_true, if_pos (by omega)]
      · have e2 : (i == off + j) = false := by simpa using hj
        have e1 : (i - off == j) = false := by simp; omega
        rw [e1, e2, cond_false, cond_false, ih]
    · have : (Nat.ble off i && Nat.blt i (off + n)) = false := by
        rw [Bool.eq_false_iff]; intro hh; simp [Nat.ble_eq, Nat.blt_eq] at hh; exact hc hh
      rw [this, cond_false, ih]
      split
      · have e2 : (i == off + j) = false := by simp; omega
        rw [e2, cond_false]
      · rfl

theorem lkGet_out : ∀ (l : List (Nat × W)) (off n j : Nat), lkGet (lkOut off n l) j = if off ≤ j ∧ j < off + n then none else lkGet l j := by
  intro l off n j
  induction l with
  | nil => simp [lkOut, lkGet]
  | cons p r ih =>
    obtain ⟨i, x⟩ := p
    simp only [lkOut, lkGet]
    by_cases hc : off ≤ i ∧ i < off + n
    · have : (Nat.ble off i && Nat.blt i (off + n)) = true := by simp [Nat.ble_eq, Nat.blt_eq, hc]
      rw [this, cond_true, ih]
      split
      · rfl
      · have e2 : (i == j) = false := by simp; omega
        rw [e2, cond_false]
    · have : (Nat.ble off i && Nat.blt i (off + n)) = false := by
        rw [Bool.eq_false_iff]; intro hh; simp [Nat.ble_eq, Nat.blt_eq] at hh; exact hc hh
      rw [this, cond_false]
      simp only [lkGet, ih]
      by_cases hj : i = j
      · subst hj
        rw [beq_self_eq_true, cond_true, if_neg hc]
        rfl
      · have e2 : (i == j) = false := by simpa using hj
        rw [e2, cond_false, cond_false]

theorem lkGet_add : ∀ (l : List (Nat × W)) (off j : Nat), lkGet (lkAdd off l) j = if off ≤ j then lkGet l (j - off) else none := by
  intro l off j
  induction l with
  | nil => simp [lkAdd, lkGet]
  | cons p r ih =>
    obtain ⟨i, x⟩ := p
    simp only [lkAdd, lkGet, ih]
    by_cases hj : off ≤ j
    · rw [if_pos hj, if_pos hj]
      by_cases he : i = j - off
      · have e1 : (off + i == j) = true := by simp; omega
        have e2 : (i == j - off) = true := by simpa using he
        rw [e1, e2]
      · have e1 : (off + i == j) = false := by simp; omega
        have e2 : (i == j - off) = false := by simpa using he
        rw [e1, e2]
    · rw [if_neg hj, if_neg hj]
      have e1 : (off + i == j) = false := by simp; omega
      rw [e1]; rfl

theorem lkGet_del (i : Nat) : ∀ (l : List (Nat × W)) (j : Nat), lkGet (lkDel i l) j = if j = i then none else lkGet l j := by
  intro l j
  induction l with
  | nil => simp [lkDel, lkGet]
  | cons p r ih =>
    obtain ⟨k, x⟩ := p
    simp only [lkDel, lkGet]
    by_cases hk : k = i
    · subst hk
      rw [beq_self_eq_true, cond_true, ih]
      by_cases hj : j = k
      · rw [if_pos hj, if_pos hj]
      · rw [if_neg hj, if_neg hj, beq_false_of_ne (fun e => hj e.symm), cond_false]
    · rw [beq_false_of_ne hk, cond_false]
      simp only [lkGet, ih]
      by_cases hj : j = i
      · subst hj; rw [beq_false_of_ne hk]; simp
      · rw [if_neg hj, if_neg hj]

theorem lkGet_ins (i : Nat) (x : W) : ∀ (l : List (Nat × W)) (j : Nat), lkGet l i = none → lkGet (lkIns i x l) j = if j = i then some x else lkGet l j := by
  intro l j
  induction l with
  | nil =>
    intro _
    simp only [lkIns, lkGet]
    by_cases hj : j = i
    · rw [if_pos hj, beq_iff_eq.2 hj.symm, cond_true]
    · rw [if_neg hj, beq_false_of_ne (fun e => hj e.symm), cond_false]
  | cons p r ih =>
    intro h
    obtain ⟨k, y⟩ := p
    have hki : k ≠ i := fun e => by subst e; simp [lkGet] at h
    have hr : lkGet r i = none := by simpa [lkGet, beq_false_of_ne hki] using h
    simp only [lkIns]
    cases Nat.blt i k with
    | true =>
      simp only [cond_true, lkGet]
      by_cases hj : j = i
      · rw [if_pos hj, beq_iff_eq.2 hj.symm, cond_true]
      · rw [if_neg hj, beq_false_of_ne (fun e => hj e.symm), cond_false]
    | false =>
      simp only [cond_false, lkGet, ih hr]
      by_cases hj : j = i
      · subst hj; rw [beq_false_of_ne hki, cond_false]; simp
      · rw [if_neg hj, if_neg hj]

theorem lkGet_insAll : ∀ (l m : List (Nat × W)) (j : Nat), lkGet (lkInsAll l m) j = match lkGet l j with | some x => some x | none => lkGet m j := by
  intro l m j
  induction l with
  | nil => rfl
  | cons p r ih =>
    obtain ⟨i, x⟩ := p
    simp only [lkInsAll]
    rw [lkGet_ins i x _ j (by rw [lkGet_del, if_pos rfl]), lkGet_del, ih]
    simp only [lkGet]
    by_cases hj : j = i
    · rw [if_pos hj, beq_iff_eq.2 hj.symm, cond_true]
    · rw [if_neg hj, if_neg hj, beq_false_of_ne (fun e => hj e.symm), cond_false]

theorem RelMx.sub {g : G} {m : M} {cs : List Value} (h : RelMx g m cs) {off n : Nat} (hle : off + n ≤ m.n) : RelMx g (m.sub off n) ((cs.drop off).take n) := by
  have h1 := h.1
  refine ⟨⟨by simp [M.sub, h1.1], by simp [M.sub]; omega⟩, fun j x u hx hu => ?_⟩
  rw [List.getElem?_take] at hu
  split at hu
  · rename_i hj
    rw [List.getElem?_drop] at hu
    refine h.2 (off + j) x u ?_ hu
    simp only [M.get, M.sub, lkGet_sub, if_pos hj] at hx
    simp only [M.get]
    rw [List.getElem?_take, if_pos hj, List.getElem?_drop] at hx
    exact hx
  · cases hu

theorem RelMx.put {g : G} {m x : M} {cs us : List Value} (h : RelMx g m cs) (hx : RelMx g x us) {off : Nat} (hle : off + x.n ≤ m.n) :
    RelMx g (m.put off x) (cs.take off ++ us ++ cs.drop (off + us.length)) := by
  have h1 := h.1
  have h2 := hx.1
  refine ⟨⟨by simp [M.put, h1, h2], by simp [M.put, h1, h2]; omega⟩, fun j y u hy hu => ?_⟩
  simp only [M.get, M.put, lkGet_insAll, lkGet_add, lkGet_out, lkGet_sub] at hy
  have hl1 : (m.l.take off).length = off := by rw [List.length_take]; omega
  have hl2 : (cs.take off).length = off := by rw [List.length_take]; omega
  by_cases hj1 : j < off
  · rw [if_neg (by omega), if_neg (by omega)] at hy
    rw [List.append_assoc, List.getElem?_append_left (by omega), List.getElem?_take, if_pos hj1] at hu
    refine h.2 j y u ?_ hu
    simp only [M.get]
    rw [List.append_assoc, List.getElem?_append_left (by omega), List.getElem?_take, if_pos hj1] at hy
    exact hy
  · by_cases hj2 : j < off + x.n
    · rw [if_pos (by omega), if_pos (by omega), if_pos ⟨by omega, hj2⟩, Nat.zero_add] at hy
      rw [List.append_assoc, List.getElem?_append_right (by omega), List.getElem?_append_left (by omega), hl2] at hu
      refine hx.2 (j - off) y u ?_ hu
      simp only [M.get]
      rw [List.append_assoc, List.getElem?_append_right (by omega), List.getElem?_append_left (by omega), hl1] at hy
      cases hq : lkGet x.lk (j - off) with
      | some z => rw [hq] at hy; exact hy
      | none => rw [hq] at hy; exact hy
    · rw [if_pos (by omega), if_neg (by omega), if_neg (by omega)] at hy
      rw [List.append_assoc, List.getElem?_append_right (by omega), List.getElem?_append_right (by omega), List.getElem?_drop, hl2] at hu
      have e1 : off + us.length + (j - off - us.length) = j := by omega
      rw [e1] at hu
      refine h.2 j y u ?_ hu
      simp only [M.get]
      rw [List.append_assoc, List.getElem?_append_right (by omega), List.getElem?_append_right (by omega), List.getElem?_drop, hl1] at hy
      have e2 : off + x.n + (j - off - x.l.length) = j := by omega
      rw [e2] at hy
      exact hy

theorem relM_of_all {g : G} {l : List C} {cs : List Value} {n : Nat} (h : All2 (RelC g.S) l cs) (hn : l.length = n) : RelMx g ⟨l, [], n⟩ cs := by
  refine ⟨⟨h.1, hn⟩, fun j x u hx hu => ?_⟩
  simp only [M.get, lkGet] at hx
  cases hc : l[j]? with
  | none => rw [hc] at hx; cases hx
  | some c => rw [hc] at hx; cases hx; exact h.2 j c u hc hu
theorem all_of_relM {g : G} {l : List C} {cs : List Value} {n : Nat} (h : RelMx g ⟨l, [], n⟩ cs) : All2 (RelC g.S) l cs :=
  ⟨h.1.1, fun j c u hc hu => h.2 j (.d c) u (by simp [M.get, lkGet, hc]) hu⟩

/-- elements, one behind the other, as cells -/
def Flat (S : Addr → Option Value) (sz : Nat) (els : List (List C)) (xs : List Value) : Prop :=
  xs.length = els.length * sz ∧ ∀ (i : Nat) e, els[i]? = some e → e.length = sz ∧ ∀ (j : Nat) c, e[j]? = some c → ∃ u, xs[i * sz + j]? = some u ∧ RelC S c u

theorem Flat.mono {S S' : Addr → Option Value} {sz : Nat} {els : List (List C)} {xs : List Value} (h : Flat S sz els xs) (hs : ∀ a v, S a = some v → S' a = some v) : Flat S' sz els xs :=
  ⟨h.1, fun i e hi => ⟨(h.2 i e hi).1, fun j c hj => let ⟨u, hu, hr⟩ := (h.2 i e hi).2 j c hj; ⟨u, hu, hr.mono hs⟩⟩⟩

/-- a row of its own: the slice, its elements as cells; it may begin anywhere in its block -/
def OwnR (w : World) (e : TypeId) (sz : Nat) (v : Value) (n : Nat) (xs : List Value) : Prop :=
  xs.length = n * sz ∧ ((v = .slice none 0 0 ∧ n = 0) ∨
    ∃ g o cap cur, v = .slice (some ⟨g, o, none⟩) n cap ∧ w.heap[g]? = some (.cells cur e (0, 0)) ∧ n ≤ cap ∧ cap ≤ maxLen ∧ o + cap * sz ≤ cur.size ∧ (cur.toList.drop o).take (n * sz) = xs)
theorem OwnR.of {w : World} {e : TypeId} {sz : Nat} {v : Value} {n : Nat} {xs : List Value} (h : w.ownsRow 0 e sz v n xs) : OwnR w e sz v n xs := by
  refine ⟨h.1, h.2.imp id ?_⟩
  rintro ⟨g, cap, cur, rfl, _, hh, h1, h2, h3, h4⟩
  exact ⟨g, 0, cap, cur, rfl, hh, h1, h2, by omega, by rw [List.drop_zero]; exact h4⟩
def Value.base : Value → Nat
  | .slice (some a) _ _ => a.off
  | _ => 0
/-- cells of a key, or of an element -/
def AgRel (S : Addr → Option Value) (ag : Bool) (n : Nat) (l : List C) (u : Value) : Prop :=
  bif ag then ∃ us : List Value, u = .agg us.toArray ∧ us.length = n ∧ All2 (RelC S) l us else ∃ c, l = [c] ∧ RelC S c u
def EntRel (S : Addr → Option Value) (ksh : List Sh) (ka va : Bool) (vn : Nat) (p : List C × List C) (e : MapEntry) : Prop :=
  shOk ksh p.1 = true ∧ AgRel S ka p.1.length p.1 e.key ∧ AgRel S va vn p.2 e.val
theorem AgRel.mono {S S' : Addr → Option Value} (hs : ∀ a v, S a = some v → S' a = some v) {ag : Bool} {n : Nat} {l : List C} {u : Value} (h : AgRel S ag n l u) : AgRel S' ag n l u := by
  cases ag with
  | true => obtain ⟨us, rfl, hn, h⟩ := h; exact ⟨us, rfl, hn, h.imp fun _ _ h => h.mono hs⟩
  | false => obtain ⟨c, rfl, h⟩ := h; exact ⟨c, rfl, h.mono hs⟩
theorem EntRel.mono {S S' : Addr → Option Value} (hs : ∀ a v, S a = some v → S' a = some v) {ksh : List Sh} {ka va : Bool} {vn : Nat} {p : List C × List C} {e : MapEntry} (h : EntRel S ksh ka va vn p e) : EntRel S' ksh ka va vn p e :=
  ⟨h.1, h.2.1.mono hs, h.2.2.mono hs⟩

def BoxRel (g : G) (w : World) (b : Nat) : Box → Prop
  | .cells m => ∃ (cs : List Value) (e : TypeId), w.heap[g.bx b]? = some (.cells cs.toArray e (0, 0)) ∧ RelMx g m cs
  | .arr mt e sz els => ∃ xs e', (∀ e0, e = some e0 → e' = e0) ∧ OwnR w e' sz (g.sl b) els.length xs ∧ Flat g.S sz els xs ∧ 0 < sz ∧ (mt = false → RelC g.S (.sl sz els) (g.sl b))
  | .iter s pos => w.heap[g.bx b]? = some (.stringIter s pos)
  | .map ksh ka va vn es => ∃ (ents : List MapEntry) (clock : Nat), w.heap[g.bx b]? = some (.map ents.toArray clock) ∧ All2 (EntRel g.S ksh ka va vn) es ents

/-- the block of a box -/
def blk (g : G) (b : Nat) : Box → Option Nat
  | .arr .. => (g.sl b).ownBlock
  | _ => some (g.bx b)

structure RelM (w0 : World) (S0 : Addr → Option Value) (O : Nat → Prop) (g : G) (bx : Bx) (w : World) : Prop where
  os : w.os = w0.os
  tape : w.tape = w0.tape
  output : w.output = w0.output
  size : w0.heap.size ≤ w.heap.size
  old : ∀ (k : Nat), k < w0.heap.size → ¬ O k → w.heap[k]? = w0.heap[k]?
  sub : ∀ a v, S0 a = some v → g.S a = some v
  new : ∀ a v, g.S a = some v → S0 a = some v ∨ w0.heap.size ≤ a.block ∨ O a.block
  mem : ∀ a v, g.S a = some v → w.cell? a = some v
  c : ∀ n, g.c n → n < bx.length
  box : ∀ (n : Nat) x, bx[n]? = some (some x) → g.c n ∧ BoxRel g w n x
  disj : ∀ (n m : Nat) x y k, bx[n]? = some (some x) → bx[m]? = some (some y) → blk g n x = some k → blk g m y = some k → n = m
  low : ∀ (n : Nat) x k, bx[n]? = some (some x) → blk g n x = some k → w0.heap.size ≤ k ∨ O k
  sep : ∀ (n : Nat) x k, bx[n]? = some (some x) → blk g n x = some k → ∀ off sp v, g.S ⟨k, off, sp⟩ = some v → ∃ e sz els, x = .arr false e sz els ∧ Value.base (g.sl n) ≤ off ∧ off < Value.base (g.sl n) + els.length * sz

/-- what package variables hold that are named by labels: pointers to blocks that nobody writes, each its own -/
def EnvOk (glob : Nat → Option (List C)) (w : World) (O : Nat → Prop) : Prop :=
  ∃ (ad : Nat → Addr), ∀ g' l n ty gs, glob g' = some l → C.er n ty gs ∈ l → ∀ (k gk : Nat), gs[k]? = some gk →
    w.cell? ⟨gk, 0, none⟩ = some (.iface ty (.pointer (some (ad gk)))) ∧ ¬ O gk ∧ ¬ O (ad gk).block ∧ (∃ c u, w.heap[(ad gk).block]? = some (.cells c u (0, 0))) ∧ ∀ (k' gk' : Nat), gs[k']? = some gk' → gk ≠ gk' → ad gk ≠ ad gk'
theorem EnvOk.empty (w : World) (O : Nat → Prop) {glob : Nat → Option (List C)} (h : ∀ g' l n ty gs, glob g' = some l → C.er n ty gs ∈ l → False) : EnvOk glob w O :=
  ⟨fun _ => ⟨0, 0, none⟩, fun g' l n ty gs hg hm => (h g' l n ty gs hg hm).elim⟩

structure Rel (w0 : World) (S0 : Addr → Option Value) (O : Nat → Prop) (g0 g : G) (st : St) (a : Act) (w : World) : Prop where
  df : a.defers = []
  len : a.tmps.size = st.env.length
  np : ∀ k, k < st.np → g.c k
  np0 : ∀ k, g0.c k ↔ k < st.np
  pin : ∀ k, k < st.np → g.bx k = g0.bx k ∧ g.sl k = g0.sl k
  env : ∀ (i : Nat) v, st.env[i]? = some v → RelV g v (a.tmps.getD i undef)
  m : RelM w0 S0 O g st.bx w

theorem ownBlk_lt {w : World} {e : TypeId} {sz n : Nat} {v : Value} {xs : List Value} (h : OwnR w e sz v n xs) {k : Nat} (hk : v.ownBlock = some k) : k < w.heap.size := by
  rcases h.2 with ⟨rfl, _⟩ | ⟨g, o, cap, cur, rfl, hh, _⟩
  · simp [Value.ownBlock] at hk
  · simp [Value.ownBlock] at hk; subst hk; exact (Array.getElem?_eq_some_iff.1 hh).1

theorem BoxRel.lt {g : G} {w : World} {n : Nat} {x : Box} (h : BoxRel g w n x) {k : Nat} (hk : blk g n x = some k) : k < w.heap.size := by
  cases x with
  | cells m => simp only [blk, Option.some.injEq] at hk; subst hk; obtain ⟨cs, e, hh, _⟩ := h; exact (Array.getElem?_eq_some_iff.1 hh).1
  | iter s p => simp only [blk, Option.some.injEq] at hk; subst hk; exact (Array.getElem?_eq_some_iff.1 h).1
  | map ksh ka va vn es => simp only [blk, Option.some.injEq] at hk; subst hk; obtain ⟨ents, cl, hh, _⟩ := h; exact (Array.getElem?_eq_some_iff.1 hh).1
  | arr mt e sz els => obtain ⟨xs, e', _, hr, _⟩ := h; exact ownBlk_lt hr hk

section
variable {w0 : World} {S0 : Addr → Option Value} {O : Nat → Prop} {g : G} {bx : Bx} {w : World}
theorem RelM.blk_lt (h : RelM w0 S0 O g bx w) {n : Nat} {x : Box} {k : Nat} (hx : bx[n]? = some (some x)) (hk : blk g n x = some k) : k < w.heap.size := (h.box n x hx).2.lt hk
theorem RelM.fresh (h : RelM w0 S0 O g bx w) : ¬ g.c bx.length := fun hc => Nat.lt_irrefl _ (h.c _ hc)
theorem RelM.S_lt (h : RelM w0 S0 O g bx w) {a : Addr} {v : Value} (ha : g.S a = some v) : a.block < w.heap.size := block_lt_of_cell (h.mem a v ha)
end

end Vm

/- Vm, part C: how the relation moves: new boxes, stores, cells that become stable, other names. -/
namespace Vm
open Go

theorem BoxRel.world {g : G} {w w' : World} {n : Nat} {x : Box} (hk : ∀ k, blk g n x = some k → w'.heap[k]? = w.heap[k]?) (h : BoxRel g w n x) : BoxRel g w' n x := by
  cases x with
  | cells m => obtain ⟨cs, e, hh, ha⟩ := h; exact ⟨cs, e, by rw [hk _ rfl]; exact hh, ha⟩
  | iter s p => simp only [BoxRel] at h ⊢; rw [hk _ rfl]; exact h
  | arr mt e sz els =>
    obtain ⟨xs, e', he', hr, hrest⟩ := h
    refine ⟨xs, e', he', ⟨hr.1, hr.2.imp id ?_⟩, hrest⟩
    rintro ⟨gb, o, cap, cur, hv, hh, r⟩
    exact ⟨gb, o, cap, cur, hv, by rw [hk gb (by simp only [blk]; rw [hv]; rfl)]; exact hh, r⟩
  | map ksh ka va vn es => obtain ⟨ents, cl, hh, ha⟩ := h; exact ⟨ents, cl, by rw [hk _ rfl]; exact hh, ha⟩

theorem BoxRel.later {g g' : G} {w : World} {n : Nat} {x : Box} (hf : Weak g g' id) (hS : ∀ a v, g.S a = some v → g'.S a = some v) (hb : g'.bx n = g.bx n) (hs : g'.sl n = g.sl n) (h : BoxRel g w n x) : BoxRel g' w n x := by
  cases x with
  | cells m => obtain ⟨cs, e, hh, ha⟩ := h; exact ⟨cs, e, by rw [hb]; exact hh, ha.weak hf⟩
  | iter s p => simp only [BoxRel] at h ⊢; rw [hb]; exact h
  | map ksh ka va vn es => obtain ⟨ents, cl, hh, ha⟩ := h; exact ⟨ents, cl, by rw [hb]; exact hh, ha.imp fun _ _ h => h.mono hS⟩
  | arr mt e sz els => obtain ⟨xs, e', he', hr, hfl, hp, hm⟩ := h; exact ⟨xs, e', he', by rw [hs]; exact hr, hfl.mono hS, hp, fun h => by rw [hs]; exact (hm h).mono hS⟩

/-- the same names mean the same -/
structure Ext (g g' : G) : Prop where
  S : ∀ a v, g.S a = some v → g'.S a = some v
  bx : ∀ n, g.c n → g'.bx n = g.bx n
  sl : ∀ n, g.c n → g'.sl n = g.sl n
  c : ∀ n, g.c n → g'.c n

theorem Ext.refl (g : G) : Ext g g := ⟨fun _ _ h => h, fun _ _ => rfl, fun _ _ => rfl, fun _ h => h⟩
theorem Ext.trans {g g' g'' : G} (h : Ext g g') (h' : Ext g' g'') : Ext g g'' :=
  ⟨fun _ _ hv => h'.S _ _ (h.S _ _ hv), fun n hn => (h'.bx n (h.c n hn)).trans (h.bx n hn), fun n hn => (h'.sl n (h.c n hn)).trans (h.sl n hn), fun n hn => h'.c n (h.c n hn)⟩

theorem Ext.weak {g g' : G} (h : Ext g g') : Weak g g' id := by
  intro x u hx
  cases x with
  | u => exact hx
  | d c => exact RelC.mono h.S hx
  | ptr b off => exact ⟨h.c _ hx.1, by rw [h.bx b hx.1]; exact hx.2⟩
  | arr b => exact ⟨h.c _ hx.1, by rw [h.sl b hx.1]; exact hx.2.1, hx.2.2⟩
  | ea b i sz off => exact ⟨h.c _ hx.1, by rw [h.sl b hx.1]; exact hx.2⟩
  | pv b off n => exact ⟨h.c _ hx.1, by rw [h.bx b hx.1]; exact hx.2⟩
  | es sz => exact hx
  | vw b lo hi mx sz => exact ⟨h.c _ hx.1, by rw [h.sl b hx.1]; exact hx.2⟩
  | mp b => exact ⟨h.c _ hx.1, by rw [h.bx b hx.1]; exact hx.2⟩
  | clo f bs =>
    refine ⟨fun b hb => h.c _ (hx.1 b hb), hx.2.trans ?_⟩
    congr 2
    exact List.map_congr_left fun b hb => by rw [h.bx b (hx.1 b hb)]

section
variable {w0 : World} {S0 : Addr → Option Value} {O : Nat → Prop} {g : G} {bx : Bx} {w : World}

/-- a step: at most one box is new or turns -/
theorem RelM.step (h : RelM w0 S0 O g bx w) {g' : G} {bx' : Bx} {w' : World} {row : Option Nat} {N : Nat} (hg : w.grownBy w' row)
    (hrow : ∀ k, row = some k → w0.heap.size ≤ k ∨ O k)
    (h1 : ∀ a v, g.S a = some v → g'.S a = some v)
    (h2 : ∀ a v, g'.S a = some v → g.S a = some v ∨ (w'.cell? a = some v ∧ (row = some a.block ∨ w.heap.size ≤ a.block)))
    (h3 : ∀ a v, g.S a = some v → row = some a.block → w'.cell? a = some v)
    (hc : ∀ n, g'.c n → n < bx'.length)
    (hbx : ∀ (n : Nat) y, bx'[n]? = some (some y) → g'.c n ∧
      ((n ≠ N ∧ bx[n]? = some (some y) ∧ blk g' n y = blk g n y ∧ (∀ k, blk g n y = some k → row ≠ some k) ∧ (BoxRel g w' n y → BoxRel g' w' n y) ∧ g'.sl n = g.sl n) ∨
       (n = N ∧ BoxRel g' w' n y ∧ (∀ k, blk g' n y = some k → row = some k ∨ w.heap.size ≤ k) ∧
         (∀ k, blk g' n y = some k → ∀ off sp v, g'.S ⟨k, off, sp⟩ = some v → ∃ e sz els, y = .arr false e sz els ∧ Value.base (g'.sl n) ≤ off ∧ off < Value.base (g'.sl n) + els.length * sz)))) : RelM w0 S0 O g' bx' w' := by
  refine ⟨hg.os.trans h.os, hg.tape.trans h.tape, hg.output.trans h.output, Nat.le_trans h.size hg.size, fun k hk hO => ?_, fun a v hv => h1 a v (h.sub a v hv), fun a v hv => ?_, fun a v hv => ?_, hc,
    fun n x hx => ?_, fun n m x y k hx hy kx ky => ?_, fun n x k hx hk => ?_, fun n x k hx hk off sp v hv => ?_⟩
  · have hne : some k ≠ row := fun e => by rcases hrow k e.symm with h4 | h4; omega; exact hO h4
    exact (hg.block k (Nat.lt_of_lt_of_le hk h.size) hne).trans (h.old k hk hO)
  · rcases h2 a v hv with h4 | ⟨_, h4 | h4⟩
    · exact h.new a v h4
    · exact .inr (hrow _ h4)
    · exact .inr (.inl (Nat.le_trans h.size h4))
  · rcases h2 a v hv with h4 | ⟨h4, _⟩
    · by_cases hr : row = some a.block
      · exact h3 a v h4 hr
      · rw [World.cell?_of_block (hg.block a.block (h.S_lt h4) (fun e => hr e.symm))]; exact h.mem a v h4
    · exact h4
  · obtain ⟨hn, h4 | h4⟩ := hbx n x hx
    · obtain ⟨_, hx0, _, hk, hl, _⟩ := h4
      refine ⟨hn, hl (BoxRel.world (fun k hb => hg.block k (h.blk_lt hx0 hb) (fun e => hk k hb e.symm)) (h.box n x hx0).2)⟩
    · exact ⟨hn, h4.2.1⟩
  · obtain ⟨_, h4 | h4⟩ := hbx n x hx <;> obtain ⟨_, h5 | h5⟩ := hbx m y hy
    · exact h.disj n m x y k h4.2.1 h5.2.1 (h4.2.2.1 ▸ kx) (h5.2.2.1 ▸ ky)
    · exfalso
      have hkx := h4.2.2.1 ▸ kx
      rcases h5.2.2.1 k ky with h6 | h6
      · exact h4.2.2.2.1 k hkx h6
      · have := h.blk_lt h4.2.1 hkx; omega
    · exfalso
      have hky := h5.2.2.1 ▸ ky
      rcases h4.2.2.1 k kx with h6 | h6
      · exact h5.2.2.2.1 k hky h6
      · have := h.blk_lt h5.2.1 hky; omega
    · rw [h4.1, h5.1]
  · obtain ⟨_, h4 | h4⟩ := hbx n x hx
    · exact h.low n x k h4.2.1 (h4.2.2.1 ▸ hk)
    · rcases h4.2.2.1 k hk with h6 | h6
      · exact hrow k h6
      · exact .inl (Nat.le_trans h.size h6)
  · obtain ⟨_, h4 | h4⟩ := hbx n x hx
    · have hk' := h4.2.2.1 ▸ hk
      rcases h2 _ v hv with h5 | ⟨_, h5 | h5⟩
      · rw [h4.2.2.2.2.2]; exact h.sep n x k h4.2.1 hk' off sp v h5
      · exact absurd h5 (h4.2.2.2.1 k hk')
      · have := h.blk_lt h4.2.1 hk'; simp at h5; omega
    · exact h4.2.2.2 k hk off sp v hv

/-- less is kept -/
theorem RelM.less (h : RelM w0 S0 O g bx w) {bx' : Bx} (hc : ∀ n, g.c n → n < bx'.length) (hb : ∀ (n : Nat) x, bx'[n]? = some (some x) → bx[n]? = some (some x)) : RelM w0 S0 O g bx' w :=
  ⟨h.os, h.tape, h.output, h.size, h.old, h.sub, h.new, h.mem, hc, fun n x hx => h.box n x (hb n x hx), fun n m x y k hx hy => h.disj n m x y k (hb n x hx) (hb m y hy),
    fun n x k hx => h.low n x k (hb n x hx), fun n x k hx => h.sep n x k (hb n x hx)⟩

/-- a new box under the next name -/
def G.push (g : G) (n k : Nat) (v : Value) : G := { g with bx := fun m => if m = n then k else g.bx m, sl := fun m => if m = n then v else g.sl m, c := fun m => m = n ∨ g.c m }
theorem G.push_ext {g : G} {n k : Nat} {v : Value} (h : ¬ g.c n) : Ext g (g.push n k v) :=
  ⟨fun _ _ h => h, fun m hm => if_neg (fun e => h (by rw [← e]; exact hm)), fun m hm => if_neg (fun e => h (by rw [← e]; exact hm)), fun m hm => .inr hm⟩

theorem push_get {α : Type} {l : List α} {x y : α} {n : Nat} (h : (l ++ [x])[n]? = some y) : (n = l.length ∧ y = x) ∨ (n < l.length ∧ l[n]? = some y) := by
  rw [List.getElem?_append] at h
  split at h
  · rename_i hl; exact .inr ⟨hl, h⟩
  · rename_i hl
    have : n - l.length = 0 := by
      by_cases h0 : n - l.length = 0
      · exact h0
      · rw [List.getElem?_eq_none (by simp; omega)] at h; cases h
    rw [this] at h; simp at h
    exact .inl ⟨by omega, h.symm⟩

theorem blk_eq {g g' : G} {n : Nat} {y : Box} (h1 : g'.bx n = g.bx n) (h2 : g'.sl n = g.sl n) : blk g' n y = blk g n y := by
  cases y <;> simp only [blk, h1, h2]

theorem RelM.boxAdd (h : RelM w0 S0 O g bx w) {w' : World} {row : Option Nat} (hg : w.grownBy w' row) (hrow : ∀ k, row = some k → w0.heap.size ≤ k ∨ O k)
    {S' : Addr → Option Value} (h1 : ∀ a v, g.S a = some v → S' a = some v)
    (h2 : ∀ a v, S' a = some v → g.S a = some v ∨ (w'.cell? a = some v ∧ (row = some a.block ∨ w.heap.size ≤ a.block)))
    (h3 : ∀ a v, g.S a = some v → row = some a.block → w'.cell? a = some v)
    (hfree : ∀ (n : Nat) y k, bx[n]? = some (some y) → blk g n y = some k → row ≠ some k)
    {x : Box} {k : Nat} {v : Value} (hb : BoxRel { g.push bx.length k v with S := S' } w' bx.length x)
    (hk : ∀ kk, blk (g.push bx.length k v) bx.length x = some kk → row = some kk ∨ w.heap.size ≤ kk)
    (hs : ∀ kk, blk (g.push bx.length k v) bx.length x = some kk → ∀ off sp u, S' ⟨kk, off, sp⟩ = some u → ∃ e sz els, x = .arr false e sz els ∧ Value.base v ≤ off ∧ off < Value.base v + els.length * sz) :
    RelM w0 S0 O { g.push bx.length k v with S := S' } (bx ++ [some x]) w' := by
  have hext : Ext g { g.push bx.length k v with S := S' } := by
    have := G.push_ext (k := k) (v := v) h.fresh
    exact ⟨h1, this.bx, this.sl, this.c⟩
  refine h.step (N := bx.length) hg hrow h1 h2 h3 (fun n hn => by rcases hn with rfl | hn; simp; have := h.c n hn; simp; omega) (fun n y hy => ?_)
  rcases push_get hy with ⟨rfl, e⟩ | ⟨hn, hy⟩
  · cases e
    have hsl : ({ g.push bx.length k v with S := S' } : G).sl bx.length = v := by simp [G.push]
    exact ⟨.inl rfl, .inr ⟨rfl, hb, hk, by rw [hsl]; exact hs⟩⟩
  · have hc := (h.box n y hy).1
    exact ⟨.inr hc, .inl ⟨by omega, hy, blk_eq (hext.bx n hc) (hext.sl n hc), fun k hk => hfree n y k hy hk, BoxRel.later hext.weak h1 (hext.bx n hc) (hext.sl n hc), hext.sl n hc⟩⟩

/-- the same with the box forgotten -/
theorem RelM.stepS (h : RelM w0 S0 O g bx w) {w' : World} {row : Option Nat} (hg : w.grownBy w' row) (hrow : ∀ k, row = some k → w0.heap.size ≤ k ∨ O k)
    {S' : Addr → Option Value} (h1 : ∀ a v, g.S a = some v → S' a = some v)
    (h2 : ∀ a v, S' a = some v → g.S a = some v ∨ (w'.cell? a = some v ∧ (row = some a.block ∨ w.heap.size ≤ a.block)))
    (h3 : ∀ a v, g.S a = some v → row = some a.block → w'.cell? a = some v)
    (hfree : ∀ (n : Nat) y k, bx[n]? = some (some y) → blk g n y = some k → row ≠ some k) : RelM w0 S0 O { g with S := S' } bx w' := by
  have hext : Ext g { g with S := S' } := ⟨h1, fun _ _ => rfl, fun _ _ => rfl, fun _ h => h⟩
  refine h.step (N := bx.length) hg hrow h1 h2 h3 h.c (fun n y hy => ?_)
  have hc := (h.box n y hy).1
  exact ⟨hc, .inl ⟨by have := h.c n hc; omega, hy, rfl, fun k hk => hfree n y k hy hk, BoxRel.later hext.weak h1 rfl rfl, rfl⟩⟩

theorem set_get {α : Type} {l : List (Option α)} {b n : Nat} {x : Option α} {y : α} (h : (l.set b x)[n]? = some (some y)) : (n = b ∧ x = some y ∧ b < l.length) ∨ (n ≠ b ∧ l[n]? = some (some y)) := by
  rw [List.getElem?_set] at h
  split at h
  · rename_i e
    split at h
    · rename_i hl; simp only [Option.some.injEq] at h; exact .inl ⟨e.symm, h, hl⟩
    · cases h
  · rename_i e; exact .inr ⟨fun e' => e e'.symm, h⟩

/-- a box's contents turn, in the world too -/
theorem RelM.boxSet (h : RelM w0 S0 O g bx w) {b : Nat} {x : Box} (hx : bx[b]? = some (some x)) {y : Option Box} {w' : World}
    (hg : w.grownBy w' (blk g b x)) (_ : w'.heap.size = w.heap.size)
    {S' : Addr → Option Value} (h1 : ∀ a v, g.S a = some v → S' a = some v)
    (h2 : ∀ a v, S' a = some v → g.S a = some v ∨ (w'.cell? a = some v ∧ blk g b x = some a.block))
    (h3 : ∀ a v, g.S a = some v → blk g b x = some a.block → w'.cell? a = some v)
    (hy : ∀ z, y = some z → BoxRel { g with S := S' } w' b z ∧ (∀ k, blk g b z = some k → blk g b x = some k) ∧
      (∀ k, blk g b z = some k → ∀ off sp u, S' ⟨k, off, sp⟩ = some u → ∃ e sz els, z = .arr false e sz els ∧ Value.base (g.sl b) ≤ off ∧ off < Value.base (g.sl b) + els.length * sz)) :
    RelM w0 S0 O { g with S := S' } (bx.set b y) w' := by
  have hext : Ext g { g with S := S' } := ⟨h1, fun _ _ => rfl, fun _ _ => rfl, fun _ h => h⟩
  refine h.step (N := b) hg (fun k hk => h.low b x k hx hk) h1 (fun a v hv => (h2 a v hv).imp id (fun h => ⟨h.1, .inl h.2⟩)) h3 (by simp; exact h.c) (fun n z hz => ?_)
  rcases set_get hz with ⟨rfl, e, _⟩ | ⟨hn, hz⟩
  · obtain ⟨h4, h5, h6⟩ := hy z e
    exact ⟨(h.box n x hx).1, .inr ⟨rfl, h4, fun k hk => .inl (h5 k hk), h6⟩⟩
  · exact ⟨(h.box n z hz).1, .inl ⟨hn, hz, rfl, fun k hk e => hn (h.disj n b z x k hz hx hk e), BoxRel.later hext.weak h1 rfl rfl, rfl⟩⟩
end

section
variable {w0 : World} {S0 : Addr → Option Value} {O : Nat → Prop} {g0 g : G} {st : St} {a : Act} {w : World}

theorem Rel.put (h : Rel w0 S0 O g0 g st a w) {dst : Option Nat} {v : V} {u : Value} (hv : RelV g v u) : Rel w0 S0 O g0 g (st.set dst v) (a.put dst u) w := by
  cases dst with
  | none => exact h
  | some d =>
    refine ⟨h.df, by simp [St.set, setV_eq, Act.put, h.len], h.np, h.np0, h.pin, fun i x hx => ?_, h.m⟩
    simp only [St.set, setV_eq, Act.put] at hx ⊢
    rw [List.getElem?_set] at hx
    by_cases hd : d = i
    · subst hd
      rw [if_pos rfl] at hx
      split at hx
      · rename_i hlt
        cases hx
        have hlt' : d < a.tmps.size := by rw [h.len]; exact hlt
        simp [hlt']
        exact hv
      · cases hx
    · rw [if_neg hd] at hx
      have := h.env i x hx
      simpa [Array.getElem?_setIfInBounds_ne hd] using this

theorem Rel.with (h : Rel w0 S0 O g0 g st a w) {g' : G} {bx' : Bx} {w' : World} (hf : Ext g g') (hm : RelM w0 S0 O g' bx' w') :
    Rel w0 S0 O g0 g' { st with bx := bx' } a w' := by
  have hp := h.np
  refine ⟨h.df, h.len, fun k hk => hf.c k (hp k hk), h.np0, fun k hk => ?_, fun i v hv => (h.env i v hv).weak hf.weak, hm⟩
  obtain ⟨h1, h2⟩ := h.pin k hk
  exact ⟨(hf.bx k (hp k hk)).trans h1, (hf.sl k (hp k hk)).trans h2⟩
end
end Vm

/- Vm, part D: names: a state under other names, what a call is handed, what comes back. -/
namespace Vm
open Go

theorem memN_iff {b : Nat} : ∀ {l : List Nat}, memN b l = true ↔ b ∈ l := by
  intro l
  induction l with
  | nil => simp [memN]
  | cons c r ih =>
    simp only [memN, Bool.or_eq_true, beq_iff_eq, ih, List.mem_cons]
    constructor
    · rintro (h | h)
      · exact .inl h.symm
      · exact .inr h
    · rintro (h | h)
      · exact .inl h.symm
      · exact .inr h

/-- names, each once, behind some that were -/
structure Grow (bx : Bx) (acc l : List Nat) : Prop where
  nodup : acc.Nodup → l.Nodup
  pre : ∃ m, l = acc ++ m
  live : ∀ b ∈ l, b ∈ acc ∨ ∃ x, bx[b]? = some (some x)

theorem Grow.refl (bx : Bx) (acc : List Nat) : Grow bx acc acc := ⟨id, ⟨[], by simp⟩, fun b hb => .inl hb⟩
theorem Grow.trans {bx : Bx} {a b c : List Nat} (h : Grow bx a b) (h' : Grow bx b c) : Grow bx a c := by
  refine ⟨fun h0 => h'.nodup (h.nodup h0), ?_, fun x hx => ?_⟩
  · obtain ⟨m, rfl⟩ := h.pre; obtain ⟨m', rfl⟩ := h'.pre; exact ⟨m ++ m', by simp⟩
  · rcases h'.live x hx with h1 | h1
    · exact h.live x h1
    · exact .inr h1

theorem getD_some {α : Type} {l : List (Option α)} {b : Nat} {x : α} (h : l.getD b none = some x) : l[b]? = some (some x) := by
  rw [List.getD_eq_getElem?_getD] at h
  cases hq : l[b]? with
  | none => rw [hq] at h; simp at h
  | some y => rw [hq] at h; simp at h; rw [h]

theorem addNames_grow (bx : Bx) : ∀ (l acc : List Nat), Grow bx acc (addNames bx acc l) := by
  intro l
  induction l with
  | nil => intro acc; exact .refl bx acc
  | cons b r ih =>
    intro acc
    simp only [addNames]
    cases hm : memN b acc with
    | true => exact ih acc
    | false =>
      rw [cond_false]
      cases hb : bx.getD b none with
      | none => exact ih acc
      | some x =>
        refine Grow.trans ?_ (ih (acc ++ [b]))
        have hnb : b ∉ acc := fun h => by rw [memN_iff.2 h] at hm; cases hm
        refine ⟨fun h => ?_, ⟨[b], rfl⟩, fun c hc => ?_⟩
        · rw [List.nodup_append]
          refine ⟨h, by simp, fun a ha c hc => ?_⟩
          simp at hc; subst hc; exact fun e => hnb (e ▸ ha)
        · rcases List.mem_append.1 hc with h | h
          · exact .inl h
          · simp at h; subst h; exact .inr ⟨x, getD_some hb⟩

theorem reach_grow (bx : Bx) : ∀ (n i : Nat) (acc : List Nat), Grow bx acc (reach bx n i acc) := by
  intro n
  induction n with
  | zero => intro i acc; exact .refl bx acc
  | succ n ih =>
    intro i acc
    simp only [reach]
    cases acc[i]? with
    | none => exact .refl bx acc
    | some b =>
      simp only
      cases bx.getD b none with
      | none => exact ih _ _
      | some x => exact (addNames_grow bx _ acc).trans (ih _ _)

theorem reachAll_grow (bx : Bx) (acc roots : List Nat) : Grow bx acc (reachAll bx acc roots) := (addNames_grow bx roots acc).trans (reach_grow bx _ _ _)

theorem idx_some {b k : Nat} : ∀ {l : List Nat}, idx b l = some k → l[k]? = some b := by
  intro l
  induction l generalizing k with
  | nil => intro h; cases h
  | cons c r ih =>
    intro h
    simp only [idx] at h
    cases hc : c == b with
    | true => rw [hc] at h; simp at h hc; subst h hc; rfl
    | false =>
      rw [hc] at h; simp only [cond_false] at h
      cases hi : idx b r with
      | none => rw [hi] at h; cases h
      | some j => rw [hi] at h; simp at h; subst h; simpa using ih hi

def G.ren (g : G) (order : List Nat) : G := { S := g.S, bx := fun k => g.bx (order.getD k 0), sl := fun k => g.sl (order.getD k 0), c := fun k => k < order.length }

theorem getD_of {l : List Nat} {k b : Nat} (h : l[k]? = some b) : l.getD k 0 = b := by rw [List.getD_eq_getElem?_getD, h]; rfl
theorem lt_of {α : Type} {l : List α} {k : Nat} {b : α} (h : l[k]? = some b) : k < l.length := (List.getElem?_eq_some_iff.1 h).1

theorem ren_idD (f : Nat → Option Nat) : IdD (W.ren f) := fun _ => rfl

theorem renAll_some {f : Nat → Option Nat} : ∀ {bs l : List Nat}, renAll f bs = some l → All2 (fun b k => f b = some k) bs l := by
  intro bs
  induction bs with
  | nil => intro l h; simp [renAll] at h; subst h; exact .nil
  | cons b r ih =>
    intro l h
    simp only [renAll] at h
    cases h1 : f b with
    | none => rw [h1] at h; cases h
    | some k =>
      rw [h1] at h
      cases h2 : renAll f r with
      | none => rw [h2] at h; cases h
      | some q => rw [h2] at h; cases h; exact .cons h1 (ih h2)
/-- names turn by a map -/
theorem weak_ren {g g' : G} {f : Nat → Option Nat} (hS : ∀ a v, g.S a = some v → g'.S a = some v) (hf : ∀ b k, g.c b → f b = some k → g'.c k ∧ g'.bx k = g.bx b ∧ g'.sl k = g.sl b) : Weak g g' (W.ren f) := by
  intro x u hx
  cases x with
  | u => exact hx
  | d c => exact RelC.mono hS hx
  | ptr b off =>
    simp only [W.ren]
    cases hi : f b with
    | none => exact RelW.one hx
    | some k => obtain ⟨h1, h2, _⟩ := hf b k hx.1 hi; exact ⟨h1, by rw [h2]; exact hx.2⟩
  | arr b =>
    simp only [W.ren]
    cases hi : f b with
    | none => exact RelW.one hx
    | some k => obtain ⟨h1, _, h2⟩ := hf b k hx.1 hi; exact ⟨h1, by rw [h2]; exact hx.2.1, hx.2.2⟩
  | ea b i sz off =>
    simp only [W.ren]
    cases hi : f b with
    | none => exact RelW.one hx
    | some k => obtain ⟨h1, _, h2⟩ := hf b k hx.1 hi; exact ⟨h1, by rw [h2]; exact hx.2⟩
  | pv b off n =>
    simp only [W.ren]
    cases hi : f b with
    | none => exact RelW.one hx
    | some k => obtain ⟨h1, h2, _⟩ := hf b k hx.1 hi; exact ⟨h1, by rw [h2]; exact hx.2⟩
  | es sz => exact hx
  | vw b lo hi mx sz =>
    simp only [W.ren]
    cases hi : f b with
    | none => exact RelW.one hx
    | some k => obtain ⟨h1, _, h2⟩ := hf b k hx.1 hi; exact ⟨h1, by rw [h2]; exact hx.2⟩
  | mp b =>
    simp only [W.ren]
    cases hi : f b with
    | none => exact RelW.one hx
    | some k => obtain ⟨h1, h2, _⟩ := hf b k hx.1 hi; exact ⟨h1, by rw [h2]; exact hx.2⟩
  | clo fn bs =>
    simp only [W.ren]
    cases hi : renAll f bs with
    | none => exact RelW.one hx
    | some l =>
      have hl := renAll_some hi
      refine ⟨fun k hk => ?_, hx.2.trans ?_⟩
      · obtain ⟨j, hj, rfl⟩ := List.getElem_of_mem hk
        have hjb : j < bs.length := by rw [← hl.1]; exact hj
        exact (hf _ _ (hx.1 _ (List.getElem_mem hjb)) (hl.2 j _ _ (List.getElem?_eq_getElem hjb) (List.getElem?_eq_getElem hj))).1
      · congr 2
        apply List.ext_getElem?
        intro j
        simp only [List.getElem?_map]
        cases hb : bs[j]? with
        | none => rw [List.getElem?_eq_none (by rw [hl.1]; exact List.getElem?_eq_none_iff.1 hb)]; rfl
        | some b =>
          obtain ⟨k, hk, hfk⟩ := hl.get hb
          rw [hk]
          simp only [Option.map_some]
          rw [(hf b k (hx.1 b (List.mem_of_getElem? hb)) hfk).2.1]

theorem weak_idx (g : G) (order : List Nat) : Weak g (g.ren order) (W.ren fun b => idx b order) :=
  weak_ren (fun _ _ h => h) (fun b k _ h => ⟨lt_of (idx_some h), by simp only [G.ren]; rw [getD_of (idx_some h)], by simp only [G.ren]; rw [getD_of (idx_some h)]⟩)

theorem BoxRel.map {g g' : G} {w : World} {n n' : Nat} {x : Box} {f : W → W} (hf : Weak g g' f) (hd : IdD f) (hS : ∀ a v, g.S a = some v → g'.S a = some v) (hb : g'.bx n' = g.bx n) (hs : g'.sl n' = g.sl n)
    (h : BoxRel g w n x) : BoxRel g' w n' (x.mapW f) := by
  cases x with
  | cells m => obtain ⟨cs, e, hh, ha⟩ := h; exact ⟨cs, e, by rw [hb]; exact hh, ha.map hf hd⟩
  | iter s p => simp only [BoxRel, Box.mapW] at h ⊢; rw [hb]; exact h
  | map ksh ka va vn es => obtain ⟨ents, cl, hh, ha⟩ := h; exact ⟨ents, cl, by rw [hb]; exact hh, ha.imp fun _ _ h => h.mono hS⟩
  | arr mt e sz els => obtain ⟨xs, e', he', hr, hfl, hp, hm⟩ := h; exact ⟨xs, e', he', by rw [hs]; exact hr, hfl.mono hS, hp, fun h => by rw [hs]; exact (hm h).mono hS⟩

theorem blk_map {g g' : G} {n n' : Nat} {x : Box} {f : W → W} (hb : g'.bx n' = g.bx n) (hs : g'.sl n' = g.sl n) : blk g' n' (x.mapW f) = blk g n x := by
  cases x <;> simp only [blk, Box.mapW, hb, hs]

theorem map_arr {x : Box} {f : W → W} {e : Option TypeId} {sz : Nat} {els : List (List C)} (h : x = .arr false e sz els) : x.mapW f = .arr false e sz els := by subst h; rfl
theorem arr_map {x : Box} {f : W → W} {e : Option TypeId} {sz : Nat} {els : List (List C)} (h : x.mapW f = .arr false e sz els) : x = .arr false e sz els := by
  cases x <;> simp [Box.mapW] at h ⊢ <;> exact h

theorem renBx_get {order : List Nat} {bx : Bx} {k : Nat} {y : Box} (h : (renBx order bx)[k]? = some (some y)) : ∃ b x, order[k]? = some b ∧ bx[b]? = some (some x) ∧ y = x.mapW (.ren fun b => idx b order) := by
  simp only [renBx, List.getElem?_map, Option.map_eq_some_iff] at h
  obtain ⟨b, hb, hx⟩ := h
  cases hq : bx.getD b none with
  | none => rw [hq] at hx; cases hx
  | some x => rw [hq] at hx; cases hx; exact ⟨b, x, hb, getD_some hq, rfl⟩

theorem ren_at {g : G} {order : List Nat} {k b : Nat} (h : order[k]? = some b) : (g.ren order).bx k = g.bx b ∧ (g.ren order).sl k = g.sl b := by
  simp only [G.ren]; rw [getD_of h]; exact ⟨rfl, rfl⟩

theorem nodup_inj {l : List Nat} (h : l.Nodup) {i j b : Nat} (hi : l[i]? = some b) (hj : l[j]? = some b) : i = j := by
  obtain ⟨h1, h2⟩ := List.getElem?_eq_some_iff.1 hi
  obtain ⟨h3, h4⟩ := List.getElem?_eq_some_iff.1 hj
  have hp := List.pairwise_iff_getElem.1 h
  rcases Nat.lt_trichotomy i j with h5 | h5 | h5
  · exact absurd (h2.trans h4.symm) (hp i j h1 h3 h5)
  · exact h5
  · exact absurd (h4.trans h2.symm) (hp j i h3 h1 h5)

section
variable {w0 : World} {S0 : Addr → Option Value} {O : Nat → Prop} {g0 g : G} {bx : Bx} {st : St} {a : Act} {w : World}

theorem RelM.ren (h : RelM w0 S0 O g bx w) {order : List Nat} (hn : order.Nodup) : RelM w0 S0 O (g.ren order) (renBx order bx) w := by
  refine ⟨h.os, h.tape, h.output, h.size, h.old, h.sub, h.new, h.mem, by simp [G.ren, renBx], fun n y hy => ?_, fun n m x y k hx hy kx ky => ?_, fun n x k hx hk => ?_, fun n x k hx hk off sp v hv => ?_⟩
  · obtain ⟨b, x, hb, hx, rfl⟩ := renBx_get hy
    exact ⟨lt_of hb, BoxRel.map (weak_idx g order) (ren_idD _) (fun _ _ h => h) (ren_at hb).1 (ren_at hb).2 (h.box b x hx).2⟩
  · obtain ⟨b, x', hb, hx', rfl⟩ := renBx_get hx
    obtain ⟨c, y', hc, hy', rfl⟩ := renBx_get hy
    rw [blk_map (ren_at hb).1 (ren_at hb).2] at kx
    rw [blk_map (ren_at hc).1 (ren_at hc).2] at ky
    have := h.disj b c x' y' k hx' hy' kx ky
    subst this
    exact nodup_inj hn hb hc
  · obtain ⟨b, x', hb, hx', rfl⟩ := renBx_get hx
    rw [blk_map (ren_at hb).1 (ren_at hb).2] at hk
    exact h.low b x' k hx' hk
  · obtain ⟨b, x', hb, hx', rfl⟩ := renBx_get hx
    rw [blk_map (ren_at hb).1 (ren_at hb).2] at hk
    obtain ⟨e, sz, els, h1, h2⟩ := h.sep b x' k hx' hk off sp v hv
    exact ⟨e, sz, els, map_arr h1, by rw [(ren_at hb).2]; exact h2⟩

theorem vs_ren (h : ∀ (i : Nat) v, st.env[i]? = some v → RelV g v (a.tmps.getD i undef)) (order : List Nat) (i : Nat) (v : V) (hv : (renVs order st.env)[i]? = some v) : RelV (g.ren order) v (a.tmps.getD i undef) := by
  simp only [renVs, List.getElem?_map, Option.map_eq_some_iff] at hv
  obtain ⟨y, hy, rfl⟩ := hv
  exact (h i y hy).map (weak_idx g order) (ren_idD _)

theorem canon_rel (h : Rel w0 S0 O g0 g st a w) : ∃ g', Rel w0 S0 O g0 g' (canonSt st) a w := by
  rw [canonSt_eq]
  have hgr := reachAll_grow st.bx (List.range st.np) (vsNames st.env)
  generalize reachAll st.bx (List.range st.np) (vsNames st.env) = order at hgr
  obtain ⟨m, hm⟩ := hgr.pre
  have hn := hgr.nodup List.nodup_range
  have hk : ∀ k, k < st.np → order[k]? = some k := fun k hk => by
    rw [hm, List.getElem?_append_left (by simpa using hk)]; simp [hk]
  refine ⟨g.ren order, h.df, by simp [renVs, h.len], fun k hlt => lt_of (hk k hlt), h.np0, fun k hlt => ?_, vs_ren h.env order, h.m.ren hn⟩
  obtain ⟨h1, h2⟩ := ren_at (g := g) (hk k hlt)
  obtain ⟨h3, h4⟩ := h.pin k hlt
  exact ⟨h1.trans h3, h2.trans h4⟩

/-- what a call is handed -/
def Passed (g : G) (order : List Nat) (bx : Bx) (k : Nat) : Prop := ∃ b x, b ∈ order ∧ bx[b]? = some (some x) ∧ blk g b x = some k

theorem EnvOk.enter {glob : Nat → Option (List C)} (he : EnvOk glob w0 O) (h : RelM w0 S0 O g bx w) (order : List Nat) : EnvOk glob w (Passed g order bx) := by
  obtain ⟨ad, ha⟩ := he
  have hp : ∀ k, k < w0.heap.size → ¬ O k → ¬ Passed g order bx k := by
    rintro k h1 h2 ⟨b, x, _, hx, hb⟩
    rcases h.low b x k hx hb with h3 | h3
    · omega
    · exact h2 h3
  refine ⟨ad, fun g' l n ty gs hg hm k gk hk => ?_⟩
  obtain ⟨h1, h2, h3, ⟨c, u, h4⟩, h5⟩ := ha g' l n ty gs hg hm k gk hk
  have b1 : gk < w0.heap.size := World.block_lt_of_cell? w0 ⟨gk, 0, none⟩ h1
  have b2 : (ad gk).block < w0.heap.size := (Array.getElem?_eq_some_iff.1 h4).1
  refine ⟨?_, hp _ b1 h2, hp _ b2 h3, ⟨c, u, by rw [h.old _ b2 h3]; exact h4⟩, h5⟩
  have e : w.cell? ⟨gk, 0, none⟩ = w0.cell? ⟨gk, 0, none⟩ := by unfold World.cell?; rw [h.old _ b1 h2]
  rw [e]; exact h1

theorem RelM.enter (h : RelM w0 S0 O g bx w) {order : List Nat} (hn : order.Nodup) : RelM w g.S (Passed g order bx) (g.ren order) (renBx order bx) w := by
  have h' := h.ren hn
  refine ⟨rfl, rfl, rfl, Nat.le_refl _, fun _ _ _ => rfl, fun _ _ h => h, fun _ _ h => .inl h, h.mem, h'.c, h'.box, h'.disj, fun n y k hy hk => ?_, h'.sep⟩
  obtain ⟨b, x, hb, hx, rfl⟩ := renBx_get hy
  rw [blk_map (ren_at hb).1 (ren_at hb).2] at hk
  exact .inr ⟨b, x, List.mem_of_getElem? hb, hx, hk⟩

theorem setAll_len : ∀ (order : List Nat) (xs bx : Bx), (setAll order xs bx).length = bx.length := by
  intro order
  induction order with
  | nil => intro xs bx; simp [setAll]
  | cons b r ih =>
    intro xs bx
    cases xs with
    | nil => simp [setAll]
    | cons x q => simp [setAll, ih]

theorem setAll_get : ∀ (order : List Nat) (xs bx : Bx), order.Nodup → ∀ (n : Nat) y, (setAll order xs bx)[n]? = some (some y) →
    (∃ j : Nat, order[j]? = some n ∧ xs[j]? = some (some y)) ∨ ((∀ j : Nat, order[j]? = some n → xs.length ≤ j) ∧ bx[n]? = some (some y)) := by
  intro order
  induction order with
  | nil => intro xs bx _ n y h; exact .inr ⟨fun j hj => by simp at hj, by simpa [setAll] using h⟩
  | cons b r ih =>
    intro xs bx hn n y h
    have hnr := (List.nodup_cons.1 hn)
    cases xs with
    | nil => exact .inr ⟨fun j _ => by simp, by simpa [setAll] using h⟩
    | cons x q =>
      simp only [setAll] at h
      rcases ih q (bx.set b x) hnr.2 n y h with ⟨j, h1, h2⟩ | ⟨h1, h2⟩
      · exact .inl ⟨j + 1, by simpa using h1, by simpa using h2⟩
      · rcases set_get h2 with ⟨rfl, e, _⟩ | ⟨hne, h2⟩
        · exact .inl ⟨0, rfl, by simp [e]⟩
        · refine .inr ⟨fun j hj => ?_, h2⟩
          cases j with
          | zero => simp at hj; exact absurd hj.symm hne
          | succ j => have := h1 j (by simpa using hj); simp; omega

/-- what stands behind names once a call is back -/
def G.back (g g' : G) (N K L : Nat) : G :=
  { S := g'.S, bx := fun n => if n < N then g.bx n else g'.bx (K + (n - N)), sl := fun n => if n < N then g.sl n else g'.sl (K + (n - N)), c := fun k => (k < N ∧ g.c k) ∨ (N ≤ k ∧ k < N + (L - K)) }

theorem weak_back {g' : G} {order : List Nat} {N L : Nat} (hpin : ∀ k, k < order.length → g'.bx k = (g.ren order).bx k ∧ g'.sl k = (g.ren order).sl k) (hlt : ∀ b ∈ order, b < N) (hlv : ∀ b ∈ order, g.c b) (hc : ∀ n, g'.c n → n < L) :
    Weak g' (g.back g' N order.length L) (W.ren (Vm.back order N)) := by
  refine weak_ren (fun _ _ h => h) (fun k n hk hb => ?_)
  unfold Vm.back at hb
  cases ho : order[k]? with
  | some b =>
    rw [ho] at hb; cases hb
    have h1 := hlt n (List.mem_of_getElem? ho)
    obtain ⟨h2, h3⟩ := hpin k (lt_of ho)
    obtain ⟨h4, h5⟩ := ren_at (g := g) ho
    simp only [G.back]
    exact ⟨.inl ⟨h1, hlv n (List.mem_of_getElem? ho)⟩, by rw [if_pos h1, h2, h4], by rw [if_pos h1, h3, h5]⟩
  | none =>
    rw [ho] at hb; cases hb
    have h1 : order.length ≤ k := List.getElem?_eq_none_iff.1 ho
    simp only [G.back]
    have hkL := hc k hk
    refine ⟨.inr ⟨by omega, by omega⟩, ?_, ?_⟩ <;> (rw [if_neg (by omega)]; congr 1; omega)

theorem RelM.back (h : RelM w0 S0 O g bx w) {order : List Nat} (hn : order.Nodup) (hlive : ∀ b ∈ order, ∃ x, bx[b]? = some (some x)) {g' : G} {bxs : Bx} {w' : World}
    (h' : RelM w g.S (Passed g order bx) g' bxs w') (hpin : ∀ k, k < order.length → g'.bx k = (g.ren order).bx k ∧ g'.sl k = (g.ren order).sl k) (hK : order.length ≤ bxs.length) :
    let g2 := g.back g' bx.length order.length bxs.length
    Ext g g2 ∧ RelM w0 S0 O g2 (({ env := [], bx := bx, np := 0 } : St).return order bxs).bx w' := by
  have hlt : ∀ b ∈ order, b < bx.length := fun b hb => by obtain ⟨x, hx⟩ := hlive b hb; exact lt_of hx
  have hlv : ∀ b ∈ order, g.c b := fun b hb => by obtain ⟨x, hx⟩ := hlive b hb; exact (h.box b x hx).1
  have hwk := weak_back (g := g) hpin hlt hlv h'.c
  have hext : Ext g (g.back g' bx.length order.length bxs.length) :=
    ⟨fun a v hv => h'.sub a v hv, fun n hn => by simp only [G.back]; rw [if_pos (h.c n hn)], fun n hn => by simp only [G.back]; rw [if_pos (h.c n hn)], fun n hn => .inl ⟨h.c n hn, hn⟩⟩
  refine ⟨hext, ?_⟩
  -- whose a box is
  have hcase : ∀ (n : Nat) y, (({ env := [], bx := bx, np := 0 } : St).return order bxs).bx[n]? = some (some y) →
      (n < bx.length ∧ n ∉ order ∧ bx[n]? = some (some y)) ∨
      (∃ k x, bxs[k]? = some (some x) ∧ y = x.mapW (.ren (Vm.back order bx.length)) ∧ Vm.back order bx.length k = some n ∧ (g.back g' bx.length order.length bxs.length).c n ∧
        (g.back g' bx.length order.length bxs.length).bx n = g'.bx k ∧ (g.back g' bx.length order.length bxs.length).sl n = g'.sl k) := by
    intro n y hy
    simp only [St.return] at hy
    have hmap : ∀ (l : Bx) (j : Nat), (l.map (Option.map (Box.mapW (.ren (Vm.back order bx.length)))))[j]? = some (some y) → ∃ x, l[j]? = some (some x) ∧ y = x.mapW (.ren (Vm.back order bx.length)) := by
      intro l j hj
      simp only [List.getElem?_map, Option.map_eq_some_iff] at hj
      obtain ⟨o, ho, hx⟩ := hj
      cases o with
      | none => simp at hx
      | some x => simp at hx; obtain rfl := hx; exact ⟨x, ho, rfl⟩
    rw [List.getElem?_append, setAll_len] at hy
    split at hy
    · rename_i hnl
      rcases setAll_get order _ bx hn n y hy with ⟨j, h1, h2⟩ | ⟨h1, h2⟩
      · obtain ⟨x, hx, e⟩ := hmap _ _ h2
        refine .inr ⟨j, x, hx, e, by simp [Vm.back, h1], .inl ⟨hnl, hlv n (List.mem_of_getElem? h1)⟩, ?_, ?_⟩
        · simp only [G.back]; rw [if_pos hnl, (hpin j (lt_of h1)).1, (ren_at h1).1]
        · simp only [G.back]; rw [if_pos hnl, (hpin j (lt_of h1)).2, (ren_at h1).2]
      · refine .inl ⟨hnl, fun hm => ?_, h2⟩
        obtain ⟨j, hj, hjb⟩ := List.getElem_of_mem hm
        have := h1 j (by rw [List.getElem?_eq_getElem hj, hjb])
        simp at this; omega
    · rename_i hnl
      obtain ⟨x, hx, e⟩ := hmap _ _ hy
      rw [List.getElem?_drop] at hx
      refine .inr ⟨order.length + (n - bx.length), x, hx, e, ?_, ?_, ?_, ?_⟩
      · have : order[order.length + (n - bx.length)]? = none := List.getElem?_eq_none_iff.2 (by omega)
        simp only [Vm.back, this]
        congr 1; omega
      · have := lt_of hx; exact .inr ⟨by omega, by omega⟩
      · simp only [G.back]; rw [if_neg hnl]
      · simp only [G.back]; rw [if_neg hnl]
  have hnotO : ∀ (n : Nat) y k, n ∉ order → bx[n]? = some (some y) → blk g n y = some k → ¬ Passed g order bx k := by
    rintro n y k hno hy hk ⟨b, x, hb, hx, hbk⟩
    exact hno (h.disj n b y x k hy hx hk hbk ▸ hb)
  have hOlow : ∀ k, Passed g order bx k → k < w.heap.size ∧ (w0.heap.size ≤ k ∨ O k) := by
    rintro k ⟨b, x, _, hx, hk⟩
    exact ⟨h.blk_lt hx hk, h.low b x k hx hk⟩
  have hlowN : ∀ k, (w.heap.size ≤ k ∨ Passed g order bx k) → w0.heap.size ≤ k ∨ O k := by
    rintro k (h1 | h1)
    · exact .inl (Nat.le_trans h.size h1)
    · exact (hOlow k h1).2
  have hblkB : ∀ (n : Nat) y, n < bx.length → blk (g.back g' bx.length order.length bxs.length) n y = blk g n y := by
    intro n y hnl
    exact blk_eq (by simp only [G.back]; rw [if_pos hnl]) (by simp only [G.back]; rw [if_pos hnl])
  refine ⟨h'.os.trans h.os, h'.tape.trans h.tape, h'.output.trans h.output, Nat.le_trans h.size h'.size, fun k hk hO => ?_, fun a v hv => h'.sub a v (h.sub a v hv), fun a v hv => ?_, h'.mem, ?_, fun n y hy => ?_,
    fun n m x y k hx hy kx ky => ?_, fun n y k hy hk => ?_, fun n y k hy hk off sp v hv => ?_⟩
  · refine (h'.old k (Nat.lt_of_lt_of_le hk h.size) fun hp => ?_).trans (h.old k hk hO)
    rcases (hOlow k hp).2 with h1 | h1
    · omega
    · exact hO h1
  · rcases h'.new a v hv with h1 | h1
    · exact h.new a v h1
    · exact .inr (hlowN a.block h1)
  · intro n hn
    simp only [St.return, List.length_append, setAll_len, List.length_map, List.length_drop]
    rcases hn with ⟨h1, _⟩ | ⟨h1, h2⟩ <;> omega
  · rcases hcase n y hy with ⟨hnl, hno, hy0⟩ | ⟨k, x, hx, rfl, _, hlt2, hb, hs⟩
    · have hb := h.box n y hy0
      refine ⟨hext.c _ hb.1, ?_⟩
      refine BoxRel.later hext.weak hext.S (hext.bx n hb.1) (hext.sl n hb.1) (BoxRel.world (fun k hk => ?_) hb.2)
      exact h'.old k (h.blk_lt hy0 hk) (hnotO n y k hno hy0 hk)
    · exact ⟨hlt2, BoxRel.map hwk (ren_idD _) (fun _ _ h => h) hb hs (h'.box k x hx).2⟩
  · rcases hcase n x hx with ⟨hnl, hno, hx0⟩ | ⟨i, x', hx', rfl, hbi, _, hb, hs⟩ <;> rcases hcase m y hy with ⟨hml, hmo, hy0⟩ | ⟨j, y', hy', rfl, hbj, _, hb2, hs2⟩
    · rw [hblkB n x hnl] at kx; rw [hblkB m y hml] at ky
      exact h.disj n m x y k hx0 hy0 kx ky
    · exfalso
      rw [hblkB n x hnl] at kx; rw [blk_map hb2 hs2] at ky
      rcases h'.low j y' k hy' ky with h1 | h1
      · have := h.blk_lt hx0 kx; omega
      · exact hnotO n x k hno hx0 kx h1
    · exfalso
      rw [hblkB m y hml] at ky; rw [blk_map hb hs] at kx
      rcases h'.low i x' k hx' kx with h1 | h1
      · have := h.blk_lt hy0 ky; omega
      · exact hnotO m y k hmo hy0 ky h1
    · rw [blk_map hb hs] at kx; rw [blk_map hb2 hs2] at ky
      have := h'.disj i j x' y' k hx' hy' kx ky
      subst this
      rw [hbi] at hbj; cases hbj; rfl
  · rcases hcase n y hy with ⟨hnl, hno, hy0⟩ | ⟨i, x', hx', rfl, _, _, hb, hs⟩
    · rw [hblkB n y hnl] at hk; exact h.low n y k hy0 hk
    · rw [blk_map hb hs] at hk; exact hlowN k (h'.low i x' k hx' hk)
  · rcases hcase n y hy with ⟨hnl, hno, hy0⟩ | ⟨i, x', hx', rfl, _, _, hb, hs⟩
    · rw [hblkB n y hnl] at hk
      rcases h'.new _ v hv with h1 | h1 | h1
      · rw [hext.sl n (h.box n y hy0).1]; exact h.sep n y k hy0 hk off sp v h1
      · have := h.blk_lt hy0 hk; simp at h1; omega
      · exact absurd h1 (hnotO n y k hno hy0 hk)
    · rw [blk_map hb hs] at hk
      obtain ⟨e, sz, els, h1, h2⟩ := h'.sep i x' k hx' hk off sp v hv
      exact ⟨e, sz, els, map_arr h1, by rw [hs]; exact h2⟩
end
end Vm

/- Vm, part E: rows of elements, cells that become stable, values that are handed on. -/
namespace Vm
open Go

theorem relC_int {S : Addr → Option Value} {k : IntKind} {n : Int} {u : Value} (h : RelC S (.int k n) u) : u = .int k n := by cases h; rfl
theorem relC_bool {S : Addr → Option Value} {b : Bool} {u : Value} (h : RelC S (.bool b) u) : u = .bool b := by cases h; rfl
theorem relC_str {S : Addr → Option Value} {s : ByteArray} {u : Value} (h : RelC S (.str s) u) : u = .string s := by cases h; rfl
theorem relC_sl {S : Addr → Option Value} {sz : Nat} {els : List (List C)} {u : Value} (h : RelC S (.sl sz els) u) :
    ∃ (A : Option Addr) (cap : Nat) (uf : Nat → Nat → Value), u = .slice A els.length cap ∧ els.length ≤ cap ∧ (∀ e ∈ els, e.length = sz) ∧ (els ≠ [] → ∃ a, A = some a) ∧ (els ≠ [] → ∀ a, A = some a → a.spot = none) ∧
      (∀ a, A = some a → ∀ (i : Nat) e, els[i]? = some e → ∀ (j : Nat) c, e[j]? = some c → S (a.add (i * sz + j)) = some (uf i j)) ∧
      (∀ (i : Nat) e, els[i]? = some e → ∀ (j : Nat) c, e[j]? = some c → RelC S c (uf i j)) := by
  cases h with
  | sl sz els A cap uf hc hsz hA hsp hS hr => exact ⟨A, cap, uf, rfl, hc, hsz, hA, hsp, hS, hr⟩


theorem relC_nil (S : Addr → Option Value) (sz : Nat) : RelC S (.sl sz []) (.slice none 0 0) :=
  .sl sz [] none 0 (fun _ _ => undef) (by simp) (by simp) (by simp) (by simp) (by simp) (by simp)

theorem add_plain' (gb o j : Nat) : (⟨gb, o, none⟩ : Addr).add j = ⟨gb, o + j, none⟩ := by
  unfold Addr.add; split
  · rename_i h; subst h; rfl
  · rfl

theorem Flat.append {S : Addr → Option Value} {sz : Nat} {els els2 : List (List C)} {xs ys : List Value} (h : Flat S sz els xs) (h2 : Flat S sz els2 ys) : Flat S sz (els ++ els2) (xs ++ ys) := by
  refine ⟨by simp [h.1, h2.1, Nat.add_mul], fun i e hi => ?_⟩
  by_cases hlt : i < els.length
  · rw [List.getElem?_append_left hlt] at hi
    obtain ⟨h3, h4⟩ := h.2 i e hi
    refine ⟨h3, fun j c hj => ?_⟩
    obtain ⟨u, hu, hr⟩ := h4 j c hj
    have := (List.getElem?_eq_some_iff.1 hu).1
    exact ⟨u, by rw [List.getElem?_append_left this]; exact hu, hr⟩
  · rw [List.getElem?_append_right (by omega)] at hi
    obtain ⟨h3, h4⟩ := h2.2 _ e hi
    refine ⟨h3, fun j c hj => ?_⟩
    obtain ⟨u, hu, hr⟩ := h4 j c hj
    have hm : (i - els.length) * sz + els.length * sz = i * sz := by rw [← Nat.add_mul]; congr 1; omega
    refine ⟨u, ?_, hr⟩
    rw [List.getElem?_append_right (by rw [h.1]; omega), h.1]
    rw [← hu]; congr 1; omega

theorem Flat.nil (S : Addr → Option Value) (sz : Nat) : Flat S sz [] [] := ⟨by simp, fun i e h => by simp at h⟩

theorem Flat.one {S : Addr → Option Value} {cs : List C} {us : List Value} (h : All2 (RelC S) cs us) : Flat S cs.length [cs] us := by
  refine ⟨by simp [h.1], fun i e hi => ?_⟩
  cases i with
  | zero =>
    simp at hi; subst hi
    refine ⟨rfl, fun j c hj => ?_⟩
    obtain ⟨u, hu, hr⟩ := h.get hj
    exact ⟨u, by simpa using hu, hr⟩
  | succ i => simp at hi

/-- a slice that reads as elements, flat -/
theorem flat_of_sl {S : Addr → Option Value} {sz : Nat} (hsz : 0 < sz) {els : List (List C)} {u : Value} (h : RelC S (.sl sz els) u) :
    ∃ (A : Option Addr) (cap : Nat) (xs : List Value), u = .slice A els.length cap ∧ (0 < els.length → ∃ a, A = some a) ∧ Flat S sz els xs ∧
      (∀ a, A = some a → ∀ (j : Nat) v, xs[j]? = some v → S (a.add j) = some v) ∧ ∀ v ∈ xs, v.oneCell' = true := by
  obtain ⟨A, cap, uf, rfl, hc, hl, hA, hsp, hS, hr⟩ := relC_sl h
  have hget : ∀ j, j < els.length * sz → ∃ e c, els[j / sz]? = some e ∧ e[j % sz]? = some c ∧ j / sz * sz + j % sz = j := by
    intro j hj
    have h1 : j / sz < els.length := Nat.div_lt_of_lt_mul (by rw [Nat.mul_comm]; exact hj)
    have h2 := hl _ (List.getElem_mem h1)
    have h3 : j % sz < (els[j / sz]'h1).length := by rw [h2]; exact Nat.mod_lt _ hsz
    exact ⟨_, _, List.getElem?_eq_getElem h1, List.getElem?_eq_getElem h3, by rw [Nat.mul_comm]; exact Nat.div_add_mod j sz⟩
  refine ⟨A, cap, (List.range (els.length * sz)).map fun j => uf (j / sz) (j % sz), rfl, fun h0 => hA (fun e => by rw [e] at h0; simp at h0), ⟨by simp, fun i e hi => ⟨hl e (List.mem_of_getElem? hi), fun j c hj => ?_⟩⟩, fun a ha j v hv => ?_, fun v hv => ?_⟩
  · have h1 : i < els.length := (List.getElem?_eq_some_iff.1 hi).1
    have h2 : j < sz := by have := (List.getElem?_eq_some_iff.1 hj).1; rw [hl e (List.mem_of_getElem? hi)] at this; exact this
    have h3 : i * sz + j < els.length * sz := by
      have : (i + 1) * sz ≤ els.length * sz := Nat.mul_le_mul_right _ h1
      rw [Nat.add_mul, Nat.one_mul] at this; omega
    have h4 : (i * sz + j) / sz = i := by rw [Nat.mul_comm, Nat.mul_add_div hsz, Nat.div_eq_of_lt h2, Nat.add_zero]
    have h5 : (i * sz + j) % sz = j := by rw [Nat.mul_comm, Nat.mul_add_mod, Nat.mod_eq_of_lt h2]
    exact ⟨uf i j, by simp [h3, h4, h5], hr i e hi j c hj⟩
  · simp only [List.getElem?_map, Option.map_eq_some_iff] at hv
    obtain ⟨j', hj', rfl⟩ := hv
    have hlt : j < els.length * sz := by simpa using (List.getElem?_eq_some_iff.1 hj').1
    have : j' = j := by simpa [hlt] using hj'.symm
    subst this
    obtain ⟨e, c, he, hcc, hj⟩ := hget j' hlt
    have := hS a ha _ e he _ c hcc
    rwa [hj] at this
  · simp only [List.mem_map, List.mem_range] at hv
    obtain ⟨j, hj, rfl⟩ := hv
    obtain ⟨e, c, he, hcc, _⟩ := hget j hj
    exact RelC.one (hr _ e he _ c hcc)

/-- a row that is owned reads as its elements -/
theorem row_rel {S : Addr → Option Value} {w : World} {e : TypeId} {sz : Nat} {v : Value} {els : List (List C)} {xs : List Value} (ho : OwnR w e sz v els.length xs) (hf : Flat S sz els xs)
    (hS : ∀ k, v.ownBlock = some k → ∀ (j : Nat) u, xs[j]? = some u → S ⟨k, Value.base v + j, none⟩ = some u) : RelC S (.sl sz els) v := by
  have hsz : ∀ e ∈ els, e.length = sz := fun e he => by obtain ⟨i, hi⟩ := List.getElem?_of_mem he; exact (hf.2 i e hi).1
  have hr : ∀ (i : Nat) e, els[i]? = some e → ∀ (j : Nat) c, e[j]? = some c → RelC S c (xs.getD (i * sz + j) undef) := by
    intro i e hi j c hj
    obtain ⟨u, hu, hr⟩ := (hf.2 i e hi).2 j c hj
    rw [List.getD_eq_getElem?_getD, hu]; exact hr
  rcases ho.2 with ⟨rfl, hn⟩ | ⟨g, o, cap, cur, rfl, hh, hc, _, _, _⟩
  · have : els = [] := List.eq_nil_of_length_eq_zero hn
    subst this
    exact relC_nil S sz
  · exact .sl sz els (some ⟨g, o, none⟩) cap (fun i j => xs.getD (i * sz + j) undef) hc hsz (fun _ => ⟨_, rfl⟩) (fun _ a ha => by cases ha; rfl)
      (fun a ha i e hi j c hj => by
        cases ha
        obtain ⟨u, hu, _⟩ := (hf.2 i e hi).2 j c hj
        rw [add_plain', List.getD_eq_getElem?_getD, hu]
        exact hS g rfl _ u hu) hr

theorem own_cells {w : World} {e : TypeId} {sz n : Nat} {v : Value} {xs : List Value} (hown : OwnR w e sz v n xs) {k : Nat} (hk : v.ownBlock = some k) :
    ∀ (j : Nat) u, xs[j]? = some u → w.cell? ⟨k, Value.base v + j, none⟩ = some u := by
  rcases hown.2 with ⟨rfl, _⟩ | ⟨g, o, cap, cur, rfl, hh, _, _, _, ht⟩
  · simp [Value.ownBlock] at hk
  · simp [Value.ownBlock] at hk; subst hk
    intro j u hj
    show w.cell? ⟨g, o + j, none⟩ = some u
    rw [cell_of_row w g (o + j) cur e (0, 0) hh]
    rw [← ht, List.getElem?_take, List.getElem?_drop] at hj
    split at hj
    · simpa using hj
    · cases hj


theorem etaGo {l : List C} : ∀ (sh : List Sh) (j : Nat), shOkGo l j sh = true → l.length = j + shLen sh → shCanon l j sh = l.drop j := by
  intro sh
  induction sh with
  | nil => intro j _ hl; simp only [shCanon]; rw [List.drop_eq_nil_of_le (by simp [shLen] at hl; omega)]
  | cons s r ih =>
    intro j h hl
    have one : (∀ n, s ≠ .run n) → shCanon l j (s :: r) = l.drop j := by
      intro hs
      have hl1 : s.len = 1 := by cases s <;> first | rfl | (exact absurd rfl (hs _))
      have h' : s.ok (l.getD j .nf) = true ∧ shOkGo l (j + 1) r = true := by
        cases s <;> first | (exact absurd rfl (hs _)) | (simpa [shOkGo] using h)
      have hc : shCanon l j (s :: r) = s.canon (l.getD j .nf) :: shCanon l (j + 1) r := by
        cases s <;> first | (exact absurd rfl (hs _)) | rfl
      simp only [shLen, hl1] at hl
      have hlt : j < l.length := by omega
      rw [hc, List.drop_eq_getElem_cons hlt, ih (j + 1) h'.2 (by omega)]
      congr 1
      have hg : l.getD j .nf = l[j] := by rw [List.getD_eq_getElem?_getD, List.getElem?_eq_getElem hlt]; rfl
      rw [hg] at h' ⊢
      obtain ⟨h1, _⟩ := h'
      generalize l[j] = c at h1
      cases s with
      | any => rfl
      | run n => exact absurd rfl (hs n)
      | int k => cases c <;> simp [Sh.ok] at h1; rename_i k' n; simp [Sh.canon, C.toInt, h1]
      | bool => cases c <;> simp [Sh.ok] at h1; rfl
      | str => cases c <;> simp [Sh.ok] at h1; rfl
      | sl n => cases c <;> simp [Sh.ok] at h1; simp [Sh.canon, C.toEls, h1]
    cases s with
    | run n =>
      simp only [shOkGo] at h
      simp only [shLen, Sh.len] at hl
      simp only [shCanon]
      rw [ih (j + n) h (by omega)]
      have : (l.drop j).drop n = l.drop (j + n) := by rw [List.drop_drop]
      rw [← this]
      exact List.take_append_drop n (l.drop j)
    | any => exact one (fun n h => by cases h)
    | int k => exact one (fun n h => by cases h)
    | bool => exact one (fun n h => by cases h)
    | str => exact one (fun n h => by cases h)
    | sl n => exact one (fun n h => by cases h)

theorem eta_some {β : Type} {sh : Option (List Sh)} {l : List C} {k : List C → Option β} {r : β} (h : eta sh l k = some r) : k l = some r := by
  unfold eta at h
  cases sh with
  | none => exact h
  | some sh =>
    simp only at h
    cases hs : shOk sh l with
    | false => rw [hs] at h; cases h
    | true =>
      rw [hs, cond_true] at h
      unfold shOk at hs
      simp only [Bool.and_eq_true, beq_iff_eq] at hs
      have := etaGo sh 0 hs.2 (by rw [hs.1]; omega)
      rw [this] at h; simpa using h

theorem cutK_some {β : Type} {i : TI} {l : List C} {k : T → Option β} {r : β} (h : cutK i l k = some r) : ∃ v, k v = some r ∧
    (i.ag = true → v = .agg ⟨l.take i.size, [], i.size⟩ ∧ i.size ≤ l.length) ∧ (i.ag = false → ∃ c, l[0]? = some c ∧ v = .w (.d c)) := by
  unfold cutK at h
  cases hag : i.ag with
  | true =>
    rw [hag, cond_true] at h
    by_cases hs : (l.take i.size).length = i.size
    · rw [beq_iff_eq.2 hs, cond_true] at h
      refine ⟨_, eta_some h, fun _ => ⟨rfl, by rw [List.length_take] at hs; omega⟩, fun h => by cases h⟩
    · rw [beq_false_of_ne hs] at h; cases h
  | false =>
    rw [hag, cond_false] at h
    cases hc : l[0]? with
    | none => rw [hc] at h; cases h
    | some c => rw [hc] at h; have := eta_some h; exact ⟨_, this, fun h => (by cases h), fun _ => ⟨c, rfl, rfl⟩⟩

/-- cells of a row become stable -/
def withRow (S : Addr → Option Value) (v : Value) (xs : List Value) : Addr → Option Value := fun ad =>
  match S ad with
  | some u => some u
  | none => if v.ownBlock = some ad.block ∧ ad.spot = none ∧ Value.base v ≤ ad.off then xs[ad.off - Value.base v]? else none

theorem withRow_sub {S : Addr → Option Value} {v : Value} {xs : List Value} : ∀ ad u, S ad = some u → withRow S v xs ad = some u := by
  intro ad u h; simp [withRow, h]

section
variable {w0 : World} {S0 : Addr → Option Value} {O : Nat → Prop} {g : G} {bx : Bx} {w : World}

/-- only more cells are stable -/
structure More (g g' : G) : Prop where
  S : ∀ a v, g.S a = some v → g'.S a = some v
  bx : g'.bx = g.bx
  sl : g'.sl = g.sl
  c : g'.c = g.c
theorem More.refl (g : G) : More g g := ⟨fun _ _ h => h, rfl, rfl, rfl⟩
theorem More.trans {g g' g'' : G} (h : More g g') (h' : More g' g'') : More g g'' := ⟨fun _ _ hv => h'.S _ _ (h.S _ _ hv), h'.bx.trans h.bx, h'.sl.trans h.sl, h'.c.trans h.c⟩
theorem More.ext {g g' : G} (h : More g g') : Ext g g' := ⟨h.S, fun n _ => by rw [h.bx], fun n _ => by rw [h.sl], fun n hn => by rw [h.c]; exact hn⟩

theorem freezeArr (h : RelM w0 S0 O g bx w) {b : Nat} {e : Option TypeId} {sz : Nat} {els : List (List C)} (hb : bx[b]? = some (some (.arr true e sz els))) :
    ∃ g', More g g' ∧ RelM w0 S0 O g' (bx.set b (some (.arr false e sz els))) w ∧ RelC g'.S (.sl sz els) (g.sl b) := by
  obtain ⟨_, xs, e', he', hown, hfl, hp, _⟩ := h.box b _ hb
  have hno : ∀ k, (g.sl b).ownBlock = some k → ∀ off sp, g.S ⟨k, off, sp⟩ = none := by
    intro k hk off sp
    cases hS : g.S ⟨k, off, sp⟩ with
    | none => rfl
    | some v => obtain ⟨_, _, _, h1, _⟩ := h.sep b _ k hb hk off sp v hS; simp at h1
  have hrel : RelC (withRow g.S (g.sl b) xs) (.sl sz els) (g.sl b) := row_rel hown (hfl.mono withRow_sub) (fun k hk j u hu => by
    simp only [withRow, hno k hk _ none, hk]
    rw [if_pos ⟨trivial, trivial, by omega⟩, Nat.add_sub_cancel_left]; exact hu)
  refine ⟨{ g with S := withRow g.S (g.sl b) xs }, ⟨withRow_sub, rfl, rfl, rfl⟩, ?_, hrel⟩
  refine h.boxSet hb (World.grownBy.refl w _) rfl withRow_sub (fun ad u hu => ?_) (fun ad u hu _ => h.mem ad u hu) (fun z hz => ?_)
  · simp only [withRow] at hu
    cases hS : g.S ad with
    | some q => rw [hS] at hu; exact .inl hu
    | none =>
      rw [hS] at hu; simp only at hu
      split at hu
      · rename_i hc
        have := own_cells hown hc.1 _ u hu
        refine .inr ⟨?_, hc.1⟩
        obtain ⟨hc1, hc2, hc3⟩ := hc
        rw [show ad = ⟨ad.block, Value.base (g.sl b) + (ad.off - Value.base (g.sl b)), none⟩ by
          cases ad with
          | mk bl off sp => simp only at hc2 hc3 ⊢; subst hc2; congr 1; omega]
        exact this
      · cases hu
  · cases hz
    refine ⟨⟨xs, e', he', hown, hfl.mono withRow_sub, hp, fun _ => hrel⟩, fun k hk => hk, fun k hk off sp u hu => ?_⟩
    refine ⟨e, sz, els, rfl, ?_⟩
    simp only [withRow] at hu
    rw [hno k hk off sp] at hu
    simp only at hu
    split at hu
    · rename_i hc
      have h1 := (List.getElem?_eq_some_iff.1 hu).1
      have h2 := hc.2.2
      rw [hfl.1] at h1
      exact ⟨h2, by omega⟩
    · cases hu

theorem passW_rel {dr : Bool} {x y : W} {bx' : Bx} (hp : passW dr x bx = some (y, bx')) (h : RelM w0 S0 O g bx w) : ∃ g', More g g' ∧ RelM w0 S0 O g' bx' w ∧ (dr = true → bx' = bx) ∧ bx'.length = bx.length ∧ ∀ u, RelW g x u → RelW g' y u := by
  cases x with
  | u => simp [passW] at hp
  | ea b i sz off => simp [passW] at hp
  | pv b off n => simp [passW] at hp
  | vw b lo hi mx sz => simp [passW] at hp
  | mp b => simp [passW] at hp; obtain ⟨rfl, rfl⟩ := hp; exact ⟨g, .refl g, h, fun _ => rfl, rfl, fun u hu => hu⟩
  | clo f bs => simp [passW] at hp; obtain ⟨rfl, rfl⟩ := hp; exact ⟨g, .refl g, h, fun _ => rfl, rfl, fun u hu => hu⟩
  | es sz => simp [passW] at hp; obtain ⟨rfl, rfl⟩ := hp; exact ⟨g, .refl g, h, fun _ => rfl, rfl, fun u ⟨A, hu⟩ => by subst hu; exact .sl sz [] A 0 (fun _ _ => undef) (by simp) (by simp) (by simp) (by simp) (by simp) (by simp)⟩
  | d c => simp [passW] at hp; obtain ⟨rfl, rfl⟩ := hp; exact ⟨g, .refl g, h, fun _ => rfl, rfl, fun u hu => hu⟩
  | ptr b off => simp [passW] at hp; obtain ⟨rfl, rfl⟩ := hp; exact ⟨g, .refl g, h, fun _ => rfl, rfl, fun u hu => hu⟩
  | arr b =>
    simp only [passW] at hp
    generalize hb : bx.getD b none = bb at hp
    match bb, hp with
    | some (.arr mt e sz els), hp =>
      simp only at hp
      cases mt with
      | false =>
        simp only [cond_false, Option.some.injEq, Prod.mk.injEq] at hp
        obtain ⟨rfl, rfl⟩ := hp
        obtain ⟨_, xs, _, _, _, _, _, hr⟩ := h.box b _ (getD_some hb)
        exact ⟨g, .refl g, h, fun _ => rfl, rfl, fun u hu => by rw [hu.2.1]; exact hr rfl⟩
      | true =>
        cases dr with
        | true => simp at hp
        | false =>
          simp only [cond_true, cond_false, Option.some.injEq, Prod.mk.injEq] at hp
          obtain ⟨rfl, rfl⟩ := hp
          obtain ⟨g', hm, hR, hr⟩ := freezeArr h (getD_some hb)
          exact ⟨g', hm, hR, fun h => (by cases h), by simp, fun u hu => by rw [hu.2.1]; exact hr⟩

theorem passLk_rel {dr : Bool} {n : Nat} : ∀ (lk : List (Nat × W)) (l : List C) {bx bx' : Bx} {m : M} {g : G}, passLk dr n lk l bx = some (m, bx') → RelM w0 S0 O g bx w →
    ∃ g', More g g' ∧ RelM w0 S0 O g' bx' w ∧ (dr = true → bx' = bx) ∧ bx'.length = bx.length ∧ (m.l.length = l.length ∧ m.n = n) ∧ ∀ cs j, RelAt g ⟨l, lk, n⟩ cs j → RelAt g' m cs j := by
  intro lk
  induction lk with
  | nil => intro l bx bx' m g hp h; simp [passLk] at hp; obtain ⟨rfl, rfl⟩ := hp; exact ⟨g, .refl g, h, fun _ => rfl, rfl, ⟨rfl, rfl⟩, fun cs j hj => hj⟩
  | cons p r ih =>
    intro l bx bx' m g hp h
    obtain ⟨i, x⟩ := p
    simp only [passLk] at hp
    cases h1 : passLk dr n r l bx with
    | none => rw [h1] at hp; cases hp
    | some q =>
      obtain ⟨m1, bx1⟩ := q
      rw [h1] at hp; simp only at hp
      obtain ⟨g1, hm1, hR1, hd1, hl1, hlen, hat⟩ := ih l h1 h
      cases h2 : passW dr x bx1 with
      | none => rw [h2] at hp; cases hp
      | some q =>
        obtain ⟨y, bx2⟩ := q
        rw [h2] at hp; simp only at hp
        obtain ⟨g2, hm2, hR2, hd2, hl2, hw⟩ := passW_rel h2 hR1
        -- what holds ahead of the first
        have hrest : ∀ cs j, j ≠ i → RelAt g ⟨l, (i, x) :: r, n⟩ cs j → RelAt g2 m1 cs j := by
          intro cs j hj hr
          have : RelAt g ⟨l, r, n⟩ cs j := by
            intro z u hz hu
            refine hr z u ?_ hu
            simp only [M.get, lkGet, beq_false_of_ne (fun e => hj e.symm), cond_false] at hz ⊢
            exact hz
          intro z u hz hu
          exact hm2.ext.weak _ _ (hat cs j this z u hz hu)
        have hfst : ∀ cs, RelAt g ⟨l, (i, x) :: r, n⟩ cs i → ∀ u, cs[i]? = some u → RelW g2 y u := by
          intro cs hr u hu
          exact hw u (hm1.ext.weak _ _ (hr x u (by simp [M.get, lkGet]) hu))
        by_cases hyd : ∃ c, y = .d c
        · obtain ⟨c, rfl⟩ := hyd
          simp only [Option.some.injEq, Prod.mk.injEq] at hp
          obtain ⟨rfl, rfl⟩ := hp
          refine ⟨g2, hm1.trans hm2, hR2, fun h => (hd2 h).trans (hd1 h), hl2.trans hl1, ⟨by simp [hlen.1], rfl⟩, fun cs j hr z u hz hu => ?_⟩
          simp only [M.get, lkGet_del] at hz
          by_cases hj : j = i
          · subst hj
            rw [if_pos rfl] at hz
            simp only at hz
            cases hc : (m1.l.set j c)[j]? with
            | none => rw [hc] at hz; cases hz
            | some c' =>
              rw [hc] at hz; cases hz
              rw [List.getElem?_set, if_pos rfl] at hc
              split at hc
              · cases hc; exact hfst cs hr u hu
              · cases hc
          · rw [if_neg hj] at hz
            refine hrest cs j hj hr z u ?_ hu
            simp only [M.get]
            rw [List.getElem?_set_ne (fun e => hj e.symm)] at hz
            exact hz
        · have hp' : some ((⟨m1.l, (i, y) :: m1.lk, n⟩ : M), bx2) = some (m, bx') := by
            cases y with
            | d c => exact absurd ⟨c, rfl⟩ hyd
            | _ => exact hp
          simp only [Option.some.injEq, Prod.mk.injEq] at hp'
          obtain ⟨rfl, rfl⟩ := hp'
          refine ⟨g2, hm1.trans hm2, hR2, fun h => (hd2 h).trans (hd1 h), hl2.trans hl1, ⟨hlen.1, rfl⟩, fun cs j hr z u hz hu => ?_⟩
          by_cases hj : j = i
          · subst hj
            simp [M.get, lkGet] at hz; subst hz
            exact hfst cs hr u hu
          · refine hrest cs j hj hr z u ?_ hu
            simp only [M.get, lkGet, beq_false_of_ne (fun e => hj e.symm), cond_false] at hz ⊢
            exact hz

theorem passT_rel {dr : Bool} {x y : T} {bx' : Bx} (hp : passT dr x bx = some (y, bx')) (h : RelM w0 S0 O g bx w) : ∃ g', More g g' ∧ RelM w0 S0 O g' bx' w ∧ (dr = true → bx' = bx) ∧ bx'.length = bx.length ∧ ∀ u, RelT g x u → RelT g' y u := by
  cases x with
  | w x =>
    simp only [passT] at hp
    cases h1 : passW dr x bx with
    | none => rw [h1] at hp; cases hp
    | some q =>
      obtain ⟨y', bx1⟩ := q
      rw [h1] at hp; simp only [Option.some.injEq, Prod.mk.injEq] at hp; obtain ⟨rfl, rfl⟩ := hp
      exact passW_rel h1 h
  | agg m =>
    simp only [passT] at hp
    cases h1 : passLk dr m.n m.lk m.l bx with
    | none => rw [h1] at hp; cases hp
    | some q =>
      obtain ⟨m', bx1⟩ := q
      rw [h1] at hp; simp only [Option.some.injEq, Prod.mk.injEq] at hp; obtain ⟨rfl, rfl⟩ := hp
      obtain ⟨g', h2, h3, h4, h5, h6, h7⟩ := passLk_rel m.lk m.l h1 h
      refine ⟨g', h2, h3, h4, h5, fun u hu => ?_⟩
      obtain ⟨us, rfl, hr⟩ := hu
      exact ⟨us, rfl, ⟨by rw [h6.1]; exact hr.1.1, by rw [h6.1, h6.2]; exact hr.1.2⟩, fun j => h7 us j (hr.2 j)⟩

theorem stabC_rel {x : T} {l : List C} {n : Nat} {u : Value} (hs : x.stabC = some (l, n)) (h : RelT g x u) : All2 (RelC g.S) l u.cells.toList ∧ l.length = n := by
  cases x with
  | w x =>
    cases x with
    | d c => simp [T.stabC] at hs; obtain ⟨rfl, rfl⟩ := hs; rw [oneCell_cells (RelC.one h)]; exact ⟨.cons h .nil, rfl⟩
    | _ => simp [T.stabC] at hs
  | agg m =>
    obtain ⟨l', lk, n'⟩ := m
    cases lk with
    | nil => simp [T.stabC] at hs; obtain ⟨rfl, rfl⟩ := hs; obtain ⟨us, rfl, hr⟩ := h; exact ⟨by simpa [Value.cells] using all_of_relM hr, hr.1.2⟩
    | cons p q => simp [T.stabC] at hs

theorem frzT_rel {dr : Bool} {x : T} {l : List C} {n : Nat} {bx' : Bx} (hp : frzT dr x bx = some ((l, n), bx')) (h : RelM w0 S0 O g bx w) : ∃ g', More g g' ∧ RelM w0 S0 O g' bx' w ∧ (dr = true → bx' = bx) ∧ bx'.length = bx.length ∧ ∀ u, RelT g x u → All2 (RelC g'.S) l u.cells.toList ∧ l.length = n := by
  unfold frzT at hp
  cases h1 : passT dr x bx with
  | none => rw [h1] at hp; cases hp
  | some q =>
    obtain ⟨y, bx1⟩ := q
    rw [h1] at hp; simp only at hp
    cases hs : y.stabC with
    | none => rw [hs] at hp; cases hp
    | some l' =>
      rw [hs] at hp; simp only [Option.some.injEq, Prod.mk.injEq] at hp; obtain ⟨rfl, rfl⟩ := hp
      obtain ⟨g', h2, h3, h4, h5, h6⟩ := passT_rel h1 h
      exact ⟨g', h2, h3, h4, h5, fun u hu => stabC_rel hs (h6 u hu)⟩

theorem passV_rel {dr : Bool} {x y : V} {bx' : Bx} (hp : passV dr x bx = some (y, bx')) (h : RelM w0 S0 O g bx w) : ∃ g', More g g' ∧ RelM w0 S0 O g' bx' w ∧ (dr = true → bx' = bx) ∧ bx'.length = bx.length ∧ ∀ u, RelV g x u → RelV g' y u := by
  cases x with
  | u => simp [passV] at hp
  | tup l => simp [passV] at hp
  | t x =>
    simp only [passV] at hp
    cases h1 : passT dr x bx with
    | none => rw [h1] at hp; cases hp
    | some q =>
      obtain ⟨y', bx1⟩ := q
      rw [h1] at hp; simp only [Option.some.injEq, Prod.mk.injEq] at hp; obtain ⟨rfl, rfl⟩ := hp
      exact passT_rel h1 h

theorem passTs_rel {dr : Bool} : ∀ (xs ys : List T) {bx bx' : Bx} {g : G}, passTs dr xs bx = some (ys, bx') → RelM w0 S0 O g bx w →
    ∃ g', More g g' ∧ RelM w0 S0 O g' bx' w ∧ bx'.length = bx.length ∧ ∀ us, All2 (RelT g) xs us → All2 (RelT g') ys us := by
  intro xs
  induction xs with
  | nil => intro ys bx bx' g hp h; simp [passTs] at hp; obtain ⟨rfl, rfl⟩ := hp; exact ⟨g, .refl g, h, rfl, fun us hu => hu⟩
  | cons x r ih =>
    intro ys bx bx' g hp h
    simp only [passTs] at hp
    cases h1 : passT dr x bx with
    | none => rw [h1] at hp; cases hp
    | some q =>
      obtain ⟨y, bx1⟩ := q
      rw [h1] at hp; simp only at hp
      cases h2 : passTs dr r bx1 with
      | none => rw [h2] at hp; cases hp
      | some q =>
        obtain ⟨l, bx2⟩ := q
        rw [h2] at hp; simp only [Option.some.injEq, Prod.mk.injEq] at hp; obtain ⟨rfl, rfl⟩ := hp
        obtain ⟨g1, a1, a2, _, a3, a4⟩ := passT_rel h1 h
        obtain ⟨g2, b1, b2, b3, b4⟩ := ih l h2 a2
        refine ⟨g2, a1.trans b1, b2, b3.trans a3, fun us hu => ?_⟩
        cases us with
        | nil => exact absurd hu.1 (by simp)
        | cons u us => exact .cons ((a4 u hu.head).weak b1.ext.weak) (b4 us (hu.tail.imp fun _ _ h => h.weak a1.ext.weak))

theorem passArgs_rel {dr b : Bool} : ∀ (xs ys : List V) {bx bx' : Bx} {g : G}, passArgs dr b xs bx = some (ys, bx') → RelM w0 S0 O g bx w →
    ∃ g', More g g' ∧ RelM w0 S0 O g' bx' w ∧ (dr = true → bx' = bx) ∧ ys.length = xs.length ∧ ∀ us, All2 (RelV g) xs us → All2 (RelV g') ys us := by
  intro xs
  induction xs with
  | nil => intro ys bx bx' g hp h; simp [passArgs] at hp; obtain ⟨rfl, rfl⟩ := hp; exact ⟨g, .refl g, h, fun _ => rfl, rfl, fun us hu => hu⟩
  | cons x r ih =>
    intro ys bx bx' g hp h
    simp only [passArgs] at hp
    have key : ∀ y bx1, (bif b && isArr x then some (x, bx) else passV dr x bx) = some (y, bx1) → ∃ g', More g g' ∧ RelM w0 S0 O g' bx1 w ∧ (dr = true → bx1 = bx) ∧ ∀ u, RelV g x u → RelV g' y u := by
      intro y bx1 hy
      cases hb : b && isArr x with
      | true => rw [hb] at hy; simp only [cond_true, Option.some.injEq, Prod.mk.injEq] at hy; obtain ⟨rfl, rfl⟩ := hy; exact ⟨g, .refl g, h, fun _ => rfl, fun u hu => hu⟩
      | false =>
        rw [hb, cond_false] at hy
        obtain ⟨g1, a1, a2, a3, _, a5⟩ := passV_rel hy h
        exact ⟨g1, a1, a2, a3, a5⟩
    generalize (bif b && isArr x then some (x, bx) else passV dr x bx) = q at hp key
    match q, hp with
    | some (y, bx1), hp =>
      simp only at hp
      obtain ⟨g1, a1, a2, a3, a4⟩ := key y bx1 rfl
      cases h2 : passArgs dr b r bx1 with
      | none => rw [h2] at hp; cases hp
      | some q =>
        obtain ⟨l, bx2⟩ := q
        rw [h2] at hp; simp only [Option.some.injEq, Prod.mk.injEq] at hp; obtain ⟨rfl, rfl⟩ := hp
        obtain ⟨g2, b1, b2, b3, b4, b5⟩ := ih l h2 a2
        refine ⟨g2, a1.trans b1, b2, fun h => (b3 h).trans (a3 h), by simp [b4], fun us hu => ?_⟩
        cases us with
        | nil => exact absurd hu.1 (by simp)
        | cons u us => exact .cons ((a4 u hu.head).weak b1.ext.weak) (b5 us (hu.tail.imp fun _ _ h => h.weak a1.ext.weak))
end

section
variable {w0 : World} {S0 : Addr → Option Value} {O : Nat → Prop} {g0 g : G} {st : St} {a : Act} {w : World}
theorem Rel.more (h : Rel w0 S0 O g0 g st a w) {g' : G} {bx' : Bx} (hm : More g g') (hR : RelM w0 S0 O g' bx' w) : Rel w0 S0 O g0 g' { st with bx := bx' } a w := h.with hm.ext hR
end
end Vm
