/- Vm, part B: what the interpreter's values mean in the model's memory. -/
import Derived.Test.YtniiimpcakmkbaaDoorWA
import Derived.Laws.OwnMore
namespace Vm
open Go

inductive RelC (S : Addr → Option Value) : C → Value → Prop
  | int (k : IntKind) (n : Int) : RelC S (.int k n) (.int k n)
  | bool (b : Bool) : RelC S (.bool b) (.bool b)
  | str (s : ByteArray) : RelC S (.str s) (.string s)
  | sl (sz : Nat) (els : List (List C)) (A : Option Addr) (cap : Nat) (uf : Nat → Nat → Value)
      (hc : els.length ≤ cap) (hsz : ∀ e ∈ els, e.length = sz) (hA : els ≠ [] → ∃ a, A = some a) (hsp : els ≠ [] → ∀ a, A = some a → a.spot = none)
      (hS : ∀ a, A = some a → ∀ (i : Nat) e, els[i]? = some e → ∀ (j : Nat) c, e[j]? = some c → S (a.add (i * sz + j)) = some (uf i j))
      (hr : ∀ (i : Nat) e, els[i]? = some e → ∀ (j : Nat) c, e[j]? = some c → RelC S c (uf i j)) : RelC S (.sl sz els) (.slice A els.length cap)
  | ni : RelC S .ni .nilIface
  | ifc1 (t : TypeId) (c : C) (u : Value) (h : RelC S c u) : RelC S (.ifc t false [c]) (.iface t u)
  | ifcA (t : TypeId) (l : List C) (us : List Value) (hl : us.length = l.length)
      (h : ∀ (j : Nat) c u, l[j]? = some c → us[j]? = some u → RelC S c u) : RelC S (.ifc t true l) (.iface t (.agg us.toArray))
  | fn (f : FuncId) (l : List C) (us : List Value) (hl : us.length = l.length)
      (h : ∀ (j : Nat) c u, l[j]? = some c → us[j]? = some u → RelC S c u) : RelC S (.fn f l) (.func (.func f) #[] us.toArray)
  | nf : RelC S .nf .nilFunc
  | np : RelC S .np (.pointer none)
  | ip (l : List C) (a : Addr) (uf : Nat → Value) (hsp : a.spot = none)
      (hS : ∀ (j : Nat) c, l[j]? = some c → S (a.add j) = some (uf j))
      (hr : ∀ (j : Nat) c, l[j]? = some c → RelC S c (uf j)) : RelC S (.ip l) (.pointer (some a))

theorem RelC.mono {S S' : Addr → Option Value} (hs : ∀ a v, S a = some v → S' a = some v) {c : C} {u : Value} (h : RelC S c u) : RelC S' c u := by
  induction h with
  | int k n => exact .int k n
  | bool b => exact .bool b
  | str s => exact .str s
  | sl sz els A cap uf hc hsz hA hsp hS hr ih => exact .sl sz els A cap uf hc hsz hA hsp (fun a ha i e hi j c hj => hs _ _ (hS a ha i e hi j c hj)) ih
  | ni => exact .ni
  | ifc1 t c u h ih => exact .ifc1 t c u ih
  | ifcA t l us hl h ih => exact .ifcA t l us hl ih
  | fn f l us hl h ih => exact .fn f l us hl ih
  | nf => exact .nf
  | np => exact .np
  | ip l a uf hsp hS hr ih => exact .ip l a uf hsp (fun j c hj => hs _ _ (hS j c hj)) ih

theorem RelC.one {S : Addr → Option Value} {c : C} {u : Value} (h : RelC S c u) : u.oneCell' = true := by
  cases h <;> rfl

/-- what stands behind names: the cells that never change any more, the blocks of boxes, the slices of rows -/
structure G where
  S : Addr → Option Value
  bx : Nat → Nat
  sl : Nat → Value
  c : Nat → Prop

def RelW (g : G) : W → Value → Prop
  | .u, u => u.oneCell' = true
  | .d c, u => RelC g.S c u
  | .ptr b off, u => g.c b ∧ u = .pointer (some ⟨g.bx b, off, none⟩)
  | .arr b, u => g.c b ∧ u = g.sl b ∧ u.oneCell' = true
  | .ea b i sz off, u => g.c b ∧ ∃ gb n cap, g.sl b = .slice (some ⟨gb, 0, none⟩) n cap ∧ u = .pointer (some ⟨gb, i * sz + off, none⟩)
  | .pv b off n, u => g.c b ∧ u = .slice (some ⟨g.bx b, off, none⟩) n n
  | .es _, u => ∃ A, u = .slice A 0 0

theorem RelW.one {g : G} {x : W} {u : Value} (h : RelW g x u) : u.oneCell' = true := by
  cases x with
  | u => exact h
  | d c => exact RelC.one h
  | ptr b off => obtain ⟨_, rfl⟩ := h; rfl
  | arr b => exact h.2.2
  | ea b i sz off => obtain ⟨_, gb, n, cap, _, rfl⟩ := h; rfl
  | pv b off n => obtain ⟨_, rfl⟩ := h; rfl
  | es sz => obtain ⟨A, rfl⟩ := h; rfl

/-- lists, place by place -/
def All2 {α β : Type} (R : α → β → Prop) (l : List α) (m : List β) : Prop := m.length = l.length ∧ ∀ (j : Nat) x y, l[j]? = some x → m[j]? = some y → R x y

section
variable {α β : Type} {R R' : α → β → Prop}
theorem All2.nil : All2 R [] [] := ⟨rfl, fun j x y h => by simp at h⟩
theorem All2.cons {x : α} {y : β} {l : List α} {m : List β} (h : R x y) (hl : All2 R l m) : All2 R (x :: l) (y :: m) :=
  ⟨by simp [hl.1], fun j a b ha hb => by
    cases j with
    | zero => simp at ha hb; subst ha hb; exact h
    | succ j => simp at ha hb; exact hl.2 j a b ha hb⟩
theorem All2.head {x : α} {y : β} {l : List α} {m : List β} (h : All2 R (x :: l) (y :: m)) : R x y := h.2 0 x y rfl rfl
theorem All2.tail {x : α} {y : β} {l : List α} {m : List β} (h : All2 R (x :: l) (y :: m)) : All2 R l m :=
  ⟨by simpa using h.1, fun j a b ha hb => h.2 (j + 1) a b (by simpa using ha) (by simpa using hb)⟩
theorem All2.imp {l : List α} {m : List β} (h : All2 R l m) (hi : ∀ x y, R x y → R' x y) : All2 R' l m := ⟨h.1, fun j x y hx hy => hi _ _ (h.2 j x y hx hy)⟩
theorem All2.get {l : List α} {m : List β} (h : All2 R l m) {j : Nat} {x : α} (hj : l[j]? = some x) : ∃ y, m[j]? = some y ∧ R x y := by
  have hlt : j < l.length := (List.getElem?_eq_some_iff.1 hj).1
  have hm : m[j]? = some (m[j]'(by have := h.1; omega)) := List.getElem?_eq_getElem _
  exact ⟨_, hm, h.2 j x _ hj hm⟩
theorem All2.drop {l : List α} {m : List β} (h : All2 R l m) (n : Nat) : All2 R (l.drop n) (m.drop n) :=
  ⟨by simp [h.1], fun j x y hx hy => h.2 (n + j) x y (by simpa using hx) (by simpa using hy)⟩
theorem All2.take {l : List α} {m : List β} (h : All2 R l m) (n : Nat) : All2 R (l.take n) (m.take n) :=
  ⟨by simp [h.1], fun j x y hx hy => by
    simp only [List.getElem?_take] at hx hy
    split at hx
    · rename_i hj; rw [if_pos hj] at hy; exact h.2 j x y hx hy
    · cases hx⟩
theorem All2.append {l l2 : List α} {m m2 : List β} (h : All2 R l m) (h2 : All2 R l2 m2) : All2 R (l ++ l2) (m ++ m2) :=
  ⟨by simp [h.1, h2.1], fun j x y hx hy => by
    by_cases hj : j < l.length
    · rw [List.getElem?_append_left hj] at hx
      rw [List.getElem?_append_left (by rw [h.1]; exact hj)] at hy
      exact h.2 j x y hx hy
    · rw [List.getElem?_append_right (by omega)] at hx
      rw [List.getElem?_append_right (by rw [h.1]; omega), h.1] at hy
      exact h2.2 _ x y hx hy⟩
theorem All2.map_left {γ : Type} {f : γ → α} {l : List γ} {m : List β} (h : All2 (fun x y => R (f x) y) l m) : All2 R (l.map f) m :=
  ⟨by simp [h.1], fun j x y hx hy => by
    simp only [List.getElem?_map, Option.map_eq_some_iff] at hx
    obtain ⟨z, hz, rfl⟩ := hx
    exact h.2 j z y hz hy⟩
theorem All2.of_map_left {γ : Type} {f : γ → α} {l : List γ} {m : List β} (h : All2 R (l.map f) m) : All2 (fun x y => R (f x) y) l m :=
  ⟨by simpa using h.1, fun j x y hx hy => h.2 j (f x) y (by simp [hx]) hy⟩
theorem All2.set {l : List α} {m : List β} (h : All2 R l m) (i : Nat) {x : α} {y : β} (hxy : R x y) : All2 R (l.set i x) (m.set i y) :=
  ⟨by simp [h.1], fun j a b ha hb => by
    rw [List.getElem?_set] at ha hb
    split at ha
    · rename_i hij; subst hij
      rw [if_pos rfl] at hb
      split at ha
      · rename_i hi
        rw [if_pos (by rw [h.1]; exact hi)] at hb
        cases ha; cases hb; exact hxy
      · cases ha
    · rename_i hij; rw [if_neg hij] at hb; exact h.2 j a b ha hb⟩
end


/-- a row of cells, place by place -/
def RelAt (g : G) (m : M) (cs : List Value) (j : Nat) : Prop := ∀ x u, m.get j = some x → cs[j]? = some u → RelW g x u
def RelMx (g : G) (m : M) (cs : List Value) : Prop := (cs.length = m.l.length ∧ m.l.length = m.n) ∧ ∀ j, RelAt g m cs j
theorem RelMx.n {g : G} {m : M} {cs : List Value} (h : RelMx g m cs) : cs.length = m.n := h.1.1.trans h.1.2

def RelT (g : G) : T → Value → Prop
  | .w x, u => RelW g x u
  | .agg m, u => ∃ us : List Value, u = .agg us.toArray ∧ RelMx g m us

def RelV (g : G) : V → Value → Prop
  | .u, _ => True
  | .t x, u => RelT g x u
  | .tup l, u => ∃ us : List Value, u = .tuple us.toArray ∧ All2 (RelT g) l us

theorem oneCell_cells {u : Value} (h : u.oneCell' = true) : u.cells = #[u] := by
  cases u <;> first | rfl | (simp [Value.oneCell'] at h)

theorem RelT.cells {g : G} {x : T} {u : Value} (h : RelT g x u) : RelMx g x.toM u.cells.toList := by
  cases x with
  | w x =>
    have h1 := RelW.one h
    rw [oneCell_cells h1]
    have key : ∀ y, x.isD = false → y = x → RelMx g ⟨[.nf], [(0, y)], 1⟩ [u] := by
      intro y _ hy
      refine ⟨⟨rfl, rfl⟩, fun j z v hz hv => ?_⟩
      cases j with
      | zero => simp [M.get, lkGet] at hz hv; subst hz hv; rw [hy]; exact h
      | succ j => simp at hv
    cases x with
    | d c =>
      refine ⟨⟨rfl, rfl⟩, fun j z v hz hv => ?_⟩
      cases j with
      | zero => simp [M.get, lkGet, T.toM] at hz hv; subst hz hv; exact h
      | succ j => simp at hv
    | u => exact key _ rfl rfl
    | ptr b off => exact key _ rfl rfl
    | arr b => exact key _ rfl rfl
    | ea b i sz off => exact key _ rfl rfl
    | pv b off n => exact key _ rfl rfl
    | es sz => exact key _ rfl rfl
  | agg m => obtain ⟨us, rfl, hu⟩ := h; simpa [Value.cells, T.toM] using hu

/-- a map over cells that turns what isn't meant any more into something weaker -/
def Weak (g g' : G) (f : W → W) : Prop := ∀ x u, RelW g x u → RelW g' (f x) u
/-- and leaves the stable ones -/
def IdD (f : W → W) : Prop := ∀ c, f (.d c) = .d c

theorem lkGet_map (f : W → W) : ∀ (l : List (Nat × W)) (j : Nat), lkGet (lkMap f l) j = (lkGet l j).map f := by
  intro l j
  induction l with
  | nil => rfl
  | cons p r ih =>
    obtain ⟨i, x⟩ := p
    simp only [lkMap, lkGet]
    cases i == j <;> simp [ih]

theorem RelAt.map {g g' : G} {f : W → W} (hf : Weak g g' f) (hd : IdD f) {m : M} {cs : List Value} {j : Nat} (h : RelAt g m cs j) : RelAt g' (m.mapW f) cs j := by
  intro x u hx hu
  simp only [M.get, M.mapW, lkGet_map] at hx
  cases hl : lkGet m.lk j with
  | some y =>
    rw [hl] at hx; simp at hx; subst hx
    exact hf _ _ (h y u (by simp [M.get, hl]) hu)
  | none =>
    rw [hl] at hx; simp only [Option.map_none] at hx
    cases hc : m.l[j]? with
    | none => rw [hc] at hx; simp at hx
    | some c =>
      rw [hc] at hx; simp at hx; subst hx
      have := hf _ _ (h (.d c) u (by simp [M.get, hl, hc]) hu)
      rwa [hd] at this
theorem RelMx.map {g g' : G} {f : W → W} (hf : Weak g g' f) (hd : IdD f) {m : M} {cs : List Value} (h : RelMx g m cs) : RelMx g' (m.mapW f) cs :=
  ⟨h.1, fun j => (h.2 j).map hf hd⟩
theorem RelMx.weak {g g' : G} (hf : Weak g g' id) {m : M} {cs : List Value} (h : RelMx g m cs) : RelMx g' m cs :=
  ⟨h.1, fun j x u hx hu => hf _ _ (h.2 j x u hx hu)⟩

theorem RelT.map {g g' : G} {f : W → W} (hf : Weak g g' f) (hd : IdD f) {x : T} {u : Value} (h : RelT g x u) : RelT g' (x.mapW f) u := by
  cases x with
  | w x => exact hf _ _ h
  | agg l => obtain ⟨us, rfl, hu⟩ := h; exact ⟨us, rfl, hu.map hf hd⟩
theorem RelT.weak {g g' : G} (hf : Weak g g' id) {x : T} {u : Value} (h : RelT g x u) : RelT g' x u := by
  cases x with
  | w x => exact hf _ _ h
  | agg l => obtain ⟨us, rfl, hu⟩ := h; exact ⟨us, rfl, hu.weak hf⟩

theorem RelV.map {g g' : G} {f : W → W} (hf : Weak g g' f) (hd : IdD f) {x : V} {u : Value} (h : RelV g x u) : RelV g' (x.mapW f) u := by
  cases x with
  | u => trivial
  | t x => exact RelT.map hf hd h
  | tup l => obtain ⟨us, rfl, hu⟩ := h; exact ⟨us, rfl, .map_left (hu.imp fun _ _ => RelT.map hf hd)⟩
theorem RelV.weak {g g' : G} (hf : Weak g g' id) {x : V} {u : Value} (h : RelV g x u) : RelV g' x u := by
  cases x with
  | u => trivial
  | t x => exact RelT.weak hf h
  | tup l => obtain ⟨us, rfl, hu⟩ := h; exact ⟨us, rfl, hu.imp fun _ _ => RelT.weak hf⟩

/-! parts of rows of cells -/
theorem lkGet_sub : ∀ (l : List (Nat × W)) (off n j : Nat), lkGet (lkSub off n l) j = if j < n then lkGet l (off + j) else none := by
  intro l off n j
  induction l with
  | nil => simp [lkSub, lkGet]
  | cons p r ih =>
    obtain ⟨i, x⟩ := p
    simp only [lkSub, lkGet]
    by_cases hc : off ≤ i ∧ i < off + n
    · have : (Nat.ble off i && Nat.blt i (off + n)) = true := by simp [Nat.ble_eq, Nat.blt_eq, hc]
      rw [this, cond_true]
      simp only [lkGet]
      by_cases hj : i = off + j
      · have e1 : (i - off == j) = true := by simp; omega
        have e2 : (i == off + j) = true := by simp [hj]
        rw [e1, e2, cond_true, cond_true, if_pos (by omega)]
      · have e2 : (i == off + j) = false := by simpa using hj
        have e1 : (i - off == j) = false := by simp; omega
        rw [e1, e2, cond_false, cond_false, ih]
    · have : (Nat.ble off i && Nat.blt i (off + n)) = false := by
        rw [Bool.eq_false_iff]; intro hh; simp [Nat.ble_eq, Nat.blt_eq] at hh; exact hc hh
      rw [this, cond_false, ih]
      split
      · have e2 : (i == off + j) = false := by simp; omega
        rw [e2, cond_false]
      · rfl

theorem lkGet_out : ∀ (l : List (Nat × W)) (off n j : Nat), lkGet (lkOut off n l) j = if off ≤ j ∧ j < off + n then none else lkGet l j := by
  intro l off n j
  induction l with
  | nil => simp [lkOut, lkGet]
  | cons p r ih =>
    obtain ⟨i, x⟩ := p
    simp only [lkOut, lkGet]
    by_cases hc : off ≤ i ∧ i < off + n
    · have : (Nat.ble off i && Nat.blt i (off + n)) = true := by simp [Nat.ble_eq, Nat.blt_eq, hc]
      rw [this, cond_true, ih]
      split
      · rfl
      · have e2 : (i == j) = false := by simp; omega
        rw [e2, cond_false]
    · have : (Nat.ble off i && Nat.blt i (off + n)) = false := by
        rw [Bool.eq_false_iff]; intro hh; simp [Nat.ble_eq, Nat.blt_eq] at hh; exact hc hh
      rw [this, cond_false]
      simp only [lkGet, ih]
      by_cases hj : i = j
      · subst hj
        rw [beq_self_eq_true, cond_true, if_neg hc]
        rfl
      · have e2 : (i == j) = false := by simpa using hj
        rw [e2, cond_false, cond_false]

theorem lkGet_add : ∀ (l : List (Nat × W)) (off j : Nat), lkGet (lkAdd off l) j = if off ≤ j then lkGet l (j - off) else none := by
  intro l off j
  induction l with
  | nil => simp [lkAdd, lkGet]
  | cons p r ih =>
    obtain ⟨i, x⟩ := p
    simp only [lkAdd, lkGet, ih]
    by_cases hj : off ≤ j
    · rw [if_pos hj, if_pos hj]
      by_cases he : i = j - off
      · have e1 : (off + i == j) = true := by simp; omega
        have e2 : (i == j - off) = true := by simpa using he
        rw [e1, e2]
      · have e1 : (off + i == j) = false := by simp; omega
        have e2 : (i == j - off) = false := by simpa using he
        rw [e1, e2]
    · rw [if_neg hj, if_neg hj]
      have e1 : (off + i == j) = false := by simp; omega
      rw [e1]; rfl

theorem lkGet_del (i : Nat) : ∀ (l : List (Nat × W)) (j : Nat), lkGet (lkDel i l) j = if j = i then none else lkGet l j := by
  intro l j
  induction l with
  | nil => simp [lkDel, lkGet]
  | cons p r ih =>
    obtain ⟨k, x⟩ := p
    simp only [lkDel, lkGet]
    by_cases hk : k = i
    · subst hk
      rw [beq_self_eq_true, cond_true, ih]
      by_cases hj : j = k
      · rw [if_pos hj, if_pos hj]
      · rw [if_neg hj, if_neg hj, beq_false_of_ne (fun e => hj e.symm), cond_false]
    · rw [beq_false_of_ne hk, cond_false]
      simp only [lkGet, ih]
      by_cases hj : j = i
      · subst hj; rw [beq_false_of_ne hk]; simp
      · rw [if_neg hj, if_neg hj]

theorem lkGet_ins (i : Nat) (x : W) : ∀ (l : List (Nat × W)) (j : Nat), lkGet l i = none → lkGet (lkIns i x l) j = if j = i then some x else lkGet l j := by
  intro l j
  induction l with
  | nil =>
    intro _
    simp only [lkIns, lkGet]
    by_cases hj : j = i
    · rw [if_pos hj, beq_iff_eq.2 hj.symm, cond_true]
    · rw [if_neg hj, beq_false_of_ne (fun e => hj e.symm), cond_false]
  | cons p r ih =>
    intro h
    obtain ⟨k, y⟩ := p
    have hki : k ≠ i := fun e => by subst e; simp [lkGet] at h
    have hr : lkGet r i = none := by simpa [lkGet, beq_false_of_ne hki] using h
    simp only [lkIns]
    cases Nat.blt i k with
    | true =>
      simp only [cond_true, lkGet]
      by_cases hj : j = i
      · rw [if_pos hj, beq_iff_eq.2 hj.symm, cond_true]
      · rw [if_neg hj, beq_false_of_ne (fun e => hj e.symm), cond_false]
    | false =>
      simp only [cond_false, lkGet, ih hr]
      by_cases hj : j = i
      · subst hj; rw [beq_false_of_ne hki, cond_false]; simp
      · rw [if_neg hj, if_neg hj]

theorem lkGet_insAll : ∀ (l m : List (Nat × W)) (j : Nat), lkGet (lkInsAll l m) j = match lkGet l j with | some x => some x | none => lkGet m j := by
  intro l m j
  induction l with
  | nil => rfl
  | cons p r ih =>
    obtain ⟨i, x⟩ := p
    simp only [lkInsAll]
    rw [lkGet_ins i x _ j (by rw [lkGet_del, if_pos rfl]), lkGet_del, ih]
    simp only [lkGet]
    by_cases hj : j = i
    · rw [if_pos hj, beq_iff_eq.2 hj.symm, cond_true]
    · rw [if_neg hj, if_neg hj, beq_false_of_ne (fun e => hj e.symm), cond_false]

theorem RelMx.sub {g : G} {m : M} {cs : List Value} (h : RelMx g m cs) {off n : Nat} (hle : off + n ≤ m.n) : RelMx g (m.sub off n) ((cs.drop off).take n) := by
  have h1 := h.1
  refine ⟨⟨by simp [M.sub, h1.1], by simp [M.sub]; omega⟩, fun j x u hx hu => ?_⟩
  rw [List.getElem?_take] at hu
  split at hu
  · rename_i hj
    rw [List.getElem?_drop] at hu
    refine h.2 (off + j) x u ?_ hu
    simp only [M.get, M.sub, lkGet_sub, if_pos hj] at hx
    simp only [M.get]
    rw [List.getElem?_take, if_pos hj, List.getElem?_drop] at hx
    exact hx
  · cases hu

theorem RelMx.put {g : G} {m x : M} {cs us : List Value} (h : RelMx g m cs) (hx : RelMx g x us) {off : Nat} (hle : off + x.n ≤ m.n) :
    RelMx g (m.put off x) (cs.take off ++ us ++ cs.drop (off + us.length)) := by
  have h1 := h.1
  have h2 := hx.1
  refine ⟨⟨by simp [M.put, h1, h2], by simp [M.put, h1, h2]; omega⟩, fun j y u hy hu => ?_⟩
  simp only [M.get, M.put, lkGet_insAll, lkGet_add, lkGet_out, lkGet_sub] at hy
  have hl1 : (m.l.take off).length = off := by rw [List.length_take]; omega
  have hl2 : (cs.take off).length = off := by rw [List.length_take]; omega
  by_cases hj1 : j < off
  · rw [if_neg (by omega), if_neg (by omega)] at hy
    rw [List.append_assoc, List.getElem?_append_left (by omega), List.getElem?_take, if_pos hj1] at hu
    refine h.2 j y u ?_ hu
    simp only [M.get]
    rw [List.append_assoc, List.getElem?_append_left (by omega), List.getElem?_take, if_pos hj1] at hy
    exact hy
  · by_cases hj2 : j < off + x.n
    · rw [if_pos (by omega), if_pos (by omega), if_pos ⟨by omega, hj2⟩, Nat.zero_add] at hy
      rw [List.append_assoc, List.getElem?_append_right (by omega), List.getElem?_append_left (by omega), hl2] at hu
      refine hx.2 (j - off) y u ?_ hu
      simp only [M.get]
      rw [List.append_assoc, List.getElem?_append_right (by omega), List.getElem?_append_left (by omega), hl1] at hy
      cases hq : lkGet x.lk (j - off) with
      | some z => rw [hq] at hy; exact hy
      | none => rw [hq] at hy; exact hy
    · rw [if_pos (by omega), if_neg (by omega), if_neg (by omega)] at hy
      rw [List.append_assoc, List.getElem?_append_right (by omega), List.getElem?_append_right (by omega), List.getElem?_drop, hl2] at hu
      have e1 : off + us.length + (j - off - us.length) = j := by omega
      rw [e1] at hu
      refine h.2 j y u ?_ hu
      simp only [M.get]
      rw [List.append_assoc, List.getElem?_append_right (by omega), List.getElem?_append_right (by omega), List.getElem?_drop, hl1] at hy
      have e2 : off + x.n + (j - off - x.l.length) = j := by omega
      rw [e2] at hy
      exact hy

theorem relM_of_all {g : G} {l : List C} {cs : List Value} {n : Nat} (h : All2 (RelC g.S) l cs) (hn : l.length = n) : RelMx g ⟨l, [], n⟩ cs := by
  refine ⟨⟨h.1, hn⟩, fun j x u hx hu => ?_⟩
  simp only [M.get, lkGet] at hx
  cases hc : l[j]? with
  | none => rw [hc] at hx; cases hx
  | some c => rw [hc] at hx; cases hx; exact h.2 j c u hc hu
theorem all_of_relM {g : G} {l : List C} {cs : List Value} {n : Nat} (h : RelMx g ⟨l, [], n⟩ cs) : All2 (RelC g.S) l cs :=
  ⟨h.1.1, fun j c u hc hu => h.2 j (.d c) u (by simp [M.get, lkGet, hc]) hu⟩

/-- elements, one behind the other, as cells -/
def Flat (S : Addr → Option Value) (sz : Nat) (els : List (List C)) (xs : List Value) : Prop :=
  xs.length = els.length * sz ∧ ∀ (i : Nat) e, els[i]? = some e → e.length = sz ∧ ∀ (j : Nat) c, e[j]? = some c → ∃ u, xs[i * sz + j]? = some u ∧ RelC S c u

theorem Flat.mono {S S' : Addr → Option Value} {sz : Nat} {els : List (List C)} {xs : List Value} (h : Flat S sz els xs) (hs : ∀ a v, S a = some v → S' a = some v) : Flat S' sz els xs :=
  ⟨h.1, fun i e hi => ⟨(h.2 i e hi).1, fun j c hj => let ⟨u, hu, hr⟩ := (h.2 i e hi).2 j c hj; ⟨u, hu, hr.mono hs⟩⟩⟩

def BoxRel (g : G) (w : World) (b : Nat) : Box → Prop
  | .cells m => ∃ (cs : List Value) (e : TypeId), w.heap[g.bx b]? = some (.cells cs.toArray e (0, 0)) ∧ RelMx g m cs
  | .arr mt e sz els => ∃ xs e', (∀ e0, e = some e0 → e' = e0) ∧ w.ownsRow 0 e' sz (g.sl b) els.length xs ∧ Flat g.S sz els xs ∧ 0 < sz ∧ (mt = false → RelC g.S (.sl sz els) (g.sl b))
  | .iter s pos => w.heap[g.bx b]? = some (.stringIter s pos)

/-- the block of a box -/
def blk (g : G) (b : Nat) : Box → Option Nat
  | .arr .. => (g.sl b).ownBlock
  | _ => some (g.bx b)

structure RelM (w0 : World) (S0 : Addr → Option Value) (O : Nat → Prop) (g : G) (bx : Bx) (w : World) : Prop where
  os : w.os = w0.os
  tape : w.tape = w0.tape
  output : w.output = w0.output
  size : w0.heap.size ≤ w.heap.size
  old : ∀ (k : Nat), k < w0.heap.size → ¬ O k → w.heap[k]? = w0.heap[k]?
  sub : ∀ a v, S0 a = some v → g.S a = some v
  new : ∀ a v, g.S a = some v → S0 a = some v ∨ w0.heap.size ≤ a.block ∨ O a.block
  mem : ∀ a v, g.S a = some v → w.cell? a = some v
  c : ∀ n, g.c n → n < bx.length
  box : ∀ (n : Nat) x, bx[n]? = some (some x) → g.c n ∧ BoxRel g w n x
  disj : ∀ (n m : Nat) x y k, bx[n]? = some (some x) → bx[m]? = some (some y) → blk g n x = some k → blk g m y = some k → n = m
  low : ∀ (n : Nat) x k, bx[n]? = some (some x) → blk g n x = some k → w0.heap.size ≤ k ∨ O k
  sep : ∀ (n : Nat) x k, bx[n]? = some (some x) → blk g n x = some k → ∀ off sp v, g.S ⟨k, off, sp⟩ = some v → ∃ e sz els, x = .arr false e sz els ∧ off < els.length * sz

structure Rel (w0 : World) (S0 : Addr → Option Value) (O : Nat → Prop) (g0 g : G) (st : St) (a : Act) (w : World) : Prop where
  df : a.defers = []
  len : a.tmps.size = st.env.length
  np : ∀ k, k < st.np → g.c k
  np0 : ∀ k, g0.c k ↔ k < st.np
  pin : ∀ k, k < st.np → g.bx k = g0.bx k ∧ g.sl k = g0.sl k
  env : ∀ (i : Nat) v, st.env[i]? = some v → RelV g v (a.tmps.getD i undef)
  m : RelM w0 S0 O g st.bx w

theorem ownBlk_lt {w : World} {b : Nat} {e : TypeId} {sz n : Nat} {v : Value} {xs : List Value} (h : w.ownsRow b e sz v n xs) {k : Nat} (hk : v.ownBlock = some k) : k < w.heap.size := by
  rcases h.2 with ⟨rfl, _⟩ | ⟨g, cap, cur, rfl, _, hh, _⟩
  · simp [Value.ownBlock] at hk
  · simp [Value.ownBlock] at hk; subst hk; exact (Array.getElem?_eq_some_iff.1 hh).1

theorem BoxRel.lt {g : G} {w : World} {n : Nat} {x : Box} (h : BoxRel g w n x) {k : Nat} (hk : blk g n x = some k) : k < w.heap.size := by
  cases x with
  | cells m => simp only [blk, Option.some.injEq] at hk; subst hk; obtain ⟨cs, e, hh, _⟩ := h; exact (Array.getElem?_eq_some_iff.1 hh).1
  | iter s p => simp only [blk, Option.some.injEq] at hk; subst hk; exact (Array.getElem?_eq_some_iff.1 h).1
  | arr mt e sz els => obtain ⟨xs, e', _, hr, _⟩ := h; exact ownBlk_lt hr hk

section
variable {w0 : World} {S0 : Addr → Option Value} {O : Nat → Prop} {g : G} {bx : Bx} {w : World}
theorem RelM.blk_lt (h : RelM w0 S0 O g bx w) {n : Nat} {x : Box} {k : Nat} (hx : bx[n]? = some (some x)) (hk : blk g n x = some k) : k < w.heap.size := (h.box n x hx).2.lt hk
theorem RelM.fresh (h : RelM w0 S0 O g bx w) : ¬ g.c bx.length := fun hc => Nat.lt_irrefl _ (h.c _ hc)
theorem RelM.S_lt (h : RelM w0 S0 O g bx w) {a : Addr} {v : Value} (ha : g.S a = some v) : a.block < w.heap.size := block_lt_of_cell (h.mem a v ha)
end

end Vm
