/- Vm, part S: functions that answer by a tree of conditions; plain helpers. -/
import Derived.Test.YtniiimpcakmkbaaDoorWR
import Derived.Laws.BitsLemmas
namespace Vm
open Go

abbrev fin2 : V → Bx → Option (V × Bx) := fun v b => some (v, b)

/-- a function answers by its tree -/
def SpecOk (P : Program) (glob : Nat → Option (List C)) (g : FuncId) (S : List V → Bx → Tr) : Prop :=
  ∀ a b v b', (S a b).run fin2 = some (v, b') → FnRes P glob g a b v b'

def orcOf : List (FuncId × (List V → Bx → Tr)) → FuncId → List V → Bx → Tr
  | [], _, _, _ => .no
  | (g, S) :: r, f, a, b => bif f == g then S a b else orcOf r f a b

inductive TabS (P : Program) (glob : Nat → Option (List C)) : List (FuncId × (List V → Bx → Tr)) → Prop
  | nil : TabS P glob []
  | cons {g S r} (h : SpecOk P glob g S) (t : TabS P glob r) : TabS P glob ((g, S) :: r)

theorem TabS.orc {P : Program} {glob : Nat → Option (List C)} {l : List (FuncId × (List V → Bx → Tr))} (h : TabS P glob l) : OrcOk P glob (orcOf l) := by
  induction h with
  | nil => intro f a b v b' h; cases h
  | @cons g S r hs _ ih =>
    intro f a b v b' h
    simp only [orcOf] at h
    cases hf : f == g with
    | true => rw [hf, cond_true] at h; have := eq_of_beq hf; subst this; exact hs a b v b' h
    | false => rw [hf, cond_false] at h; exact ih f a b v b' h

theorem specOk {P : Program} (hmix : P.follows .mixedOrders = true) {ti : TypeId → Option TI} (hti : ∀ t i, ti t = some i → TIok P t i) {g : FuncId} {fn : Func} (hf : P.funcs[g]? = some fn) (hb : fn.body.isSome = true)
    (hname : (fn.name == "runtime.NumGoroutine") = false) {l : List (FuncId × (List V → Bx → Tr))} (hl : TabS P (fun _ => none) l) {keep : Bool} {bor drop : Nat → Bool} {S : List V → Bx → Tr}
    (h : ∀ a b v b', (S a b).run fin2 = some (v, b') → ∃ F, runFn (mkCf ti (orcOf l) keep bor drop) F fn (bd fn) a b fin2 = some (v, b')) : SpecOk P (fun _ => none) g S := by
  intro a b v b' hr
  obtain ⟨F, hF⟩ := h a b v b' hr
  have hb' : fn.body = some (bd fn) := by unfold bd; cases hx : fn.body with | none => rw [hx] at hb; cases hb | some c => rfl
  exact runFn_res (cf := mkCf ti (orcOf l) keep bor drop) hmix hti (mkCf_ok hl.orc) hf hb' hname hF

theorem specAt {P : Program} (hmix : P.follows .mixedOrders = true) {ti : TypeId → Option TI} (hti : ∀ t i, ti t = some i → TIok P t i) {g : FuncId} {fn : Func} (hf : P.funcs[g]? = some fn) (hb : fn.body.isSome = true)
    (hname : (fn.name == "runtime.NumGoroutine") = false) {l : List (FuncId × (List V → Bx → Tr))} (hl : TabS P (fun _ => none) l) {keep : Bool} {bor drop : Nat → Bool} (F : Nat) {a b v b'}
    (h : runFn (mkCf ti (orcOf l) keep bor drop) F fn (bd fn) a b fin2 = some (v, b')) : FnRes P (fun _ => none) g a b v b' := by
  have hb' : fn.body = some (bd fn) := by unfold bd; cases hx : fn.body with | none => rw [hx] at hb; cases hb | some c => rfl
  exact runFn_res (cf := mkCf ti (orcOf l) keep bor drop) hmix hti (mkCf_ok hl.orc) hf hb' hname h

theorem specAtD {P : Program} (hmix : P.follows .mixedOrders = true) {ti : TypeId → Option TI} (hti : ∀ t i, ti t = some i → TIok P t i) {g : FuncId} {fn : Func} (hf : P.funcs[g]? = some fn) (hb : fn.body.isSome = true)
    (hname : (fn.name == "runtime.NumGoroutine") = false) {l : List (FuncId × (List V → Bx → Tr))} (hl : TabS P (fun _ => none) l) {keep : Bool} {bor : List Nat} {lv : List (Nat × Nat)} (F : Nat) {a b v b'}
    (h : runFn (mkCfD ti (orcOf l) keep bor lv) F fn (bd fn) a b fin2 = some (v, b')) : FnRes P (fun _ => none) g a b v b' := by
  have hb' : fn.body = some (bd fn) := by unfold bd; cases hx : fn.body with | none => rw [hx] at hb; cases hb | some c => rfl
  exact runFn_res (cf := mkCfD ti (orcOf l) keep bor lv) hmix hti (mkCfD_ok hl.orc) hf hb' hname h

theorem w64 (x : Int) (h0 : -9223372036854775808 ≤ x) (h1 : x ≤ 9223372036854775807) : IntKind.i64.wrap x = x := by rw [IntKind.wrap_i64]; omega

theorem run_ite {R : Type} {c : Bool} {x y : Tr} {k : V → Bx → Option R} {r : R} (h : (Tr.ite c x y).run k = some r) : (c = true ∧ x.run k = some r) ∨ (c = false ∧ y.run k = some r) := by
  cases c with
  | true => exact .inl ⟨rfl, h⟩
  | false => exact .inr ⟨rfl, h⟩
theorem run_ret {v v' : V} {b b' : Bx} (h : (Tr.ret v b).run fin2 = some (v', b')) : v' = v ∧ b' = b := by
  simp only [Tr.run, fin2, Option.some.injEq, Prod.mk.injEq] at h; exact ⟨h.1.symm, h.2.symm⟩
theorem run_no {R : Type} {k : V → Bx → Option R} {r : R} (h : Tr.no.run k = some r) : False := by cases h
theorem getT_at {α γ : Type} {xs : List α} {i : Int} {n : Nat} {x : α} (hi : i = n) (h : xs[n]? = some x) (k : α → Option γ) : getT xs i.toNat k = k x := by subst hi; exact getT_some (by simpa using h) k
end Vm
