/- Vm, part V: functions whose answer is known otherwise; package variables. -/
import Derived.Test.YtniiimpcakmkbaaDoorWT
set_option linter.unusedVariables false
namespace Vm
open Go Go.RowKit

section
variable {w0 : World} {S0 : Addr → Option Value} {O : Nat → Prop} {g : G} {bx : Bx} {w w' : World}

/-- new blocks alone: all stands -/
theorem RelM.below (h : RelM w0 S0 O g bx w) (hb : Below w.heap.size w w') : RelM w0 S0 O g bx w' :=
  h.step (g' := g) (bx' := bx) (row := none) (N := bx.length) ⟨hb.os, hb.tape, hb.output, hb.size, fun k hk _ => hb.block k hk⟩ (fun k hk => by cases hk)
    (fun _ _ h => h) (fun _ _ h => .inl h) (fun _ _ _ hr => by cases hr) h.c
    (fun n y hy => ⟨(h.box n y hy).1, .inl ⟨(fun e => by rw [e, List.getElem?_eq_none (Nat.le_refl _)] at hy; cases hy), hy, rfl, (fun _ _ hr => by cases hr), id⟩⟩)
end

/-- a function that answers this to such arguments, and lays new blocks at most -/
theorem known_res {P : Program} {glob : Nat → Option (List C)} {f : FuncId} {args : List V} {v : V}
    (hbody : ∃ fn c, P.funcs[f]? = some fn ∧ fn.body = some c ∧ (fn.name == "runtime.NumGoroutine") = false)
    (h : ∀ (g : G) (w : World) (cargs : List Value), (∀ a u, g.S a = some u → w.cell? a = some u) → (∀ g' l, glob g' = some l → RelC g.S (.ip l) (.pointer (some ⟨g', 0, none⟩))) → All2 (RelV g) args cargs →
      ∃ u, RelV g v u ∧ Calls P f cargs.toArray w (fun e w' => e = .returned u ∧ Below w.heap.size w w')) (bxs : Bx) : FnRes P glob f args bxs v bxs := by
  intro g w O cargs hm hc hg ha
  obtain ⟨u, hu, hcall⟩ := h g w cargs hm.mem hg ha
  obtain ⟨fn, c, hf, hb, hn⟩ := hbody
  refine .inl ⟨callFunc_enter hf (by rw [hb]; rfl) hn _ _, hcall.mono fun e w' ⟨he, hbel⟩ => ⟨u, he, g, fun _ _ => ⟨rfl, rfl⟩, Nat.le_refl _, hu, hm.below hbel⟩⟩

/-- the interpreter's frame with package variables -/
def mkCfG (glob : Nat → Option (List C)) (ti : TypeId → Option TI) (o : FuncId → List V → Bx → Tr) (keep : Bool) (bor : List Nat) (lv : List (Nat × Nat)) : Cfg :=
  { ti := ti, glob := glob, pc := fun f a b k => (o f a b).run k, keep := keep, bor := fun i => bor.any (fun j => Nat.beq j i), drop := fun r i => !liveAt lv r i, xm := true, eqs := fun _ => false }
theorem mkCfG_ok {P : Program} {glob : Nat → Option (List C)} {ti : TypeId → Option TI} {o : FuncId → List V → Bx → Tr} {keep : Bool} {bor : List Nat} {lv : List (Nat × Nat)} (h : OrcOk P glob o) : PcOk P (mkCfG glob ti o keep bor lv) :=
  OrcOk.pc h rfl
theorem specAtG {P : Program} {glob : Nat → Option (List C)} (hmix : P.follows .mixedOrders = true) {ti : TypeId → Option TI} (hti : ∀ t i, ti t = some i → TIok P t i) {g : FuncId} {fn : Func} (hf : P.funcs[g]? = some fn) (hb : fn.body.isSome = true)
    (hname : (fn.name == "runtime.NumGoroutine") = false) {l : List (FuncId × (List V → Bx → Tr))} (hl : TabS P glob l) {keep : Bool} {bor : List Nat} {lv : List (Nat × Nat)} (F : Nat) {a b v b'}
    (h : runFn (mkCfG glob ti (orcOf l) keep bor lv) F fn (bd fn) a b fin2 = some (v, b')) : FnRes P glob g a b v b' := by
  have hb' : fn.body = some (bd fn) := by unfold bd; cases hx : fn.body with | none => rw [hx] at hb; cases hb | some c => rfl
  exact runFn_res (cf := mkCfG glob ti (orcOf l) keep bor lv) hmix hti (mkCfG_ok hl.orc) hf hb' hname h

/-- as mkCfG; and structs of the types qs may be compared -/
def mkCfQ (qs : List TypeId) (glob : Nat → Option (List C)) (ti : TypeId → Option TI) (o : FuncId → List V → Bx → Tr) (keep : Bool) (bor : List Nat) (lv : List (Nat × Nat)) : Cfg :=
  { ti := ti, glob := glob, pc := fun f a b k => (o f a b).run k, keep := keep, bor := fun i => bor.any (fun j => Nat.beq j i), drop := fun r i => !liveAt lv r i, xm := true, eqs := fun t => qs.any (fun j => Nat.beq j t) }
/-- types whose structs may be compared -/
def EqsOk (P : Program) (qs : List TypeId) : Prop := ∀ t ∈ qs, P.stoodInHeld t = false ∧ P.eqGuardType P.depth t = false
theorem mkCfQ_ok {P : Program} {qs : List TypeId} (hq : EqsOk P qs) {glob : Nat → Option (List C)} {ti : TypeId → Option TI} {o : FuncId → List V → Bx → Tr} {keep : Bool} {bor : List Nat} {lv : List (Nat × Nat)} (h : OrcOk P glob o) : PcOk P (mkCfQ qs glob ti o keep bor lv) :=
  OrcOk.pc h rfl (fun t ht => by
    obtain ⟨j, hj, he⟩ := List.any_eq_true.1 ht
    rw [← Nat.eq_of_beq_eq_true he]
    exact hq j hj)
theorem specAtQ {P : Program} {qs : List TypeId} (hq : EqsOk P qs) {glob : Nat → Option (List C)} (hmix : P.follows .mixedOrders = true) {ti : TypeId → Option TI} (hti : ∀ t i, ti t = some i → TIok P t i) {g : FuncId} {fn : Func} (hf : P.funcs[g]? = some fn) (hb : fn.body.isSome = true)
    (hname : (fn.name == "runtime.NumGoroutine") = false) {l : List (FuncId × (List V → Bx → Tr))} (hl : TabS P glob l) {keep : Bool} {bor : List Nat} {lv : List (Nat × Nat)} (F : Nat) {a b v b'}
    (h : runFn (mkCfQ qs glob ti (orcOf l) keep bor lv) F fn (bd fn) a b fin2 = some (v, b')) : FnRes P glob g a b v b' := by
  have hb' : fn.body = some (bd fn) := by unfold bd; cases hx : fn.body with | none => rw [hx] at hb; cases hb | some c => rfl
  exact runFn_res (cf := mkCfQ qs glob ti (orcOf l) keep bor lv) hmix hti (mkCfQ_ok hq hl.orc) hf hb' hname h
end Vm
