/- Vm, part R: what is used where functions are shown to be what they are. -/
import Derived.Test.YtniiimpcakmkbaaDoorWQ
import Derived.KernelRfl
namespace Vm
open Go

/-- 'lv': the slots that are looked at behind a loop's head, by the loop's first region -/
def mkCfD (ti : TypeId → Option TI) (o : FuncId → List V → Bx → Tr) (keep : Bool) (bor : List Nat) (lv : List (Nat × Nat)) : Cfg :=
  { ti := ti, glob := fun _ => none, pc := fun f a b k => (o f a b).run k, keep := keep, bor := fun i => bor.any (fun j => Nat.beq j i), drop := fun r i => !liveAt lv r i, xm := true, eqs := fun _ => false }
def mkCf (ti : TypeId → Option TI) (o : FuncId → List V → Bx → Tr) (keep : Bool := false) (bor : Nat → Bool := fun _ => false) (drop : Nat → Bool := fun _ => false) : Cfg :=
  { ti := ti, glob := fun _ => none, pc := fun f a b k => (o f a b).run k, keep := keep, bor := bor, drop := fun _ => drop, xm := false, eqs := fun _ => false }
def blockK {R : Type} (id : Nat) (k : X → St → Option R) : X → St → Option R := fun x st => match x with
  | .nm => k .nm st
  | .ex i => bif i == id then k .nm st else k (.ex i) st
  | .rt => k .rt st
noncomputable def seqK {R : Type} (cf : Cfg) (F : Nat) (b : Code) (k : X → St → Option R) : X → St → Option R := fun x st => match x with
  | .nm => exec cf F b k st
  | .ex i => k (.ex i) st
  | .rt => k .rt st
noncomputable def finK {R : Type} (cf : Cfg) (fn : Func) (k : V → Bx → Option R) : X → St → Option R := fun x st => match x with
  | .ex _ => none
  | _ => finish cf fn.results.toList k st
/-- what stands behind a round -/
def loopK {R : Type} (hd : St → St) (body : (X → St → Option R) → St → Option R) (k : X → St → Option R) (n : Nat) : X → St → Option R := fun x st => match x with
  | .nm => loopV hd body k n (hd st)
  | .ex id => k (.ex id) st
  | .rt => k .rt st
def bd (f : Func) : Code := f.body.getD .skip
/-- parts of code -/
def cA : Code → Code
  | .seq a _ => a
  | .cond _ a _ => a
  | .block _ c => c
  | .loop c => c
  | c => c
def cB : Code → Code
  | .seq _ b => b
  | .cond _ _ b => b
  | c => c

theorem getT_map {α β γ : Type} (f : α → β) (xs : List α) (i : Nat) (k : β → Option γ) : getT (xs.map f) i k = getT xs i fun x => k (f x) := by
  unfold getT; rw [List.getElem?_map]; cases xs[i]? <;> rfl
theorem getT_getT {α γ : Type} (xs : List α) (i : Nat) (k : α → α → Option γ) : (getT xs i fun x => getT xs i fun y => k x y) = getT xs i fun x => k x x := by
  unfold getT; cases xs[i]? <;> rfl
theorem getT_some {α γ : Type} {xs : List α} {i : Nat} {x : α} (h : xs[i]? = some x) (k : α → Option γ) : getT xs i k = k x := by unfold getT; rw [h]

/-- an oracle of functions that are known -/
def OrcOk (P : Program) (glob : Nat → Option (List C)) (o : FuncId → List V → Bx → Tr) : Prop :=
  ∀ f a b v b', (o f a b).run (fun v b => some (v, b)) = some (v, b') → FnRes P glob f a b v b'
theorem Tr.run_bind {R : Type} (t : Tr) (k : V → Bx → Option R) : t.run k = (t.run fun v b => some (v, b)).bind fun p => k p.1 p.2 := by
  induction t with
  | no => rfl
  | ret v b => rfl
  | ite c x y ihx ihy =>
    simp only [Tr.run]
    cases c with
    | true => exact ihx
    | false => exact ihy
theorem OrcOk.pc {P : Program} {cf : Cfg} {o : FuncId → List V → Bx → Tr} (h : OrcOk P cf.glob o) (hp : ∀ {R : Type}, @Cfg.pc cf R = fun f a b k => (o f a b).run k)
    (he : ∀ t, cf.eqs t = true → P.stoodInHeld t = false ∧ P.eqGuardType P.depth t = false := by exact fun _ h => nomatch h) : PcOk P cf := by
  refine ⟨fun f args bxs k r hr => ?_, fun f args bxs k => ?_, he⟩
  · rw [hp] at hr
    obtain ⟨v, b, h1, h2⟩ := Tr.nat _ hr
    exact ⟨v, b, h1, h f args bxs v b h2⟩
  · rw [hp, hp]
    exact Tr.run_bind (o f args bxs) k
theorem mkCf_ok {P : Program} {ti : TypeId → Option TI} {o : FuncId → List V → Bx → Tr} {keep : Bool} {bor drop : Nat → Bool} (h : OrcOk P (fun _ => none) o) : PcOk P (mkCf ti o keep bor drop) :=
  OrcOk.pc h rfl
theorem mkCfD_ok {P : Program} {ti : TypeId → Option TI} {o : FuncId → List V → Bx → Tr} {keep : Bool} {bor : List Nat} {lv : List (Nat × Nat)} (h : OrcOk P (fun _ => none) o) : PcOk P (mkCfD ti o keep bor lv) :=
  OrcOk.pc h rfl
end Vm
