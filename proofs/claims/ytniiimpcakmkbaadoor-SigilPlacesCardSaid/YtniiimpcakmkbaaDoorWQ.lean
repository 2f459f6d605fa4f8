/- Vm, part Q: a program's types for the interpreter. -/
import Derived.Test.YtniiimpcakmkbaaDoorWP
namespace Vm
open Go

def zOk : Z → Value → Bool
  | .c (.int k n), .int k' n' => decide (k = k') && decide (n = n')
  | .c (.bool b), .bool b' => b == b'
  | .c (.str s), .string s' => decide (s.size = 0) && decide (s'.size = 0)
  | .c .ni, .nilIface => true
  | .c .nf, .nilFunc => true
  | .c .np, .pointer none => true
  | .s _ sz, .slice none 0 0 => Nat.blt 0 sz
  | _, _ => false

theorem zOk_rel {z : Z} {v : Value} (h : zOk z v = true) : ZRel z v := by
  unfold zOk at h
  split at h
  · simp only [Bool.and_eq_true, decide_eq_true_eq] at h; obtain ⟨rfl, rfl⟩ := h; exact RelC.int _ _
  · simp only [beq_iff_eq] at h; subst h; exact RelC.bool _
  · rename_i s s'
    simp only [Bool.and_eq_true, decide_eq_true_eq] at h
    have : s = s' := by
      have e1 : s.data = #[] := Array.eq_empty_of_size_eq_zero h.1
      have e2 : s'.data = #[] := Array.eq_empty_of_size_eq_zero h.2
      cases s; cases s'; simp only at e1 e2; rw [e1, e2]
    subst this; exact RelC.str _
  · exact RelC.ni
  · exact RelC.nf
  · exact RelC.np
  · exact ⟨rfl, by simpa [Nat.blt_eq] using h⟩
  · cases h

def zsOk : List Z → List Value → Bool
  | [], [] => true
  | z :: r, v :: q => zOk z v && zsOk r q
  | _, _ => false

theorem zsOk_rel : ∀ (zs : List Z) (vs : List Value), zsOk zs vs = true → All2 ZRel zs vs := by
  intro zs
  induction zs with
  | nil => intro vs h; cases vs with
           | nil => exact .nil
           | cons v q => cases h
  | cons z r ih =>
    intro vs h
    cases vs with
    | nil => cases h
    | cons v q =>
      simp only [zsOk, Bool.and_eq_true] at h
      exact .cons (zOk_rel h.1) (ih q h.2)

def isAggV : Value → Bool
  | .agg _ => true
  | _ => false

theorem tiok {P : Program} {t : TypeId} {i : TI} {f : TypeInfo} {z : Value} (hu : P.underlying t = some i.desc) (hf : P.info? t = some f) (hz : f.zero = some z) (hs : f.size = i.size) (hb : f.bytes = i.bytes)
    (hzs : zsOk i.zero z.cells.toList = true) (hl : i.zero.length = i.size) (ha : isAggV z = i.ag) (hd : i.ag = (match i.desc with | .struct _ | .array _ _ => true | _ => false)) : TIok P t i := by
  refine ⟨hu, ⟨z, by rw [hf]; simp [hz, hs, hb], zsOk_rel _ _ hzs, hl, ?_⟩, hd⟩
  cases z <;> simp only [isAggV] at ha <;> simp [← ha, Value.cells]
end Vm
namespace Vm
open Go
/-- a table of types, from a number on -/
def TabOk (P : Program) (k : Nat) (l : List (Option TI)) : Prop := ∀ (j : Nat) i, l[j]? = some (some i) → TIok P (k + j) i
theorem TabOk.nil {P : Program} {k : Nat} : TabOk P k [] := fun j i h => by simp at h
theorem TabOk.no {P : Program} {k : Nat} {l : List (Option TI)} (h : TabOk P (k + 1) l) : TabOk P k (none :: l) := fun j i hj => by
  cases j with
  | zero => simp at hj
  | succ j => have := h j i (by simpa using hj); rwa [show k + 1 + j = k + (j + 1) by omega] at this
theorem TabOk.yes {P : Program} {k : Nat} {x : TI} {l : List (Option TI)} (hx : TIok P k x) (h : TabOk P (k + 1) l) : TabOk P k (some x :: l) := fun j i hj => by
  cases j with
  | zero => simp at hj; subst hj; exact hx
  | succ j => have := h j i (by simpa using hj); rwa [show k + 1 + j = k + (j + 1) by omega] at this
def tabOf (l : List (Option TI)) (t : TypeId) : Option TI := match l[t]? with | some x => x | none => none
theorem TabOk.ti {P : Program} {l : List (Option TI)} (h : TabOk P 0 l) : ∀ t i, tabOf l t = some i → TIok P t i := by
  intro t i ht
  unfold tabOf at ht
  cases hq : l[t]? with
  | none => rw [hq] at ht; cases ht
  | some x => rw [hq] at ht; simp only at ht; subst ht; have := h t i hq; rwa [Nat.zero_add] at this
end Vm
