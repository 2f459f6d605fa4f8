/- grammar: errors.Is over the two errors, by its text (after the kit's worked Sentry) -/
import Derived.Test.YtniiimpcakmkbaaDoorGrA
import Derived.Test.YtniiimpcakmkbaaDoorSgD
import Derived.Test.YtniiimpcakmkbaaDoorWP
import Derived.Test.YtniiimpcakmkbaaDoorChecked
import Derived.WalkKit
import Derived.LaidEql
import Derived.Stop.Asserts
import Derived.RowKitTokens
set_option linter.unusedVariables false
namespace Go.Proofs.YtniiimpcakmkbaaDoor
open Go.RowKit Go.Extern.Stop Go.Stop Go.Extern

/-! ### CLOSED FACTS: what 'reflectlite.TypeOf(target).Comparable()' gives at such a target -/
theorem Tryd.isTypeOf (v : Value) (w : World) : (Extern.ReflectliteType.typeOf #[.iface 172 v]).run Tryd.prog w = .ok (.iface 155 (.agg #[.pointer (some ⟨5, 172, none⟩)])) w := by kernel_rfl
theorem Tryd.isComparable (w : World) : ((Extern.ReflectliteType.method fun t => do Extern.Rtype.noPackHeld "Comparable" t; (fun a => Value.bool a.comparable) <$> typeInfo t) #[.agg #[.pointer (some ⟨5, 172, none⟩)]]).run Tryd.prog w = .ok (.bool true) w := by kernel_rfl
theorem Tryd.isMethodComparable (v : Value) (w : World) : (Go.method 305 155 v "Comparable").run Tryd.prog w = .ok (121, v) w := by kernel_rfl
theorem Tryd.isComp : (Tryd.prog.info? 172).map (·.comparable) = some true := by kernel_rfl
theorem Tryd.isSize : (Tryd.prog.info? 194).map (·.size) = some 1 := by kernel_rfl

/-! ### CLOSED FACTS ON THE METHOD SETS: what errors.is's assertions find -/
theorem Tryd.noIsE (v : Value) (xT : TypeId) (w : World) : (Instr.typeAssert (.iface 172 v) xT 157 true).run Tryd.prog w = .ok (.tuple #[.nilIface, .bool false]) w := run_typeAssert_lacksB Tryd.underlying157 (by kernel_rfl) (by kernel_rfl) v xT w
theorem Tryd.noUnwrapE (v : Value) (xT : TypeId) (w : World) : (Instr.typeAssert (.iface 172 v) xT 160 true).run Tryd.prog w = .ok (.tuple #[.nilIface, .bool false]) w := run_typeAssert_lacksB Tryd.underlying160 (by kernel_rfl) (by kernel_rfl) v xT w
theorem Tryd.noUnwrapsE (v : Value) (xT : TypeId) (w : World) : (Instr.typeAssert (.iface 172 v) xT 162 true).run Tryd.prog w = .ok (.tuple #[.nilIface, .bool false]) w := run_typeAssert_lacksB Tryd.underlying162 (by kernel_rfl) (by kernel_rfl) v xT w

set_option maxRecDepth 100000 in
/-- errors.Is(x, x), x a pointer to an errors.errorString. -/
theorem is_same (a : Addr) (w : World) :
    Calls Tryd.prog 65 #[.iface 172 (.pointer (some a)), .iface 172 (.pointer (some a))] w fun e w' => e = .returned (.bool true) ∧ w' = w := by
  obtain ⟨i, hi, hcmp⟩ := Option.map_eq_some_iff.1 Tryd.isComp
  obtain ⟨j, hj, hjs⟩ := Option.map_eq_some_iff.1 Tryd.isSize
  have h8 := @run_callFunc_extern Tryd.prog 81 _ Extern.ReflectliteType.typeOf Tryd.func81 (by kernel_rfl) (by kernel_rfl) (by kernel_rfl) (by kernel_rfl)
  have h32 := @run_callFunc_extern Tryd.prog 121 _ (Extern.ReflectliteType.method fun t => do Extern.Rtype.noPackHeld "Comparable" t; pure (.bool (← typeInfo t).comparable)) Tryd.func121 (by kernel_rfl) (by kernel_rfl) (by kernel_rfl) (by kernel_rfl)
  have tT := Tryd.isTypeOf
  have cT := Tryd.isComparable
  have mR := Tryd.isMethodComparable
  have heq := run_eql_iface_ptr_same (P := Tryd.prog) w a Tryd.underlying95 Tryd.underlying172 hi hcmp hj
  go_enter Tryd.func65, Tryd.ntmps65
  go_wp2
  refine wp_loop_rounds 1 ?_
  rw [rounds_succ]
  go_wp2
  go_ret
  exact ⟨rfl, rfl⟩

set_option maxRecDepth 100000 in
/-- errors.Is(nil, x). -/
theorem is_nil (b : Addr) (w : World) :
    Calls Tryd.prog 65 #[.nilIface, .iface 172 (.pointer (some b))] w fun e w' => e = .returned (.bool false) ∧ w' = w := by
  have hn := run_eql_iface_nil_left (P := Tryd.prog) w 172 (.pointer (some b)) Tryd.underlying95
  go_enter Tryd.func65, Tryd.ntmps65
  go_wp2
  go_ret
  exact ⟨rfl, rfl⟩

set_option maxRecDepth 100000 in
/-- errors.Is(x, y), two different pointers to errors.errorString: neither has Is nor Unwrap: false. -/
theorem is_other (a b : Addr) (ca cb : Array Value) (ta tb : TypeId) (w : World) (hne : a ≠ b) (ha : w.heap[a.block]? = some (.cells ca ta (0, 0))) (hb : w.heap[b.block]? = some (.cells cb tb (0, 0))) :
    Calls Tryd.prog 65 #[.iface 172 (.pointer (some a)), .iface 172 (.pointer (some b))] w fun e w' => e = .returned (.bool false) ∧ w' = w := by
  obtain ⟨i, hi, hcmp⟩ := Option.map_eq_some_iff.1 Tryd.isComp
  obtain ⟨j, hj, hjs⟩ := Option.map_eq_some_iff.1 Tryd.isSize
  have h8 := @run_callFunc_extern Tryd.prog 81 _ Extern.ReflectliteType.typeOf Tryd.func81 (by kernel_rfl) (by kernel_rfl) (by kernel_rfl) (by kernel_rfl)
  have h32 := @run_callFunc_extern Tryd.prog 121 _ (Extern.ReflectliteType.method fun t => do Extern.Rtype.noPackHeld "Comparable" t; pure (.bool (← typeInfo t).comparable)) Tryd.func121 (by kernel_rfl) (by kernel_rfl) (by kernel_rfl) (by kernel_rfl)
  have tT := Tryd.isTypeOf
  have cT := Tryd.isComparable
  have mR := Tryd.isMethodComparable
  have nE := Tryd.noIsE
  have uE := Tryd.noUnwrapE
  have vE := Tryd.noUnwrapsE
  have heq := run_eql_iface_ptr_other (P := Tryd.prog) w Tryd.underlying95 Tryd.underlying172 hi hcmp hj (by rw [hjs]; decide) hne ha hb
  go_enter Tryd.func65, Tryd.ntmps65
  go_wp2
  refine wp_loop_rounds 1 ?_
  rw [rounds_succ]
  go_wp2
  go_ret
  exact ⟨rfl, rfl⟩

open Vm in
def gIsS : List V → Bx → Tr
  | [.t (.w (.d (.er n 172 gs))), .t (.w (.d (.er k 172 gs')))], [] => .ite (gsOk gs && gsOk gs' && decide (n ≤ 2) && (Nat.beq k 1 || Nat.beq k 2)) (.ret (vb (Nat.beq n k)) []) .no
  | _, _ => .no
open Vm in
theorem gIs_ok (m : Int) : SpecOk Tryd.prog (globG m) 65 gIsS := by
  intro a b v b' h
  unfold gIsS at h
  split at h
  · rename_i n gs k gs'
    rcases run_ite h with ⟨hl, hx⟩ | ⟨_, hx⟩ <;> clear h <;> have h := hx <;> clear hx
    · simp only [Bool.and_eq_true, Bool.or_eq_true, decide_eq_true_eq] at hl
      obtain ⟨⟨⟨hg, hg'⟩, hn⟩, hk⟩ := hl
      have e1 : gs = [0, 1] := by simpa [gsOk] using hg
      have e2 : gs' = [0, 1] := by simpa [gsOk] using hg'
      subst e1 e2
      obtain ⟨rfl, rfl⟩ := run_ret h
      refine known_resE ⟨_, _, Tryd.func65, rfl, by kernel_rfl⟩ (fun g w O cargs hS hgl he ha => ?_) []
      obtain ⟨ad, hE⟩ := he
      have hE' := hE 0 [.er 1 172 [0, 1]] 1 172 [0, 1] rfl (by simp)
      match cargs, ha with
      | [x, y], ha =>
        have h1 : RelC g.S (.er n 172 [0, 1]) x := ha.head
        have h2 : RelC g.S (.er k 172 [0, 1]) y := ha.tail.head
        refine ⟨_, RelC.bool _, ?_⟩
        obtain ⟨k', rfl, hk'⟩ : ∃ k', k = k' + 1 ∧ k' < 2 := by
          rcases hk with h | h
          · exact ⟨0, Nat.eq_of_beq_eq_true h, by omega⟩
          · exact ⟨1, Nat.eq_of_beq_eq_true h, by omega⟩
        cases h2 with
        | er1 _ _ _ b2 a2 hb2 hS2 =>
          have c2 := hS _ _ hS2
          obtain ⟨d1, _, _, ⟨cc2, u2, d4⟩, d5⟩ := hE' k' b2 hb2
          rw [c2] at d1
          simp only [Option.some.injEq, Value.iface.injEq, Value.pointer.injEq, true_and] at d1
          subst d1
          cases h1 with
          | er0 =>
            refine (is_nil _ w).mono fun e w' ⟨he, hw⟩ => ⟨?_, hw ▸ Below.refl _ _⟩
            rw [he]; rfl
          | er1 n' _ _ b1 a1 hb1 hS1 =>
            have c1 := hS _ _ hS1
            obtain ⟨f1, _, _, ⟨cc1, u1, f4⟩, f5⟩ := hE' n' b1 hb1
            rw [c1] at f1
            simp only [Option.some.injEq, Value.iface.injEq, Value.pointer.injEq, true_and] at f1
            subst f1
            by_cases hnk : n' = k'
            · subst hnk
              rw [hb1] at hb2
              simp only [Option.some.injEq] at hb2
              subst hb2
              refine (is_same _ w).mono fun e w' ⟨he, hw⟩ => ⟨?_, hw ▸ Below.refl _ _⟩
              rw [he, Nat.beq_refl]
            · have hbb : b1 ≠ b2 := by
                have q : ∀ (i j : Nat) (x y : Nat), i < 2 → j < 2 → i ≠ j → ([0, 1] : List Nat)[i]? = some x → ([0, 1] : List Nat)[j]? = some y → x ≠ y := by
                  intro i j x y hi hj hij hx hy
                  have : (i = 0 ∧ j = 1) ∨ (i = 1 ∧ j = 0) := by omega
                  rcases this with ⟨rfl, rfl⟩ | ⟨rfl, rfl⟩ <;> simp at hx hy <;> omega
                exact q n' k' b1 b2 (by omega) hk' hnk hb1 hb2
              refine (is_other _ _ cc1 cc2 u1 u2 w (f5 k' b2 hb2 hbb) f4 d4).mono fun e w' ⟨he, hw⟩ => ⟨?_, hw ▸ Below.refl _ _⟩
              have : Nat.beq (n' + 1) (k' + 1) = false := by
                rw [← Bool.not_eq_true]; intro hb; have := Nat.eq_of_beq_eq_true hb; omega
              rw [he, this]
      | [], ha => exact absurd ha.1 (by simp)
      | [_], ha => exact absurd ha.1 (by simp)
      | _ :: _ :: _ :: _, ha => exact absurd ha.1 (by simp)
    · exact (run_no h).elim
  · cases h
end Go.Proofs.YtniiimpcakmkbaaDoor
