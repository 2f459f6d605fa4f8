/- sigil: texts of about as many runes as may be -/
import Derived.Test.YtniiimpcakmkbaaDoorSgTg
import Derived.Test.YtniiimpcakmkbaaDoorSgLa
set_option linter.unusedVariables false
namespace Go.Proofs.YtniiimpcakmkbaaDoor
open Go Vm Go.Lib
def rep (ns : List Nat) : Nat → List Nat
  | 0 => []
  | n + 1 => ns ++ rep ns n
theorem rep_len (ns : List Nat) (n : Nat) : (rep ns n).length = n * ns.length := by
  induction n with
  | zero => simp [rep]
  | succ n ih => simp only [rep, List.length_append, ih, Nat.succ_mul]; omega
theorem rep_SC {ns : List Nat} (h : SC ns) (n : Nat) : SC (rep ns n) := by
  induction n with
  | zero => exact SC.nil
  | succ n ih => exact h.app ih
theorem rep_encs (ns : List Nat) (n : Nat) : repeatL (encs ns) n = encs (rep ns n) := by
  induction n with
  | zero => rfl
  | succ n ih => simp only [repeatL, rep, encs_app, ih]
theorem repB_bsN (ns : List Nat) (n : Nat) : repB (bsN ns) n = bsN (rep ns n) := by
  apply ba_ext
  rw [repB_eq, bsN_data, bsN_data, rep_encs]
theorem encs_le (l : List Nat) : (encs l).length ≤ 4 * l.length := by
  induction l with
  | nil => simp [encs_nil]
  | cons c r ih => rw [encs_cons]; have := (encN_len c).2; simp only [List.length_append, List.length_cons]; omega
theorem lLong_run (m : Int) (s : ByteArray) (g : Int) (h0 : 0 ≤ g) (hs : s.size < 100000000) (F : Nat) : runFn (lLong_cf m) F Tryd.f7 (bd Tryd.f7) [vs s, vc (C.int IntKind.u8 g)] [] fin2 = some (vb true, []) := by
  rw [lLong_start, decide_eq_true hs, cond_true]
  cases hv : (runesP s).isSome with
  | false => rfl
  | true =>
    rw [Bool.not_true, cond_false]
    have hvp : validP s = true := by
      cases h : validP s with
      | true => rfl
      | false => rw [runesP_bad h] at hv; cases hv
    obtain ⟨ns, hsc, rfl⟩ := valid_bsN hvp
    have hl : ((runesP (bsN ns)).getD []).length = ns.length := by rw [runesP_encs hsc]; simp
    rw [hl]
    cases hz : ((ns.length : Int) == 0) with
    | true => rfl
    | false =>
    cases h20 : decide ((ns.length : Int) > 20) with
    | true => rfl
    | false =>
      have hz' : ns.length ≠ 0 := by rw [beq_eq_false_iff_ne] at hz; omega
      have h20' : ns.length ≤ 20 := by simp only [decide_eq_false_iff_not] at h20; omega
      rw [cond_false, cond_false, cond_false]
      obtain ⟨gn, rfl⟩ : ∃ n : Nat, g = n := ⟨g.toNat, by omega⟩
      have e1 : Int.tdiv (2997 : Int) (ns.length : Int) = ((2997 / ns.length : Nat) : Int) := rfl
      have e2 : Int.tmod (gn : Int) 7 = ((gn % 7 : Nat) : Int) := rfl
      have hq : 2997 / ns.length ≤ 2997 := Nat.div_le_self _ _
      have hm : ns.length * (2997 / ns.length) ≤ 2997 := Nat.mul_div_le _ _
      have hg7 : gn % 7 ≤ 6 := by omega
      rw [e1, e2]
      generalize 2997 / ns.length = q0 at hq hm
      generalize gn % 7 = r0 at hg7
      have w1 : IntKind.i64.wrap (q0 : Int) = (q0 : Int) := w64 _ (by omega) (by omega)
      have w2 : IntKind.i64.wrap (r0 : Int) = (r0 : Int) := w64 _ (by omega) (by omega)
      have w3 : IntKind.i64.wrap ((q0 : Int) + (r0 : Int)) = ((q0 + r0 : Nat) : Int) := by rw [w64 _ (by omega) (by omega)]; push_cast; rfl
      rw [w1, w2, w3]
      have hk : q0 + r0 ≤ 3003 := by omega
      have hkl : (q0 + r0) * ns.length ≤ 3200 := by
        rw [Nat.add_mul, Nat.mul_comm q0]
        have : r0 * ns.length ≤ 6 * 20 := Nat.mul_le_mul (by omega) h20'
        omega
      generalize q0 + r0 = kk at hk hkl
      have hsz : (bsN ns).size ≤ 80 := by rw [bsN_size]; have := encs_le ns; omega
      have d1 : decide ((0 : Int) ≤ (kk : Int) ∧ (kk : Int) ≤ 1000000 ∧ (bsN ns).size ≤ 1000000) = true := by simp only [decide_eq_true_eq]; omega
      rw [d1, cond_true, Int.toNat_natCast, repB_bsN]
      have hrl := rep_len ns kk
      have hrs : (bsN (rep ns kk)).size < 1000000 := by rw [bsN_size]; have := encs_le (rep ns kk); omega
      rw [decide_eq_true hrs, cond_true]
      have w4 : IntKind.i64.wrap ((kk : Int) * (ns.length : Int)) = ((kk * ns.length : Nat) : Int) := by
        rw [← Int.natCast_mul, w64 _ (by omega) (by omega)]
      rw [w4]
      by_cases hb : kk * ns.length > 3000
      · have d2 : decide (((kk * ns.length : Nat) : Int) > 3000) = true := by simp only [decide_eq_true_eq]; omega
        rw [d2, cond_true, lexP_big (rep_SC hsc kk) (by omega) (by omega)]; rfl
      · have d2 : decide (((kk * ns.length : Nat) : Int) > 3000) = false := by simp only [decide_eq_false_iff_not]; omega
        obtain ⟨o, q, e, hx⟩ := Lx.total _ (rep ns kk) (1, 1) (Nat.lt_succ_self _)
        rw [d2, cond_false, lexP_encs (rep_SC hsc kk) (by omega) hx]
        unfold lexRes
        rcases hx.err with he | he
        · subst he; rfl
        · subst he; rfl
theorem long_res (m : Int) (s : ByteArray) (g : Int) (h0 : 0 ≤ g) (hs : s.size < 100000000) : FnRes Tryd.prog (globT m) 7 [vs s, vc (.int .u8 g)] [] (vb true) [] :=
  specAtQ eqs_ok mix vti_ok Tryd.func7 rfl (by kernel_rfl) (tabL_ok m) 10 (lLong_run m s g h0 hs 10)
end Go.Proofs.YtniiimpcakmkbaaDoor
