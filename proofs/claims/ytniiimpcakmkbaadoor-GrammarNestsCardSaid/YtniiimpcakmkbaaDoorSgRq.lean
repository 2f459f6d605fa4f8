/- sigil: strings.Repeat by its contract; the table of the law on long texts -/
import Derived.Test.YtniiimpcakmkbaaDoorSgRpt
import Derived.Test.YtniiimpcakmkbaaDoorSgR
import Derived.Test.YtniiimpcakmkbaaDoorSgD
import Derived.Test.YtniiimpcakmkbaaDoorSgT
set_option linter.unusedVariables false
namespace Go.Proofs.YtniiimpcakmkbaaDoor
open Go Vm Go.RowKit
theorem repB_ex (s : ByteArray) (n : Nat) : ∃ b : ByteArray, b = ⟨(Go.Lib.repeatL s.data.toList n).toArray⟩ := ⟨_, rfl⟩
/-- a text, so often (sealed) -/
noncomputable def repB (s : ByteArray) (n : Nat) : ByteArray := Classical.choose (repB_ex s n)
theorem repB_eq (s : ByteArray) (n : Nat) : repB s n = ⟨(Go.Lib.repeatL s.data.toList n).toArray⟩ := Classical.choose_spec (repB_ex s n)
noncomputable def repeatS : List V → Bx → Tr
  | [.t (.w (.d (.str s))), .t (.w (.d (.int .i64 c)))], [] => .ite (decide (0 ≤ c ∧ c ≤ 1000000 ∧ s.size ≤ 1000000)) (.ret (vs (repB s c.toNat)) []) .no
  | _, _ => .no
theorem repeat_ok (m : Int) : SpecOk Tryd.prog (globT m) 18 repeatS := by
  intro a b v b' h
  unfold repeatS at h
  split at h
  · rename_i s c
    rcases run_ite h with ⟨hl, h⟩ | ⟨_, h⟩
    · obtain ⟨rfl, rfl⟩ := run_ret h
      simp only [decide_eq_true_eq] at hl
      obtain ⟨h0, h1, h2⟩ := hl
      refine known_res ⟨_, _, Tryd.func18, rfl, by kernel_rfl⟩ (fun g w cargs hS hg ha => ?_) []
      match cargs, ha with
      | [x, y], ha =>
        have hx := relC_str ha.head
        have hy := relC_int ha.tail.head
        subst hx hy
        obtain ⟨n, rfl⟩ : ∃ n : Nat, c = n := ⟨c.toNat, by omega⟩
        have hsz : s.size * n ≤ 140737488355328 := by
          have : s.size * n ≤ 1000000 * 1000000 := Nat.mul_le_mul h2 (by omega)
          omega
        rw [Int.toNat_natCast]
        refine ⟨_, RelC.str _, (Tryd.strings_Repeat s n w (by omega) hsz).mono fun e w' ⟨he, hb⟩ => ⟨by rw [he, repB_eq], hb⟩⟩
      | [], ha => exact absurd ha.1 (by simp)
      | [_], ha => exact absurd ha.1 (by simp)
      | _ :: _ :: _ :: _, ha => exact absurd ha.1 (by simp)
    · exact (run_no h).elim
  · cases h
def runesLS : List V → Bx → Tr
  | [.t (.w (.d (.str s)))], [] => .ite (decide (s.size < 100000000))
      (.ret (.tup [.w (.d (.sl 1 ((runesP s).getD []))), .w (.d (.bool (runesP s).isSome))]) []) .no
  | _, _ => .no
theorem r_runes_loopL {R : Type} (m : Int) (k : V → Bx → Option R) (F : Nat) (s : ByteArray) (hs : s.size < 100000000) : ∀ (n i : Nat) (out : List (List C)), i ≤ s.size → s.size - i < n → out.length ≤ i →
    r_runes_L0 m (r_runes_K0 m k F) F n s out i = k (.tup [.w (.d (.sl 1 ((runesAt s n i out).getD []))), .w (.d (.bool (runesAt s n i out).isSome))]) [] := by
  intro n
  induction n with
  | zero => intro i out _ h; omega
  | succ n ih =>
    intro i out hi h ho
    rw [r_runes_r0]
    simp only [runesAt]
    by_cases hlt : i < s.size
    · have d1 : decide ((i : Int) < (s.size : Int)) = true := by simpa using hlt
      have d2 : (decide ((0 : Int) ≤ (i : Int)) && decide ((i : Int) < (s.size : Int)) && decide (s.size < 1000000000)) = true := by
        simp only [Bool.and_eq_true, decide_eq_true_eq]; omega
      have d3 : decide ((out.length + 1) * 8 ≤ 140737488355328 ∧ out.length + 1 ≤ 9223372036854775807) = true := by simp only [decide_eq_true_eq]; omega
      have hsz := runeP_size s i hlt
      rw [d2, d1, cond_true, cond_true, Int.toNat_natCast, decide_eq_true hlt, cond_true]
      generalize runeP s i = p at hsz
      cases hz : p.2 == 0 with
      | true => rw [cond_true, cond_true, r_runes_c1]; rfl
      | false =>
        have hz0 : p.2 ≠ 0 := by simpa using hz
        rcases hsz with h0 | ⟨w, hw, hw1, hw2⟩
        · exact absurd h0 hz0
        · rw [cond_false, cond_false, d3, cond_true, hw, Int.toNat_natCast, w64 ((i : Int) + (w : Int)) (by omega) (by omega)]
          have := ih (i + w) (out ++ [[C.int .i64 p.1]]) hw2 (by omega) (by simp; omega)
          rw [show ((i + w : Nat) : Int) = (i : Int) + (w : Int) by omega] at this
          exact this
    · have : i = s.size := by omega
      subst this
      have d1 : decide ((s.size : Int) < (s.size : Int)) = false := by simp
      have d2 : decide (s.size < s.size) = false := by simp
      rw [d1, cond_false, d2, cond_false, r_runes_c2]; rfl
theorem runesL_ok (m : Int) : SpecOk Tryd.prog (globT m) 17 runesLS := by
  intro a b v b' h
  unfold runesLS at h
  split at h
  · rename_i s
    rcases run_ite h with ⟨hl, h⟩ | ⟨_, h⟩
    · simp only [decide_eq_true_eq] at hl
      obtain ⟨rfl, rfl⟩ := run_ret h
      refine specAtG mix vti_ok Tryd.func17 rfl (by kernel_rfl) (tabR1_ok m) (s.size + 1) ((r_runes_start m fin2 _ s).trans ?_)
      rw [show (0 : Int) = ((0 : Nat) : Int) from rfl, r_runes_loopL m _ _ s hl _ 0 [] (by omega) (by omega) (by simp)]
      rfl
    · exact (run_no h).elim
  · cases h
noncomputable def tabL : List (FuncId × (List V → Bx → Tr)) := (13, awakeS) :: (14, lexS) :: (17, runesLS) :: (18, repeatS) :: tabC
noncomputable def orcL : FuncId → List V → Bx → Tr := orcOf tabL
theorem tabL_ok (m : Int) : TabS Tryd.prog (globT m) tabL := .cons (awake_ok m) (.cons (lex_ok m) (.cons (runesL_ok m) (.cons (repeat_ok m) (tabC_ok m))))
end Go.Proofs.YtniiimpcakmkbaaDoor

set_option linter.unusedVariables false
namespace Go.Proofs.YtniiimpcakmkbaaDoor
open Go Vm
noncomputable def lLong_cf (m : Int) : Cfg := mkCfQ [25, 35] (globT m) vti orcL false [] []
theorem lLong_start {R : Type} (m : Int) (k : V → Bx → Option R) (F : Nat) (s : ByteArray) (g : Int) : runFn (lLong_cf m) F Tryd.f7 (bd Tryd.f7) [vs s, vc (C.int IntKind.u8 g)] [] k =
    (bif decide (s.size < (100000000 : Nat)) then
      (bif !(runesP s).isSome then
        k (vb true) []
      else (bif (↑((runesP s).getD []).length : Int) == (0 : Int) then
          k (vb true) []
        else (bif decide ((↑((runesP s).getD []).length : Int) > (20 : Int)) then
            k (vb true) []
          else (bif (↑((runesP s).getD []).length : Int) == (0 : Int) then
              none
            else (bif decide ((0 : Int) ≤ IntKind.i64.wrap (IntKind.i64.wrap (Int.tdiv (2997 : Int) (↑((runesP s).getD []).length : Int)) + IntKind.i64.wrap (g.tmod (7 : Int))) ∧ IntKind.i64.wrap (IntKind.i64.wrap (Int.tdiv (2997 : Int) (↑((runesP s).getD []).length : Int)) + IntKind.i64.wrap (g.tmod (7 : Int))) ≤ (1000000 : Int) ∧ s.size ≤ (1000000 : Nat)) then
                (bif decide ((repB s (IntKind.i64.wrap (IntKind.i64.wrap (Int.tdiv (2997 : Int) (↑((runesP s).getD []).length : Int)) + IntKind.i64.wrap (g.tmod (7 : Int)))).toNat).size < (1000000 : Nat)) then
                  (bif decide (IntKind.i64.wrap (IntKind.i64.wrap (IntKind.i64.wrap (Int.tdiv (2997 : Int) (↑((runesP s).getD []).length : Int)) + IntKind.i64.wrap (g.tmod (7 : Int))) * (↑((runesP s).getD []).length : Int)) > (3000 : Int)) then
                    k (vb ((lexP (repB s (IntKind.i64.wrap (IntKind.i64.wrap (Int.tdiv (2997 : Int) (↑((runesP s).getD []).length : Int)) + IntKind.i64.wrap (g.tmod (7 : Int)))).toNat)).snd.snd.snd == (3 : Int))) []
                  else (bif (lexP (repB s (IntKind.i64.wrap (IntKind.i64.wrap (Int.tdiv (2997 : Int) (↑((runesP s).getD []).length : Int)) + IntKind.i64.wrap (g.tmod (7 : Int)))).toNat)).snd.snd.snd == (0 : Int) then
                      k (vb true) []
                    else k (vb ((lexP (repB s (IntKind.i64.wrap (IntKind.i64.wrap (Int.tdiv (2997 : Int) (↑((runesP s).getD []).length : Int)) + IntKind.i64.wrap (g.tmod (7 : Int)))).toNat)).snd.snd.snd == (10 : Int))) []))
                else none)
              else none)))))
    else none) := by kernel_rfl
end Go.Proofs.YtniiimpcakmkbaaDoor

/- sigil: texts of about as many runes as may be -/
set_option linter.unusedVariables false
namespace Go.Proofs.YtniiimpcakmkbaaDoor
open Go Vm Go.Lib
def rep (ns : List Nat) : Nat → List Nat
  | 0 => []
  | n + 1 => ns ++ rep ns n
theorem rep_len (ns : List Nat) (n : Nat) : (rep ns n).length = n * ns.length := by
  induction n with
  | zero => simp [rep]
  | succ n ih => simp only [rep, List.length_append, ih, Nat.succ_mul]; omega
theorem rep_SC {ns : List Nat} (h : SC ns) (n : Nat) : SC (rep ns n) := by
  induction n with
  | zero => exact SC.nil
  | succ n ih => exact h.app ih
theorem rep_encs (ns : List Nat) (n : Nat) : repeatL (encs ns) n = encs (rep ns n) := by
  induction n with
  | zero => rfl
  | succ n ih => simp only [repeatL, rep, encs_app, ih]
theorem repB_bsN (ns : List Nat) (n : Nat) : repB (bsN ns) n = bsN (rep ns n) := by
  apply ba_ext
  rw [repB_eq, bsN_data, bsN_data, rep_encs]
theorem encs_le (l : List Nat) : (encs l).length ≤ 4 * l.length := by
  induction l with
  | nil => simp [encs_nil]
  | cons c r ih => rw [encs_cons]; have := (encN_len c).2; simp only [List.length_append, List.length_cons]; omega
theorem lLong_run (m : Int) (s : ByteArray) (g : Int) (h0 : 0 ≤ g) (hs : s.size < 100000000) (F : Nat) : runFn (lLong_cf m) F Tryd.f7 (bd Tryd.f7) [vs s, vc (C.int IntKind.u8 g)] [] fin2 = some (vb true, []) := by
  rw [lLong_start, decide_eq_true hs, cond_true]
  cases hv : (runesP s).isSome with
  | false => rfl
  | true =>
    rw [Bool.not_true, cond_false]
    have hvp : validP s = true := by
      cases h : validP s with
      | true => rfl
      | false => rw [runesP_bad h] at hv; cases hv
    obtain ⟨ns, hsc, rfl⟩ := valid_bsN hvp
    have hl : ((runesP (bsN ns)).getD []).length = ns.length := by rw [runesP_encs hsc]; simp
    rw [hl]
    cases hz : ((ns.length : Int) == 0) with
    | true => rfl
    | false =>
    cases h20 : decide ((ns.length : Int) > 20) with
    | true => rfl
    | false =>
      have hz' : ns.length ≠ 0 := by rw [beq_eq_false_iff_ne] at hz; omega
      have h20' : ns.length ≤ 20 := by simp only [decide_eq_false_iff_not] at h20; omega
      rw [cond_false, cond_false, cond_false]
      obtain ⟨gn, rfl⟩ : ∃ n : Nat, g = n := ⟨g.toNat, by omega⟩
      have e1 : Int.tdiv (2997 : Int) (ns.length : Int) = ((2997 / ns.length : Nat) : Int) := rfl
      have e2 : Int.tmod (gn : Int) 7 = ((gn % 7 : Nat) : Int) := rfl
      have hq : 2997 / ns.length ≤ 2997 := Nat.div_le_self _ _
      have hm : ns.length * (2997 / ns.length) ≤ 2997 := Nat.mul_div_le _ _
      have hg7 : gn % 7 ≤ 6 := by omega
      rw [e1, e2]
      generalize 2997 / ns.length = q0 at hq hm
      generalize gn % 7 = r0 at hg7
      have w1 : IntKind.i64.wrap (q0 : Int) = (q0 : Int) := w64 _ (by omega) (by omega)
      have w2 : IntKind.i64.wrap (r0 : Int) = (r0 : Int) := w64 _ (by omega) (by omega)
      have w3 : IntKind.i64.wrap ((q0 : Int) + (r0 : Int)) = ((q0 + r0 : Nat) : Int) := by rw [w64 _ (by omega) (by omega)]; push_cast; rfl
      rw [w1, w2, w3]
      have hk : q0 + r0 ≤ 3003 := by omega
      have hkl : (q0 + r0) * ns.length ≤ 3200 := by
        rw [Nat.add_mul, Nat.mul_comm q0]
        have : r0 * ns.length ≤ 6 * 20 := Nat.mul_le_mul (by omega) h20'
        omega
      generalize q0 + r0 = kk at hk hkl
      have hsz : (bsN ns).size ≤ 80 := by rw [bsN_size]; have := encs_le ns; omega
      have d1 : decide ((0 : Int) ≤ (kk : Int) ∧ (kk : Int) ≤ 1000000 ∧ (bsN ns).size ≤ 1000000) = true := by simp only [decide_eq_true_eq]; omega
      rw [d1, cond_true, Int.toNat_natCast, repB_bsN]
      have hrl := rep_len ns kk
      have hrs : (bsN (rep ns kk)).size < 1000000 := by rw [bsN_size]; have := encs_le (rep ns kk); omega
      rw [decide_eq_true hrs, cond_true]
      have w4 : IntKind.i64.wrap ((kk : Int) * (ns.length : Int)) = ((kk * ns.length : Nat) : Int) := by
        rw [← Int.natCast_mul, w64 _ (by omega) (by omega)]
      rw [w4]
      by_cases hb : kk * ns.length > 3000
      · have d2 : decide (((kk * ns.length : Nat) : Int) > 3000) = true := by simp only [decide_eq_true_eq]; omega
        rw [d2, cond_true, lexP_big (rep_SC hsc kk) (by omega) (by omega)]; rfl
      · have d2 : decide (((kk * ns.length : Nat) : Int) > 3000) = false := by simp only [decide_eq_false_iff_not]; omega
        obtain ⟨o, q, e, hx⟩ := Lx.total _ (rep ns kk) (1, 1) (Nat.lt_succ_self _)
        rw [d2, cond_false, lexP_encs (rep_SC hsc kk) (by omega) hx]
        unfold lexRes
        rcases hx.err with he | he
        · subst he; rfl
        · subst he; rfl
theorem long_res (m : Int) (s : ByteArray) (g : Int) (h0 : 0 ≤ g) (hs : s.size < 100000000) : FnRes Tryd.prog (globT m) 7 [vs s, vc (.int .u8 g)] [] (vb true) [] :=
  specAtQ eqs_ok mix vti_ok Tryd.func7 rfl (by kernel_rfl) (tabL_ok m) 10 (lLong_run m s g h0 hs 10)
end Go.Proofs.YtniiimpcakmkbaaDoor
