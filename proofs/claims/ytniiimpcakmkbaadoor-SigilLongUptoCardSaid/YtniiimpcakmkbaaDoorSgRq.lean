/- sigil: strings.Repeat by its contract; the table of the law on long texts -/
import Derived.Test.YtniiimpcakmkbaaDoorSgRpt
import Derived.Test.YtniiimpcakmkbaaDoorSgRl
import Derived.Test.YtniiimpcakmkbaaDoorSgU
set_option linter.unusedVariables false
namespace Go.Proofs.YtniiimpcakmkbaaDoor
open Go Vm Go.RowKit
theorem repB_ex (s : ByteArray) (n : Nat) : ∃ b : ByteArray, b = ⟨(Go.Lib.repeatL s.data.toList n).toArray⟩ := ⟨_, rfl⟩
/-- a text, so often (sealed) -/
noncomputable def repB (s : ByteArray) (n : Nat) : ByteArray := Classical.choose (repB_ex s n)
theorem repB_eq (s : ByteArray) (n : Nat) : repB s n = ⟨(Go.Lib.repeatL s.data.toList n).toArray⟩ := Classical.choose_spec (repB_ex s n)
noncomputable def repeatS : List V → Bx → Tr
  | [.t (.w (.d (.str s))), .t (.w (.d (.int .i64 c)))], [] => .ite (decide (0 ≤ c ∧ c ≤ 1000000 ∧ s.size ≤ 1000000)) (.ret (vs (repB s c.toNat)) []) .no
  | _, _ => .no
theorem repeat_ok (m : Int) : SpecOk Tryd.prog (globT m) 18 repeatS := by
  intro a b v b' h
  unfold repeatS at h
  split at h
  · rename_i s c
    rcases run_ite h with ⟨hl, h⟩ | ⟨_, h⟩
    · obtain ⟨rfl, rfl⟩ := run_ret h
      simp only [decide_eq_true_eq] at hl
      obtain ⟨h0, h1, h2⟩ := hl
      refine known_res ⟨_, _, Tryd.func18, rfl, by kernel_rfl⟩ (fun g w cargs hS hg ha => ?_) []
      match cargs, ha with
      | [x, y], ha =>
        have hx := relC_str ha.head
        have hy := relC_int ha.tail.head
        subst hx hy
        obtain ⟨n, rfl⟩ : ∃ n : Nat, c = n := ⟨c.toNat, by omega⟩
        have hsz : s.size * n ≤ 140737488355328 := by
          have : s.size * n ≤ 1000000 * 1000000 := Nat.mul_le_mul h2 (by omega)
          omega
        rw [Int.toNat_natCast]
        refine ⟨_, RelC.str _, (Tryd.strings_Repeat s n w (by omega) hsz).mono fun e w' ⟨he, hb⟩ => ⟨by rw [he, repB_eq], hb⟩⟩
      | [], ha => exact absurd ha.1 (by simp)
      | [_], ha => exact absurd ha.1 (by simp)
      | _ :: _ :: _ :: _, ha => exact absurd ha.1 (by simp)
    · exact (run_no h).elim
  · cases h
def runesLS : List V → Bx → Tr
  | [.t (.w (.d (.str s)))], [] => .ite (decide (s.size < 100000000))
      (.ret (.tup [.w (.d (.sl 1 ((runesP s).getD []))), .w (.d (.bool (runesP s).isSome))]) []) .no
  | _, _ => .no
theorem r_runes_loopL {R : Type} (m : Int) (k : V → Bx → Option R) (F : Nat) (s : ByteArray) (hs : s.size < 100000000) : ∀ (n i : Nat) (out : List (List C)), i ≤ s.size → s.size - i < n → out.length ≤ i →
    r_runes_L0 m (r_runes_K0 m k F) F n s out i = k (.tup [.w (.d (.sl 1 ((runesAt s n i out).getD []))), .w (.d (.bool (runesAt s n i out).isSome))]) [] := by
  intro n
  induction n with
  | zero => intro i out _ h; omega
  | succ n ih =>
    intro i out hi h ho
    rw [r_runes_r0]
    simp only [runesAt]
    by_cases hlt : i < s.size
    · have d1 : decide ((i : Int) < (s.size : Int)) = true := by simpa using hlt
      have d2 : (decide ((0 : Int) ≤ (i : Int)) && decide ((i : Int) < (s.size : Int)) && decide (s.size < 1000000000)) = true := by
        simp only [Bool.and_eq_true, decide_eq_true_eq]; omega
      have d3 : decide ((out.length + 1) * 8 ≤ 140737488355328 ∧ out.length + 1 ≤ 9223372036854775807) = true := by simp only [decide_eq_true_eq]; omega
      have hsz := runeP_size s i hlt
      rw [d2, d1, cond_true, cond_true, Int.toNat_natCast, decide_eq_true hlt, cond_true]
      generalize runeP s i = p at hsz
      cases hz : p.2 == 0 with
      | true => rw [cond_true, cond_true, r_runes_c1]; rfl
      | false =>
        have hz0 : p.2 ≠ 0 := by simpa using hz
        rcases hsz with h0 | ⟨w, hw, hw1, hw2⟩
        · exact absurd h0 hz0
        · rw [cond_false, cond_false, d3, cond_true, hw, Int.toNat_natCast, w64 ((i : Int) + (w : Int)) (by omega) (by omega)]
          have := ih (i + w) (out ++ [[C.int .i64 p.1]]) hw2 (by omega) (by simp; omega)
          rw [show ((i + w : Nat) : Int) = (i : Int) + (w : Int) by omega] at this
          exact this
    · have : i = s.size := by omega
      subst this
      have d1 : decide ((s.size : Int) < (s.size : Int)) = false := by simp
      have d2 : decide (s.size < s.size) = false := by simp
      rw [d1, cond_false, d2, cond_false, r_runes_c2]; rfl
theorem runesL_ok (m : Int) : SpecOk Tryd.prog (globT m) 17 runesLS := by
  intro a b v b' h
  unfold runesLS at h
  split at h
  · rename_i s
    rcases run_ite h with ⟨hl, h⟩ | ⟨_, h⟩
    · simp only [decide_eq_true_eq] at hl
      obtain ⟨rfl, rfl⟩ := run_ret h
      refine specAtG mix vti_ok Tryd.func17 rfl (by kernel_rfl) (tabR1_ok m) (s.size + 1) ((r_runes_start m fin2 _ s).trans ?_)
      rw [show (0 : Int) = ((0 : Nat) : Int) from rfl, r_runes_loopL m _ _ s hl _ 0 [] (by omega) (by omega) (by simp)]
      rfl
    · exact (run_no h).elim
  · cases h
noncomputable def tabL : List (FuncId × (List V → Bx → Tr)) := (13, awakeS) :: (14, lexS) :: (17, runesLS) :: (18, repeatS) :: tabC
noncomputable def orcL : FuncId → List V → Bx → Tr := orcOf tabL
theorem tabL_ok (m : Int) : TabS Tryd.prog (globT m) tabL := .cons (awake_ok m) (.cons (lex_ok m) (.cons (runesL_ok m) (.cons (repeat_ok m) (tabC_ok m))))
end Go.Proofs.YtniiimpcakmkbaaDoor
