/- the reference's Rune answers by its tree -/
import Derived.Test.YtniiimpcakmkbaaDoorSgO
set_option linter.unusedVariables false
namespace Go.Proofs.YtniiimpcakmkbaaDoor
open Go Vm Go.RowKit
def byteN (s : ByteArray) (i : Nat) : Nat := (s.data.toList.getD i 0).toNat
/-- so many bytes that go on with a rune, laid behind what is there -/
def accR (s : ByteArray) (at_ : Nat) : Nat → Nat → Int → Option Int
  | _, 0, r => some r
  | k, n + 1, r => bif decide (byteN s (at_ + k) < 128) || decide (byteN s (at_ + k) > 191) then none else accR s at_ (k + 1) n (r * 64 + byteN s (at_ + k) - 128)
def finR (r size least : Int) : Int × Int := bif decide (r < least) || decide (r > 1114111) || (decide (r ≥ 55296) && decide (r ≤ 57343)) then (0, 0) else (r, size)
def multiR (s : ByteArray) (at_ : Nat) (size : Nat) (r0 least : Int) : Int × Int :=
  bif decide (s.size < at_ + size) then (0, 0) else (match accR s at_ 1 (size - 1) r0 with | some r => finR r size least | none => (0, 0))
def runeP (s : ByteArray) (at_ : Nat) : Int × Int :=
  bif decide (byteN s at_ < 128) then ((byteN s at_ : Int), 1)
  else bif decide (192 ≤ byteN s at_) && decide (byteN s at_ < 224) then multiR s at_ 2 ((byteN s at_ : Int) - 192) 128
  else bif decide (224 ≤ byteN s at_) && decide (byteN s at_ < 240) then multiR s at_ 3 ((byteN s at_ : Int) - 224) 2048
  else bif decide (240 ≤ byteN s at_) && decide (byteN s at_ < 248) then multiR s at_ 4 ((byteN s at_ : Int) - 240) 65536
  else (0, 0)
def runeS : List V → Bx → Tr
  | [.t (.w (.d (.str s))), .t (.w (.d (.int .i64 at_)))], [] => .ite (decide (0 ≤ at_) && decide (at_ < s.size) && decide (s.size < 1000000000))
      (.ret (.tup [.w (.d (.int .i64 (runeP s at_.toNat).1)), .w (.d (.int .i64 (runeP s at_.toNat).2))]) []) .no
  | _, _ => .no
abbrev rK (k : V → Bx → Option (V × Bx)) (p : Int × Int) : Option (V × Bx) := k (.tup [.w (.d (.int .i64 p.1)), .w (.d (.int .i64 p.2))]) []
theorem r_rune_fin (m : Int) (k : V → Bx → Option (V × Bx)) (F : Nat) (r size least : Int) : r_rune_K0 m k F (.ex 1) (r_rune_E2 r size least) = rK k (finR r size least) := by
  rw [r_rune_c2]
  unfold finR
  cases decide (r < least) <;> cases decide (r > 1114111) <;> cases decide (r ≥ 55296) <;> cases decide (r ≤ 57343) <;> rfl
theorem byte_at {s : ByteArray} {i : Nat} (h : i < s.size) : ∃ z : UInt8, s.data.toList[i]? = some z ∧ byteN s i = z.toNat := by
  have hl : i < s.data.toList.length := h
  refine ⟨s.data.toList[i], List.getElem?_eq_getElem hl, ?_⟩
  unfold byteN
  rw [List.getD_eq_getElem?_getD, List.getElem?_eq_getElem hl]; rfl
theorem r_rune_loop (m : Int) (k : V → Bx → Option (V × Bx)) (F : Nat) (s : ByteArray) (hs : s.size < 1000000000) (at_ size : Nat) (hsz : at_ + size ≤ s.size) (h4 : size ≤ 4) (least : Int) : ∀ (n j : Nat) (r : Int), j ≤ size → size - j < n → 0 ≤ r → r < ((64 ^ j : Nat) : Int) →
    r_rune_L0 m (r_rune_K0 m k F) F n s at_ r size least j = rK k (match accR s at_ j (size - j) r with | some r => finR r size least | none => (0, 0)) := by
  intro n
  induction n with
  | zero => intro j r _ h _ _; omega
  | succ n ih =>
    intro j r hj h hr hb
    rw [r_rune_r0]
    by_cases hlt : j < size
    · obtain ⟨z, hz, hzn⟩ := byte_at (s := s) (i := at_ + j) (by omega)
      have hz2 : z.toNat < 256 := UInt8.toNat_lt z
      have d1 : decide ((j : Int) < (size : Int)) = true := by simpa using hlt
      have hwi : IntKind.i64.wrap ((at_ : Int) + (j : Int)) = ((at_ + j : Nat) : Int) := by rw [w64 _ (by omega) (by omega)]; omega
      have d2 : decide ((0 : Int) ≤ ((at_ + j : Nat) : Int)) = true := by simp only [decide_eq_true_eq]; omega
      have hwz : IntKind.i64.wrap (z.toNat : Int) = (z.toNat : Int) := w64 _ (by omega) (by omega)
      rw [d1, cond_true, hwi, d2, cond_true, getT_at rfl hz, hwz]
      have e : size - j = (size - (j + 1)) + 1 := by omega
      rw [e]
      simp only [accR, hzn]
      by_cases h1 : z.toNat < 128
      · have x1 : decide ((z.toNat : Int) < 128) = true := by simp only [decide_eq_true_eq]; omega
        rw [x1, cond_true, decide_eq_true h1, Bool.true_or, cond_true, r_rune_c1]
      · have x1 : decide ((z.toNat : Int) < 128) = false := by simp only [decide_eq_false_iff_not]; omega
        rw [x1, cond_false, decide_eq_false h1, Bool.false_or]
        by_cases h2 : z.toNat > 191
        · have x2 : decide ((z.toNat : Int) > 191) = true := by simp only [decide_eq_true_eq]; omega
          rw [x2, cond_true, decide_eq_true h2, cond_true, r_rune_c1]
        · have x2 : decide ((z.toNat : Int) > 191) = false := by simp only [decide_eq_false_iff_not]; omega
          rw [x2, cond_false, decide_eq_false h2, cond_false]
          have hpow : ((64 ^ (j + 1) : Nat) : Int) = ((64 ^ j : Nat) : Int) * 64 := by rw [Nat.pow_succ]; omega
          have hpj : ((64 ^ j : Nat) : Int) ≤ 262144 := by
            have : j = 0 ∨ j = 1 ∨ j = 2 ∨ j = 3 := by omega
            rcases this with rfl | rfl | rfl | rfl <;> decide
          rw [w64 (r * 64) (by omega) (by omega), w64 (r * 64 + z.toNat) (by omega) (by omega), w64 (r * 64 + z.toNat - 128) (by omega) (by omega), w64 ((j : Int) + 1) (by omega) (by omega)]
          have := ih (j + 1) (r * 64 + z.toNat - 128) (by omega) (by omega) (by omega) (by omega)
          rw [show ((j + 1 : Nat) : Int) = (j : Int) + 1 from rfl] at this
          exact this
    · have : j = size := by omega
      subst this
      have d1 : decide ((j : Int) < (j : Int)) = false := by simp
      rw [d1, cond_false, r_rune_fin, Nat.sub_self]; rfl
theorem r_multi (m : Int) (k : V → Bx → Option (V × Bx)) (F : Nat) (hF : 10 ≤ F) (s : ByteArray) (hs : s.size < 1000000000) (at_ size : Nat) (ha : at_ < s.size) (h1 : 1 ≤ size) (h4 : size ≤ 4) (r0 least : Int) (hr : 0 ≤ r0) (hr2 : r0 < 64) (sz : Int) (hsz : sz = size) :
    (bif decide (sz > IntKind.i64.wrap ((s.size : Int) - at_)) then rK k (0, 0) else r_rune_L0 m (r_rune_K0 m k F) F F s at_ r0 sz least 1) = rK k (multiR s at_ size r0 least) := by
  subst hsz
  rw [w64 _ (by omega) (by omega)]
  unfold multiR
  by_cases h : s.size < at_ + size
  · have d : decide ((size : Int) > (s.size : Int) - at_) = true := by simp only [decide_eq_true_eq]; omega
    rw [d, cond_true, decide_eq_true h, cond_true]
  · have d : decide ((size : Int) > (s.size : Int) - at_) = false := by simp only [decide_eq_false_iff_not]; omega
    rw [d, cond_false, decide_eq_false h, cond_false]
    have := r_rune_loop m k F s hs at_ size (by omega) h4 least F 1 r0 h1 (by omega) hr (by simpa using hr2)
    exact this
theorem rune_ok (m : Int) : SpecOk Tryd.prog (globT m) 38 runeS := by
  intro a b v b' h
  unfold runeS at h
  split at h
  · rename_i s at_
    rcases run_ite h with ⟨hl, h⟩ | ⟨_, h⟩
    · simp only [Bool.and_eq_true, decide_eq_true_eq] at hl
      obtain ⟨rfl, rfl⟩ := run_ret h
      obtain ⟨i, rfl⟩ : ∃ i : Nat, at_ = i := ⟨at_.toNat, by omega⟩
      rw [Int.toNat_natCast]
      refine specAtG mix vti_ok Tryd.func38 rfl (by kernel_rfl) .nil 10 ((r_rune_start m fin2 _ s i).trans ?_)
      have hi : i < s.size := by omega
      obtain ⟨z, hz, hzn⟩ := byte_at hi
      have hz2 : z.toNat < 256 := UInt8.toNat_lt z
      have d2 : decide ((0 : Int) ≤ (i : Int)) = true := by simp
      have hwz : IntKind.i64.wrap (z.toNat : Int) = (z.toNat : Int) := w64 _ (by omega) (by omega)
      rw [d2, cond_true, getT_at rfl hz, hwz]
      show _ = rK fin2 (runeP s i)
      unfold runeP
      rw [hzn]
      have e : ∀ {p q : Prop} [Decidable p] [Decidable q], (p ↔ q) → decide p = decide q := fun h => by simp [h]
      have c1 : decide ((z.toNat : Int) < 128) = decide (z.toNat < 128) := e (by omega)
      have c2 : decide ((z.toNat : Int) ≥ 192) = decide (192 ≤ z.toNat) := e (by omega)
      have c3 : decide ((z.toNat : Int) < 224) = decide (z.toNat < 224) := e (by omega)
      have c4 : decide ((z.toNat : Int) ≥ 224) = decide (224 ≤ z.toNat) := e (by omega)
      have c5 : decide ((z.toNat : Int) < 240) = decide (z.toNat < 240) := e (by omega)
      have c6 : decide ((z.toNat : Int) ≥ 240) = decide (240 ≤ z.toNat) := e (by omega)
      have c7 : decide ((z.toNat : Int) < 248) = decide (z.toNat < 248) := e (by omega)
      rw [c1, c2, c3, c4, c5, c6, c7]
      by_cases h1 : z.toNat < 128
      · rw [decide_eq_true h1, cond_true, cond_true]
      rw [decide_eq_false h1, cond_false, cond_false]
      by_cases h2 : 192 ≤ z.toNat ∧ z.toNat < 224
      · rw [decide_eq_true h2.1, decide_eq_true h2.2, Bool.true_and, cond_true, cond_true, cond_true, w64 ((z.toNat : Int) - 192) (by omega) (by omega)]
        exact r_multi m fin2 10 (by omega) s (by omega) i 2 hi (by omega) (by omega) _ _ (by omega) (by omega) 2 rfl
      by_cases h3 : 224 ≤ z.toNat ∧ z.toNat < 240
      · have y1 : decide (192 ≤ z.toNat) = true := by simp only [decide_eq_true_eq]; omega
        have y2 : decide (z.toNat < 224) = false := by simp only [decide_eq_false_iff_not]; omega
        rw [y1, y2, decide_eq_true h3.1, decide_eq_true h3.2, Bool.and_false, cond_true, cond_false, cond_false, Bool.true_and, cond_true, cond_true, cond_true, w64 ((z.toNat : Int) - 224) (by omega) (by omega)]
        exact r_multi m fin2 10 (by omega) s (by omega) i 3 hi (by omega) (by omega) _ _ (by omega) (by omega) 3 rfl
      by_cases h4 : 240 ≤ z.toNat ∧ z.toNat < 248
      · have y1 : decide (192 ≤ z.toNat) = true := by simp only [decide_eq_true_eq]; omega
        have y2 : decide (z.toNat < 224) = false := by simp only [decide_eq_false_iff_not]; omega
        have y3 : decide (224 ≤ z.toNat) = true := by simp only [decide_eq_true_eq]; omega
        have y4 : decide (z.toNat < 240) = false := by simp only [decide_eq_false_iff_not]; omega
        rw [y1, y2, y3, y4, decide_eq_true h4.1, decide_eq_true h4.2]
        rw [w64 ((z.toNat : Int) - 240) (by omega) (by omega)]
        rw [Bool.and_false, Bool.true_and, cond_true, cond_false, cond_true, cond_false, cond_true, cond_true, cond_false, cond_false, cond_true]
        exact r_multi m fin2 10 (by omega) s (by omega) i 4 hi (by omega) (by omega) _ _ (by omega) (by omega) 4 rfl
      · by_cases g1 : 192 ≤ z.toNat
        · have g2 : 248 ≤ z.toNat := by omega
          have y1 : decide (192 ≤ z.toNat) = true := by simp only [decide_eq_true_eq]; omega
          have y2 : decide (z.toNat < 224) = false := by simp only [decide_eq_false_iff_not]; omega
          have y3 : decide (224 ≤ z.toNat) = true := by simp only [decide_eq_true_eq]; omega
          have y4 : decide (z.toNat < 240) = false := by simp only [decide_eq_false_iff_not]; omega
          have y5 : decide (240 ≤ z.toNat) = true := by simp only [decide_eq_true_eq]; omega
          have y6 : decide (z.toNat < 248) = false := by simp only [decide_eq_false_iff_not]; omega
          rw [y1, y2, y3, y4, y5, y6]; rfl
        · have y1 : decide (192 ≤ z.toNat) = false := by simp only [decide_eq_false_iff_not]; omega
          have y3 : decide (224 ≤ z.toNat) = false := by simp only [decide_eq_false_iff_not]; omega
          have y5 : decide (240 ≤ z.toNat) = false := by simp only [decide_eq_false_iff_not]; omega
          rw [y1, y3, y5]; rfl
    · exact (run_no h).elim
  · cases h
end Go.Proofs.YtniiimpcakmkbaaDoor
