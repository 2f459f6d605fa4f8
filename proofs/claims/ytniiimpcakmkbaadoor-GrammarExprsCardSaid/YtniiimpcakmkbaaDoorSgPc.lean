/- sigil's lexer as a relation over lists of runes: plain laws, no program. -/
import Derived.Test.YtniiimpcakmkbaaDoorSgPb
set_option linter.unusedVariables false
namespace Go.Proofs.YtniiimpcakmkbaaDoor
open Go Vm Go.Lib
def blankN (c : Nat) : Bool := c == 9 || c == 10 || c == 13 || c == 32 || c == 12288
def lowN (c : Nat) : Bool := decide (97 ≤ c) && decide (c ≤ 122)
def partN (c : Nat) : Bool := lowN c || (decide (48 ≤ c) && decide (c ≤ 57)) || c == 95
def ne10 (c : Nat) : Bool := c != 10
def wordN : List Nat → List Nat
  | [] => []
  | c :: r => if lowN c then c :: r.takeWhile partN else []
def kindN (w : List Nat) : Int := if w = [116, 121, 112, 101] then 2 else if w = [114, 101, 108] then 3 else if w = [116, 104, 105, 115] then 4 else 1
def signsN : List Nat := [123, 125, 91, 93, 40, 41, 61, 59, 44, 58, 35, 42, 124, 38, 45]
def isTo : List Nat → Bool
  | 45 :: 62 :: _ => true
  | _ => false
def isRem : List Nat → Bool
  | 47 :: 47 :: _ => true
  | _ => false
def tokN (ns : List Nat) : Option (Int × List Nat) :=
  if wordN ns ≠ [] then (if (wordN ns).length ≤ 16 then some (kindN (wordN ns), wordN ns) else none)
  else if isTo ns then some (5, [45, 62])
  else match ns with
    | c :: _ => if c ∈ signsN then some ((c : Int), [c]) else none
    | [] => none
abbrev Tok := Int × List Nat × (Int × Int)
inductive Lx : Int × Int → List Nat → List Tok → Int × Int → Int → Prop
  | nil (p) : Lx p [] [] p 0
  | blank {p c r o q e} (hb : blankN c = true) (h : Lx (advN p c) r o q e) : Lx p (c :: r) o q e
  | rem {p ns o q e} (hr : isRem ns = true) (h : Lx (advs p (ns.takeWhile ne10)) (ns.dropWhile ne10) o q e) : Lx p ns o q e
  | tok {p c r o q e k t r'} (hb : blankN c = false) (hr : isRem (c :: r) = false) (ht : tokN (c :: r) = some (k, t)) (hs : c :: r = t ++ r') (h : Lx (advs p t) r' o q e) : Lx p (c :: r) ((k, t, p) :: o) q e
  | bad {p c r} (hb : blankN c = false) (hr : isRem (c :: r) = false) (ht : tokN (c :: r) = none) : Lx p (c :: r) [] p 10
/-! ### words and signs -/
theorem wordN_cons (c : Nat) (r : List Nat) : wordN (c :: r) = if lowN c then c :: r.takeWhile partN else [] := rfl
theorem wordN_prefix : ∀ ns : List Nat, ∃ r, ns = wordN ns ++ r := by
  intro ns
  cases ns with
  | nil => exact ⟨[], rfl⟩
  | cons c r =>
    rw [wordN_cons]
    split
    · exact ⟨r.dropWhile partN, by simp⟩
    · exact ⟨c :: r, rfl⟩
theorem isTo_eq {ns : List Nat} (h : isTo ns = true) : ∃ r, ns = 45 :: 62 :: r := by
  unfold isTo at h
  split at h
  · exact ⟨_, rfl⟩
  · cases h
theorem isRem_eq {ns : List Nat} (h : isRem ns = true) : ∃ r, ns = 47 :: 47 :: r := by
  unfold isRem at h
  split at h
  · exact ⟨_, rfl⟩
  · cases h
theorem tokN_split {ns : List Nat} {k : Int} {t : List Nat} (h : tokN ns = some (k, t)) : t ≠ [] ∧ ∃ r, ns = t ++ r := by
  unfold tokN at h
  split at h
  · rename_i hw
    split at h
    · cases h; exact ⟨hw, wordN_prefix ns⟩
    · cases h
  · split at h
    · rename_i h2
      obtain ⟨r, rfl⟩ := isTo_eq h2
      cases h
      exact ⟨by simp, r, rfl⟩
    · cases ns with
      | nil => cases h
      | cons c r =>
        simp only at h
        split at h
        · cases h; exact ⟨by simp, r, rfl⟩
        · cases h
theorem dropWhile_le (p : Nat → Bool) (l : List Nat) : (l.dropWhile p).length ≤ l.length := by
  have := congrArg List.length (List.takeWhile_append_dropWhile (p := p) (l := l))
  rw [List.length_append] at this; omega
theorem rem_take {ns : List Nat} (h : isRem ns = true) : 2 ≤ (ns.takeWhile ne10).length ∧ (ns.dropWhile ne10).length + 2 ≤ ns.length := by
  obtain ⟨r, rfl⟩ := isRem_eq h
  have e : (47 :: 47 :: r).takeWhile ne10 = 47 :: 47 :: r.takeWhile ne10 := rfl
  have f : (47 :: 47 :: r).dropWhile ne10 = r.dropWhile ne10 := rfl
  rw [e, f]
  have := dropWhile_le ne10 r
  simp; omega
theorem Lx.total : ∀ (n : Nat) (ns : List Nat) (p : Int × Int), ns.length < n → ∃ o q e, Lx p ns o q e := by
  intro n
  induction n with
  | zero => intro ns p h; omega
  | succ n ih =>
    intro ns p h
    cases ns with
    | nil => exact ⟨_, _, _, .nil p⟩
    | cons c r =>
      cases hb : blankN c with
      | true =>
        obtain ⟨o, q, e, h1⟩ := ih r (advN p c) (by simp at h; omega)
        exact ⟨o, q, e, .blank hb h1⟩
      | false =>
        cases hr : isRem (c :: r) with
        | true =>
          obtain ⟨o, q, e, h1⟩ := ih ((c :: r).dropWhile ne10) (advs p ((c :: r).takeWhile ne10)) (by have := (rem_take hr).2; omega)
          exact ⟨o, q, e, .rem hr h1⟩
        | false =>
          cases ht : tokN (c :: r) with
          | none => exact ⟨_, _, _, .bad hb hr ht⟩
          | some x =>
            obtain ⟨k, t⟩ := x
            obtain ⟨h1, r', h2⟩ := tokN_split ht
            have hl := congrArg List.length h2
            have : 0 < t.length := List.length_pos_iff.2 h1
            obtain ⟨o, q, e, h3⟩ := ih r' (advs p t) (by rw [List.length_append] at hl; omega)
            exact ⟨_, q, e, .tok hb hr ht h2 h3⟩
theorem Lx.err {p ns o q e} (h : Lx p ns o q e) : e = 0 ∨ e = 10 := by
  induction h with
  | nil => exact .inl rfl
  | blank _ _ ih => exact ih
  | rem _ _ ih => exact ih
  | tok _ _ _ _ _ ih => exact ih
  | bad => exact .inr rfl
/-! ### the program's steps -/
theorem bool_eq {a b : Bool} (h : a = true ↔ b = true) : a = b := by cases a <;> cases b <;> simp_all
theorem blank_N (c : Nat) : blankP (c : Int) = blankN c := by
  apply bool_eq
  unfold blankP blankN
  simp only [Bool.or_eq_true, beq_iff_eq]
  omega
theorem letter_N (c : Nat) : letterP (c : Int) true = lowN c := by
  apply bool_eq
  unfold letterP lowN
  simp only [Bool.not_true, Bool.false_and, Bool.or_false, Bool.and_eq_true, decide_eq_true_eq]
  omega
theorem letter_part (c : Nat) : letterP (c : Int) false = partN c := by
  apply bool_eq
  unfold letterP partN lowN
  simp only [Bool.not_false, Bool.true_and, Bool.or_eq_true, Bool.and_eq_true, decide_eq_true_eq, beq_iff_eq]
  omega
theorem take_encs (a b : List Nat) : (encs (a ++ b)).take (encs a).length = encs a := by rw [encs_app]; simp
theorem drop_encs (a b : List Nat) : (encs (a ++ b)).drop (encs a).length = encs b := by rw [encs_app]; simp
theorem word_encs {ns : List Nat} (hs : SC ns) : wordP (bsN ns) = bsN (wordN ns) := by
  apply ba_ext
  unfold wordP
  rw [ext_data0, bsN_data, bsN_data]
  cases ns with
  | nil =>
    have : first (bsN []) (fun i r => !letterP r ((i : Int) == 0)) = 0 := by
      have := first_le (bsN []) (fun i r => !letterP r ((i : Int) == 0))
      have e : (bsN []).size = 0 := rfl
      omega
    rw [this]; rfl
  | cons c r =>
    have hz : (bsN (c :: r)).size = (encN c).length + (encs r).length := by rw [bsN_size, encs_cons]; simp
    have h1 := (encN_len c).1
    have hd := dec_at (bsN (c :: r)) [] c r (by rw [bsN_data]; rfl) hs.head
    rw [encs_nil] at hd
    simp only [List.length_nil] at hd
    have hstep : first (bsN (c :: r)) (fun i r => !letterP r ((i : Int) == 0)) = if lowN c then (encs (c :: r.takeWhile partN)).length else 0 := by
      unfold first
      conv => lhs; unfold firstAt
      rw [decide_eq_true (by omega), cond_true, hd]
      simp only
      have e0 : ((0 : Nat) : Int) == 0 := rfl
      rw [show (((0 : Nat) : Int) == 0) = true from rfl, letter_N]
      cases hc : lowN c with
      | false => simp
      | true =>
        simp only [Bool.not_true, cond_false, if_true]
        have e : 0 + (encN c).length = (encs [c]).length := by rw [encs_cons, encs_nil]; simp
        rw [e, firstAt_encs (bsN (c :: r)) _ (fun c => !partN c) r [c] _ (by rw [bsN_data]; rfl) hs.tail ?_ ?_]
        · simp
        · intro i d hi
          have : ((i : Int) == 0) = false := by
            rw [beq_eq_false_iff_ne]
            rw [← e] at hi; omega
          rw [this, letter_part]
        · have := encs_len r; omega
    rw [hstep, wordN_cons]
    by_cases hc : lowN c = true
    · have : c :: r = (c :: r.takeWhile partN) ++ r.dropWhile partN := by simp
      rw [if_pos hc, if_pos hc]
      have h2 := take_encs (c :: r.takeWhile partN) (r.dropWhile partN)
      rw [← this] at h2
      exact h2
    · rw [if_neg hc, if_neg hc]; rfl
theorem isW_encs {ns : List Nat} (hs : SC ns) : isW (bsN ns) = true ↔ wordN ns ≠ [] := by
  unfold isW
  rw [word_encs hs, Go.Lib.toList_data, Go.Lib.toList_data, bsN_data]
  have : bNo.data.toList = [] := rfl
  rw [this]
  cases h : wordN ns with
  | nil => simp [encs_nil]
  | cons c r =>
    have := encN_ne c
    rw [encs_cons]
    simp only [ne_eq, reduceCtorEq, not_false_eq_true, iff_true, Bool.not_eq_true', beq_eq_false_iff_ne]
    intro hx
    exact this (List.append_eq_nil_iff.1 hx).1
theorem SC_word {ns : List Nat} (hs : SC ns) : SC (wordN ns) := by
  obtain ⟨r, h⟩ := wordN_prefix ns
  rw [h] at hs; exact hs.left
theorem mem_takeW {p : Nat → Bool} : ∀ {l : List Nat} {x : Nat}, x ∈ l.takeWhile p → p x = true := by
  intro l
  induction l with
  | nil => intro x h; cases h
  | cons a l ih =>
    intro x h
    rw [List.takeWhile_cons] at h
    split at h
    · rename_i ha
      rcases List.mem_cons.1 h with rfl | h
      · exact ha
      · exact ih h
    · cases h
theorem cond_dec {α : Type} (p : Prop) [Decidable p] (x y : α) : (bif decide p then x else y) = if p then x else y := by
  by_cases h : p
  · rw [decide_eq_true h, if_pos h]; rfl
  · rw [decide_eq_false h, if_neg h]; rfl
theorem word_ascii : ∀ (ns : List Nat), ∀ c ∈ wordN ns, c < 128 := by
  intro ns
  cases ns with
  | nil => intro c h; cases h
  | cons c r =>
    intro x hx
    rw [wordN_cons] at hx
    split at hx
    · rename_i hc
      rcases List.mem_cons.1 hx with rfl | hx
      · unfold lowN at hc; simp at hc; omega
      · have := mem_takeW hx
        unfold partN lowN at this
        simp at this; omega
    · cases hx
theorem encs_ascii : ∀ (ns : List Nat), (∀ c ∈ ns, c < 128) → encs ns = ns.map UInt8.ofNat := by
  intro ns
  induction ns with
  | nil => intro _; rfl
  | cons c r ih => intro h; rw [encs_cons, encN_low (h c (by simp)), ih (fun x hx => h x (by simp [hx]))]; rfl
theorem eqb_encs {a b : List Nat} (ha : SC a) (hb : SC b) : ((bsN a).toList == (bsN b).toList) = decide (a = b) := by
  rw [Go.Lib.toList_data, Go.Lib.toList_data, bsN_data, bsN_data]
  apply bool_eq
  rw [beq_iff_eq, decide_eq_true_eq]
  exact ⟨encs_inj ha hb, fun h => h ▸ rfl⟩
theorem SC_low {a : List Nat} (h : ∀ c ∈ a, c < 128) : SC a := fun c hc => .inl (by have := h c hc; omega)
theorem kind_encs {w : List Nat} (hs : SC w) : kindP (bsN w) = kindN w := by
  have e1 : bType = bsN [116, 121, 112, 101] := by rfl
  have e2 : bRel = bsN [114, 101, 108] := by rfl
  have e3 : bThis = bsN [116, 104, 105, 115] := by rfl
  unfold kindP kindN
  rw [e1, e2, e3, eqb_encs hs (SC_low (by decide)), eqb_encs hs (SC_low (by decide)), eqb_encs hs (SC_low (by decide))]
  rw [cond_dec, cond_dec, cond_dec]
theorem pre2_encs {ns : List Nat} (hs : SC ns) (a b : Nat) (ha : a < 128) (hb : b < 128) : preP (bsN ns) (bsN [a, b]) = true ↔ ∃ r, ns = a :: b :: r := by
  have h2 : SC [a, b] := SC_low (by intro c hc; simp at hc; omega)
  have hl : (encs [a, b]).length = 2 := by rw [encs_ascii [a, b] (by intro c hc; simp at hc; omega)]; rfl
  unfold preP
  rw [Bool.and_eq_true, decide_eq_true_eq, beq_iff_eq, Go.Lib.toList_data, Go.Lib.toList_data, ext_data0, bsN_size, bsN_size, bsN_data, bsN_data]
  constructor
  · rintro ⟨h1, h3⟩
    have : encs [a, b] ++ (encs ns).drop (encs [a, b]).length = encs ns := by
      conv => rhs; rw [← List.take_append_drop (encs [a, b]).length (encs ns), h3]
    obtain ⟨r, h4, _⟩ := encs_prefix _ _ _ h2 hs this
    exact ⟨r, h4⟩
  · rintro ⟨r, rfl⟩
    have e : a :: b :: r = [a, b] ++ r := rfl
    refine ⟨?_, ?_⟩
    · rw [e, encs_app]; simp
    · rw [e, take_encs]
theorem preTo_encs {ns : List Nat} (hs : SC ns) : preP (bsN ns) bTo = isTo ns := by
  have e : bTo = bsN [45, 62] := by rfl
  rw [e]
  apply bool_eq
  rw [pre2_encs hs 45 62 (by omega) (by omega)]
  constructor
  · rintro ⟨r, rfl⟩; rfl
  · exact isTo_eq
theorem preSl_encs {ns : List Nat} (hs : SC ns) : preP (bsN ns) bSl = isRem ns := by
  have e : bSl = bsN [47, 47] := by rfl
  rw [e]
  apply bool_eq
  rw [pre2_encs hs 47 47 (by omega) (by omega)]
  constructor
  · rintro ⟨r, rfl⟩; rfl
  · exact isRem_eq
theorem remark_encs {ns : List Nat} (hs : SC ns) : remarkP (bsN ns) = if isRem ns then bsN (ns.takeWhile ne10) else bNo := by
  unfold remarkP
  rw [preSl_encs hs]
  cases isRem ns with
  | false => rfl
  | true =>
    rw [cond_true, if_pos rfl]
    apply ba_ext
    rw [ext_data0, bsN_data, bsN_data, first_encs (bsN ns) _ (fun c => !ne10 c) ns (bsN_data ns) hs ?_]
    · have e : ns = ns.takeWhile ne10 ++ ns.dropWhile ne10 := by simp
      have e2 : (ns.takeWhile fun c => !!ne10 c) = ns.takeWhile ne10 := by simp
      rw [e2]
      conv => lhs; arg 2; rw [e]
      rw [take_encs]
    · intro i c
      apply bool_eq
      unfold ne10
      simp only [beq_iff_eq, bne, Bool.not_not]
      omega
/-! ### signs -/
theorem sign_low : ∀ c : Fin 128, Go.Lib.contains bSigns.data.toList [UInt8.ofNat c.val] = decide (c.val ∈ signsN) := by decide +kernel
theorem sign_encs {c : Nat} {r : List Nat} (hs : SC (c :: r)) : signP (bsN (c :: r)) = decide (c ∈ signsN) := by
  have hd := dec_at (bsN (c :: r)) [] c r (by rw [bsN_data]; rfl) hs.head
  rw [encs_nil] at hd
  simp only [List.length_nil] at hd
  apply bool_eq
  have hpos : 0 < (bsN (c :: r)).size := by rw [bsN_size, encs_cons]; have := (encN_len c).1; simp; omega
  by_cases hc : c < 128
  · unfold signP
    rw [decide_eq_true hpos, Bool.true_and, hasSub_eq, hd, encode_data c hs.head, encN_low hc]
    have := sign_low ⟨c, hc⟩
    rw [show (⟨c, hc⟩ : Fin 128).val = c from rfl] at this
    rw [this]
  · constructor
    · intro h
      have := (sign_small h).2
      rw [hd] at this
      simp only at this
      omega
    · intro h
      rw [decide_eq_true_eq] at h
      have : ∀ x ∈ signsN, x < 128 := by decide
      exact absurd (this c h) hc
theorem tokO_encs {c : Nat} {r : List Nat} (hs : SC (c :: r)) : tokO (bsN (c :: r)) = (tokN (c :: r)).isSome := by
  unfold tokO tokN
  by_cases hw : wordN (c :: r) ≠ []
  · rw [(isW_encs hs).2 hw, cond_true, if_pos hw, word_encs hs]
    have : (bsN (wordN (c :: r))).size = (wordN (c :: r)).length := by rw [bsN_size, encs_ascii _ (word_ascii _)]; simp
    rw [this]
    split
    · rename_i h; simp [h]
    · rename_i h; simp [h]
  · have : isW (bsN (c :: r)) = false := by rw [← Bool.not_eq_true, isW_encs hs]; exact hw
    rw [this, cond_false, if_neg hw, preTo_encs hs]
    cases isTo (c :: r) with
    | true => rfl
    | false =>
      rw [cond_false, sign_encs hs]
      simp only [Bool.false_eq_true, if_false]
      split
      · rename_i h; simp [h]
      · rename_i h; simp [h]
theorem tok_encs {c : Nat} {r : List Nat} (hs : SC (c :: r)) {k : Int} {t : List Nat} (h : tokN (c :: r) = some (k, t)) : tokK (bsN (c :: r)) = k ∧ tokT (bsN (c :: r)) = bsN t := by
  unfold tokN at h
  unfold tokK tokT
  by_cases hw : wordN (c :: r) ≠ []
  · rw [if_pos hw] at h
    split at h
    · cases h
      rw [(isW_encs hs).2 hw, cond_true, cond_true, word_encs hs]
      exact ⟨kind_encs (SC_word hs), rfl⟩
    · cases h
  · have hf : isW (bsN (c :: r)) = false := by rw [← Bool.not_eq_true, isW_encs hs]; exact hw
    rw [if_neg hw] at h
    rw [hf, cond_false, cond_false, preTo_encs hs]
    cases ht : isTo (c :: r) with
    | true => rw [ht] at h; cases h; exact ⟨rfl, rfl⟩
    | false =>
      rw [ht] at h
      simp only [Bool.false_eq_true, if_false] at h
      split at h
      · rename_i hc
        cases h
        have hd := dec_at (bsN (c :: r)) [] c r (by rw [bsN_data]; rfl) hs.head
        rw [encs_nil] at hd
        simp only [List.length_nil] at hd
        rw [cond_false, cond_false, sign_encs hs, decide_eq_true hc, cond_true, cond_true, hd]
        refine ⟨rfl, ba_ext ?_⟩
        rw [encode_data c hs.head, bsN_data, encs_cons, encs_nil]; simp
      · cases h
end Go.Proofs.YtniiimpcakmkbaaDoor
