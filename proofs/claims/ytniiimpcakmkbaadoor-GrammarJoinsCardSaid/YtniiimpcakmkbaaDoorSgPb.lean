/- sigil's lexer over lists of runes: plain laws, no program. -/
import Derived.Test.YtniiimpcakmkbaaDoorSgC
import Derived.Test.YtniiimpcakmkbaaDoorSgD
set_option linter.unusedVariables false
namespace Go.Proofs.YtniiimpcakmkbaaDoor
open Go Vm Go.Lib
def SC (ns : List Nat) : Prop := ∀ c ∈ ns, Sc c
theorem SC.head {c : Nat} {r : List Nat} (h : SC (c :: r)) : Sc c := h c (by simp)
theorem SC.tail {c : Nat} {r : List Nat} (h : SC (c :: r)) : SC r := fun x hx => h x (by simp [hx])
theorem SC.left {a b : List Nat} (h : SC (a ++ b)) : SC a := fun x hx => h x (by simp [hx])
theorem SC.right {a b : List Nat} (h : SC (a ++ b)) : SC b := fun x hx => h x (by simp [hx])
theorem SC.app {a b : List Nat} (h : SC a) (g : SC b) : SC (a ++ b) := fun x hx => (List.mem_append.1 hx).elim (h x) (g x)
theorem SC.nil : SC [] := fun _ h => by cases h
theorem SC.sub {a b : List Nat} (h : SC b) (g : ∀ x ∈ a, x ∈ b) : SC a := fun x hx => h x (g x hx)
/-- the text of runes -/
def bsN (ns : List Nat) : ByteArray := ⟨(encs ns).toArray⟩
theorem bsN_data (ns : List Nat) : (bsN ns).data.toList = encs ns := by simp [bsN]
theorem ba_ext {a b : ByteArray} (h : a.data.toList = b.data.toList) : a = b := by
  apply ByteArray.ext; exact Array.toList_inj.1 h
theorem bsN_size (ns : List Nat) : (bsN ns).size = (encs ns).length := by
  show (bsN ns).data.size = _
  simp [bsN]
theorem encN_ne (c : Nat) : encN c ≠ [] := fun h => by have := (encN_len c).1; rw [h] at this; simp at this
theorem encs_len (ns : List Nat) : ns.length ≤ (encs ns).length := by
  induction ns with
  | nil => simp
  | cons c r ih => rw [encs_cons]; have := (encN_len c).1; simp only [List.length_append, List.length_cons]; omega
theorem encN_cancel {c d : Nat} (hc : Sc c) (hd : Sc d) {p q : List UInt8} (h : encN c ++ p = encN d ++ q) : c = d ∧ p = q := by
  have e1 := dec_enc c hc p
  have e2 := dec_enc d hd q
  rw [h, e2] at e1
  have hcd : d = c := congrArg Prod.fst e1
  subst hcd
  exact ⟨rfl, List.append_cancel_left h⟩
/-- what begins as runes' bytes begins with the runes -/
theorem encs_prefix : ∀ (a b : List Nat) (l : List UInt8), SC a → SC b → encs a ++ l = encs b → ∃ r, b = a ++ r ∧ l = encs r := by
  intro a
  induction a with
  | nil => intro b l _ _ h; exact ⟨b, rfl, by simpa [encs_nil] using h⟩
  | cons c a ih =>
    intro b l ha hb h
    cases b with
    | nil =>
      rw [encs_cons, encs_nil] at h
      exact absurd (List.append_eq_nil_iff.1 (List.append_eq_nil_iff.1 h).1).1 (encN_ne c)
    | cons d b =>
      rw [encs_cons, encs_cons, List.append_assoc] at h
      obtain ⟨rfl, h2⟩ := encN_cancel ha.head hb.head h
      obtain ⟨r, rfl, h4⟩ := ih b l ha.tail hb.tail h2
      exact ⟨r, rfl, h4⟩
theorem encs_inj {a b : List Nat} (ha : SC a) (hb : SC b) (h : encs a = encs b) : a = b := by
  obtain ⟨r, h1, h2⟩ := encs_prefix a b [] ha hb (by simpa using h)
  cases r with
  | nil => simpa using h1.symm
  | cons d r => rw [encs_cons] at h2; have := (encN_len d).1; have := congrArg List.length h2; simp at this; omega
theorem dec_at (s : ByteArray) (pre : List Nat) (c : Nat) (r : List Nat) (h : s.data.toList = encs (pre ++ c :: r)) (hc : Sc c) : Utf8.decode s (encs pre).length = (c, (encN c).length) := by
  rw [← decodeL_drop, h, encs_app, List.drop_left, encs_cons]
  exact dec_enc c hc _
theorem size_data (s : ByteArray) : s.size = s.data.toList.length := rfl
theorem firstAt_encs (s : ByteArray) (p : Nat → Int → Bool) (q : Nat → Bool) : ∀ (ns pre : List Nat) (n : Nat), s.data.toList = encs (pre ++ ns) → SC ns → (∀ (i c : Nat), (encs pre).length ≤ i → p i (c : Int) = q c) → ns.length < n →
    firstAt s p n (encs pre).length = (encs (pre ++ ns.takeWhile fun c => !q c)).length := by
  intro ns
  induction ns with
  | nil =>
    intro pre n h hs hp hn
    have hz : s.size = (encs pre).length := by rw [size_data, h]; simp
    cases n with
    | zero => omega
    | succ n =>
      unfold firstAt
      rw [decide_eq_false (by omega), cond_false]
      simp [hz]
  | cons c r ih =>
    intro pre n h hs hp hn
    have hz : s.size = (encs pre).length + (encN c).length + (encs r).length := by rw [size_data, h, encs_app, encs_cons]; simp; omega
    have h1 := (encN_len c).1
    cases n with
    | zero => omega
    | succ n =>
      unfold firstAt
      rw [decide_eq_true (by omega), cond_true, dec_at s pre c r h hs.head, hp _ c (Nat.le_refl _)]
      simp only
      cases hq : q c with
      | true => rw [cond_true, List.takeWhile_cons]; simp [hq]
      | false =>
        rw [cond_false, List.takeWhile_cons]
        simp only [hq, Bool.not_false, if_true]
        have e : (encs pre).length + (encN c).length = (encs (pre ++ [c])).length := by rw [encs_app, encs_cons, encs_nil]; simp
        rw [e, ih (pre ++ [c]) n (by rw [h]; simp) hs.tail (fun i x hi => hp i x (by omega)) (by simp at hn; omega)]
        simp
theorem first_encs (s : ByteArray) (p : Nat → Int → Bool) (q : Nat → Bool) (ns : List Nat) (h : s.data.toList = encs ns) (hs : SC ns) (hp : ∀ i c : Nat, p i (c : Int) = q c) :
    first s p = (encs (ns.takeWhile fun c => !q c)).length := by
  have := firstAt_encs s p q ns [] (s.size + 1) (by simpa using h) hs (fun i c _ => hp i c) (by have := encs_len ns; rw [size_data, h]; omega)
  simpa [first, encs_nil] using this
/-! ### valid texts -/
theorem ext_data (s : ByteArray) (i : Nat) : (s.extract i s.size).data.toList = s.data.toList.drop i := by
  have e : (s.extract i s.size).data = s.data.extract i s.size := by simp
  rw [e, Array.toList_extract, List.extract_eq_take_drop, size_data]
  exact List.take_of_length_le (by simp)
theorem ext_data0 (s : ByteArray) (i : Nat) : (s.extract 0 i).data.toList = s.data.toList.take i := by
  have e : (s.extract 0 i).data = s.data.extract 0 i := by simp
  rw [e, Array.toList_extract, List.extract_eq_take_drop]
  simp
theorem broken_dec (s : ByteArray) (i : Nat) (hi : i < s.size) : brokenP s (i : Int) ((Utf8.decode s i).1 : Int) = true ↔ Utf8.decode s i = (65533, 1) := by
  unfold brokenP Go.Lib.decodeGo
  rw [Int.toNat_natCast]
  have hz : ¬ (s.extract i s.size).size = 0 := by rw [size_data, ext_data, List.length_drop, ← size_data]; omega
  have e : Utf8.decode (s.extract i s.size) 0 = Utf8.decode s i := by
    rw [← decodeL_drop, ← decodeL_drop, ext_data, List.drop_zero]
  first | rw [if_neg hz] | skip
  rw [e]
  generalize Utf8.decode s i = d
  obtain ⟨a, b⟩ := d
  simp only [Bool.and_eq_true, beq_iff_eq, Prod.mk.injEq]
  omega
theorem valid_dec : ∀ (n : Nat) (s : ByteArray) (i : Nat), s.size - i < n → i ≤ s.size → firstAt s (fun i r => brokenP s i r) n i = s.size → ∃ ns, SC ns ∧ s.data.toList.drop i = encs ns := by
  intro n
  induction n with
  | zero => intro s i h; omega
  | succ n ih =>
    intro s i h hi hf
    by_cases hlt : i < s.size
    · unfold firstAt at hf
      rw [decide_eq_true hlt, cond_true] at hf
      have hb : ¬ (Utf8.decode s i = (65533, 1)) := by
        intro hd
        rw [(broken_dec s i hlt).2 hd, cond_true] at hf
        omega
      have hbf : brokenP s (i : Int) ((Utf8.decode s i).1 : Int) = false := by
        rw [← Bool.not_eq_true]; exact fun hx => hb ((broken_dec s i hlt).1 hx)
      rw [hbf, cond_false] at hf
      have hne : s.data.toList.drop i ≠ [] := by
        intro h0
        have := congrArg List.length h0
        rw [List.length_drop, ← size_data] at this
        simp at this; omega
      obtain ⟨h1, h2, h3⟩ := enc_dec (s.data.toList.drop i) hne (by rw [decodeL_drop]; exact hb)
      rw [decodeL_drop] at h1 h2 h3
      have hl := (encN_len (Utf8.decode s i).1).1
      have hsz : i + (Utf8.decode s i).2 ≤ s.size := by
        have := congrArg List.length h3
        rw [List.length_append, List.length_drop, List.length_drop, List.length_drop, ← size_data] at this
        omega
      obtain ⟨ns, g1, g2⟩ := ih s _ (by omega) hsz hf
      refine ⟨(Utf8.decode s i).1 :: ns, ?_, ?_⟩
      · intro x hx
        rcases List.mem_cons.1 hx with rfl | hx
        · exact h1
        · exact g1 x hx
      · rw [encs_cons, ← g2, h3, List.drop_drop]
    · exact ⟨[], SC.nil, by rw [List.drop_of_length_le (by rw [← size_data]; omega)]; rfl⟩
theorem valid_runes {s : ByteArray} (h : validP s = true) : ∃ ns, SC ns ∧ s.data.toList = encs ns := by
  unfold validP first at h
  simpa using valid_dec (s.size + 1) s 0 (by omega) (by omega) (by simpa using h)
theorem encN_65533 : (encN 65533).length = 3 := by decide
theorem not_broken (s : ByteArray) (pre : List Nat) (c : Nat) (r : List Nat) (h : s.data.toList = encs (pre ++ c :: r)) (hc : Sc c) : brokenP s ((encs pre).length : Nat) (c : Int) = false := by
  have hlt : (encs pre).length < s.size := by rw [size_data, h, encs_app, encs_cons]; have := (encN_len c).1; simp; omega
  have hd := dec_at s pre c r h hc
  rw [← Bool.not_eq_true]
  intro hb
  have e : (c : Int) = ((Utf8.decode s (encs pre).length).1 : Int) := by rw [hd]
  rw [e] at hb
  have := (broken_dec s _ hlt).1 hb
  rw [hd] at this
  have h1 : c = 65533 := congrArg Prod.fst this
  have h2 : (encN c).length = 1 := congrArg Prod.snd this
  subst h1
  rw [encN_65533] at h2; omega
theorem runes_valid {s : ByteArray} {ns : List Nat} (hs : SC ns) (h : s.data.toList = encs ns) : validP s = true := by
  have key : ∀ (ns pre : List Nat) (n : Nat), s.data.toList = encs (pre ++ ns) → SC ns → ns.length < n → firstAt s (fun i r => brokenP s i r) n (encs pre).length = s.size := by
    intro ns
    induction ns with
    | nil =>
      intro pre n h hs hn
      have hz : s.size = (encs pre).length := by rw [size_data, h]; simp
      cases n with
      | zero => omega
      | succ n => unfold firstAt; rw [decide_eq_false (by omega), cond_false]
    | cons c r ih =>
      intro pre n h hs hn
      have hlt : (encs pre).length < s.size := by rw [size_data, h, encs_app, encs_cons]; have := (encN_len c).1; simp; omega
      cases n with
      | zero => omega
      | succ n =>
        unfold firstAt
        rw [decide_eq_true hlt, cond_true, dec_at s pre c r h hs.head]
        simp only
        rw [not_broken s pre c r h hs.head, cond_false]
        have e : (encs pre).length + (encN c).length = (encs (pre ++ [c])).length := by rw [encs_app, encs_cons, encs_nil]; simp
        rw [e]
        exact ih (pre ++ [c]) n (by rw [h]; simp) hs.tail (by simp at hn; omega)
  have := key ns [] (s.size + 1) (by simpa using h) hs (by have := encs_len ns; rw [size_data, h]; omega)
  unfold validP first
  simpa [encs_nil] using this
theorem count_encs {s : ByteArray} {ns : List Nat} (hs : SC ns) (h : s.data.toList = encs ns) (hl : ns.length < 9223372036854775807) : countP s = ns.length := by
  have key : ∀ (ns pre : List Nat) (n : Nat), s.data.toList = encs (pre ++ ns) → SC ns → ns.length < n → (pre ++ ns).length < 9223372036854775807 → cntAt s n (encs pre).length (pre.length : Int) = (pre ++ ns).length := by
    intro ns
    induction ns with
    | nil =>
      intro pre n h hs hn _
      have hz : s.size = (encs pre).length := by rw [size_data, h]; simp
      cases n with
      | zero => omega
      | succ n => unfold cntAt; rw [decide_eq_false (by omega), cond_false]; simp
    | cons c r ih =>
      intro pre n h hs hn hb
      have hlt : (encs pre).length < s.size := by rw [size_data, h, encs_app, encs_cons]; have := (encN_len c).1; simp; omega
      cases n with
      | zero => omega
      | succ n =>
        unfold cntAt
        rw [decide_eq_true hlt, cond_true, dec_at s pre c r h hs.head]
        simp only
        have e : (encs pre).length + (encN c).length = (encs (pre ++ [c])).length := by rw [encs_app, encs_cons, encs_nil]; simp
        have e2 : IntKind.i64.wrap ((pre.length : Int) + 1) = ((pre ++ [c]).length : Int) := by
          simp only [List.length_append, List.length_cons, List.length_nil] at hb ⊢
          rw [Vm.w64 _ (by omega) (by omega)]; push_cast; omega
        rw [e, e2, ih (pre ++ [c]) n (by rw [h]; simp) hs.tail (by simp at hn; omega) (by simpa using hb)]
        simp
  have := key ns [] (s.size + 1) (by simpa using h) hs (by have := encs_len ns; rw [size_data, h]; omega) (by simpa using hl)
  unfold countP
  simpa [encs_nil] using this
/-! ### places -/
def advN (p : Int × Int) (c : Nat) : Int × Int := (nextL p.1 (c : Int), nextC p.2 (c : Int))
def advs (p : Int × Int) (ns : List Nat) : Int × Int := ns.foldl advN p
theorem advs_app (p : Int × Int) (a b : List Nat) : advs p (a ++ b) = advs (advs p a) b := by simp [advs]
theorem behind_encs {s : ByteArray} {ns : List Nat} (hs : SC ns) (h : s.data.toList = encs ns) (l c : Int) : behindP l c s = advs (l, c) ns := by
  have key : ∀ (ns pre : List Nat) (n : Nat) (l c : Int), s.data.toList = encs (pre ++ ns) → SC ns → ns.length < n → plAt s n (encs pre).length l c = advs (l, c) ns := by
    intro ns
    induction ns with
    | nil =>
      intro pre n l c h hs hn
      have hz : s.size = (encs pre).length := by rw [size_data, h]; simp
      cases n with
      | zero => omega
      | succ n => unfold plAt; rw [decide_eq_false (by omega), cond_false]; rfl
    | cons d r ih =>
      intro pre n l c h hs hn
      have hlt : (encs pre).length < s.size := by rw [size_data, h, encs_app, encs_cons]; have := (encN_len d).1; simp; omega
      cases n with
      | zero => omega
      | succ n =>
        unfold plAt
        rw [decide_eq_true hlt, cond_true, dec_at s pre d r h hs.head]
        simp only
        have e : (encs pre).length + (encN d).length = (encs (pre ++ [d])).length := by rw [encs_app, encs_cons, encs_nil]; simp
        rw [e, ih (pre ++ [d]) n _ _ (by rw [h]; simp) hs.tail (by simp at hn; omega)]
        rfl
  have := key ns [] (s.size + 1) l c (by simpa using h) hs (by have := encs_len ns; rw [size_data, h]; omega)
  unfold behindP
  simpa [encs_nil] using this
end Go.Proofs.YtniiimpcakmkbaaDoor

/- sigil's lexer as a relation over lists of runes: plain laws, no program. -/
set_option linter.unusedVariables false
namespace Go.Proofs.YtniiimpcakmkbaaDoor
open Go Vm Go.Lib
def blankN (c : Nat) : Bool := c == 9 || c == 10 || c == 13 || c == 32 || c == 12288
def lowN (c : Nat) : Bool := decide (97 ≤ c) && decide (c ≤ 122)
def partN (c : Nat) : Bool := lowN c || (decide (48 ≤ c) && decide (c ≤ 57)) || c == 95
def ne10 (c : Nat) : Bool := c != 10
def wordN : List Nat → List Nat
  | [] => []
  | c :: r => if lowN c then c :: r.takeWhile partN else []
def kindN (w : List Nat) : Int := if w = [116, 121, 112, 101] then 2 else if w = [114, 101, 108] then 3 else if w = [116, 104, 105, 115] then 4 else 1
def signsN : List Nat := [123, 125, 91, 93, 40, 41, 61, 59, 44, 58, 35, 42, 124, 38, 45]
def isTo : List Nat → Bool
  | 45 :: 62 :: _ => true
  | _ => false
def isRem : List Nat → Bool
  | 47 :: 47 :: _ => true
  | _ => false
def tokN (ns : List Nat) : Option (Int × List Nat) :=
  if wordN ns ≠ [] then (if (wordN ns).length ≤ 16 then some (kindN (wordN ns), wordN ns) else none)
  else if isTo ns then some (5, [45, 62])
  else match ns with
    | c :: _ => if c ∈ signsN then some ((c : Int), [c]) else none
    | [] => none
abbrev Tok := Int × List Nat × (Int × Int)
inductive Lx : Int × Int → List Nat → List Tok → Int × Int → Int → Prop
  | nil (p) : Lx p [] [] p 0
  | blank {p c r o q e} (hb : blankN c = true) (h : Lx (advN p c) r o q e) : Lx p (c :: r) o q e
  | rem {p ns o q e} (hr : isRem ns = true) (h : Lx (advs p (ns.takeWhile ne10)) (ns.dropWhile ne10) o q e) : Lx p ns o q e
  | tok {p c r o q e k t r'} (hb : blankN c = false) (hr : isRem (c :: r) = false) (ht : tokN (c :: r) = some (k, t)) (hs : c :: r = t ++ r') (h : Lx (advs p t) r' o q e) : Lx p (c :: r) ((k, t, p) :: o) q e
  | bad {p c r} (hb : blankN c = false) (hr : isRem (c :: r) = false) (ht : tokN (c :: r) = none) : Lx p (c :: r) [] p 10
/-! ### words and signs -/
theorem wordN_cons (c : Nat) (r : List Nat) : wordN (c :: r) = if lowN c then c :: r.takeWhile partN else [] := rfl
theorem wordN_prefix : ∀ ns : List Nat, ∃ r, ns = wordN ns ++ r := by
  intro ns
  cases ns with
  | nil => exact ⟨[], rfl⟩
  | cons c r =>
    rw [wordN_cons]
    split
    · exact ⟨r.dropWhile partN, by simp⟩
    · exact ⟨c :: r, rfl⟩
theorem isTo_eq {ns : List Nat} (h : isTo ns = true) : ∃ r, ns = 45 :: 62 :: r := by
  unfold isTo at h
  split at h
  · exact ⟨_, rfl⟩
  · cases h
theorem isRem_eq {ns : List Nat} (h : isRem ns = true) : ∃ r, ns = 47 :: 47 :: r := by
  unfold isRem at h
  split at h
  · exact ⟨_, rfl⟩
  · cases h
theorem tokN_split {ns : List Nat} {k : Int} {t : List Nat} (h : tokN ns = some (k, t)) : t ≠ [] ∧ ∃ r, ns = t ++ r := by
  unfold tokN at h
  split at h
  · rename_i hw
    split at h
    · cases h; exact ⟨hw, wordN_prefix ns⟩
    · cases h
  · split at h
    · rename_i h2
      obtain ⟨r, rfl⟩ := isTo_eq h2
      cases h
      exact ⟨by simp, r, rfl⟩
    · cases ns with
      | nil => cases h
      | cons c r =>
        simp only at h
        split at h
        · cases h; exact ⟨by simp, r, rfl⟩
        · cases h
theorem dropWhile_le (p : Nat → Bool) (l : List Nat) : (l.dropWhile p).length ≤ l.length := by
  have := congrArg List.length (List.takeWhile_append_dropWhile (p := p) (l := l))
  rw [List.length_append] at this; omega
theorem rem_take {ns : List Nat} (h : isRem ns = true) : 2 ≤ (ns.takeWhile ne10).length ∧ (ns.dropWhile ne10).length + 2 ≤ ns.length := by
  obtain ⟨r, rfl⟩ := isRem_eq h
  have e : (47 :: 47 :: r).takeWhile ne10 = 47 :: 47 :: r.takeWhile ne10 := rfl
  have f : (47 :: 47 :: r).dropWhile ne10 = r.dropWhile ne10 := rfl
  rw [e, f]
  have := dropWhile_le ne10 r
  simp; omega
theorem Lx.total : ∀ (n : Nat) (ns : List Nat) (p : Int × Int), ns.length < n → ∃ o q e, Lx p ns o q e := by
  intro n
  induction n with
  | zero => intro ns p h; omega
  | succ n ih =>
    intro ns p h
    cases ns with
    | nil => exact ⟨_, _, _, .nil p⟩
    | cons c r =>
      cases hb : blankN c with
      | true =>
        obtain ⟨o, q, e, h1⟩ := ih r (advN p c) (by simp at h; omega)
        exact ⟨o, q, e, .blank hb h1⟩
      | false =>
        cases hr : isRem (c :: r) with
        | true =>
          obtain ⟨o, q, e, h1⟩ := ih ((c :: r).dropWhile ne10) (advs p ((c :: r).takeWhile ne10)) (by have := (rem_take hr).2; omega)
          exact ⟨o, q, e, .rem hr h1⟩
        | false =>
          cases ht : tokN (c :: r) with
          | none => exact ⟨_, _, _, .bad hb hr ht⟩
          | some x =>
            obtain ⟨k, t⟩ := x
            obtain ⟨h1, r', h2⟩ := tokN_split ht
            have hl := congrArg List.length h2
            have : 0 < t.length := List.length_pos_iff.2 h1
            obtain ⟨o, q, e, h3⟩ := ih r' (advs p t) (by rw [List.length_append] at hl; omega)
            exact ⟨_, q, e, .tok hb hr ht h2 h3⟩
theorem Lx.err {p ns o q e} (h : Lx p ns o q e) : e = 0 ∨ e = 10 := by
  induction h with
  | nil => exact .inl rfl
  | blank _ _ ih => exact ih
  | rem _ _ ih => exact ih
  | tok _ _ _ _ _ ih => exact ih
  | bad => exact .inr rfl
/-! ### the program's steps -/
theorem bool_eq {a b : Bool} (h : a = true ↔ b = true) : a = b := by cases a <;> cases b <;> simp_all
theorem blank_N (c : Nat) : blankP (c : Int) = blankN c := by
  apply bool_eq
  unfold blankP blankN
  simp only [Bool.or_eq_true, beq_iff_eq]
  omega
theorem letter_N (c : Nat) : letterP (c : Int) true = lowN c := by
  apply bool_eq
  unfold letterP lowN
  simp only [Bool.not_true, Bool.false_and, Bool.or_false, Bool.and_eq_true, decide_eq_true_eq]
  omega
theorem letter_part (c : Nat) : letterP (c : Int) false = partN c := by
  apply bool_eq
  unfold letterP partN lowN
  simp only [Bool.not_false, Bool.true_and, Bool.or_eq_true, Bool.and_eq_true, decide_eq_true_eq, beq_iff_eq]
  omega
theorem take_encs (a b : List Nat) : (encs (a ++ b)).take (encs a).length = encs a := by rw [encs_app]; simp
theorem drop_encs (a b : List Nat) : (encs (a ++ b)).drop (encs a).length = encs b := by rw [encs_app]; simp
theorem word_encs {ns : List Nat} (hs : SC ns) : wordP (bsN ns) = bsN (wordN ns) := by
  apply ba_ext
  unfold wordP
  rw [ext_data0, bsN_data, bsN_data]
  cases ns with
  | nil =>
    have : first (bsN []) (fun i r => !letterP r ((i : Int) == 0)) = 0 := by
      have := first_le (bsN []) (fun i r => !letterP r ((i : Int) == 0))
      have e : (bsN []).size = 0 := rfl
      omega
    rw [this]; rfl
  | cons c r =>
    have hz : (bsN (c :: r)).size = (encN c).length + (encs r).length := by rw [bsN_size, encs_cons]; simp
    have h1 := (encN_len c).1
    have hd := dec_at (bsN (c :: r)) [] c r (by rw [bsN_data]; rfl) hs.head
    rw [encs_nil] at hd
    simp only [List.length_nil] at hd
    have hstep : first (bsN (c :: r)) (fun i r => !letterP r ((i : Int) == 0)) = if lowN c then (encs (c :: r.takeWhile partN)).length else 0 := by
      unfold first
      conv => lhs; unfold firstAt
      rw [decide_eq_true (by omega), cond_true, hd]
      simp only
      have e0 : ((0 : Nat) : Int) == 0 := rfl
      rw [show (((0 : Nat) : Int) == 0) = true from rfl, letter_N]
      cases hc : lowN c with
      | false => simp
      | true =>
        simp only [Bool.not_true, cond_false, if_true]
        have e : 0 + (encN c).length = (encs [c]).length := by rw [encs_cons, encs_nil]; simp
        rw [e, firstAt_encs (bsN (c :: r)) _ (fun c => !partN c) r [c] _ (by rw [bsN_data]; rfl) hs.tail ?_ ?_]
        · simp
        · intro i d hi
          have : ((i : Int) == 0) = false := by
            rw [beq_eq_false_iff_ne]
            rw [← e] at hi; omega
          rw [this, letter_part]
        · have := encs_len r; omega
    rw [hstep, wordN_cons]
    by_cases hc : lowN c = true
    · have : c :: r = (c :: r.takeWhile partN) ++ r.dropWhile partN := by simp
      rw [if_pos hc, if_pos hc]
      have h2 := take_encs (c :: r.takeWhile partN) (r.dropWhile partN)
      rw [← this] at h2
      exact h2
    · rw [if_neg hc, if_neg hc]; rfl
theorem isW_encs {ns : List Nat} (hs : SC ns) : isW (bsN ns) = true ↔ wordN ns ≠ [] := by
  unfold isW
  rw [word_encs hs, Go.Lib.toList_data, Go.Lib.toList_data, bsN_data]
  have : bNo.data.toList = [] := rfl
  rw [this]
  cases h : wordN ns with
  | nil => simp [encs_nil]
  | cons c r =>
    have := encN_ne c
    rw [encs_cons]
    simp only [ne_eq, reduceCtorEq, not_false_eq_true, iff_true, Bool.not_eq_true', beq_eq_false_iff_ne]
    intro hx
    exact this (List.append_eq_nil_iff.1 hx).1
theorem SC_word {ns : List Nat} (hs : SC ns) : SC (wordN ns) := by
  obtain ⟨r, h⟩ := wordN_prefix ns
  rw [h] at hs; exact hs.left
theorem mem_takeW {p : Nat → Bool} : ∀ {l : List Nat} {x : Nat}, x ∈ l.takeWhile p → p x = true := by
  intro l
  induction l with
  | nil => intro x h; cases h
  | cons a l ih =>
    intro x h
    rw [List.takeWhile_cons] at h
    split at h
    · rename_i ha
      rcases List.mem_cons.1 h with rfl | h
      · exact ha
      · exact ih h
    · cases h
theorem cond_dec {α : Type} (p : Prop) [Decidable p] (x y : α) : (bif decide p then x else y) = if p then x else y := by
  by_cases h : p
  · rw [decide_eq_true h, if_pos h]; rfl
  · rw [decide_eq_false h, if_neg h]; rfl
theorem word_ascii : ∀ (ns : List Nat), ∀ c ∈ wordN ns, c < 128 := by
  intro ns
  cases ns with
  | nil => intro c h; cases h
  | cons c r =>
    intro x hx
    rw [wordN_cons] at hx
    split at hx
    · rename_i hc
      rcases List.mem_cons.1 hx with rfl | hx
      · unfold lowN at hc; simp at hc; omega
      · have := mem_takeW hx
        unfold partN lowN at this
        simp at this; omega
    · cases hx
theorem encs_ascii : ∀ (ns : List Nat), (∀ c ∈ ns, c < 128) → encs ns = ns.map UInt8.ofNat := by
  intro ns
  induction ns with
  | nil => intro _; rfl
  | cons c r ih => intro h; rw [encs_cons, encN_low (h c (by simp)), ih (fun x hx => h x (by simp [hx]))]; rfl
theorem eqb_encs {a b : List Nat} (ha : SC a) (hb : SC b) : ((bsN a).toList == (bsN b).toList) = decide (a = b) := by
  rw [Go.Lib.toList_data, Go.Lib.toList_data, bsN_data, bsN_data]
  apply bool_eq
  rw [beq_iff_eq, decide_eq_true_eq]
  exact ⟨encs_inj ha hb, fun h => h ▸ rfl⟩
theorem SC_low {a : List Nat} (h : ∀ c ∈ a, c < 128) : SC a := fun c hc => .inl (by have := h c hc; omega)
theorem kind_encs {w : List Nat} (hs : SC w) : kindP (bsN w) = kindN w := by
  have e1 : bType = bsN [116, 121, 112, 101] := by rfl
  have e2 : bRel = bsN [114, 101, 108] := by rfl
  have e3 : bThis = bsN [116, 104, 105, 115] := by rfl
  unfold kindP kindN
  rw [e1, e2, e3, eqb_encs hs (SC_low (by decide)), eqb_encs hs (SC_low (by decide)), eqb_encs hs (SC_low (by decide))]
  rw [cond_dec, cond_dec, cond_dec]
theorem pre2_encs {ns : List Nat} (hs : SC ns) (a b : Nat) (ha : a < 128) (hb : b < 128) : preP (bsN ns) (bsN [a, b]) = true ↔ ∃ r, ns = a :: b :: r := by
  have h2 : SC [a, b] := SC_low (by intro c hc; simp at hc; omega)
  have hl : (encs [a, b]).length = 2 := by rw [encs_ascii [a, b] (by intro c hc; simp at hc; omega)]; rfl
  unfold preP
  rw [Bool.and_eq_true, decide_eq_true_eq, beq_iff_eq, Go.Lib.toList_data, Go.Lib.toList_data, ext_data0, bsN_size, bsN_size, bsN_data, bsN_data]
  constructor
  · rintro ⟨h1, h3⟩
    have : encs [a, b] ++ (encs ns).drop (encs [a, b]).length = encs ns := by
      conv => rhs; rw [← List.take_append_drop (encs [a, b]).length (encs ns), h3]
    obtain ⟨r, h4, _⟩ := encs_prefix _ _ _ h2 hs this
    exact ⟨r, h4⟩
  · rintro ⟨r, rfl⟩
    have e : a :: b :: r = [a, b] ++ r := rfl
    refine ⟨?_, ?_⟩
    · rw [e, encs_app]; simp
    · rw [e, take_encs]
theorem preTo_encs {ns : List Nat} (hs : SC ns) : preP (bsN ns) bTo = isTo ns := by
  have e : bTo = bsN [45, 62] := by rfl
  rw [e]
  apply bool_eq
  rw [pre2_encs hs 45 62 (by omega) (by omega)]
  constructor
  · rintro ⟨r, rfl⟩; rfl
  · exact isTo_eq
theorem preSl_encs {ns : List Nat} (hs : SC ns) : preP (bsN ns) bSl = isRem ns := by
  have e : bSl = bsN [47, 47] := by rfl
  rw [e]
  apply bool_eq
  rw [pre2_encs hs 47 47 (by omega) (by omega)]
  constructor
  · rintro ⟨r, rfl⟩; rfl
  · exact isRem_eq
theorem remark_encs {ns : List Nat} (hs : SC ns) : remarkP (bsN ns) = if isRem ns then bsN (ns.takeWhile ne10) else bNo := by
  unfold remarkP
  rw [preSl_encs hs]
  cases isRem ns with
  | false => rfl
  | true =>
    rw [cond_true, if_pos rfl]
    apply ba_ext
    rw [ext_data0, bsN_data, bsN_data, first_encs (bsN ns) _ (fun c => !ne10 c) ns (bsN_data ns) hs ?_]
    · have e : ns = ns.takeWhile ne10 ++ ns.dropWhile ne10 := by simp
      have e2 : (ns.takeWhile fun c => !!ne10 c) = ns.takeWhile ne10 := by simp
      rw [e2]
      conv => lhs; arg 2; rw [e]
      rw [take_encs]
    · intro i c
      apply bool_eq
      unfold ne10
      simp only [beq_iff_eq, bne, Bool.not_not]
      omega
/-! ### signs -/
theorem sign_low : ∀ c : Fin 128, Go.Lib.contains bSigns.data.toList [UInt8.ofNat c.val] = decide (c.val ∈ signsN) := by decide +kernel
theorem sign_encs {c : Nat} {r : List Nat} (hs : SC (c :: r)) : signP (bsN (c :: r)) = decide (c ∈ signsN) := by
  have hd := dec_at (bsN (c :: r)) [] c r (by rw [bsN_data]; rfl) hs.head
  rw [encs_nil] at hd
  simp only [List.length_nil] at hd
  apply bool_eq
  have hpos : 0 < (bsN (c :: r)).size := by rw [bsN_size, encs_cons]; have := (encN_len c).1; simp; omega
  by_cases hc : c < 128
  · unfold signP
    rw [decide_eq_true hpos, Bool.true_and, hasSub_eq, hd, encode_data c hs.head, encN_low hc]
    have := sign_low ⟨c, hc⟩
    rw [show (⟨c, hc⟩ : Fin 128).val = c from rfl] at this
    rw [this]
  · constructor
    · intro h
      have := (sign_small h).2
      rw [hd] at this
      simp only at this
      omega
    · intro h
      rw [decide_eq_true_eq] at h
      have : ∀ x ∈ signsN, x < 128 := by decide
      exact absurd (this c h) hc
theorem tokO_encs {c : Nat} {r : List Nat} (hs : SC (c :: r)) : tokO (bsN (c :: r)) = (tokN (c :: r)).isSome := by
  unfold tokO tokN
  by_cases hw : wordN (c :: r) ≠ []
  · rw [(isW_encs hs).2 hw, cond_true, if_pos hw, word_encs hs]
    have : (bsN (wordN (c :: r))).size = (wordN (c :: r)).length := by rw [bsN_size, encs_ascii _ (word_ascii _)]; simp
    rw [this]
    split
    · rename_i h; simp [h]
    · rename_i h; simp [h]
  · have : isW (bsN (c :: r)) = false := by rw [← Bool.not_eq_true, isW_encs hs]; exact hw
    rw [this, cond_false, if_neg hw, preTo_encs hs]
    cases isTo (c :: r) with
    | true => rfl
    | false =>
      rw [cond_false, sign_encs hs]
      simp only [Bool.false_eq_true, if_false]
      split
      · rename_i h; simp [h]
      · rename_i h; simp [h]
theorem tok_encs {c : Nat} {r : List Nat} (hs : SC (c :: r)) {k : Int} {t : List Nat} (h : tokN (c :: r) = some (k, t)) : tokK (bsN (c :: r)) = k ∧ tokT (bsN (c :: r)) = bsN t := by
  unfold tokN at h
  unfold tokK tokT
  by_cases hw : wordN (c :: r) ≠ []
  · rw [if_pos hw] at h
    split at h
    · cases h
      rw [(isW_encs hs).2 hw, cond_true, cond_true, word_encs hs]
      exact ⟨kind_encs (SC_word hs), rfl⟩
    · cases h
  · have hf : isW (bsN (c :: r)) = false := by rw [← Bool.not_eq_true, isW_encs hs]; exact hw
    rw [if_neg hw] at h
    rw [hf, cond_false, cond_false, preTo_encs hs]
    cases ht : isTo (c :: r) with
    | true => rw [ht] at h; cases h; exact ⟨rfl, rfl⟩
    | false =>
      rw [ht] at h
      simp only [Bool.false_eq_true, if_false] at h
      split at h
      · rename_i hc
        cases h
        have hd := dec_at (bsN (c :: r)) [] c r (by rw [bsN_data]; rfl) hs.head
        rw [encs_nil] at hd
        simp only [List.length_nil] at hd
        rw [cond_false, cond_false, sign_encs hs, decide_eq_true hc, cond_true, cond_true, hd]
        refine ⟨rfl, ba_ext ?_⟩
        rw [encode_data c hs.head, bsN_data, encs_cons, encs_nil]; simp
      · cases h
end Go.Proofs.YtniiimpcakmkbaaDoor

/- sigil's Lex is the relation: plain laws, no program. -/
set_option linter.unusedVariables false
namespace Go.Proofs.YtniiimpcakmkbaaDoor
open Go Vm Go.Lib
def gapN : Nat → List Nat → List Nat
  | 0, ns => ns
  | n + 1, ns => ns.takeWhile blankN ++ (if isRem (ns.dropWhile blankN) then (ns.dropWhile blankN).takeWhile ne10 ++ gapN n ((ns.dropWhile blankN).dropWhile ne10) else [])
theorem gapN_fuel : ∀ (n n' : Nat) (ns : List Nat), ns.length < n → ns.length < n' → gapN n ns = gapN n' ns := by
  intro n
  induction n with
  | zero => intro n' ns h; omega
  | succ n ih =>
    intro n' ns h h'
    cases n' with
    | zero => omega
    | succ n' =>
      unfold gapN
      split
      · rename_i hr
        have := (rem_take hr).2
        have := dropWhile_le blankN ns
        rw [ih n' _ (by omega) (by omega)]
      · rfl
def G (ns : List Nat) : List Nat := gapN (ns.length + 1) ns
theorem G_nil : G [] = [] := rfl
theorem G_blank {c : Nat} {r : List Nat} (h : blankN c = true) : G (c :: r) = c :: G r := by
  have e : G (c :: r) = c :: gapN (r.length + 1 + 1) r := by
    unfold G gapN
    simp [h]
  rw [e, gapN_fuel (r.length + 1 + 1) (r.length + 1) r (by omega) (by omega)]; rfl
theorem blank47 : blankN 47 = false := rfl
theorem G_rem {ns : List Nat} (h : isRem ns = true) : G ns = ns.takeWhile ne10 ++ G (ns.dropWhile ne10) := by
  have hl := (rem_take h).2
  obtain ⟨r, rfl⟩ := isRem_eq h
  have e : G (47 :: 47 :: r) = (47 :: 47 :: r).takeWhile ne10 ++ gapN (r.length + 2) ((47 :: 47 :: r).dropWhile ne10) := by
    unfold G
    conv => lhs; unfold gapN
    have e1 : (47 :: 47 :: r).takeWhile blankN = [] := rfl
    have e2 : (47 :: 47 :: r).dropWhile blankN = 47 :: 47 :: r := rfl
    rw [e1, e2, if_pos h]; rfl
  rw [e, gapN_fuel (r.length + 2) (((47 :: 47 :: r).dropWhile ne10).length + 1) _ (by simp at hl; omega) (by omega)]; rfl
theorem G_tok {c : Nat} {r : List Nat} (h : blankN c = false) (hr : isRem (c :: r) = false) : G (c :: r) = [] := by
  unfold G gapN
  have e1 : (c :: r).takeWhile blankN = [] := by simp [h]
  have e2 : (c :: r).dropWhile blankN = c :: r := by simp [h]
  rw [e1, e2, hr]; rfl
theorem G_prefix : ∀ (n : Nat) (ns : List Nat), ns.length < n → ∃ r, ns = G ns ++ r := by
  intro n
  induction n with
  | zero => intro ns h; omega
  | succ n ih =>
    intro ns h
    cases ns with
    | nil => exact ⟨[], rfl⟩
    | cons c r =>
      cases hb : blankN c with
      | true =>
        obtain ⟨x, hx⟩ := ih r (by simp at h; omega)
        refine ⟨x, ?_⟩
        rw [G_blank hb, List.cons_append, ← hx]
      | false =>
        cases hr : isRem (c :: r) with
        | true =>
          obtain ⟨x, hx⟩ := ih ((c :: r).dropWhile ne10) (by have := (rem_take hr).2; omega)
          refine ⟨x, ?_⟩
          rw [G_rem hr, List.append_assoc, ← hx]; simp
        | false => exact ⟨c :: r, by rw [G_tok hb hr]; rfl⟩
theorem takeDrop (p : Nat → Bool) (ns : List Nat) : ns = ns.takeWhile p ++ ns.dropWhile p := by simp
theorem ext_encs (a b : List Nat) : (bsN (a ++ b)).extract (encs a).length (bsN (a ++ b)).size = bsN b := by
  apply ba_ext; rw [ext_data, bsN_data, bsN_data, drop_encs]
theorem ext_encs0 (a b : List Nat) : (bsN (a ++ b)).extract 0 (encs a).length = bsN a := by
  apply ba_ext; rw [ext_data0, bsN_data, bsN_data, take_encs]
theorem skip_encs : ∀ (n : Nat) (ns : List Nat), SC ns → (bsN ns).size < n → skipP n (bsN ns) = (encs (G ns)).length := by
  intro n
  induction n with
  | zero => intro ns hs h; omega
  | succ n ih =>
    intro ns hs h
    have ha : first (bsN ns) (fun _ r => !blankP r) = (encs (ns.takeWhile blankN)).length := by
      rw [first_encs (bsN ns) _ (fun c => !blankN c) ns (bsN_data ns) hs (fun i c => by rw [blank_N])]
      simp
    have hsplit := takeDrop blankN ns
    unfold skipP
    simp only
    rw [ha]
    have hz : (bsN ns).size = (encs (ns.takeWhile blankN)).length + (encs (ns.dropWhile blankN)).length := by
      conv => lhs; rw [hsplit, bsN_size, encs_app, List.length_append]
    have hdr : (bsN ns).extract (encs (ns.takeWhile blankN)).length (bsN ns).size = bsN (ns.dropWhile blankN) := by
      conv => lhs; rw [hsplit]
      have := ext_encs (ns.takeWhile blankN) (ns.dropWhile blankN)
      rw [← hsplit] at this ⊢
      exact this
    have hsd : SC (ns.dropWhile blankN) := by rw [hsplit] at hs; exact hs.right
    have hG : G ns = ns.takeWhile blankN ++ (if isRem (ns.dropWhile blankN) then G (ns.dropWhile blankN) else []) := by
      unfold G
      conv => lhs; unfold gapN
      congr 1
      split
      · rename_i hr
        have := (rem_take hr).2
        have := dropWhile_le blankN ns
        have e := G_rem hr
        unfold G at e
        rw [e, gapN_fuel ns.length (((ns.dropWhile blankN).dropWhile ne10).length + 1) ((ns.dropWhile blankN).dropWhile ne10) (by omega) (by omega)]
      · rfl
    rw [hdr, remark_encs hsd]
    cases hr : isRem (ns.dropWhile blankN) with
    | false =>
      rw [hr] at hG
      simp only [Bool.false_eq_true, if_false, List.append_nil] at hG ⊢
      rw [hG]
      have e0 : (bNo.size == 0) = true := rfl
      rw [e0, cond_true]
      by_cases hd : (encs (ns.takeWhile blankN)).length < (bsN ns).size
      · rw [decide_eq_true hd, cond_true]
      · rw [decide_eq_false hd, cond_false]; omega
    | true =>
      rw [hr] at hG
      simp only [if_true] at hG ⊢
      have hr2 := rem_take hr
      have hl := encs_len ((ns.dropWhile blankN).takeWhile ne10)
      have hk : ((bsN ((ns.dropWhile blankN).takeWhile ne10)).size == 0) = false := by
        rw [bsN_size, beq_eq_false_iff_ne]; omega
      have hsp2 := takeDrop ne10 (ns.dropWhile blankN)
      have hz2 : (encs (ns.dropWhile blankN)).length = (encs ((ns.dropWhile blankN).takeWhile ne10)).length + (encs ((ns.dropWhile blankN).dropWhile ne10)).length := by
        conv => lhs; rw [hsp2, encs_app, List.length_append]
      have hd : (encs (ns.takeWhile blankN)).length < (bsN ns).size := by omega
      rw [decide_eq_true hd, cond_true, hk, cond_false, hG, G_rem hr]
      have e3 : (bsN ns).extract ((encs (ns.takeWhile blankN)).length + (bsN ((ns.dropWhile blankN).takeWhile ne10)).size) (bsN ns).size = bsN ((ns.dropWhile blankN).dropWhile ne10) := by
        have e4 : ns = (ns.takeWhile blankN ++ (ns.dropWhile blankN).takeWhile ne10) ++ (ns.dropWhile blankN).dropWhile ne10 := by
          rw [List.append_assoc, ← hsp2, ← hsplit]
        have := ext_encs (ns.takeWhile blankN ++ (ns.dropWhile blankN).takeWhile ne10) ((ns.dropWhile blankN).dropWhile ne10)
        rw [← e4, encs_app, List.length_append] at this
        rw [bsN_size ((ns.dropWhile blankN).takeWhile ne10)]
        exact this
      rw [e3, ih _ (by rw [hsp2] at hsd; exact hsd.right) (by rw [bsN_size]; omega)]
      rw [encs_app, encs_app, List.length_append, List.length_append, bsN_size]; omega
theorem rest_encs {ns r : List Nat} (hs : SC ns) (h : ns = G ns ++ r) : rest (bsN ns) = bsN r := by
  unfold rest
  rw [skip_encs _ ns hs (by omega)]
  have := ext_encs (G ns) r
  rw [← h] at this
  exact this
theorem gap_encs {ns : List Nat} (hs : SC ns) (p : Int × Int) : gapP p.1 p.2 (bsN ns) = advs p (G ns) := by
  obtain ⟨r, h⟩ := G_prefix _ ns (Nat.lt_succ_self _)
  unfold gapP
  rw [skip_encs _ ns hs (by omega)]
  have := ext_encs0 (G ns) r
  rw [← h] at this
  rw [this]
  exact behind_encs (ns := G ns) (by rw [h] at hs; exact hs.left) (bsN_data _) p.1 p.2
noncomputable def tokC (x : Tok) : List C := [.int .i64 x.1, .str (bsN x.2.1), .int .i64 x.2.2.1, .int .i64 x.2.2.2]
theorem bsN_nil : bsN [] = bNo := rfl
theorem lexAt_encs {p ns o q e} (h : Lx p ns o q e) : ∀ (n : Nat) (out : List (List C)), SC ns → (bsN ns).size < n →
    lexAt n out p.1 p.2 (bsN ns) = if e = 0 then (out ++ o.map tokC, q.1, q.2, 0) else ([], q.1, q.2, e) := by
  induction h with
  | nil p =>
    intro n out hs hn
    cases n with
    | zero => omega
    | succ n =>
      unfold lexAt
      rw [rest_encs (r := []) hs rfl, gap_encs hs p, G_nil]
      have : ((bsN []).toList == bNo.toList) = true := by rw [bsN_nil]; simp
      rw [this, cond_true]; simp [advs]
  | @blank p c r o q e hb h ih =>
    intro n out hs hn
    have hlt : (bsN r).size < (bsN (c :: r)).size := by rw [bsN_size, bsN_size, encs_cons, List.length_append]; have := (encN_len c).1; omega
    obtain ⟨x, hx⟩ := G_prefix _ r (Nat.lt_succ_self _)
    have hx2 : c :: r = G (c :: r) ++ x := by rw [G_blank hb, List.cons_append, ← hx]
    cases n with
    | zero => omega
    | succ n =>
      have := ih (n + 1) out hs.tail (by omega)
      rw [← this]
      unfold lexAt
      rw [rest_encs hs hx2, rest_encs hs.tail hx, gap_encs hs p, gap_encs hs.tail (advN p c), G_blank hb]
      rfl
  | @rem p ns o q e hr h ih =>
    intro n out hs hn
    have hsp := takeDrop ne10 ns
    have hsd : SC (ns.dropWhile ne10) := by rw [hsp] at hs; exact hs.right
    obtain ⟨x, hx⟩ := G_prefix _ (ns.dropWhile ne10) (Nat.lt_succ_self _)
    have hx2 : ns = G ns ++ x := by rw [G_rem hr, List.append_assoc, ← hx, ← hsp]
    have hlt : (bsN (ns.dropWhile ne10)).size ≤ (bsN ns).size := by
      rw [bsN_size, bsN_size]
      conv => rhs; rw [hsp, encs_app, List.length_append]
      omega
    cases n with
    | zero => omega
    | succ n =>
      have := ih (n + 1) out hsd (by omega)
      rw [← this]
      unfold lexAt
      rw [rest_encs hs hx2, rest_encs hsd hx, gap_encs hs p, gap_encs hsd _, G_rem hr, advs_app]
  | @tok p c r o q e k t r' hb hr ht hsp h ih =>
    intro n out hs hn
    have h0 := rest_encs (ns := c :: r) (r := c :: r) hs (by rw [G_tok hb hr]; rfl)
    obtain ⟨h1, h2⟩ := tok_encs hs ht
    have hs2 : SC (t ++ r') := hsp ▸ hs
    have hne : ((bsN (c :: r)).toList == bNo.toList) = false := by
      rw [← bsN_nil, eqb_encs hs SC.nil]; simp
    have htl : t ≠ [] := (tokN_split ht).1
    have h3 : 1 ≤ (encs t).length := by
      have := encs_len t
      have : 0 < t.length := List.length_pos_iff.2 htl
      omega
    have hz : (bsN (c :: r)).size = (encs t).length + (bsN r').size := by rw [bsN_size, bsN_size, hsp, encs_app, List.length_append]
    cases n with
    | zero => omega
    | succ n =>
      have hih := ih n (out ++ [tokC (k, t, p)]) hs2.right (by omega)
      unfold lexAt
      rw [h0, gap_encs hs p, G_tok hb hr, hne, cond_false, tokO_encs hs, ht]
      simp only [Option.isSome_some, Bool.not_true, cond_false]
      have e1 : advs p [] = p := rfl
      rw [e1, h2]
      have e2 : tokE p (bsN (c :: r)) = tokC (k, t, p) := by unfold tokE tokC; rw [h1, h2]
      have e3 : (bsN (c :: r)).extract (bsN t).size (bsN (c :: r)).size = bsN r' := by
        have := ext_encs t r'
        rw [← hsp] at this
        rw [bsN_size t]; exact this
      have e4 : behindP p.1 p.2 (bsN t) = advs p t := behind_encs hs2.left (bsN_data t) p.1 p.2
      rw [e2, e3, e4, hih]
      split
      · simp
      · rfl
  | @bad p c r hb hr ht =>
    intro n out hs hn
    have h0 := rest_encs (ns := c :: r) (r := c :: r) hs (by rw [G_tok hb hr]; rfl)
    have hne : ((bsN (c :: r)).toList == bNo.toList) = false := by
      rw [← bsN_nil, eqb_encs hs SC.nil]; simp
    cases n with
    | zero => omega
    | succ n =>
      unfold lexAt
      rw [h0, gap_encs hs p, G_tok hb hr, hne, cond_false, tokO_encs hs, ht]
      rfl
/-- what Lex answers for a text of runes -/
noncomputable def lexRes (o : List Tok) (q : Int × Int) (e : Int) : List (List C) × Int × Int × Int := if e = 0 then (o.map tokC, q.1, q.2, 0) else ([], q.1, q.2, e)
theorem lexP_encs {ns o q e} (hs : SC ns) (hl : ns.length ≤ 3000) (h : Lx (1, 1) ns o q e) : lexP (bsN ns) = lexRes o q e := by
  unfold lexP lexRes
  rw [runes_valid hs (bsN_data ns), count_encs hs (bsN_data ns) (by omega)]
  have : decide ((ns.length : Int) > 3000) = false := by simp only [decide_eq_false_iff_not]; omega
  rw [this]
  simp only [Bool.not_true, cond_false]
  have := lexAt_encs h ((bsN ns).size + 1) [] hs (by omega)
  simpa using this
theorem lexP_big {ns} (hs : SC ns) (hl : 3000 < ns.length) (hb : ns.length < 9223372036854775807) : lexP (bsN ns) = ([], 0, 0, 3) := by
  unfold lexP
  rw [runes_valid hs (bsN_data ns), count_encs hs (bsN_data ns) hb]
  have : decide ((ns.length : Int) > 3000) = true := by simp only [decide_eq_true_eq]; omega
  rw [this]; rfl
theorem lexP_bad {s : ByteArray} (h : validP s = false) : lexP s = ([], 0, 0, 4) := by unfold lexP; rw [h]; rfl
theorem valid_bsN {s : ByteArray} (h : validP s = true) : ∃ ns, SC ns ∧ s = bsN ns := by
  obtain ⟨ns, h1, h2⟩ := valid_runes h
  exact ⟨ns, h1, ba_ext (by rw [h2, bsN_data])⟩
/-- a text without error is a text of runes, and its tokens are the relation's -/
theorem lexP_ok {s : ByteArray} (hz : s.size < 1000000) (h : (lexP s).2.2.2 = 0) : ∃ ns o q, SC ns ∧ s = bsN ns ∧ ns.length ≤ 3000 ∧ Lx (1, 1) ns o q 0 ∧ lexP s = (o.map tokC, q.1, q.2, 0) := by
  cases hv : validP s with
  | false => rw [lexP_bad hv] at h; cases h
  | true =>
    obtain ⟨ns, hs, rfl⟩ := valid_bsN hv
    by_cases hl : ns.length ≤ 3000
    · obtain ⟨o, q, e, hx⟩ := Lx.total _ ns (1, 1) (Nat.lt_succ_self _)
      rw [lexP_encs hs hl hx] at h
      unfold lexRes at h
      split at h
      · rename_i he
        subst he
        exact ⟨ns, o, q, hs, rfl, hl, hx, by rw [lexP_encs hs hl hx]; rfl⟩
      · rename_i he; exact absurd h he
    · have := encs_len ns
      rw [bsN_size] at hz
      rw [lexP_big hs (by omega) (by omega)] at h; cases h
end Go.Proofs.YtniiimpcakmkbaaDoor
