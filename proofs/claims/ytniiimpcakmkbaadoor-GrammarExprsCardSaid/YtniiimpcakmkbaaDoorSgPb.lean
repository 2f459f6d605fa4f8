/- sigil's lexer over lists of runes: plain laws, no program. -/
import Derived.Test.YtniiimpcakmkbaaDoorSgPa
import Derived.Test.YtniiimpcakmkbaaDoorSgJ
set_option linter.unusedVariables false
namespace Go.Proofs.YtniiimpcakmkbaaDoor
open Go Vm Go.Lib
def SC (ns : List Nat) : Prop := ∀ c ∈ ns, Sc c
theorem SC.head {c : Nat} {r : List Nat} (h : SC (c :: r)) : Sc c := h c (by simp)
theorem SC.tail {c : Nat} {r : List Nat} (h : SC (c :: r)) : SC r := fun x hx => h x (by simp [hx])
theorem SC.left {a b : List Nat} (h : SC (a ++ b)) : SC a := fun x hx => h x (by simp [hx])
theorem SC.right {a b : List Nat} (h : SC (a ++ b)) : SC b := fun x hx => h x (by simp [hx])
theorem SC.app {a b : List Nat} (h : SC a) (g : SC b) : SC (a ++ b) := fun x hx => (List.mem_append.1 hx).elim (h x) (g x)
theorem SC.nil : SC [] := fun _ h => by cases h
theorem SC.sub {a b : List Nat} (h : SC b) (g : ∀ x ∈ a, x ∈ b) : SC a := fun x hx => h x (g x hx)
/-- the text of runes -/
def bsN (ns : List Nat) : ByteArray := ⟨(encs ns).toArray⟩
theorem bsN_data (ns : List Nat) : (bsN ns).data.toList = encs ns := by simp [bsN]
theorem ba_ext {a b : ByteArray} (h : a.data.toList = b.data.toList) : a = b := by
  apply ByteArray.ext; exact Array.toList_inj.1 h
theorem bsN_size (ns : List Nat) : (bsN ns).size = (encs ns).length := by
  show (bsN ns).data.size = _
  simp [bsN]
theorem encN_ne (c : Nat) : encN c ≠ [] := fun h => by have := (encN_len c).1; rw [h] at this; simp at this
theorem encs_len (ns : List Nat) : ns.length ≤ (encs ns).length := by
  induction ns with
  | nil => simp
  | cons c r ih => rw [encs_cons]; have := (encN_len c).1; simp only [List.length_append, List.length_cons]; omega
theorem encN_cancel {c d : Nat} (hc : Sc c) (hd : Sc d) {p q : List UInt8} (h : encN c ++ p = encN d ++ q) : c = d ∧ p = q := by
  have e1 := dec_enc c hc p
  have e2 := dec_enc d hd q
  rw [h, e2] at e1
  have hcd : d = c := congrArg Prod.fst e1
  subst hcd
  exact ⟨rfl, List.append_cancel_left h⟩
/-- what begins as runes' bytes begins with the runes -/
theorem encs_prefix : ∀ (a b : List Nat) (l : List UInt8), SC a → SC b → encs a ++ l = encs b → ∃ r, b = a ++ r ∧ l = encs r := by
  intro a
  induction a with
  | nil => intro b l _ _ h; exact ⟨b, rfl, by simpa [encs_nil] using h⟩
  | cons c a ih =>
    intro b l ha hb h
    cases b with
    | nil =>
      rw [encs_cons, encs_nil] at h
      exact absurd (List.append_eq_nil_iff.1 (List.append_eq_nil_iff.1 h).1).1 (encN_ne c)
    | cons d b =>
      rw [encs_cons, encs_cons, List.append_assoc] at h
      obtain ⟨rfl, h2⟩ := encN_cancel ha.head hb.head h
      obtain ⟨r, rfl, h4⟩ := ih b l ha.tail hb.tail h2
      exact ⟨r, rfl, h4⟩
theorem encs_inj {a b : List Nat} (ha : SC a) (hb : SC b) (h : encs a = encs b) : a = b := by
  obtain ⟨r, h1, h2⟩ := encs_prefix a b [] ha hb (by simpa using h)
  cases r with
  | nil => simpa using h1.symm
  | cons d r => rw [encs_cons] at h2; have := (encN_len d).1; have := congrArg List.length h2; simp at this; omega
theorem dec_at (s : ByteArray) (pre : List Nat) (c : Nat) (r : List Nat) (h : s.data.toList = encs (pre ++ c :: r)) (hc : Sc c) : Utf8.decode s (encs pre).length = (c, (encN c).length) := by
  rw [← decodeL_drop, h, encs_app, List.drop_left, encs_cons]
  exact dec_enc c hc _
theorem size_data (s : ByteArray) : s.size = s.data.toList.length := rfl
theorem firstAt_encs (s : ByteArray) (p : Nat → Int → Bool) (q : Nat → Bool) : ∀ (ns pre : List Nat) (n : Nat), s.data.toList = encs (pre ++ ns) → SC ns → (∀ (i c : Nat), (encs pre).length ≤ i → p i (c : Int) = q c) → ns.length < n →
    firstAt s p n (encs pre).length = (encs (pre ++ ns.takeWhile fun c => !q c)).length := by
  intro ns
  induction ns with
  | nil =>
    intro pre n h hs hp hn
    have hz : s.size = (encs pre).length := by rw [size_data, h]; simp
    cases n with
    | zero => omega
    | succ n =>
      unfold firstAt
      rw [decide_eq_false (by omega), cond_false]
      simp [hz]
  | cons c r ih =>
    intro pre n h hs hp hn
    have hz : s.size = (encs pre).length + (encN c).length + (encs r).length := by rw [size_data, h, encs_app, encs_cons]; simp; omega
    have h1 := (encN_len c).1
    cases n with
    | zero => omega
    | succ n =>
      unfold firstAt
      rw [decide_eq_true (by omega), cond_true, dec_at s pre c r h hs.head, hp _ c (Nat.le_refl _)]
      simp only
      cases hq : q c with
      | true => rw [cond_true, List.takeWhile_cons]; simp [hq]
      | false =>
        rw [cond_false, List.takeWhile_cons]
        simp only [hq, Bool.not_false, if_true]
        have e : (encs pre).length + (encN c).length = (encs (pre ++ [c])).length := by rw [encs_app, encs_cons, encs_nil]; simp
        rw [e, ih (pre ++ [c]) n (by rw [h]; simp) hs.tail (fun i x hi => hp i x (by omega)) (by simp at hn; omega)]
        simp
theorem first_encs (s : ByteArray) (p : Nat → Int → Bool) (q : Nat → Bool) (ns : List Nat) (h : s.data.toList = encs ns) (hs : SC ns) (hp : ∀ i c : Nat, p i (c : Int) = q c) :
    first s p = (encs (ns.takeWhile fun c => !q c)).length := by
  have := firstAt_encs s p q ns [] (s.size + 1) (by simpa using h) hs (fun i c _ => hp i c) (by have := encs_len ns; rw [size_data, h]; omega)
  simpa [first, encs_nil] using this
/-! ### valid texts -/
theorem ext_data (s : ByteArray) (i : Nat) : (s.extract i s.size).data.toList = s.data.toList.drop i := by
  have e : (s.extract i s.size).data = s.data.extract i s.size := by simp
  rw [e, Array.toList_extract, List.extract_eq_take_drop, size_data]
  exact List.take_of_length_le (by simp)
theorem ext_data0 (s : ByteArray) (i : Nat) : (s.extract 0 i).data.toList = s.data.toList.take i := by
  have e : (s.extract 0 i).data = s.data.extract 0 i := by simp
  rw [e, Array.toList_extract, List.extract_eq_take_drop]
  simp
theorem broken_dec (s : ByteArray) (i : Nat) (hi : i < s.size) : brokenP s (i : Int) ((Utf8.decode s i).1 : Int) = true ↔ Utf8.decode s i = (65533, 1) := by
  unfold brokenP Go.Lib.decodeGo
  rw [Int.toNat_natCast]
  have hz : ¬ (s.extract i s.size).size = 0 := by rw [size_data, ext_data, List.length_drop, ← size_data]; omega
  have e : Utf8.decode (s.extract i s.size) 0 = Utf8.decode s i := by
    rw [← decodeL_drop, ← decodeL_drop, ext_data, List.drop_zero]
  first | rw [if_neg hz] | skip
  rw [e]
  generalize Utf8.decode s i = d
  obtain ⟨a, b⟩ := d
  simp only [Bool.and_eq_true, beq_iff_eq, Prod.mk.injEq]
  omega
theorem valid_dec : ∀ (n : Nat) (s : ByteArray) (i : Nat), s.size - i < n → i ≤ s.size → firstAt s (fun i r => brokenP s i r) n i = s.size → ∃ ns, SC ns ∧ s.data.toList.drop i = encs ns := by
  intro n
  induction n with
  | zero => intro s i h; omega
  | succ n ih =>
    intro s i h hi hf
    by_cases hlt : i < s.size
    · unfold firstAt at hf
      rw [decide_eq_true hlt, cond_true] at hf
      have hb : ¬ (Utf8.decode s i = (65533, 1)) := by
        intro hd
        rw [(broken_dec s i hlt).2 hd, cond_true] at hf
        omega
      have hbf : brokenP s (i : Int) ((Utf8.decode s i).1 : Int) = false := by
        rw [← Bool.not_eq_true]; exact fun hx => hb ((broken_dec s i hlt).1 hx)
      rw [hbf, cond_false] at hf
      have hne : s.data.toList.drop i ≠ [] := by
        intro h0
        have := congrArg List.length h0
        rw [List.length_drop, ← size_data] at this
        simp at this; omega
      obtain ⟨h1, h2, h3⟩ := enc_dec (s.data.toList.drop i) hne (by rw [decodeL_drop]; exact hb)
      rw [decodeL_drop] at h1 h2 h3
      have hl := (encN_len (Utf8.decode s i).1).1
      have hsz : i + (Utf8.decode s i).2 ≤ s.size := by
        have := congrArg List.length h3
        rw [List.length_append, List.length_drop, List.length_drop, List.length_drop, ← size_data] at this
        omega
      obtain ⟨ns, g1, g2⟩ := ih s _ (by omega) hsz hf
      refine ⟨(Utf8.decode s i).1 :: ns, ?_, ?_⟩
      · intro x hx
        rcases List.mem_cons.1 hx with rfl | hx
        · exact h1
        · exact g1 x hx
      · rw [encs_cons, ← g2, h3, List.drop_drop]
    · exact ⟨[], SC.nil, by rw [List.drop_of_length_le (by rw [← size_data]; omega)]; rfl⟩
theorem valid_runes {s : ByteArray} (h : validP s = true) : ∃ ns, SC ns ∧ s.data.toList = encs ns := by
  unfold validP first at h
  simpa using valid_dec (s.size + 1) s 0 (by omega) (by omega) (by simpa using h)
theorem encN_65533 : (encN 65533).length = 3 := by decide
theorem not_broken (s : ByteArray) (pre : List Nat) (c : Nat) (r : List Nat) (h : s.data.toList = encs (pre ++ c :: r)) (hc : Sc c) : brokenP s ((encs pre).length : Nat) (c : Int) = false := by
  have hlt : (encs pre).length < s.size := by rw [size_data, h, encs_app, encs_cons]; have := (encN_len c).1; simp; omega
  have hd := dec_at s pre c r h hc
  rw [← Bool.not_eq_true]
  intro hb
  have e : (c : Int) = ((Utf8.decode s (encs pre).length).1 : Int) := by rw [hd]
  rw [e] at hb
  have := (broken_dec s _ hlt).1 hb
  rw [hd] at this
  have h1 : c = 65533 := congrArg Prod.fst this
  have h2 : (encN c).length = 1 := congrArg Prod.snd this
  subst h1
  rw [encN_65533] at h2; omega
theorem runes_valid {s : ByteArray} {ns : List Nat} (hs : SC ns) (h : s.data.toList = encs ns) : validP s = true := by
  have key : ∀ (ns pre : List Nat) (n : Nat), s.data.toList = encs (pre ++ ns) → SC ns → ns.length < n → firstAt s (fun i r => brokenP s i r) n (encs pre).length = s.size := by
    intro ns
    induction ns with
    | nil =>
      intro pre n h hs hn
      have hz : s.size = (encs pre).length := by rw [size_data, h]; simp
      cases n with
      | zero => omega
      | succ n => unfold firstAt; rw [decide_eq_false (by omega), cond_false]
    | cons c r ih =>
      intro pre n h hs hn
      have hlt : (encs pre).length < s.size := by rw [size_data, h, encs_app, encs_cons]; have := (encN_len c).1; simp; omega
      cases n with
      | zero => omega
      | succ n =>
        unfold firstAt
        rw [decide_eq_true hlt, cond_true, dec_at s pre c r h hs.head]
        simp only
        rw [not_broken s pre c r h hs.head, cond_false]
        have e : (encs pre).length + (encN c).length = (encs (pre ++ [c])).length := by rw [encs_app, encs_cons, encs_nil]; simp
        rw [e]
        exact ih (pre ++ [c]) n (by rw [h]; simp) hs.tail (by simp at hn; omega)
  have := key ns [] (s.size + 1) (by simpa using h) hs (by have := encs_len ns; rw [size_data, h]; omega)
  unfold validP first
  simpa [encs_nil] using this
theorem count_encs {s : ByteArray} {ns : List Nat} (hs : SC ns) (h : s.data.toList = encs ns) (hl : ns.length < 9223372036854775807) : countP s = ns.length := by
  have key : ∀ (ns pre : List Nat) (n : Nat), s.data.toList = encs (pre ++ ns) → SC ns → ns.length < n → (pre ++ ns).length < 9223372036854775807 → cntAt s n (encs pre).length (pre.length : Int) = (pre ++ ns).length := by
    intro ns
    induction ns with
    | nil =>
      intro pre n h hs hn _
      have hz : s.size = (encs pre).length := by rw [size_data, h]; simp
      cases n with
      | zero => omega
      | succ n => unfold cntAt; rw [decide_eq_false (by omega), cond_false]; simp
    | cons c r ih =>
      intro pre n h hs hn hb
      have hlt : (encs pre).length < s.size := by rw [size_data, h, encs_app, encs_cons]; have := (encN_len c).1; simp; omega
      cases n with
      | zero => omega
      | succ n =>
        unfold cntAt
        rw [decide_eq_true hlt, cond_true, dec_at s pre c r h hs.head]
        simp only
        have e : (encs pre).length + (encN c).length = (encs (pre ++ [c])).length := by rw [encs_app, encs_cons, encs_nil]; simp
        have e2 : IntKind.i64.wrap ((pre.length : Int) + 1) = ((pre ++ [c]).length : Int) := by
          simp only [List.length_append, List.length_cons, List.length_nil] at hb ⊢
          rw [Vm.w64 _ (by omega) (by omega)]; push_cast; omega
        rw [e, e2, ih (pre ++ [c]) n (by rw [h]; simp) hs.tail (by simp at hn; omega) (by simpa using hb)]
        simp
  have := key ns [] (s.size + 1) (by simpa using h) hs (by have := encs_len ns; rw [size_data, h]; omega) (by simpa using hl)
  unfold countP
  simpa [encs_nil] using this
/-! ### places -/
def advN (p : Int × Int) (c : Nat) : Int × Int := (nextL p.1 (c : Int), nextC p.2 (c : Int))
def advs (p : Int × Int) (ns : List Nat) : Int × Int := ns.foldl advN p
theorem advs_app (p : Int × Int) (a b : List Nat) : advs p (a ++ b) = advs (advs p a) b := by simp [advs]
theorem behind_encs {s : ByteArray} {ns : List Nat} (hs : SC ns) (h : s.data.toList = encs ns) (l c : Int) : behindP l c s = advs (l, c) ns := by
  have key : ∀ (ns pre : List Nat) (n : Nat) (l c : Int), s.data.toList = encs (pre ++ ns) → SC ns → ns.length < n → plAt s n (encs pre).length l c = advs (l, c) ns := by
    intro ns
    induction ns with
    | nil =>
      intro pre n l c h hs hn
      have hz : s.size = (encs pre).length := by rw [size_data, h]; simp
      cases n with
      | zero => omega
      | succ n => unfold plAt; rw [decide_eq_false (by omega), cond_false]; rfl
    | cons d r ih =>
      intro pre n l c h hs hn
      have hlt : (encs pre).length < s.size := by rw [size_data, h, encs_app, encs_cons]; have := (encN_len d).1; simp; omega
      cases n with
      | zero => omega
      | succ n =>
        unfold plAt
        rw [decide_eq_true hlt, cond_true, dec_at s pre d r h hs.head]
        simp only
        have e : (encs pre).length + (encN d).length = (encs (pre ++ [d])).length := by rw [encs_app, encs_cons, encs_nil]; simp
        rw [e, ih (pre ++ [d]) n _ _ (by rw [h]; simp) hs.tail (by simp at hn; omega)]
        rfl
  have := key ns [] (s.size + 1) l c (by simpa using h) hs (by have := encs_len ns; rw [size_data, h]; omega)
  unfold behindP
  simpa [encs_nil] using this
end Go.Proofs.YtniiimpcakmkbaaDoor
