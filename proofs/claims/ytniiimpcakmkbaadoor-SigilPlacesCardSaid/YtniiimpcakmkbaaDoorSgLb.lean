/- sigil: blanks between two texts change no token -/
import Derived.Test.YtniiimpcakmkbaaDoorSgLa
set_option linter.unusedVariables false
namespace Go.Proofs.YtniiimpcakmkbaaDoor
open Go Vm Go.Lib
/-! ### plain -/
abbrev kt (o : List Tok) : List (Int × List Nat) := o.map fun x => (x.1, x.2.1)
theorem lx_shift {p ns o q e} (h : Lx p ns o q e) : ∀ p', ∃ o' q', Lx p' ns o' q' e ∧ kt o' = kt o := by
  induction h with
  | nil p => intro p'; exact ⟨[], p', .nil p', rfl⟩
  | blank hb _ ih => intro p'; obtain ⟨o', q', h1, h2⟩ := ih (advN p' _); exact ⟨o', q', .blank hb h1, h2⟩
  | rem hr _ ih => intro p'; obtain ⟨o', q', h1, h2⟩ := ih (advs p' _); exact ⟨o', q', .rem hr h1, h2⟩
  | @tok p c r o q e k t r' hb hr ht hs h ih =>
    intro p'; obtain ⟨o', q', h1, h2⟩ := ih (advs p' t)
    exact ⟨(k, t, p') :: o', q', .tok hb hr ht hs h1, by simp only [kt] at h2 ⊢; simp [h2]⟩
  | bad hb hr ht => intro p'; exact ⟨[], p', .bad hb hr ht, rfl⟩
theorem wordN_next {w r : List Nat} {d : Nat} (hw : wordN (w ++ d :: r) = w) (hn : w ≠ []) (q : List Nat) : wordN (w ++ d :: q) = w := by
  cases w with
  | nil => exact absurd rfl hn
  | cons c w =>
    rw [List.cons_append, wordN_cons] at hw ⊢
    split at hw
    · rename_i hc
      rw [if_pos hc]
      have h1 : (w ++ d :: r).takeWhile partN = w := by simpa using hw
      have h2 : ∀ x ∈ w, partN x = true := fun x hx => by rw [← h1] at hx; exact mem_takeW hx
      rw [List.takeWhile_append_of_pos h2] at h1 ⊢
      have h3 : (d :: r).takeWhile partN = [] := by
        have := congrArg List.length h1
        rw [List.length_append] at this
        exact List.length_eq_zero_iff.1 (by omega)
      have h4 : partN d = false := by
        rw [← Bool.not_eq_true]; intro hd
        rw [List.takeWhile_cons, hd] at h3; simp at h3
      rw [List.takeWhile_cons, h4]; simp
    · cases hw
theorem isTo_next {a b : Nat} {r q : List Nat} : isTo (a :: b :: r) = isTo (a :: b :: q) := by
  apply bool_eq
  constructor
  · intro h; obtain ⟨x, hx⟩ := isTo_eq h; cases hx; rfl
  · intro h; obtain ⟨x, hx⟩ := isTo_eq h; cases hx; rfl
theorem tokN_next {t r : List Nat} {d : Nat} {k : Int} (h : tokN (t ++ d :: r) = some (k, t)) (q : List Nat) : tokN (t ++ d :: q) = some (k, t) := by
  obtain ⟨htn, _⟩ := tokN_split h
  unfold tokN at h ⊢
  by_cases hw : wordN (t ++ d :: r) ≠ []
  · rw [if_pos hw] at h
    split at h
    · rename_i hl
      have h9 := Prod.mk.inj (Option.some.inj h)
      have ht : wordN (t ++ d :: r) = t := h9.2
      have hk : k = kindN (wordN (t ++ d :: r)) := h9.1.symm
      have h1 := wordN_next ht htn q
      rw [h1, if_pos htn, hk, ht, if_pos (by rw [ht] at hl; exact hl)]
    · cases h
  · rw [if_neg hw] at h
    have hw' : wordN (t ++ d :: r) = [] := by simpa using hw
    cases t with
    | nil => exact absurd rfl htn
    | cons c t =>
      have hw2 : wordN (c :: t ++ d :: q) = [] := wordN_none (r := t ++ d :: r) hw'
      rw [hw2, if_neg (by simp)]
      split at h
      · cases h; rfl
      · rename_i h2
        simp only [List.cons_append] at h h2 ⊢
        split at h
        · rename_i hc
          cases h
          rw [if_neg (by rw [List.nil_append, isTo_next (q := r)]; simpa using h2), if_pos hc]
        · cases h
theorem tok_no10 {ns : List Nat} {k : Int} {t : List Nat} (h : tokN ns = some (k, t)) : ∀ x ∈ t, x ≠ 10 := by
  unfold tokN at h
  by_cases hw : wordN ns ≠ []
  · rw [if_pos hw] at h
    split at h
    · cases h
      intro x hx
      cases ns with
      | nil => cases hx
      | cons c r =>
        rw [wordN_cons] at hx
        split at hx
        · rename_i hc
          rcases List.mem_cons.1 hx with rfl | hx
          · unfold lowN at hc; simp at hc; omega
          · have := mem_takeW hx
            unfold partN lowN at this
            simp at this; omega
        · cases hx
    · cases h
  · rw [if_neg hw] at h
    split at h
    · cases h; decide
    · cases ns with
      | nil => cases h
      | cons c r =>
        simp only at h
        split at h
        · rename_i hc
          cases h
          have : ∀ x ∈ signsN, x ≠ 10 := by decide
          intro x hx
          simp only [List.mem_cons, List.mem_nil_iff, or_false] at hx
          subst hx; exact this _ hc
        · cases h
def ends10 (a : List Nat) : Prop := a = [] ∨ ∃ x, a = x ++ [10]
theorem ends10_cons {c : Nat} {r : List Nat} (h : ends10 (c :: r)) : ends10 r := by
  rcases h with h | ⟨x, h⟩
  · cases h
  · cases x with
    | nil => cases h; exact .inl rfl
    | cons y x => cases h; exact .inr ⟨x, rfl⟩
theorem ends10_right {a b : List Nat} (h : ends10 (a ++ b)) : ends10 b := by
  induction a with
  | nil => exact h
  | cons c a ih => exact ih (ends10_cons h)
theorem isRem_app {a : List Nat} (b : List Nat) (h : isRem a = true) : isRem (a ++ b) = true := by obtain ⟨r, rfl⟩ := isRem_eq h; rfl
theorem drop10 {x : List Nat} : (x ++ [10]).dropWhile ne10 ≠ [] := by
  induction x with
  | nil => simp [ne10]
  | cons c x ih =>
    rw [List.cons_append, List.dropWhile_cons]
    split
    · exact ih
    · simp
theorem takeDrop_app (p : Nat → Bool) : ∀ (a b : List Nat), a.dropWhile p ≠ [] → (a ++ b).takeWhile p = a.takeWhile p ∧ (a ++ b).dropWhile p = a.dropWhile p ++ b := by
  intro a
  induction a with
  | nil => intro b h; exact absurd rfl h
  | cons c a ih =>
    intro b h
    rw [List.dropWhile_cons] at h
    rw [List.cons_append, List.takeWhile_cons, List.dropWhile_cons, List.takeWhile_cons, List.dropWhile_cons]
    cases hp : p c with
    | true => rw [hp] at h; obtain ⟨h1, h2⟩ := ih b h; simp [h1, h2]
    | false => simp
theorem lx_join {p a o q e} (h : Lx p a o q e) : e = 0 → ends10 a → ∀ {b o2 q2 e2}, Lx q b o2 q2 e2 → Lx p (a ++ b) (o ++ o2) q2 e2 := by
  induction h with
  | nil p => intro _ _ b o2 q2 e2 h; exact h
  | blank hb _ ih => intro he ha b o2 q2 e2 h; exact .blank hb (ih he (ends10_cons ha) h)
  | @rem p ns o q e hr _ ih =>
    intro he ha b o2 q2 e2 h
    have hd : ns.dropWhile ne10 ≠ [] := by
      rcases ha with rfl | ⟨x, rfl⟩
      · cases hr
      · exact drop10
    obtain ⟨h1, h2⟩ := takeDrop_app ne10 ns b hd
    refine .rem (isRem_app b hr) ?_
    rw [h1, h2]
    refine ih he ?_ h
    have := takeDrop ne10 ns
    rw [this] at ha; exact ends10_right ha
  | @tok p c r o q e k t r' hb hr ht hs _ ih =>
    intro he ha b o2 q2 e2 h
    rw [hs] at ha
    obtain ⟨t', rfl, h47, _⟩ := tok_head ht
    cases r' with
    | nil =>
      exfalso
      rcases ha with ha | ⟨x, ha⟩
      · cases ha
      · have : (10 : Nat) ∈ c :: t' := by
          have : (10 : Nat) ∈ c :: t' ++ [] := by rw [ha]; simp
          simpa using this
        exact tok_no10 ht 10 this rfl
    | cons d r'' =>
      have h5 : tokN (c :: (r ++ b)) = some (k, c :: t') := by
        rw [hs] at ht
        have := tokN_next ht (r'' ++ b)
        have e5 : c :: (r ++ b) = c :: t' ++ d :: (r'' ++ b) := by
          have := congrArg (fun z => z ++ b) hs
          simpa using this
        rw [e5]; exact this
      refine .tok hb (notRem h47) h5 ?_ (ih he (ends10_right ha) h)
      have := congrArg (fun z => z ++ b) hs
      simpa using this
  | bad => intro he; cases he
theorem encN_big {c : Nat} (hc : Sc c) (h : ¬ c < 128) : ∃ l x, encN c = l ++ [UInt8.ofNat (128 + x)] ∧ x < 64 := by
  unfold encN
  rw [if_neg h]
  split
  · exact ⟨[_], c % 64, rfl, by omega⟩
  split
  · exact ⟨[_, _], c % 64, rfl, by omega⟩
  · exact ⟨[_, _, _], c % 64, rfl, by omega⟩
theorem encs_last {ns : List Nat} (hs : SC ns) {l : List UInt8} (h : encs ns = l ++ [10]) : ∃ x, ns = x ++ [10] := by
  rcases List.eq_nil_or_concat ns with rfl | ⟨x, c, rfl⟩
  · rw [encs_nil] at h
    have := congrArg List.length h; simp at this
  · have hc : Sc c := hs c (by simp)
    have e : encs (x ++ [c]) = encs x ++ encN c := by rw [encs_app, encs_cons, encs_nil, List.append_nil]
    rw [List.concat_eq_append] at h ⊢
    rw [e] at h
    by_cases h1 : c < 128
    · rw [encN_low h1] at h
      have := congrArg List.getLast? h
      simp only [List.getLast?_append, List.getLast?_singleton, Option.some_or] at this
      have h2 : (UInt8.ofNat c) = 10 := Option.some.inj this
      have h3 := congrArg UInt8.toNat h2
      rw [u8 c (by omega)] at h3
      exact ⟨x, by rw [h3]; rfl⟩
    · obtain ⟨l', y, h2, h3⟩ := encN_big hc h1
      rw [h2, ← List.append_assoc] at h
      have := congrArg List.getLast? h
      simp only [List.getLast?_append, List.getLast?_singleton, Option.some_or] at this
      have h4 : (UInt8.ofNat (128 + y)) = 10 := Option.some.inj this
      have h5 := congrArg UInt8.toNat h4
      rw [u8 _ (by omega)] at h5
      have : (10 : UInt8).toNat = 10 := rfl
      omega
/-- the four texts -/
def gaps : List (List Nat) := [[10], [32, 12288], [47, 47, 120, 10], [9, 13]]
theorem gap_lx : ∀ g ∈ gaps, ∀ (p : Int × Int) (b : List Nat), ∃ p', ∀ o q e, Lx p' b o q e → Lx p (g ++ b) o q e := by
  intro g hg p b
  simp only [gaps, List.mem_cons, List.mem_nil_iff, or_false] at hg
  rcases hg with rfl | rfl | rfl | rfl
  · exact ⟨_, fun o q e h => .blank rfl h⟩
  · exact ⟨_, fun o q e h => .blank rfl (.blank rfl h)⟩
  · exact ⟨_, fun o q e h => .rem rfl (.blank rfl h)⟩
  · exact ⟨_, fun o q e h => .blank rfl (.blank rfl h)⟩
theorem gap_SC : ∀ g ∈ gaps, SC g ∧ g.length ≤ 4 := by
  intro g hg
  simp only [gaps, List.mem_cons, List.mem_nil_iff, or_false] at hg
  rcases hg with rfl | rfl | rfl | rfl <;> exact ⟨fun c hc => by simp at hc; unfold Sc; omega, by simp⟩
/-! ### the run -/
theorem g0' (x : Tok) : (tokC x)[0]? = some (.int .i64 x.1) := rfl
theorem g1' (x : Tok) : (List.drop 1 (tokC x))[0]? = some (.str (bsN x.2.1)) := rfl
theorem lBlanks_loop {R : Type} (m : Int) (k : V → Bx → Option R) (F : Nat) (o o' : List Tok) (he : kt o' = kt o) (hb : o.length < 1000000) : ∀ (n i : Nat), i ≤ o.length → o.length - i < n →
    lBlanks_L0 m (lBlanks_K0 m k F) F n (o'.map tokC) (o.length : Int) (o.map tokC) (i : Int) = k (vb true) [] := by
  intro n
  induction n with
  | zero => intro i h h1; omega
  | succ n ih =>
    intro i h h1
    rw [lBlanks_r0]
    by_cases hi : i < o.length
    · have hlo : o'.length = o.length := by have := congrArg List.length he; simpa using this
      have hi' : i < o'.length := by omega
      have d1 : decide ((i : Int) < (o.length : Int)) = true := by simp; omega
      have d2 : decide ((0 : Int) ≤ (i : Int)) = true := by simp
      have hg : (o.map tokC)[i]? = some (tokC o[i]) := by simp [hi]
      have hg' : (o'.map tokC)[i]? = some (tokC o'[i]) := by simp [hi']
      have hx : (o'[i].1, o'[i].2.1) = (o[i].1, o[i].2.1) := by
        have h3 := congrArg (fun l => l[i]?) he
        simpa [kt, hi, hi'] using h3
      have ek : o'[i].1 = o[i].1 := (Prod.mk.inj hx).1
      have et : o'[i].2.1 = o[i].2.1 := (Prod.mk.inj hx).2
      have s0 : ∀ x : Tok, shOk [Sh.int IntKind.i64] [C.int .i64 x.1] = true := fun _ => rfl
      have s1 : ∀ x : Tok, shOk [Sh.str] [C.str (bsN x.2.1)] = true := fun _ => rfl
      have e1 : List.take 4 (tokC o[i]) = tokC o[i] := rfl
      have e3 : ((tokC o[i]).length == 4) = true := rfl
      have e4 : shOk [Sh.int IntKind.i64, Sh.str, Sh.int IntKind.i64, Sh.int IntKind.i64] (tokC o[i]) = true := rfl
      rw [d1, cond_true, d2, cond_true, getT_at rfl hg, getT_at rfl hg, e1, e3, cond_true, e4, cond_true, cond_true, getT_at rfl hg', getT_some (g0' _), s0, cond_true]
      have e5 : ((([C.int .i64 o'[i].1].getD 0 C.nf).toInt) != (((tokC o[i]).getD 0 C.nf).toInt)) = false := by
        show (o'[i].1 != o[i].1) = false
        rw [ek]; simp
      rw [e5, cond_false, cond_true, getT_at rfl hg', getT_some (g1' _), s1, cond_true]
      have e2 : (([C.str (bsN o'[i].2.1)].getD 0 C.nf).toStr.toList == ((tokC o[i]).getD 1 C.nf).toStr.toList) = true := by
        show ((bsN o'[i].2.1).toList == (bsN o[i].2.1).toList) = true
        rw [et]; simp
      rw [e2, Bool.not_true, cond_false, w64 _ (by omega) (by omega)]
      exact ih (i + 1) (by omega) (by omega)
    · have : i = o.length := by omega
      subst this
      have d1 : decide ((o.length : Int) < (o.length : Int)) = false := by simp
      rw [d1, cond_false, lBlanks_c2]
theorem nl_bsN : ByteArray.mk #[10] = bsN [10] := rfl
theorem lBlanks_run (m : Int) (s t : ByteArray) (gap : Int) (h0 : 0 ≤ gap) (F : Nat) (hF : 5000 ≤ F) : runFn (lBlanks_cf m) F Tryd.f4 (bd Tryd.f4) [vs s, vs t, vc (C.int IntKind.u8 gap)] [] fin2 = some (vb true, []) := by
  rw [lBlanks_start]
  cases hs : decide ((s.size : Int) > 1000) with
  | true => rfl
  | false =>
  cases ht : decide ((t.size : Int) > 1000) with
  | true => rfl
  | false =>
    simp only [decide_eq_false_iff_not] at hs ht
    obtain ⟨g, hg⟩ : ∃ n : Nat, gap = n := ⟨gap.toNat, by omega⟩
    subst hg
    have hm : Int.tmod (g : Int) 4 = ((g % 4 : Nat) : Int) := by
      rw [show (4 : Int) = ((4 : Nat) : Int) from rfl, ← Int.ofNat_tmod]
    have d0 : decide ((0 : Int) ≤ Int.tmod (g : Int) 4 ∧ Int.tmod (g : Int) 4 < 4) = true := by rw [hm]; simp only [decide_eq_true_eq]; omega
    rw [cond_false, cond_false, d0, cond_true, hm, Int.toNat_natCast, Nat.mul_one]
    have key : ∃ ga ∈ gaps, (List.drop (g % 4) [C.str (ByteArray.mk #[(10 : UInt8)]), C.str (ByteArray.mk #[(32 : UInt8), (227 : UInt8), (128 : UInt8), (128 : UInt8)]), C.str (ByteArray.mk #[(47 : UInt8), (47 : UInt8), (120 : UInt8), (10 : UInt8)]), C.str (ByteArray.mk #[(9 : UInt8), (13 : UInt8)])])[0]? = some (C.str (bsN ga)) := by
      have : g % 4 = 0 ∨ g % 4 = 1 ∨ g % 4 = 2 ∨ g % 4 = 3 := by omega
      rcases this with h | h | h | h <;> rw [h]
      · exact ⟨[10], by simp [gaps], rfl⟩
      · exact ⟨[32, 12288], by simp [gaps], rfl⟩
      · exact ⟨[47, 47, 120, 10], by simp [gaps], rfl⟩
      · exact ⟨[9, 13], by simp [gaps], rfl⟩
    obtain ⟨ga, hga, hz⟩ := key
    obtain ⟨gs1, gs2⟩ := gap_SC ga hga
    rw [getT_some hz]
    have e1 : shOk [Sh.str] [C.str (bsN ga)] = true := rfl
    have e2 : ([C.str (bsN ga)].getD 0 C.nf).toStr = bsN ga := rfl
    rw [e1, cond_true, e2, nl_bsN]
    have z1 : (bsN [10]).size = 1 := rfl
    have zg : (bsN ga).size ≤ 16 := by
      rw [bsN_size]
      have : ∀ l : List Nat, (encs l).length ≤ 4 * l.length := by
        intro l; induction l with
        | nil => simp [encs_nil]
        | cons c r ih => rw [encs_cons]; have := (encN_len c).2; simp only [List.length_append, List.length_cons]; omega
      have := this ga; omega
    have a1 : (s ++ bsN [10]).size = s.size + 1 := by rw [ByteArray.size_append, z1]
    have a2 : (s ++ bsN [10] ++ bsN ga).size = s.size + 1 + (bsN ga).size := by rw [ByteArray.size_append, a1]
    have a3 : (s ++ bsN [10] ++ bsN ga ++ t).size = s.size + 1 + (bsN ga).size + t.size := by rw [ByteArray.size_append, a2]
    have d1 : decide (((s.size + (bsN [10]).size : Nat) : Int) > 9223372036854775807) = false := by simp only [decide_eq_false_iff_not]; omega
    have d2 : decide ((s ++ bsN [10]).size < 1000000) = true := by simp only [decide_eq_true_eq]; omega
    have d3 : decide (t.size < 1000000) = true := by simp only [decide_eq_true_eq]; omega
    have d4 : decide ((((s ++ bsN [10]).size + (bsN ga).size : Nat) : Int) > 9223372036854775807) = false := by simp only [decide_eq_false_iff_not]; omega
    have d5 : decide ((((s ++ bsN [10] ++ bsN ga).size + t.size : Nat) : Int) > 9223372036854775807) = false := by simp only [decide_eq_false_iff_not]; omega
    have d6 : decide ((s ++ bsN [10] ++ bsN ga ++ t).size < 1000000) = true := by simp only [decide_eq_true_eq]; omega
    rw [d1, cond_false, d2, cond_true, d3, cond_true, cond_false, d4, cond_false, d5, cond_false, d6, cond_true]
    cases hea : (lexP (s ++ bsN [10])).2.2.2 != 0 with
    | true => rfl
    | false =>
    cases heb : (lexP t).2.2.2 != 0 with
    | true => rfl
    | false =>
      rw [cond_false, cond_false]
      obtain ⟨na, oa, qa, sa, ea, la, xa, ra⟩ := lexP_ok (by omega) (show (lexP (s ++ bsN [10])).2.2.2 = 0 by simpa using hea)
      obtain ⟨nb, ob, qb, sb, eb, lb, xb, rb⟩ := lexP_ok (by omega) (show (lexP t).2.2.2 = 0 by simpa using heb)
      have hla : na.length ≤ 1001 := by have h1 := encs_len na; have h2 := bsN_size na; rw [← ea] at h2; omega
      have hlb : nb.length ≤ 1000 := by have h1 := encs_len nb; have h2 := bsN_size nb; rw [← eb] at h2; omega
      have hend : ends10 na := by
        have h1 : encs na = s.data.toList ++ [10] := by
          rw [← bsN_data, ← ea, ByteArray.data_append]; simp [bsN, encs, encN]
        exact .inr (encs_last sa h1)
      obtain ⟨p', hp'⟩ := gap_lx ga hga qa nb
      obtain ⟨ob', qb', xb', hkb⟩ := lx_shift xb p'
      have hx := lx_join xa rfl hend (hp' _ _ _ xb')
      have hsc : SC (na ++ (ga ++ nb)) := sa.app (gs1.app sb)
      have hr := lexP_encs hsc (by simp only [List.length_append]; omega) hx
      have hc : s ++ bsN [10] ++ bsN ga ++ t = bsN (na ++ (ga ++ nb)) := by
        rw [ea, eb, bsN_app, bsN_app, List.append_assoc]
      have hr2 : lexP (s ++ bsN [10] ++ bsN ga ++ t) = ((oa ++ ob').map tokC, qb'.1, qb'.2, 0) := by rw [hc]; exact hr
      have hke : kt (oa ++ ob') = kt (oa ++ ob) := by simp only [kt, List.map_append] at hkb ⊢; rw [hkb]
      have hlo : ob'.length = ob.length := by have := congrArg List.length hkb; simpa using this
      have toa := txt_len xa
      have tob := txt_len xb
      rw [hr2, ra, rb]
      simp only [List.length_map]
      have f1 : ((0 : Int) != 0) = false := rfl
      have w1 : IntKind.i64.wrap ((oa.length : Int) + (ob.length : Int)) = (oa.length : Int) + (ob.length : Int) := w64 _ (by omega) (by omega)
      have f2 : ((((oa ++ ob').length : Nat) : Int) != IntKind.i64.wrap ((oa.length : Int) + (ob.length : Int))) = false := by
        rw [w1]; simp [hlo]
      have f3 : decide ((0 + oa.length) * 40 ≤ 140737488355328 ∧ 0 + oa.length ≤ 9223372036854775807) = true := by simp only [decide_eq_true_eq]; omega
      have f4 : decide ((oa.length + ob.length) * 40 ≤ 140737488355328 ∧ oa.length + ob.length ≤ 9223372036854775807) = true := by simp only [decide_eq_true_eq]; omega
      rw [f1, cond_false, f2, cond_false, f3, cond_true, f4, cond_true, ← List.map_append]
      have := lBlanks_loop m fin2 F (oa ++ ob) (oa ++ ob') hke (by simp only [List.length_append]; omega) F 0 (by omega) (by simp only [List.length_append]; omega)
      simp only [List.length_map]
      exact this
theorem blanks_res (m : Int) (xs : List V) (h : argVs Tryd.prog [9, 9, 5] xs) : ∃ b, FnRes Tryd.prog (globT m) 4 xs [] (vb true) b := by
  obtain ⟨x, y, z, rfl, h1, h2, h3⟩ := argVs3 h
  obtain ⟨s, rfl, _⟩ := str_arg h1
  obtain ⟨t, rfl, _⟩ := str_arg h2
  obtain ⟨g, rfl, hg, _⟩ := u8_arg h3
  exact ⟨[], specAtG mix vti_ok Tryd.func4 rfl (by kernel_rfl) (tabD_ok m) 5000 (lBlanks_run m s t g hg 5000 (Nat.le_refl _))⟩
end Go.Proofs.YtniiimpcakmkbaaDoor
