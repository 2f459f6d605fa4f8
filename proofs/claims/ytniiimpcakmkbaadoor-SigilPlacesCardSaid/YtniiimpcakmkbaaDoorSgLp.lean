/- sigil: the tokens' texts stand in the text in order, at their places -/
import Derived.Test.YtniiimpcakmkbaaDoorSgLb
import Derived.Test.YtniiimpcakmkbaaDoorSgTp
set_option linter.unusedVariables false
namespace Go.Proofs.YtniiimpcakmkbaaDoor
open Go Vm Go.Lib
/-! ### plain: gaps -/
def gapOk (g : List Nat) : Prop := ∀ p, ∃ q, Lx p g [] q 0
theorem gapOk_nil : gapOk [] := fun p => ⟨p, .nil p⟩
theorem gap_app {p g o q e} (h : Lx p g o q e) : o = [] → e = 0 → ∀ {x}, gapOk x → gapOk (x.dropWhile ne10) → ∃ q', Lx p (g ++ x) [] q' 0 := by
  induction h with
  | nil p => intro _ _ x hx _; exact hx p
  | blank hb _ ih => intro ho he x hx hd; obtain ⟨q', h1⟩ := ih ho he hx hd; exact ⟨q', .blank hb h1⟩
  | @rem p ns o q e hr _ ih =>
    intro ho he x hx hd
    by_cases h0 : ns.dropWhile ne10 = []
    · have hn : ns = ns.takeWhile ne10 := by
        have := takeDrop ne10 ns
        rw [h0, List.append_nil] at this; exact this
      have hall : ∀ y ∈ ns, ne10 y = true := fun y hy => by rw [hn] at hy; exact mem_takeW hy
      obtain ⟨q', h1⟩ := hd (advs p ((ns ++ x).takeWhile ne10))
      refine ⟨q', .rem (isRem_app x hr) ?_⟩
      rw [List.dropWhile_append_of_pos hall]; exact h1
    · obtain ⟨h1, h2⟩ := takeDrop_app ne10 ns x h0
      obtain ⟨q', h3⟩ := ih ho he hx hd
      refine ⟨q', .rem (isRem_app x hr) ?_⟩
      rw [h1, h2]; exact h3
  | tok => intro ho; cases ho
  | bad => intro _ he; cases he
theorem gapOk_app {g x : List Nat} (hg : gapOk g) (hx : gapOk x) (hd : gapOk (x.dropWhile ne10)) : gapOk (g ++ x) := by
  intro p
  obtain ⟨q, h⟩ := hg p
  exact gap_app h rfl rfl hx hd
theorem gapOk_one {c : Nat} (h : blankN c = true) : gapOk [c] ∧ gapOk ([c].dropWhile ne10) := by
  have h1 : gapOk [c] := fun p => ⟨_, .blank h (.nil _)⟩
  refine ⟨h1, ?_⟩
  rw [List.dropWhile_cons]
  split
  · exact gapOk_nil
  · exact h1
theorem drop_take (ns : List Nat) : (ns.takeWhile ne10).dropWhile ne10 = [] ∧ (ns.takeWhile ne10).takeWhile ne10 = ns.takeWhile ne10 := by
  have hall : ∀ y ∈ ns.takeWhile ne10, ne10 y = true := fun y hy => mem_takeW hy
  have := takeDrop ne10 (ns.takeWhile ne10)
  have h1 : (ns.takeWhile ne10).dropWhile ne10 = [] := by
    have := List.dropWhile_append_of_pos (l₂ := []) hall
    rw [List.append_nil] at this; rw [this]; rfl
  refine ⟨h1, ?_⟩
  rw [h1, List.append_nil] at this; exact this.symm
theorem gapOk_rem {ns : List Nat} (h : isRem ns = true) : gapOk (ns.takeWhile ne10) ∧ gapOk ((ns.takeWhile ne10).dropWhile ne10) := by
  obtain ⟨h1, h2⟩ := drop_take ns
  rw [h1]
  refine ⟨fun p => ⟨advs p (ns.takeWhile ne10), .rem ?_ ?_⟩, gapOk_nil⟩
  · obtain ⟨r, rfl⟩ := isRem_eq h; rfl
  · rw [h1, h2]; exact .nil _
/-! ### plain: places rise -/
def pLt (p q : Int × Int) : Prop := p.1 < q.1 ∨ (p.1 = q.1 ∧ p.2 < q.2)
def pIn (p : Int × Int) (k : Nat) : Prop := 1 ≤ p.1 ∧ p.1 ≤ k + 1 ∧ 1 ≤ p.2 ∧ p.2 ≤ k + 1
theorem adv_step {p : Int × Int} {k : Nat} (h : pIn p k) (hk : k < 1000000000) (c : Nat) : pIn (advN p c) (k + 1) ∧ pLt p (advN p c) := by
  obtain ⟨l, d⟩ := p
  unfold pIn at h
  simp only at h
  unfold advN pIn pLt nextL nextC
  simp only
  cases hc : ((c : Int) == 10) with
  | true => simp only [cond_true]; rw [w64 (l + 1) (by omega) (by omega)]; omega
  | false => simp only [cond_false]; rw [w64 (d + 1) (by omega) (by omega)]; exact ⟨⟨by omega, by omega, by omega, by omega⟩, .inr ⟨trivial, by omega⟩⟩
theorem pLt_trans {a b c : Int × Int} (h : pLt a b) (g : pLt b c) : pLt a c := by unfold pLt at *; omega
theorem advs_in : ∀ (ns : List Nat) (p : Int × Int) (k : Nat), pIn p k → k + ns.length < 1000000000 → pIn (advs p ns) (k + ns.length) ∧ (ns ≠ [] → pLt p (advs p ns)) := by
  intro ns
  induction ns with
  | nil => intro p k h _; exact ⟨by simpa [advs] using h, fun h => absurd rfl h⟩
  | cons c r ih =>
    intro p k h hk
    simp only [List.length_cons] at hk
    obtain ⟨h1, h2⟩ := adv_step h (by omega) c
    obtain ⟨h3, h4⟩ := ih (advN p c) (k + 1) h1 (by omega)
    have e : advs p (c :: r) = advs (advN p c) r := rfl
    rw [e]
    refine ⟨by rw [List.length_cons, show k + (r.length + 1) = k + 1 + r.length by omega]; exact h3, fun _ => ?_⟩
    by_cases hr : r = []
    · subst hr; exact h2
    · exact pLt_trans h2 (h4 hr)
theorem place_ne {x y : List Nat} (hy : y ≠ []) (hl : (x ++ y).length < 1000000000) : advs (1, 1) x ≠ advs (1, 1) (x ++ y) := by
  rw [List.length_append] at hl
  obtain ⟨h1, _⟩ := advs_in x (1, 1) 0 (by unfold pIn; simp) (by omega)
  obtain ⟨_, h2⟩ := advs_in y (advs (1, 1) x) _ h1 (by omega)
  have h3 := h2 hy
  rw [advs_app]
  intro h
  rw [← h] at h3
  unfold pLt at h3; omega
/-! ### plain: bytes below 128 begin runes -/
theorem encN_hi {c : Nat} (hc : Sc c) (h : ¬ c < 128) : ∀ b ∈ encN c, 128 ≤ b.toNat := by
  unfold Sc at hc
  unfold encN
  rw [if_neg h]
  split
  · intro b hb
    simp only [List.mem_cons, List.mem_nil_iff, or_false] at hb
    rcases hb with rfl | rfl <;> rw [u8 _ (by omega)] <;> omega
  split
  · intro b hb
    simp only [List.mem_cons, List.mem_nil_iff, or_false] at hb
    rcases hb with rfl | rfl | rfl <;> rw [u8 _ (by omega)] <;> omega
  · intro b hb
    simp only [List.mem_cons, List.mem_nil_iff, or_false] at hb
    rcases hb with rfl | rfl | rfl | rfl <;> rw [u8 _ (by omega)] <;> omega
theorem boundary : ∀ (ns : List Nat) (i : Nat) (b : UInt8), SC ns → (encs ns)[i]? = some b → b.toNat < 128 → ∃ x y, ns = x ++ y ∧ i = (encs x).length := by
  intro ns
  induction ns with
  | nil => intro i b _ h; simp [encs_nil] at h
  | cons c r ih =>
    intro i b hs h hb
    rw [encs_cons] at h
    by_cases hi : i < (encN c).length
    · rw [List.getElem?_append_left hi] at h
      by_cases hc : c < 128
      · rw [encN_low hc] at hi
        simp at hi
        subst hi
        exact ⟨[], c :: r, rfl, rfl⟩
      · have := encN_hi hs.head hc b (List.mem_of_getElem? h)
        omega
    · rw [List.getElem?_append_right (by omega)] at h
      obtain ⟨x, y, h1, h2⟩ := ih _ b hs.tail h hb
      exact ⟨c :: x, y, by rw [h1]; rfl, by rw [encs_cons, List.length_append]; omega⟩
theorem tok_ascii {ns : List Nat} {k : Int} {t : List Nat} (h : tokN ns = some (k, t)) : ∀ x ∈ t, x < 128 := by
  unfold tokN at h
  by_cases hw : wordN ns ≠ []
  · rw [if_pos hw] at h
    split at h
    · cases h; exact word_ascii ns
    · cases h
  · rw [if_neg hw] at h
    split at h
    · cases h; decide
    · cases ns with
      | nil => cases h
      | cons c r =>
        simp only at h
        split at h
        · rename_i hc
          cases h
          have : ∀ x ∈ signsN, x < 128 := by decide
          intro x hx
          simp only [List.mem_cons, List.mem_nil_iff, or_false] at hx
          subst hx; exact this _ hc
        · cases h
/-- of two beginnings, the shorter begins the longer -/
theorem prefix_of {x y a b : List Nat} (h : x ++ y = a ++ b) (hl : (encs x).length < (encs a).length) : ∃ z, a = x ++ z ∧ z ≠ [] := by
  rcases List.append_eq_append_iff.1 h with ⟨z, h1, h2⟩ | ⟨z, h1, h2⟩
  · refine ⟨z, h1, fun hz => ?_⟩
    subst hz
    rw [h1, List.append_nil] at hl; omega
  · rw [h1, encs_app, List.length_append] at hl; omega
theorem ext_any (s : ByteArray) (i j : Nat) : (s.extract i j).data.toList = (s.data.toList.drop i).take (j - i) := by
  have e : (s.extract i j).data = s.data.extract i j := by simp
  rw [e, Array.toList_extract, List.extract_eq_take_drop]
theorem not_both {a t r : List Nat} (hs : SC (a ++ (t ++ r))) (ht : t ≠ []) (hta : ∀ x ∈ t, x < 128) (hl : (a ++ (t ++ r)).length < 1000000000) (i : Nat) (hi : i < (encs a).length)
    (hb : ((bsN (a ++ (t ++ r))).extract i (i + (bsN t).size)).toList = (bsN t).toList) : behindP 1 1 ((bsN (a ++ (t ++ r))).extract 0 i) ≠ advs (1, 1) a := by
  rw [Go.Lib.toList_data, Go.Lib.toList_data, ext_any, bsN_data, bsN_data] at hb
  cases t with
  | nil => exact absurd rfl ht
  | cons c t =>
    have hc := hta c (by simp)
    have h0 : (encs (a ++ (c :: t ++ r)))[i]? = some (UInt8.ofNat c) := by
      have := congrArg (fun z => z[0]?) hb
      rw [List.getElem?_take_of_lt (by rw [bsN_size, encs_cons, encN_low hc]; simp), List.getElem?_drop, encs_cons, encN_low hc] at this
      simpa using this
    obtain ⟨x, y, h1, h2⟩ := boundary _ i _ hs h0 (by rw [u8 c (by omega)]; exact hc)
    subst h2
    obtain ⟨z, h3, h4⟩ := prefix_of h1.symm hi
    have h5 : (bsN (a ++ (c :: t ++ r))).extract 0 (encs x).length = bsN x := by rw [h1]; exact ext_encs0 x y
    rw [h5, behind_encs (ns := x) (by rw [h1] at hs; exact hs.left) (bsN_data x) 1 1, h3]
    refine place_ne h4 ?_
    rw [← h3]
    rw [List.length_append] at hl; omega
theorem ext_mid (a b c : List Nat) : (bsN (a ++ (b ++ c))).extract (encs a).length ((encs a).length + (encs b).length) = bsN b := by
  apply ba_ext
  rw [ext_any, bsN_data, bsN_data, drop_encs, Nat.add_sub_cancel_left, take_encs]
/-! ### the run -/
theorem lPlaces_search {R : Type} (m : Int) (K : X → St → Option R) (F : Nat) (a t r : List Nat) (hs : SC (a ++ (t ++ r))) (ht : t ≠ []) (hta : ∀ x ∈ t, x < 128) (hl : (bsN (a ++ (t ++ r))).size < 1000000) (v3 v4 v5 v9 v10 : Int) :
    ∀ (n i : Nat), i ≤ (encs a).length → (encs a).length + 1 - i < n →
    lPlaces_L1 m K F n (bsN (a ++ (t ++ r))) v3 v4 v5 (bsN t) (advs (1, 1) a).1 (advs (1, 1) a).2 v9 v10 (-1) (i : Int) = K (.ex 2) (lPlaces_E1 (bsN (a ++ (t ++ r))) v3 v4 v5 (bsN t) (advs (1, 1) a).1 (advs (1, 1) a).2 v9 v10 ((encs a).length : Int)) := by
  have hz : (bsN (a ++ (t ++ r))).size = (encs a).length + ((bsN t).size + (encs r).length) := by rw [bsN_size, encs_app, encs_app, bsN_size]; simp
  have hlen : (a ++ (t ++ r)).length < 1000000000 := by have := encs_len (a ++ (t ++ r)); rw [bsN_size] at hl; omega
  intro n
  induction n with
  | zero => intro i h1 h2; omega
  | succ n ih =>
    intro i h1 h2
    rw [lPlaces_r1]
    have w1 : IntKind.i64.wrap ((i : Int) + ((bsN t).size : Int)) = ((i + (bsN t).size : Nat) : Int) := by rw [w64 _ (by omega) (by omega)]; push_cast; rfl
    have d1 : decide (((i + (bsN t).size : Nat) : Int) ≤ ((bsN (a ++ (t ++ r))).size : Int)) = true := by simp only [decide_eq_true_eq]; omega
    have d2 : decide ((-1 : Int) < 0) = true := by simp
    have d3 : decide ((0 : Int) ≤ (i : Int) ∧ (i : Int) ≤ ((i + (bsN t).size : Nat) : Int) ∧ ((i + (bsN t).size : Nat) : Int) ≤ ((bsN (a ++ (t ++ r))).size : Int)) = true := by simp only [decide_eq_true_eq]; omega
    have d4 : decide ((0 : Int) ≤ (0 : Int) ∧ (0 : Int) ≤ (i : Int) ∧ (i : Int) ≤ ((bsN (a ++ (t ++ r))).size : Int)) = true := by simp only [decide_eq_true_eq]; omega
    rw [w1, d1, cond_true, d2, cond_true, d3, cond_true, d4, cond_true]
    simp only [Int.toNat_natCast]
    have w2 : IntKind.i64.wrap ((i : Int) + 1) = ((i + 1 : Nat) : Int) := by rw [w64 _ (by omega) (by omega)]; push_cast; rfl
    rw [w2]
    by_cases hi : i < (encs a).length
    · have hstep := ih (i + 1) (by omega) (by omega)
      cases hb : ((bsN (a ++ (t ++ r))).extract i (i + (bsN t).size)).toList == (bsN t).toList with
      | false => rw [cond_false]; exact hstep
      | true =>
        have hne := not_both hs ht hta hlen i hi (by simpa using hb)
        have hf : ((behindP 1 1 ((bsN (a ++ (t ++ r))).extract 0 i)).1 == (advs (1, 1) a).1 && ((behindP 1 1 ((bsN (a ++ (t ++ r))).extract 0 i)).2 == (advs (1, 1) a).2 && true)) = false := by
          rw [← Bool.not_eq_true]
          intro h
          simp only [Bool.and_true, Bool.and_eq_true, beq_iff_eq] at h
          exact hne (Prod.ext h.1 h.2)
        rw [cond_true, hf, cond_false]; exact hstep
    · have hi0 : i = (encs a).length := by omega
      subst hi0
      have hm : (bsN (a ++ (t ++ r))).extract (encs a).length ((encs a).length + (bsN t).size) = bsN t := by rw [bsN_size t]; exact ext_mid a t r
      have e0 := ext_encs0 a (t ++ r)
      rw [hm, e0, behind_encs (ns := a) hs.left (bsN_data a) 1 1]
      simp only [beq_self_eq_true, Bool.and_self, cond_true]
      cases n with
      | zero => omega
      | succ n =>
        rw [lPlaces_r1]
        have d5 : decide ((((encs a).length : Nat) : Int) < 0) = false := by simp
        cases hq : decide (IntKind.i64.wrap ((((encs a).length + 1 : Nat) : Int) + ((bsN t).size : Int)) ≤ ((bsN (a ++ (t ++ r))).size : Int)) with
        | true => rw [cond_true, d5, cond_false]
        | false => rw [cond_false]
theorem lexP_gap {g : List Nat} (hg : gapOk g) (hs : SC g) (hl : g.length ≤ 3000) : ∃ q : Int × Int, lexP (bsN g) = ([], q.1, q.2, 0) := by
  obtain ⟨q, h⟩ := hg (1, 1)
  exact ⟨q, lexP_encs hs hl h⟩
theorem lPlaces_loop (m : Int) (F : Nat) (hF : 5000 ≤ F) (all : List Nat) (O : List Tok) (Q : Int × Int) (hsc : SC all) (hsz : (bsN all).size ≤ 4000) (hln : all.length ≤ 3000) (hr : lexP (bsN all) = (O.map tokC, Q.1, Q.2, 0)) (hO : O.length < 5000)
    {p ns o q e} (h : Lx p ns o q e) : e = 0 → q = Q → ∀ (pre g : List Nat) (dn : List Tok) (n : Nat), all = pre ++ (g ++ ns) → gapOk g → p = advs (1, 1) (pre ++ g) → O = dn ++ o → o.length < n →
    lPlaces_L0 m (lPlaces_K0 m fin2 F) F n (bsN all) Q.1 Q.2 ((encs pre).length : Int) (dn.length : Int) = some (vb true, []) := by
  have hl1 : (lexP (bsN all)).1 = O.map tokC := by rw [hr]
  induction h with
  | nil p =>
    intro _ hq pre g dn n hall hg hp hOd hn
    cases n with
    | zero => omega
    | succ n =>
      have hOd' : O = dn := by simpa using hOd
      subst hOd'
      have d1 : decide ((O.length : Int) < ((O.map tokC).length : Int)) = false := by simp
      rw [lPlaces_r0, hl1, d1, cond_false, lPlaces_c3]
      rw [List.append_nil] at hall
      have hz : (bsN all).size = (encs pre).length + (encs g).length := by rw [bsN_size, hall, encs_app, List.length_append]
      have d2 : decide ((0 : Int) ≤ ((encs pre).length : Int) ∧ ((encs pre).length : Int) ≤ ((bsN all).size : Int) ∧ ((bsN all).size : Int) ≤ ((bsN all).size : Int)) = true := by simp only [decide_eq_true_eq]; omega
      have e1 : (bsN all).extract (encs pre).length (bsN all).size = bsN g := by rw [hall]; exact ext_encs pre g
      rw [d2, cond_true]
      simp only [Int.toNat_natCast]
      simp only [e1]
      have hsg : SC g := by rw [hall] at hsc; exact hsc.right
      obtain ⟨q2, hg2⟩ := lexP_gap hg hsg (by rw [hall, List.length_append] at hln; omega)
      have d3 : decide ((bsN g).size < 1000000) = true := by simp only [decide_eq_true_eq]; rw [bsN_size]; omega
      rw [d3, cond_true, hg2, behind_encs hsc (bsN_data all) 1 1, ← hq, hp, hall]
      simp
  | @blank p c r o q e hb _ ih =>
    intro he hq pre g dn n hall hg hp hOd hn
    have h1 := gapOk_one hb
    refine ih he hq pre (g ++ [c]) dn n (by rw [hall]; simp) (gapOk_app hg h1.1 h1.2) ?_ hOd hn
    rw [← List.append_assoc, advs_app, ← hp]; rfl
  | @rem p ns o q e hrm _ ih =>
    intro he hq pre g dn n hall hg hp hOd hn
    have h1 := gapOk_rem hrm
    refine ih he hq pre (g ++ ns.takeWhile ne10) dn n ?_ (gapOk_app hg h1.1 h1.2) ?_ hOd hn
    · rw [hall, List.append_assoc, ← takeDrop]
    · rw [← List.append_assoc, advs_app, ← hp]
  | @tok p c r o q e k t r' hb hrm ht hsp _ ih =>
    intro he hq pre g dn n hall hg hp hOd hn
    cases n with
    | zero => omega
    | succ n =>
      have htn := (tokN_split ht).1
      have hta := tok_ascii ht
      rw [hsp] at hall
      have hOl : O.length = dn.length + o.length + 1 := by rw [hOd]; simp; omega
      have d1 : decide ((dn.length : Int) < ((O.map tokC).length : Int)) = true := by simp; omega
      have d2 : decide ((0 : Int) ≤ (dn.length : Int)) = true := by simp
      have hgt : (O.map tokC)[dn.length]? = some (tokC (k, t, p)) := by rw [hOd]; simp
      rw [lPlaces_r0, hl1, d1, cond_true, d2, cond_true, getT_at rfl hgt]
      have e1 : List.take 4 (tokC (k, t, p)) = tokC (k, t, p) := rfl
      have e3 : ((tokC (k, t, p)).length == 4) = true := rfl
      have e4 : shOk [Sh.int IntKind.i64, Sh.str, Sh.int IntKind.i64, Sh.int IntKind.i64] (tokC (k, t, p)) = true := rfl
      rw [e1, e3, cond_true, e4, cond_true]
      have f0 : ((tokC (k, t, p)).getD 0 C.nf).toInt = k := rfl
      have f1 : ((tokC (k, t, p)).getD 1 C.nf).toStr = bsN t := rfl
      have f2 : ((tokC (k, t, p)).getD 2 C.nf).toInt = p.1 := rfl
      have f3 : ((tokC (k, t, p)).getD 3 C.nf).toInt = p.2 := rfl
      rw [f0, f1, f2, f3, hp]
      have hall2 : all = (pre ++ g) ++ (t ++ r') := by rw [hall]; simp
      have hsc2 : SC ((pre ++ g) ++ (t ++ r')) := hall2 ▸ hsc
      have hz : (bsN all).size = (encs pre).length + (encs g).length + (encs t).length + (encs r').length := by rw [bsN_size, hall, encs_app, encs_app, encs_app]; simp; omega
      have hag : (encs (pre ++ g)).length = (encs pre).length + (encs g).length := by rw [encs_app, List.length_append]
      have hse := lPlaces_search m (lPlaces_K1 m (lPlaces_K0 m fin2 F) F n) F (pre ++ g) t r' hsc2 htn hta (by rw [← hall2]; omega) ((encs pre).length : Int) (dn.length : Int) k Q.1 Q.2 F (encs pre).length (by omega) (by omega)
      rw [← hall2] at hse
      rw [hse, lPlaces_c1]
      have d3 : decide ((((encs (pre ++ g)).length : Nat) : Int) < 0) = false := by simp
      have d4 : ((bsN t).toList == (ByteArray.mk #[]).toList) = false := by
        have : ByteArray.mk #[] = bsN [] := rfl
        rw [this, eqb_encs (SC_low hta) SC.nil]; simpa using htn
      have d5 : decide ((0 : Int) ≤ ((encs pre).length : Int) ∧ ((encs pre).length : Int) ≤ ((encs (pre ++ g)).length : Int) ∧ ((encs (pre ++ g)).length : Int) ≤ ((bsN all).size : Int)) = true := by simp only [decide_eq_true_eq]; omega
      rw [d3, cond_false, d4, cond_false, d5, cond_true]
      simp only [Int.toNat_natCast]
      have e5 : (bsN all).extract (encs pre).length (encs (pre ++ g)).length = bsN g := by
        rw [hag, hall]; exact ext_mid pre g (t ++ r')
      have hsg : SC g := by rw [hall] at hsc; exact hsc.right.left
      obtain ⟨q2, hg2⟩ := lexP_gap hg hsg (by rw [hall, List.length_append, List.length_append] at hln; omega)
      have d6 : decide ((bsN g).size < 1000000) = true := by simp only [decide_eq_true_eq]; rw [bsN_size]; omega
      simp only [e5, d6, cond_true, hg2]
      have d7 : ((0 : Int) != 0) = false := rfl
      have d8 : (((([] : List (List C)).length : Nat) : Int) != 0) = false := rfl
      simp only [d7, d8, cond_false]
      have w1 : IntKind.i64.wrap (((encs (pre ++ g)).length : Int) + ((bsN t).size : Int)) = ((encs (pre ++ g ++ t)).length : Int) := by
        rw [w64 _ (by omega) (by rw [bsN_size]; omega), encs_app (pre ++ g) t, List.length_append, bsN_size]; push_cast; rfl
      have w2 : IntKind.i64.wrap ((dn.length : Int) + 1) = ((dn ++ [(k, t, p)]).length : Int) := by
        rw [w64 _ (by omega) (by omega)]; simp
      rw [w1, w2]
      have hp2 : advs p t = advs (1, 1) (pre ++ g ++ t ++ []) := by rw [List.append_nil, advs_app (1, 1) (pre ++ g) t, ← hp]
      exact ih he hq (pre ++ g ++ t) [] (dn ++ [(k, t, p)]) n (by rw [hall]; simp) gapOk_nil hp2 (by rw [hOd]; simp) (by simp at hn; omega)
  | bad => intro he; cases he
theorem lPlaces_run (m : Int) (s : ByteArray) (F : Nat) (hF : 5000 ≤ F) : runFn (lPlaces_cf m) F Tryd.f6 (bd Tryd.f6) [vs s] [] fin2 = some (vb true, []) := by
  rw [lPlaces_start]
  cases hs : decide ((s.size : Int) > 4000) with
  | true => rfl
  | false =>
    simp only [decide_eq_false_iff_not] at hs
    have d0 : decide (s.size < 1000000) = true := by simp only [decide_eq_true_eq]; omega
    rw [cond_false, d0, cond_true]
    cases he : (lexP s).2.2.2 != 0 with
    | true => rfl
    | false =>
      obtain ⟨ns, o, q, hsc, rfl, hl, hx, hr⟩ := lexP_ok (by omega) (show (lexP s).2.2.2 = 0 by simpa using he)
      have hto := txt_len hx
      have := lPlaces_loop m F hF ns o q hsc (by omega) hl hr (by omega) hx rfl rfl [] [] [] F rfl gapOk_nil rfl rfl (by omega)
      rw [cond_false]
      have e1 : (lexP (bsN ns)).2.1 = q.1 := by rw [hr]
      have e2 : (lexP (bsN ns)).2.2.1 = q.2 := by rw [hr]
      rw [e1, e2]
      exact this
theorem places_res (m : Int) (xs : List V) (h : argVs Tryd.prog [9] xs) : ∃ b, FnRes Tryd.prog (globT m) 6 xs [] (vb true) b := by
  obtain ⟨x, rfl, h1⟩ := argVs1 h
  obtain ⟨s, rfl, _⟩ := str_arg h1
  exact ⟨[], specAtQ eqs_ok mix vti_ok Tryd.func6 rfl (by kernel_rfl) (tabD_ok m) 5000 (lPlaces_run m s 5000 (Nat.le_refl _))⟩
end Go.Proofs.YtniiimpcakmkbaaDoor
