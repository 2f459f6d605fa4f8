/- sigil's Lex is the relation: plain laws, no program. -/
import Derived.Test.YtniiimpcakmkbaaDoorSgPc
set_option linter.unusedVariables false
namespace Go.Proofs.YtniiimpcakmkbaaDoor
open Go Vm Go.Lib
def gapN : Nat → List Nat → List Nat
  | 0, ns => ns
  | n + 1, ns => ns.takeWhile blankN ++ (if isRem (ns.dropWhile blankN) then (ns.dropWhile blankN).takeWhile ne10 ++ gapN n ((ns.dropWhile blankN).dropWhile ne10) else [])
theorem gapN_fuel : ∀ (n n' : Nat) (ns : List Nat), ns.length < n → ns.length < n' → gapN n ns = gapN n' ns := by
  intro n
  induction n with
  | zero => intro n' ns h; omega
  | succ n ih =>
    intro n' ns h h'
    cases n' with
    | zero => omega
    | succ n' =>
      unfold gapN
      split
      · rename_i hr
        have := (rem_take hr).2
        have := dropWhile_le blankN ns
        rw [ih n' _ (by omega) (by omega)]
      · rfl
def G (ns : List Nat) : List Nat := gapN (ns.length + 1) ns
theorem G_nil : G [] = [] := rfl
theorem G_blank {c : Nat} {r : List Nat} (h : blankN c = true) : G (c :: r) = c :: G r := by
  have e : G (c :: r) = c :: gapN (r.length + 1 + 1) r := by
    unfold G gapN
    simp [h]
  rw [e, gapN_fuel (r.length + 1 + 1) (r.length + 1) r (by omega) (by omega)]; rfl
theorem blank47 : blankN 47 = false := rfl
theorem G_rem {ns : List Nat} (h : isRem ns = true) : G ns = ns.takeWhile ne10 ++ G (ns.dropWhile ne10) := by
  have hl := (rem_take h).2
  obtain ⟨r, rfl⟩ := isRem_eq h
  have e : G (47 :: 47 :: r) = (47 :: 47 :: r).takeWhile ne10 ++ gapN (r.length + 2) ((47 :: 47 :: r).dropWhile ne10) := by
    unfold G
    conv => lhs; unfold gapN
    have e1 : (47 :: 47 :: r).takeWhile blankN = [] := rfl
    have e2 : (47 :: 47 :: r).dropWhile blankN = 47 :: 47 :: r := rfl
    rw [e1, e2, if_pos h]; rfl
  rw [e, gapN_fuel (r.length + 2) (((47 :: 47 :: r).dropWhile ne10).length + 1) _ (by simp at hl; omega) (by omega)]; rfl
theorem G_tok {c : Nat} {r : List Nat} (h : blankN c = false) (hr : isRem (c :: r) = false) : G (c :: r) = [] := by
  unfold G gapN
  have e1 : (c :: r).takeWhile blankN = [] := by simp [h]
  have e2 : (c :: r).dropWhile blankN = c :: r := by simp [h]
  rw [e1, e2, hr]; rfl
theorem G_prefix : ∀ (n : Nat) (ns : List Nat), ns.length < n → ∃ r, ns = G ns ++ r := by
  intro n
  induction n with
  | zero => intro ns h; omega
  | succ n ih =>
    intro ns h
    cases ns with
    | nil => exact ⟨[], rfl⟩
    | cons c r =>
      cases hb : blankN c with
      | true =>
        obtain ⟨x, hx⟩ := ih r (by simp at h; omega)
        refine ⟨x, ?_⟩
        rw [G_blank hb, List.cons_append, ← hx]
      | false =>
        cases hr : isRem (c :: r) with
        | true =>
          obtain ⟨x, hx⟩ := ih ((c :: r).dropWhile ne10) (by have := (rem_take hr).2; omega)
          refine ⟨x, ?_⟩
          rw [G_rem hr, List.append_assoc, ← hx]; simp
        | false => exact ⟨c :: r, by rw [G_tok hb hr]; rfl⟩
theorem takeDrop (p : Nat → Bool) (ns : List Nat) : ns = ns.takeWhile p ++ ns.dropWhile p := by simp
theorem ext_encs (a b : List Nat) : (bsN (a ++ b)).extract (encs a).length (bsN (a ++ b)).size = bsN b := by
  apply ba_ext; rw [ext_data, bsN_data, bsN_data, drop_encs]
theorem ext_encs0 (a b : List Nat) : (bsN (a ++ b)).extract 0 (encs a).length = bsN a := by
  apply ba_ext; rw [ext_data0, bsN_data, bsN_data, take_encs]
theorem skip_encs : ∀ (n : Nat) (ns : List Nat), SC ns → (bsN ns).size < n → skipP n (bsN ns) = (encs (G ns)).length := by
  intro n
  induction n with
  | zero => intro ns hs h; omega
  | succ n ih =>
    intro ns hs h
    have ha : first (bsN ns) (fun _ r => !blankP r) = (encs (ns.takeWhile blankN)).length := by
      rw [first_encs (bsN ns) _ (fun c => !blankN c) ns (bsN_data ns) hs (fun i c => by rw [blank_N])]
      simp
    have hsplit := takeDrop blankN ns
    unfold skipP
    simp only
    rw [ha]
    have hz : (bsN ns).size = (encs (ns.takeWhile blankN)).length + (encs (ns.dropWhile blankN)).length := by
      conv => lhs; rw [hsplit, bsN_size, encs_app, List.length_append]
    have hdr : (bsN ns).extract (encs (ns.takeWhile blankN)).length (bsN ns).size = bsN (ns.dropWhile blankN) := by
      conv => lhs; rw [hsplit]
      have := ext_encs (ns.takeWhile blankN) (ns.dropWhile blankN)
      rw [← hsplit] at this ⊢
      exact this
    have hsd : SC (ns.dropWhile blankN) := by rw [hsplit] at hs; exact hs.right
    have hG : G ns = ns.takeWhile blankN ++ (if isRem (ns.dropWhile blankN) then G (ns.dropWhile blankN) else []) := by
      unfold G
      conv => lhs; unfold gapN
      congr 1
      split
      · rename_i hr
        have := (rem_take hr).2
        have := dropWhile_le blankN ns
        have e := G_rem hr
        unfold G at e
        rw [e, gapN_fuel ns.length (((ns.dropWhile blankN).dropWhile ne10).length + 1) ((ns.dropWhile blankN).dropWhile ne10) (by omega) (by omega)]
      · rfl
    rw [hdr, remark_encs hsd]
    cases hr : isRem (ns.dropWhile blankN) with
    | false =>
      rw [hr] at hG
      simp only [Bool.false_eq_true, if_false, List.append_nil] at hG ⊢
      rw [hG]
      have e0 : (bNo.size == 0) = true := rfl
      rw [e0, cond_true]
      by_cases hd : (encs (ns.takeWhile blankN)).length < (bsN ns).size
      · rw [decide_eq_true hd, cond_true]
      · rw [decide_eq_false hd, cond_false]; omega
    | true =>
      rw [hr] at hG
      simp only [if_true] at hG ⊢
      have hr2 := rem_take hr
      have hl := encs_len ((ns.dropWhile blankN).takeWhile ne10)
      have hk : ((bsN ((ns.dropWhile blankN).takeWhile ne10)).size == 0) = false := by
        rw [bsN_size, beq_eq_false_iff_ne]; omega
      have hsp2 := takeDrop ne10 (ns.dropWhile blankN)
      have hz2 : (encs (ns.dropWhile blankN)).length = (encs ((ns.dropWhile blankN).takeWhile ne10)).length + (encs ((ns.dropWhile blankN).dropWhile ne10)).length := by
        conv => lhs; rw [hsp2, encs_app, List.length_append]
      have hd : (encs (ns.takeWhile blankN)).length < (bsN ns).size := by omega
      rw [decide_eq_true hd, cond_true, hk, cond_false, hG, G_rem hr]
      have e3 : (bsN ns).extract ((encs (ns.takeWhile blankN)).length + (bsN ((ns.dropWhile blankN).takeWhile ne10)).size) (bsN ns).size = bsN ((ns.dropWhile blankN).dropWhile ne10) := by
        have e4 : ns = (ns.takeWhile blankN ++ (ns.dropWhile blankN).takeWhile ne10) ++ (ns.dropWhile blankN).dropWhile ne10 := by
          rw [List.append_assoc, ← hsp2, ← hsplit]
        have := ext_encs (ns.takeWhile blankN ++ (ns.dropWhile blankN).takeWhile ne10) ((ns.dropWhile blankN).dropWhile ne10)
        rw [← e4, encs_app, List.length_append] at this
        rw [bsN_size ((ns.dropWhile blankN).takeWhile ne10)]
        exact this
      rw [e3, ih _ (by rw [hsp2] at hsd; exact hsd.right) (by rw [bsN_size]; omega)]
      rw [encs_app, encs_app, List.length_append, List.length_append, bsN_size]; omega
theorem rest_encs {ns r : List Nat} (hs : SC ns) (h : ns = G ns ++ r) : rest (bsN ns) = bsN r := by
  unfold rest
  rw [skip_encs _ ns hs (by omega)]
  have := ext_encs (G ns) r
  rw [← h] at this
  exact this
theorem gap_encs {ns : List Nat} (hs : SC ns) (p : Int × Int) : gapP p.1 p.2 (bsN ns) = advs p (G ns) := by
  obtain ⟨r, h⟩ := G_prefix _ ns (Nat.lt_succ_self _)
  unfold gapP
  rw [skip_encs _ ns hs (by omega)]
  have := ext_encs0 (G ns) r
  rw [← h] at this
  rw [this]
  exact behind_encs (ns := G ns) (by rw [h] at hs; exact hs.left) (bsN_data _) p.1 p.2
noncomputable def tokC (x : Tok) : List C := [.int .i64 x.1, .str (bsN x.2.1), .int .i64 x.2.2.1, .int .i64 x.2.2.2]
theorem bsN_nil : bsN [] = bNo := rfl
theorem lexAt_encs {p ns o q e} (h : Lx p ns o q e) : ∀ (n : Nat) (out : List (List C)), SC ns → (bsN ns).size < n →
    lexAt n out p.1 p.2 (bsN ns) = if e = 0 then (out ++ o.map tokC, q.1, q.2, 0) else ([], q.1, q.2, e) := by
  induction h with
  | nil p =>
    intro n out hs hn
    cases n with
    | zero => omega
    | succ n =>
      unfold lexAt
      rw [rest_encs (r := []) hs rfl, gap_encs hs p, G_nil]
      have : ((bsN []).toList == bNo.toList) = true := by rw [bsN_nil]; simp
      rw [this, cond_true]; simp [advs]
  | @blank p c r o q e hb h ih =>
    intro n out hs hn
    have hlt : (bsN r).size < (bsN (c :: r)).size := by rw [bsN_size, bsN_size, encs_cons, List.length_append]; have := (encN_len c).1; omega
    obtain ⟨x, hx⟩ := G_prefix _ r (Nat.lt_succ_self _)
    have hx2 : c :: r = G (c :: r) ++ x := by rw [G_blank hb, List.cons_append, ← hx]
    cases n with
    | zero => omega
    | succ n =>
      have := ih (n + 1) out hs.tail (by omega)
      rw [← this]
      unfold lexAt
      rw [rest_encs hs hx2, rest_encs hs.tail hx, gap_encs hs p, gap_encs hs.tail (advN p c), G_blank hb]
      rfl
  | @rem p ns o q e hr h ih =>
    intro n out hs hn
    have hsp := takeDrop ne10 ns
    have hsd : SC (ns.dropWhile ne10) := by rw [hsp] at hs; exact hs.right
    obtain ⟨x, hx⟩ := G_prefix _ (ns.dropWhile ne10) (Nat.lt_succ_self _)
    have hx2 : ns = G ns ++ x := by rw [G_rem hr, List.append_assoc, ← hx, ← hsp]
    have hlt : (bsN (ns.dropWhile ne10)).size ≤ (bsN ns).size := by
      rw [bsN_size, bsN_size]
      conv => rhs; rw [hsp, encs_app, List.length_append]
      omega
    cases n with
    | zero => omega
    | succ n =>
      have := ih (n + 1) out hsd (by omega)
      rw [← this]
      unfold lexAt
      rw [rest_encs hs hx2, rest_encs hsd hx, gap_encs hs p, gap_encs hsd _, G_rem hr, advs_app]
  | @tok p c r o q e k t r' hb hr ht hsp h ih =>
    intro n out hs hn
    have h0 := rest_encs (ns := c :: r) (r := c :: r) hs (by rw [G_tok hb hr]; rfl)
    obtain ⟨h1, h2⟩ := tok_encs hs ht
    have hs2 : SC (t ++ r') := hsp ▸ hs
    have hne : ((bsN (c :: r)).toList == bNo.toList) = false := by
      rw [← bsN_nil, eqb_encs hs SC.nil]; simp
    have htl : t ≠ [] := (tokN_split ht).1
    have h3 : 1 ≤ (encs t).length := by
      have := encs_len t
      have : 0 < t.length := List.length_pos_iff.2 htl
      omega
    have hz : (bsN (c :: r)).size = (encs t).length + (bsN r').size := by rw [bsN_size, bsN_size, hsp, encs_app, List.length_append]
    cases n with
    | zero => omega
    | succ n =>
      have hih := ih n (out ++ [tokC (k, t, p)]) hs2.right (by omega)
      unfold lexAt
      rw [h0, gap_encs hs p, G_tok hb hr, hne, cond_false, tokO_encs hs, ht]
      simp only [Option.isSome_some, Bool.not_true, cond_false]
      have e1 : advs p [] = p := rfl
      rw [e1, h2]
      have e2 : tokE p (bsN (c :: r)) = tokC (k, t, p) := by unfold tokE tokC; rw [h1, h2]
      have e3 : (bsN (c :: r)).extract (bsN t).size (bsN (c :: r)).size = bsN r' := by
        have := ext_encs t r'
        rw [← hsp] at this
        rw [bsN_size t]; exact this
      have e4 : behindP p.1 p.2 (bsN t) = advs p t := behind_encs hs2.left (bsN_data t) p.1 p.2
      rw [e2, e3, e4, hih]
      split
      · simp
      · rfl
  | @bad p c r hb hr ht =>
    intro n out hs hn
    have h0 := rest_encs (ns := c :: r) (r := c :: r) hs (by rw [G_tok hb hr]; rfl)
    have hne : ((bsN (c :: r)).toList == bNo.toList) = false := by
      rw [← bsN_nil, eqb_encs hs SC.nil]; simp
    cases n with
    | zero => omega
    | succ n =>
      unfold lexAt
      rw [h0, gap_encs hs p, G_tok hb hr, hne, cond_false, tokO_encs hs, ht]
      rfl
/-- what Lex answers for a text of runes -/
noncomputable def lexRes (o : List Tok) (q : Int × Int) (e : Int) : List (List C) × Int × Int × Int := if e = 0 then (o.map tokC, q.1, q.2, 0) else ([], q.1, q.2, e)
theorem lexP_encs {ns o q e} (hs : SC ns) (hl : ns.length ≤ 3000) (h : Lx (1, 1) ns o q e) : lexP (bsN ns) = lexRes o q e := by
  unfold lexP lexRes
  rw [runes_valid hs (bsN_data ns), count_encs hs (bsN_data ns) (by omega)]
  have : decide ((ns.length : Int) > 3000) = false := by simp only [decide_eq_false_iff_not]; omega
  rw [this]
  simp only [Bool.not_true, cond_false]
  have := lexAt_encs h ((bsN ns).size + 1) [] hs (by omega)
  simpa using this
theorem lexP_big {ns} (hs : SC ns) (hl : 3000 < ns.length) (hb : ns.length < 9223372036854775807) : lexP (bsN ns) = ([], 0, 0, 3) := by
  unfold lexP
  rw [runes_valid hs (bsN_data ns), count_encs hs (bsN_data ns) hb]
  have : decide ((ns.length : Int) > 3000) = true := by simp only [decide_eq_true_eq]; omega
  rw [this]; rfl
theorem lexP_bad {s : ByteArray} (h : validP s = false) : lexP s = ([], 0, 0, 4) := by unfold lexP; rw [h]; rfl
theorem valid_bsN {s : ByteArray} (h : validP s = true) : ∃ ns, SC ns ∧ s = bsN ns := by
  obtain ⟨ns, h1, h2⟩ := valid_runes h
  exact ⟨ns, h1, ba_ext (by rw [h2, bsN_data])⟩
/-- a text without error is a text of runes, and its tokens are the relation's -/
theorem lexP_ok {s : ByteArray} (hz : s.size < 1000000) (h : (lexP s).2.2.2 = 0) : ∃ ns o q, SC ns ∧ s = bsN ns ∧ ns.length ≤ 3000 ∧ Lx (1, 1) ns o q 0 ∧ lexP s = (o.map tokC, q.1, q.2, 0) := by
  cases hv : validP s with
  | false => rw [lexP_bad hv] at h; cases h
  | true =>
    obtain ⟨ns, hs, rfl⟩ := valid_bsN hv
    by_cases hl : ns.length ≤ 3000
    · obtain ⟨o, q, e, hx⟩ := Lx.total _ ns (1, 1) (Nat.lt_succ_self _)
      rw [lexP_encs hs hl hx] at h
      unfold lexRes at h
      split at h
      · rename_i he
        subst he
        exact ⟨ns, o, q, hs, rfl, hl, hx, by rw [lexP_encs hs hl hx]; rfl⟩
      · rename_i he; exact absurd h he
    · have := encs_len ns
      rw [bsN_size] at hz
      rw [lexP_big hs (by omega) (by omega)] at h; cases h
end Go.Proofs.YtniiimpcakmkbaaDoor
