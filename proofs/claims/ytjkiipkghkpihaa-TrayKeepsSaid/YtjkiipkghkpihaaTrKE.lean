/- TrayKeeps: the law's run -/
import Derived.Test.YtjkiipkghkpihaaTrK
import Derived.Test.YtjkiipkghkpihaaTrL
set_option linter.unusedVariables false
namespace Go.Proofs.Ytjkiipkghkpihaa
open Go Vm
def strOf (s : List C) : ByteArray := bytesOf (s.map fun c => [c])
def noteE (e : List C) : List C := [.int .i64 (atE e), .str (strOf (e.drop 1))]
def lastN (at_ : Int) : ByteArray → List (List C) → ByteArray
  | s, [] => s
  | s, e :: r => lastN at_ (bif (e.getD 0 .nf).toInt == at_ then (e.getD 1 .nf).toStr else s) r

theorem readW_append (at_ : Int) : ∀ (l m : List (List C)) (b : List C), readW at_ b (l ++ m) = readW at_ (readW at_ b l) m := by
  intro l
  induction l with
  | nil => intro m b; rfl
  | cons e r ih => intro m b; simp only [List.cons_append, readW]; exact ih m _
theorem lastN_append (at_ : Int) : ∀ (l m : List (List C)) (s : ByteArray), lastN at_ s (l ++ m) = lastN at_ (lastN at_ s l) m := by
  intro l
  induction l with
  | nil => intro m b; rfl
  | cons e r ih => intro m b; simp only [List.cons_append, lastN]; exact ih m _
theorem lastN_notes (at_ : Int) : ∀ (l : List (List C)) (b : List C), lastN at_ (strOf b) (l.map noteE) = strOf (readW at_ b l) := by
  intro l
  induction l with
  | nil => intro b; rfl
  | cons e r ih =>
    intro b
    simp only [List.map_cons, lastN, readW]
    have e1 : ((noteE e).getD 0 .nf).toInt = atE e := rfl
    have e2 : ((noteE e).getD 1 .nf).toStr = strOf (e.drop 1) := rfl
    rw [e1, e2]
    cases atE e == at_ with
    | true => exact ih _
    | false => exact ih _
theorem settle_get : ∀ (cache kept : List (List C)) (n : Nat), (∀ e ∈ cache, 0 ≤ atE e ∧ (atE e).toNat < kept.length) → (settleP kept cache).getD n [] = readW n (kept.getD n []) cache := by
  intro cache
  induction cache with
  | nil => intro kept n _; rfl
  | cons e r ih =>
    intro kept n h
    have h1 := h e (by simp)
    simp only [settleP, readW]
    rw [ih _ n (fun e' he' => by rw [List.length_set]; exact h e' (by simp [he']))]
    congr 1
    rw [List.getD_eq_getElem?_getD, List.getD_eq_getElem?_getD, List.getElem?_set]
    by_cases hn : (atE e).toNat = n
    · have : atE e = (n : Int) := by omega
      rw [if_pos hn, if_pos (by omega), this, beq_self_eq_true, cond_true]; rfl
    · have : (atE e == (n : Int)) = false := by simp; omega
      rw [if_neg hn, this, cond_false]
theorem OkT.ats {kept cache : List (List C)} (h : OkT kept cache) : ∀ e ∈ cache, 0 ≤ atE e ∧ (atE e).toNat < kept.length := fun e he => ⟨(cwOk_parts (h.cw e he)).2.2.1, (cwOk_parts (h.cw e he)).2.2.2.1⟩
theorem chosen_sub : ∀ (l ch : List (List C)), ∀ e ∈ chosen l ch, e ∈ l := by
  intro l
  induction l with
  | nil => intro ch e h; cases ch <;> simp [chosen] at h
  | cons a r ih =>
    intro ch e h
    cases ch with
    | nil => simp [chosen] at h
    | cons c q =>
      simp only [chosen] at h
      cases hb : (c.getD 0 .nf).toBool with
      | true =>
        rw [hb, cond_true] at h
        rcases List.mem_cons.1 h with rfl | h
        · simp
        · exact List.mem_cons_of_mem _ (ih q e h)
      | false => rw [hb, cond_false] at h; exact List.mem_cons_of_mem _ (ih q e h)
theorem chosen_all : ∀ (l ch : List (List C)), (∀ c ∈ ch, c = [.bool true]) → l.length ≤ ch.length → chosen l ch = l := by
  intro l
  induction l with
  | nil => intro ch _ _; cases ch <;> rfl
  | cons a r ih =>
    intro ch h hl
    cases ch with
    | nil => simp at hl
    | cons c q =>
      have := h c (by simp)
      subst this
      simp only [chosen]
      show a :: chosen r q = a :: r
      rw [ih q (fun c hc => h c (by simp [hc])) (by simpa using hl)]
/-- what is read is what was there, or one of the writes to that place -/
theorem readW_is (at_ : Int) : ∀ (l : List (List C)) (b : List C), readW at_ b l = b ∨ ∃ e ∈ l, atE e = at_ ∧ readW at_ b l = e.drop 1 := by
  intro l
  induction l with
  | nil => intro b; exact .inl rfl
  | cons e r ih =>
    intro b
    simp only [readW]
    cases h : atE e == at_ with
    | true =>
      rw [cond_true]
      rcases ih (e.drop 1) with h1 | ⟨e', he', h1, h2⟩
      · exact .inr ⟨e, by simp, by simpa using h, h1⟩
      · exact .inr ⟨e', by simp [he'], h1, h2⟩
    | false =>
      rw [cond_false]
      rcases ih b with h1 | ⟨e', he', h1, h2⟩
      · exact .inl h1
      · exact .inr ⟨e', by simp [he'], h1, h2⟩

structure KInv (n i : Nat) (notes all kept cache kn : List (List C)) : Prop where
  ok : OkT kept cache
  kl : kept.length = 16
  cl : kn.length + cache.length ≤ i
  nt : notes = cache.map noteE
  al : all.length = n
  ab : all.all isBoolE = true
  at_ : ∀ j, j < i → all[j]? = some [.bool true]
  knv : ∀ p : Nat, p < 16 → lastN p (strOf zsec) kn = strOf (kept.getD p [])
  sh : ∀ e ∈ kn, ∃ a s, e = [C.int .i64 a, C.str s]

theorem KInv.setAll {n i : Nat} {notes all kept cache kn : List (List C)} (h : KInv n i notes all kept cache kn) (hi : i < n) : (all.set i [.bool true]).length = n ∧ (all.set i [.bool true]).all isBoolE = true ∧ ∀ j, j < i + 1 → (all.set i [C.bool true])[j]? = some [.bool true] := by
  refine ⟨by rw [List.length_set]; exact h.al, List.all_eq_true.2 fun x hx => ?_, fun j hj => ?_⟩
  · rcases List.mem_or_eq_of_mem_set hx with h1 | rfl
    · exact List.all_eq_true.1 h.ab x h1
    · rfl
  · rw [List.getElem?_set]
    by_cases e : i = j
    · subst e; rw [if_pos rfl, if_pos (by rw [h.al]; exact hi)]
    · rw [if_neg e]; exact h.at_ j (by omega)

theorem lKeep_acts {R : Type} (K : X → St → Option R) (F : Nat) (acts ch : List (List C)) (hacts : ∀ x ∈ acts, ∃ k at_ B Ch, IsAct x k at_ B Ch) (hlen : acts.length ≤ 60) :
    ∀ (n i : Nat) (notes all kept cache : List (List C)) (dark : Bool) (kn : List (List C)), i ≤ acts.length → acts.length - i < n → KInv acts.length i notes all kept cache kn →
    ∃ notes' all' kept' cache' dark' kn', KInv acts.length acts.length notes' all' kept' cache' kn' ∧ lKeep_L0 K F n acts ch i notes all kept cache dark kn = K (.ex 0) (lKeep_E1 acts ch acts.length notes' all' kept' cache' dark' kn') := by
  intro n
  induction n with
  | zero => intro i _ _ _ _ _ _ hi h; omega
  | succ n ih =>
    intro i notes all kept cache dark kn hi hn inv
    rw [lKeep_r0]
    by_cases hlt : i < acts.length
    · have hget : acts[i]? = some acts[i] := List.getElem?_eq_getElem hlt
      obtain ⟨k, at_, B, Ch, he, hB, _⟩ := hacts _ (List.getElem_mem hlt)
      rw [he] at hget
      have hlt' : i < all.length := by rw [inv.al]; exact hlt
      have hag : all[i]? = some all[i] := List.getElem?_eq_getElem hlt'
      obtain ⟨bv, hbv⟩ := isBoolE_parts (List.all_eq_true.1 inv.ab _ (List.getElem_mem hlt'))
      rw [hbv] at hag
      have d1 : decide ((i : Int) < (acts.length : Int)) = true := by simpa using hlt
      have d2 : decide ((0 : Int) ≤ (i : Int)) = true := by simp
      rw [d1, cond_true, d2, cond_true, getT_at rfl hget, cond_true, getT_at rfl hag, getT_at rfl hag, w64 ((i : Int) + 1) (by omega) (by omega)]
      have hok := inv.ok
      have hk1 : okT kept cache = true := okT_iff.2 hok
      have ek : ((List.take 4 [C.int IntKind.i64 k, C.int IntKind.i64 at_, C.sl 1 B, C.sl 1 Ch]).getD 0 C.nf).toInt = k := rfl
      have ea : ((List.take 4 [C.int IntKind.i64 k, C.int IntKind.i64 at_, C.sl 1 B, C.sl 1 Ch]).getD 1 C.nf).toInt = at_ := rfl
      have eB : ((List.take 4 [C.int IntKind.i64 k, C.int IntKind.i64 at_, C.sl 1 B, C.sl 1 Ch]).getD 2 C.nf).toEls = B := rfl
      have e4 : ((List.take 4 [C.int IntKind.i64 k, C.int IntKind.i64 at_, C.sl 1 B, C.sl 1 Ch]).length == 4) = true := rfl
      have esh : shOk [Sh.int IntKind.i64, Sh.int IntKind.i64, Sh.sl 1, Sh.sl 1] (List.take 4 [C.int IntKind.i64 k, C.int IntKind.i64 at_, C.sl 1 B, C.sl 1 Ch]) = true := rfl
      have eset : (C.bool true :: List.drop 1 [C.bool bv]) = [C.bool true] := rfl
      have eti : (i : Int).toNat = i := by simp
      have hcl := inv.cl
      have hnl : notes.length = cache.length := by rw [inv.nt]; simp
      have z1 : decide ((kn.length + notes.length) * 24 ≤ 140737488355328 ∧ kn.length + notes.length ≤ 9223372036854775807) = true := by simp only [decide_eq_true_eq]; omega
      have z2 : decide ((notes.length + 1) * 24 ≤ 140737488355328 ∧ notes.length + 1 ≤ 9223372036854775807) = true := by simp only [decide_eq_true_eq]; omega
      rw [ek, ea, eB, e4, cond_true, esh, cond_true, eset, eti]
      obtain ⟨s1, s2, s3⟩ := inv.setAll hlt
      -- nothing done
      have same : KInv acts.length (i + 1) notes (all.set i [C.bool true]) kept cache kn := ⟨hok, inv.kl, by omega, inv.nt, s1, s2, s3, inv.knv, inv.sh⟩
      have next : ∀ {notes' kept' cache' kn'} dark', KInv acts.length (i + 1) notes' (all.set i [C.bool true]) kept' cache' kn' → ∃ notes2 all2 kept2 cache2 dark2 kn2, KInv acts.length acts.length notes2 all2 kept2 cache2 kn2 ∧ lKeep_L0 K F n acts ch ((i : Int) + 1) notes' (all.set i [C.bool true]) kept' cache' dark' kn' = K (.ex 0) (lKeep_E1 acts ch acts.length notes2 all2 kept2 cache2 dark2 kn2) :=
        fun dark' h => ih (i + 1) _ _ _ _ dark' _ (by omega) (by omega) h
      by_cases hk2 : k = 2
      · subst hk2
        have e21 : ((2 : Int) == 1) = false := rfl
        simp only [beq_self_eq_true, cond_true, hk1, Bool.and_true, z1, e21, cond_false]
        refine next _ ⟨hok.settle, by rw [settleP_len]; exact inv.kl, by simp; omega, rfl, s1, s2, s3, fun p hp => ?_, fun e he => ?_⟩
        · rw [lastN_append, inv.knv p hp, inv.nt, lastN_notes, settle_get _ _ _ hok.ats]
        · rcases List.mem_append.1 he with h1 | h1
          · exact inv.sh e h1
          · rw [inv.nt] at h1; obtain ⟨e', _, rfl⟩ := List.mem_map.1 h1; exact ⟨_, _, rfl⟩
      · have ek2 : (k == 2) = false := by simpa using hk2
        simp only [ek2, cond_false]
        cases hk : k == 1 with
        | false => exact next _ same
        | true =>
          cases decide ((B.length : Int) ≤ 128) with
          | false => exact next _ same
          | true =>
            simp only [cond_true, hk1, hB, Bool.and_self, Bool.and_true]
            cases hw : wIn kept at_ B with
            | false => exact next _ same
            | true =>
              have hin : inR kept at_ = true := by simp only [wIn, Bool.and_eq_true] at hw; exact hw.1
              have h2 := hok.push (mkW_ok hw hB) (by omega)
              have hb := okBytes_read (n := at_) h2
              rw [hin, cond_true] at hb
              simp only [cond_true, okT_iff.2 h2, hb, z2, hin]
              refine next _ ⟨h2, inv.kl, by simp; omega, ?_, s1, s2, s3, inv.knv, inv.sh⟩
              rw [inv.nt, List.map_append]
              congr 1
              have hat : atE (mkW at_ B) = at_ := rfl
              have hrd : readP kept (cache ++ [mkW at_ B]) at_ = (mkW at_ B).drop 1 := by
                unfold readP; rw [readW_append]; simp only [readW, hat, beq_self_eq_true, cond_true]
              rw [hrd]; rfl
    · have : i = acts.length := by omega
      subst this
      have d1 : decide ((acts.length : Int) < (acts.length : Int)) = false := by simp
      rw [d1, cond_false]
      exact ⟨notes, all, kept, cache, dark, kn, inv, rfl⟩
theorem note_parts {e : List C} (h : ∃ a s, e = [C.int .i64 a, C.str s]) : (List.take 2 e).length = 2 ∧ shOk [Sh.int .i64, Sh.str] (List.take 2 e) = true ∧ ((List.take 2 e).getD 0 .nf).toInt = (e.getD 0 .nf).toInt ∧ ((List.take 2 e).getD 1 .nf).toStr = (e.getD 1 .nf).toStr := by
  obtain ⟨a, s, rfl⟩ := h; exact ⟨rfl, rfl, rfl, rfl⟩

theorem lKeep_was {R : Type} (K : X → St → Option R) (F : Nat) (acts ch : List (List C)) (v7 : Int) (notes all kept cache : List (List C)) (dark : Bool) (kn : List (List C)) (p : Int) (hkn : kn.length < 1000000) (hsh : ∀ e ∈ kn, ∃ a s, e = [C.int .i64 a, C.str s]) :
    ∀ (n i : Nat) (w : ByteArray), i ≤ kn.length → kn.length - i < n →
    lKeep_L2 K F n acts ch v7 notes all kept cache dark kn p w i = K (.ex 4) (lKeep_E2 acts ch v7 notes all kept cache dark kn p (lastN p w (kn.drop i)) kn.length) := by
  intro n
  induction n with
  | zero => intro i _ hi h; omega
  | succ n ih =>
    intro i w hi hn
    rw [lKeep_r2]
    by_cases hlt : i < kn.length
    · have hget : kn[i]? = some kn[i] := List.getElem?_eq_getElem hlt
      have hmem := hsh _ (List.getElem_mem hlt)
      generalize kn[i] = e at hget hmem
      rw [drop_cons hget]
      obtain ⟨h1, h2, h3, h4⟩ := note_parts hmem
      have d1 : decide ((i : Int) < (kn.length : Int)) = true := by simpa using hlt
      have d2 : decide ((0 : Int) ≤ (i : Int)) = true := by simp
      rw [d1, cond_true, d2, cond_true, getT_at rfl hget, getT_at rfl hget, h1, beq_self_eq_true, cond_true, h2, cond_true, h3, h4, w64 _ (by omega) (by omega)]
      simp only [lastN]
      cases (e.getD 0 .nf).toInt == p with
      | true => exact ih (i + 1) _ (by omega) (by omega)
      | false => exact ih (i + 1) _ (by omega) (by omega)
    · have : i = kn.length := by omega
      subst this
      have d1 : decide ((kn.length : Int) < (kn.length : Int)) = false := by simp
      rw [d1, cond_false, List.drop_length]; rfl

/-- one of the notes of a place has these bytes -/
def anyN (p : Int) (b : ByteArray) : Bool → List (List C) → Bool
  | ok, [] => ok
  | ok, e :: r => anyN p b (ok || ((e.getD 0 .nf).toInt == p && (e.getD 1 .nf).toStr.toList == b.toList)) r
theorem anyN_true (p : Int) (b : ByteArray) : ∀ (l : List (List C)) (ok : Bool), (ok = true ∨ ∃ e ∈ l, ((e.getD 0 .nf).toInt == p && (e.getD 1 .nf).toStr.toList == b.toList) = true) → anyN p b ok l = true := by
  intro l
  induction l with
  | nil => intro ok h; rcases h with h | ⟨e, he, _⟩; exact h; cases he
  | cons e r ih =>
    intro ok h
    simp only [anyN]
    refine ih _ ?_
    rcases h with h | ⟨e', he', h⟩
    · left; simp [h]
    · rcases List.mem_cons.1 he' with rfl | he'
      · left; rw [h, Bool.or_true]
      · exact .inr ⟨e', he', h⟩

theorem lKeep_any {R : Type} (K : X → St → Option R) (F : Nat) (acts ch : List (List C)) (v7 : Int) (notes all kept cache : List (List C)) (dark : Bool) (kn : List (List C)) (p : Int) (w : ByteArray) (v49 : Int) (a b c d : List (List C))
    (hnl : notes.length < 1000000) (hsh : ∀ e ∈ notes, ∃ a s, e = [C.int .i64 a, C.str s]) (hb : okBytes b = true) :
    ∀ (n i : Nat) (ok : Bool), i ≤ notes.length → notes.length - i < n →
    lKeep_L3 K F n acts ch v7 notes all kept cache dark kn p w v49 a b c d ok i = K (.ex 6) (lKeep_E3 acts ch v7 notes all kept cache dark kn p w v49 a b c d (anyN p (bytesOf b) ok (notes.drop i)) notes.length) := by
  intro n
  induction n with
  | zero => intro i _ hi h; omega
  | succ n ih =>
    intro i ok hi hn
    rw [lKeep_r3]
    by_cases hlt : i < notes.length
    · have hget : notes[i]? = some notes[i] := List.getElem?_eq_getElem hlt
      have hmem := hsh _ (List.getElem_mem hlt)
      generalize notes[i] = e at hget hmem
      rw [drop_cons hget]
      obtain ⟨h1, h2, h3, h4⟩ := note_parts hmem
      have d1 : decide ((i : Int) < (notes.length : Int)) = true := by simpa using hlt
      have d2 : decide ((0 : Int) ≤ (i : Int)) = true := by simp
      rw [d1, cond_true, d2, cond_true, getT_at rfl hget, getT_at rfl hget, h1, beq_self_eq_true, cond_true, h2, cond_true, h3, h4, w64 _ (by omega) (by omega), hb]
      simp only [anyN, cond_true]
      cases ok with
      | true => simp only [Bool.true_or, cond_true]; exact ih (i + 1) _ (by omega) (by omega)
      | false =>
        simp only [Bool.false_or, cond_false]
        cases (e.getD 0 .nf).toInt == p with
        | true => simp only [Bool.true_and, cond_true]; exact ih (i + 1) _ (by omega) (by omega)
        | false => simp only [Bool.false_and, cond_false]; exact ih (i + 1) _ (by omega) (by omega)
    · have : i = notes.length := by omega
      subst this
      have d1 : decide ((notes.length : Int) < (notes.length : Int)) = false := by simp
      rw [d1, cond_false, List.drop_length]; rfl

theorem lKeep_places {R : Type} (K : X → St → Option R) (F : Nat) (acts ch : List (List C)) (hF : 100 ≤ F) (m : Nat) (hm : m ≤ 60) (notes all kept cache : List (List C)) (dark : Bool) (kn : List (List C)) (inv : KInv m m notes all kept cache kn) :
    ∀ (n i : Nat), i ≤ 16 → 16 - i < n → lKeep_L1 K F n acts ch m notes all kept cache dark kn i = K (.ex 2) (lKeep_E7 acts ch m notes all kept cache dark kn 16) := by
  intro n
  induction n with
  | zero => intro i hi h; omega
  | succ n ih =>
    intro i hi hn
    rw [lKeep_r1]
    by_cases hlt : i < 16
    · have d1 : decide ((i : Int) < 16) = true := by simp; omega
      have hok := inv.ok
      have hcl := inv.cl
      have hnl : notes.length = cache.length := by rw [inv.nt]; simp
      have hz : bytesOf (List.replicate (Int.toNat (128 : Int)) (zeroC vt5.zero)) = strOf zsec := rfl
      rw [d1, cond_true, hz, show (0 : Int) = ((0 : Nat) : Int) from rfl, lKeep_was _ _ _ _ _ _ _ _ _ _ _ _ (by omega) inv.sh F 0 _ (by omega) (by omega), List.drop_zero, inv.knv i hlt, lKeep_c2]
      have hx : OkT (settleP kept (chosen cache ch)) [] := hok.chosen.settle
      have hy : OkT (settleP kept (chosen cache all)) [] := hok.chosen.settle
      have hz : OkT (settleP kept (chosen cache [])) [] := hok.chosen.settle
      have hall : chosen cache all = cache := chosen_all _ _ (fun c hc => by
        obtain ⟨j, hj⟩ := List.getElem?_of_mem hc
        have hjl := (List.getElem?_eq_some_iff.1 hj).1
        rw [inv.at_ j (by have := inv.al; omega)] at hj; exact (Option.some.inj hj).symm) (by have := inv.al; omega)
      have hnone : chosen cache [] = [] := by cases cache <;> rfl
      have hin : inR kept (i : Int) = true := by simp [inR, inv.kl]; omega
      have hin2 : ∀ l, inR (settleP kept l) (i : Int) = true := fun l => by simp [inR, settleP_len, inv.kl]; omega
      rw [okT_iff.2 hok, cond_true, okT_iff.2 hx, cond_true, okT_iff.2 hy, cond_true, okT_iff.2 hz, cond_true, okBytes_read hx, cond_true]
      simp only [hin, hin2, cond_true]
      have bx := okBytes_read (n := (i : Int)) hx
      have bn := okBytes_read (n := (i : Int)) hok
      have bb := okBytes_read (n := (i : Int)) hy
      have bc := okBytes_read (n := (i : Int)) hz
      simp only [hin, hin2, cond_true] at bx bn bb bc
      rw [show (0 : Int) = ((0 : Nat) : Int) from rfl, lKeep_any _ _ _ _ _ _ _ _ _ _ _ _ _ _ _ _ _ _ (by omega) (fun e he => by rw [inv.nt] at he; obtain ⟨e', _, rfl⟩ := List.mem_map.1 he; exact ⟨_, _, rfl⟩) bx F 0 _ (by omega) (by omega), List.drop_zero, lKeep_c3]
      have hat : ∀ l : List (List C), readP (settleP kept l) [] (i : Int) = (settleP kept l).getD i [] := fun l => by simp [readP, readW]
      have hrx : readP (settleP kept (chosen cache ch)) [] (i : Int) = readW (i : Int) (kept.getD i []) (chosen cache ch) := by
        rw [hat, settle_get _ _ _ hok.chosen.ats]
      have hry : readP (settleP kept (chosen cache all)) [] (i : Int) = readP kept cache (i : Int) := by
        rw [hat, hall, settle_get _ _ _ hok.ats]; simp [readP]
      have hrz : readP (settleP kept (chosen cache [])) [] (i : Int) = kept.getD i [] := by rw [hat, hnone]; rfl
      have hany : anyN (i : Int) (bytesOf (List.map (fun c => [c]) (readP (settleP kept (chosen cache ch)) [] (i : Int)))) ((bytesOf (List.map (fun c => [c]) (readP (settleP kept (chosen cache ch)) [] (i : Int)))).toList == (strOf (kept.getD i [])).toList) notes = true := by
        refine anyN_true _ _ _ _ ?_
        rw [hrx]
        rcases readW_is (i : Int) (chosen cache ch) (kept.getD i []) with h | ⟨e, he, h1, h2⟩
        · left; rw [h]; simp [strOf]
        · right
          refine ⟨noteE e, by rw [inv.nt]; exact List.mem_map.2 ⟨e, chosen_sub _ _ e he, rfl⟩, ?_⟩
          rw [h2]
          have e1 : ((noteE e).getD 0 .nf).toInt = atE e := rfl
          have e2 : ((noteE e).getD 1 .nf).toStr = strOf (e.drop 1) := rfl
          rw [e1, e2, h1]; simp [strOf]
      rw [hrz] at bc
      rw [hany, hry, hrz]
      simp only [Bool.not_true, cond_false, bn, bc, cond_true, beq_self_eq_true, strOf]
      rw [w64 _ (by omega) (by omega)]
      exact ih (i + 1) (by omega) (by omega)
    · have : i = 16 := by omega
      subst this; rfl

theorem lKeep_run (acts ch : List (List C)) (hacts : ∀ x ∈ acts, ∃ k at_ B Ch, IsAct x k at_ B Ch) (hc : ch.all isBoolE = true) (F : Nat) (hF : 100 ≤ F) :
    runFn lKeep_cf F Try.f4 (bd Try.f4) [vc (C.sl 4 acts), vc (C.sl 1 ch)] [] fin2 = some (vb true, []) := by
  rw [lKeep_start]
  cases h : decide ((acts.length : Int) > 60) with
  | true => rfl
  | false =>
    simp only [decide_eq_false_iff_not] at h
    have hmk : mkOk (acts.length : Int) (acts.length : Int) 1 = true := decide_eq_true ⟨rfl, by omega, by show (1 : Int) * _ ≤ _; omega, by omega⟩
    rw [cond_false, hmk]
    simp only [Bool.and_true, cond_true, Int.toNat_natCast]
    have inv0 : KInv acts.length 0 [] (List.replicate acts.length [C.bool false]) (List.replicate (Int.toNat (16 : Int)) zsec) [] [] :=
      ⟨zsec_ok, rfl, by simp, rfl, by simp, List.all_eq_true.2 fun x hx => by rw [List.eq_of_mem_replicate hx]; rfl, fun j hj => by omega, fun p hp => by
        simp only [lastN]
        rw [List.getD_eq_getElem?_getD, List.getElem?_replicate, if_pos (show p < Int.toNat (16 : Int) from hp)]; rfl, by simp⟩
    obtain ⟨notes, all, kept, cache, dark, kn, inv, he⟩ := lKeep_acts (lKeep_K0 fin2 F) F acts ch hacts (by omega) F 0 _ _ _ [] false [] (by omega) (by omega) inv0
    rw [show ((0 : Nat) : Int) = 0 from rfl] at he
    rw [he, lKeep_c1]
    simp only [okT_iff.2 inv.ok, hc, inv.ab, Bool.and_self, cond_true]
    rw [show (0 : Int) = ((0 : Nat) : Int) from rfl, lKeep_places _ _ _ _ hF acts.length (by omega) _ _ _ _ _ _ inv F 0 (by omega) (by omega), lKeep_c7]

theorem keeps_res (xs : List V) (h : argVs Try.prog [22, 23] xs) : ∃ b, FnRes Try.prog (fun _ => none) 4 xs [] (vb true) b := by
  match xs, h with
  | [x, y], ⟨h1, h2, _⟩ =>
    obtain ⟨acts, rfl, hacts⟩ := acts_of h1
    obtain ⟨ch, rfl, hc⟩ := bools_arg h2
    exact ⟨[], specAt mix vti_ok Try.func4 rfl (by kernel_rfl) tab2_ok 100 (lKeep_run acts ch hacts hc 100 (Nat.le_refl _))⟩
end Go.Proofs.Ytjkiipkghkpihaa
