/- TrayPlays: the law's run -/
import Derived.Test.YtjkiipkghkpihaaTrQ
import Derived.Test.YtjkiipkghkpihaaTrL
set_option linter.unusedVariables false
namespace Go.Proofs.Ytjkiipkghkpihaa
open Go Vm
theorem q_readW_append (at_ : Int) : ∀ (l m : List (List C)) (b : List C), readW at_ b (l ++ m) = readW at_ (readW at_ b l) m := by
  intro l
  induction l with
  | nil => intro m b; rfl
  | cons e r ih => intro m b; simp only [List.cons_append, readW]; exact ih m _
theorem q_settle_append : ∀ (l m kept : List (List C)), settleP kept (l ++ m) = settleP (settleP kept l) m := by
  intro l
  induction l with
  | nil => intro m kept; rfl
  | cons e r ih => intro m kept; simp only [List.cons_append, settleP]; exact ih m _
theorem q_settle_get : ∀ (cache kept : List (List C)) (n : Nat), (∀ e ∈ cache, 0 ≤ atE e ∧ (atE e).toNat < kept.length) → (settleP kept cache).getD n [] = readW n (kept.getD n []) cache := by
  intro cache
  induction cache with
  | nil => intro kept n _; rfl
  | cons e r ih =>
    intro kept n h
    have h1 := h e (by simp)
    simp only [settleP, readW]
    rw [ih _ n (fun e' he' => by rw [List.length_set]; exact h e' (by simp [he']))]
    congr 1
    rw [List.getD_eq_getElem?_getD, List.getD_eq_getElem?_getD, List.getElem?_set]
    by_cases hn : (atE e).toNat = n
    · have : atE e = (n : Int) := by omega
      rw [if_pos hn, if_pos (by omega), this, beq_self_eq_true, cond_true]; rfl
    · have : (atE e == (n : Int)) = false := by simp; omega
      rw [if_neg hn, this, cond_false]
theorem q_chosen_sub : ∀ (l ch : List (List C)), (∀ e ∈ chosen l ch, e ∈ l) ∧ (chosen l ch).length ≤ l.length := by
  intro l
  induction l with
  | nil => intro ch; cases ch <;> simp [chosen]
  | cons a r ih =>
    intro ch
    cases ch with
    | nil => simp [chosen]
    | cons c q =>
      simp only [chosen]
      obtain ⟨h1, h2⟩ := ih q
      cases hb : (c.getD 0 .nf).toBool with
      | true =>
        rw [cond_true]
        exact ⟨fun e h => by
          rcases List.mem_cons.1 h with rfl | h
          · simp
          · exact List.mem_cons_of_mem _ (h1 e h), by simp; omega⟩
      | false => rw [cond_false]; exact ⟨fun e h => List.mem_cons_of_mem _ (h1 e h), by simp; omega⟩

/-- the tray and the reference's tray say the same -/
structure PInv (sz : Int) (i : Nat) (kt cache : List (List C)) (left : Int) (kr : List (List C)) : Prop where
  ok : OkT kt cache
  rk : ∀ e ∈ kr, cwOk sz.toNat e = true
  s0 : 4 ≤ sz
  s1 : sz ≤ 4096
  kl : kt.length = sz.toNat
  kv : kt = settleP (List.replicate sz.toNat zsec) kr
  cl : kr.length + cache.length ≤ i
  lf : leftOk left = true

theorem PInv.okr {sz : Int} {i : Nat} {kt cache : List (List C)} {left : Int} {kr : List (List C)} (h : PInv sz i kt cache left kr) (hi : i < 1000000) : okR sz kr cache = true :=
  okR_iff.2 ⟨by have := h.s0; omega, h.s1, h.rk, fun e he => by rw [← h.kl]; exact h.ok.cw e he, by have := h.cl; omega, by have := h.cl; omega⟩
theorem PInv.step {sz : Int} {i : Nat} {kt cache : List (List C)} {left : Int} {kr : List (List C)} (h : PInv sz i kt cache left kr) : PInv sz (i + 1) kt cache left kr :=
  ⟨h.ok, h.rk, h.s0, h.s1, h.kl, h.kv, by have := h.cl; omega, h.lf⟩
theorem PInv.lenEq {sz : Int} {i : Nat} {kt cache : List (List C)} {left : Int} {kr : List (List C)} (h : PInv sz i kt cache left kr) : (kt.length : Int) = sz := by
  rw [h.kl]; have := h.s0; omega
theorem PInv.read {sz : Int} {i : Nat} {kt cache : List (List C)} {left : Int} {kr : List (List C)} (h : PInv sz i kt cache left kr) {p : Int} (hp : inR kt p = true) :
    readW p (readW p zsec kr) cache = readP kt cache p := by
  simp only [inR, Bool.and_eq_true, decide_eq_true_eq] at hp
  obtain ⟨n, rfl⟩ : ∃ n : Nat, p = n := ⟨p.toNat, by omega⟩
  have hn : n < sz.toNat := by have := h.kl; omega
  unfold readP
  rw [Int.toNat_natCast]
  have : kt.getD n [] = readW n zsec kr := by
    rw [h.kv, q_settle_get _ _ n (fun e he => by rw [List.length_replicate]; exact ⟨(cwOk_parts (h.rk e he)).2.2.1, (cwOk_parts (h.rk e he)).2.2.2.1⟩)]
    congr 1
    rw [List.getD_eq_getElem?_getD, List.getElem?_replicate, if_pos hn]; rfl
  rw [this]
theorem leftOk_dec {left : Int} (h : leftOk left = true) : leftOk (decL left) = true := by
  simp only [leftOk, Bool.and_eq_true, decide_eq_true_eq] at h ⊢
  unfold decL
  cases hd : decide (left > 0) with
  | true => simp only [decide_eq_true_eq] at hd; rw [cond_true]; omega
  | false => rw [cond_false]; exact h

theorem lPlay_own {R : Type} (K : X → St → Option R) (F : Nat) (sz : Int) (acts : List (List C)) (v10 v11 : Int) (v13 : List (List C)) (v14 : Int) (v15 : Bool) (v17 : List (List C)) (v18 : Int) (v19 : Bool) (sz20 : Int) (v21 v22 : List (List C)) (v23 : Int) (m : Nat) (hm : m ≤ 200) :
    ∀ (n i : Nat) (row : List (List C)), (∀ e ∈ row, ∃ x : Int, e = [C.int .u8 x]) → row.length = m → i ≤ m → m - i < n →
    lPlay_L5 K F n sz acts v10 v11 m v13 v14 v15 row v17 v18 v19 sz20 v21 v22 v23 i = K (.ex 3) (lPlay_E1 sz acts v10 v11 v13 v14 v15 v17 v18 v19 sz20 v21 v22 v23) := by
  intro n
  induction n with
  | zero => intro i row _ _ hi h; omega
  | succ n ih =>
    intro i row hrow hl hi hn
    rw [lPlay_r5]
    by_cases hlt : i < m
    · have hget : row[i]? = some row[i] := List.getElem?_eq_getElem (by omega)
      obtain ⟨x, hx⟩ := hrow _ (List.getElem_mem (by omega : i < row.length))
      rw [hx] at hget
      have d1 : decide ((i : Int) < (m : Int)) = true := by simpa using hlt
      have d2 : decide ((0 : Int) ≤ (i : Int)) = true := by simp
      have e1 : ∀ {γ : Type} (k : C → Option γ), getT [C.int .u8 x] 0 k = k (C.int .u8 x) := fun k => rfl
      have e2 : shOk [Sh.int IntKind.u8] [C.int .u8 x] = true := rfl
      rw [d1, cond_true, d2, cond_true, getT_at rfl hget, getT_at rfl hget, e1, e2, cond_true, getT_at rfl hget, getT_at rfl hget, w64 _ (by omega) (by omega)]
      refine ih (i + 1) _ (fun e he => ?_) (by rw [List.length_set]; exact hl) (by omega) (by omega)
      rcases List.mem_or_eq_of_mem_set he with h1 | rfl
      · exact hrow e h1
      · exact ⟨_, rfl⟩
    · have : i = m := by omega
      subst this
      have d1 : decide ((i : Int) < (i : Int)) = false := by simp
      rw [d1, cond_false]

theorem lPlay_reads {R : Type} (K : X → St → Option R) (F : Nat) (acts : List (List C)) (hacts : ∀ x ∈ acts, ∃ k at_ B Ch, IsAct x k at_ B Ch) (hlen : acts.length ≤ 60) (v10 sz : Int) (m : Nat) (hm : m < 1000) (kt cache : List (List C)) (left : Int) (dark : Bool) (kr : List (List C)) (inv : PInv sz m kt cache left kr) :
    ∀ (n i : Nat), i ≤ acts.length → acts.length - i < n → lPlay_L6 K F n sz acts v10 left dark sz kr cache left dark kt cache i = K (.ex 5) (lPlay_E4 sz acts v10 left dark sz kr cache left dark kt cache) := by
  intro n
  induction n with
  | zero => intro i hi h; omega
  | succ n ih =>
    intro i hi hn
    rw [lPlay_r6]
    by_cases hlt : i < acts.length
    · have hget : acts[i]? = some acts[i] := List.getElem?_eq_getElem hlt
      obtain ⟨k, at_, B, Ch, he, hB, _⟩ := hacts _ (List.getElem_mem hlt)
      rw [he] at hget
      have d1 : decide ((i : Int) < (acts.length : Int)) = true := by simpa using hlt
      have d2 : decide ((0 : Int) ≤ (i : Int)) = true := by simp
      have ea : ((List.take 4 [C.int IntKind.i64 k, C.int IntKind.i64 at_, C.sl 1 B, C.sl 1 Ch]).getD 1 C.nf).toInt = at_ := rfl
      have e4 : ((List.take 4 [C.int IntKind.i64 k, C.int IntKind.i64 at_, C.sl 1 B, C.sl 1 Ch]).length == 4) = true := rfl
      have esh : shOk [Sh.int IntKind.i64, Sh.int IntKind.i64, Sh.sl 1, Sh.sl 1] (List.take 4 [C.int IntKind.i64 k, C.int IntKind.i64 at_, C.sl 1 B, C.sl 1 Ch]) = true := rfl
      rw [d1, cond_true, d2, cond_true, getT_at rfl hget, ea, e4, cond_true, esh, cond_true, okT_iff.2 inv.ok, cond_true, inv.okr (by omega), w64 ((i : Int) + 1) (by omega) (by omega)]
      have hnext := ih (i + 1) (by omega) (by omega)
      rw [show ((i + 1 : Nat) : Int) = (i : Int) + 1 from rfl] at hnext
      have hl := inv.lenEq
      cases hin : inR kt at_ with
      | true =>
        have hin2 := hin
        simp only [inR, Bool.and_eq_true, decide_eq_true_eq] at hin2
        have c1 : decide (at_ < 0) = false := by simp only [decide_eq_false_iff_not]; omega
        have c2 : decide (at_ ≥ sz) = false := by simp only [decide_eq_false_iff_not]; omega
        have hs := readP_ok inv.ok hin
        rw [cond_true, c1, cond_false, c2, cond_false, cond_true, inv.read hin]
        generalize readP kt cache at_ = s at hs
        have hsl := secOk_len hs
        have ht : List.take 128 (s ++ []) = s := by rw [List.append_nil]; exact List.take_of_length_le (by omega)
        have hsb : s.all isB = true := by simp only [secOk, Bool.and_eq_true] at hs; exact hs.2
        rw [ht, okBytes_map _ hsb, cond_true, cond_true, beq_self_eq_true, Bool.not_true, cond_false]
        match s, hsl, hsb with
        | c :: r, _, hsb =>
          simp only [List.all_cons, Bool.and_eq_true] at hsb
          have hc := hsb.1
          unfold isB at hc
          split at hc
          · exact hnext
          · cases hc
      | false =>
        rw [cond_false]
        cases hd : decide (at_ < 0) with
        | true => rw [cond_true]; exact hnext
        | false =>
          simp only [decide_eq_false_iff_not] at hd
          have c2 : decide (at_ ≥ sz) = true := by
            simp only [inR, Bool.and_eq_false_iff, decide_eq_false_iff_not] at hin
            simp only [decide_eq_true_eq]; omega
          rw [cond_false, c2, cond_true]; exact hnext
    · have : i = acts.length := by omega
      subst this
      have d1 : decide ((acts.length : Int) < (acts.length : Int)) = false := by simp
      rw [d1, cond_false]

theorem pIn_eq {sz : Int} {kt : List (List C)} (hl : (kt.length : Int) = sz) (at_ : Int) (B : List (List C)) : pIn sz at_ B = wIn kt at_ B := by
  have e : ∀ a b : Bool, (a = true ↔ b = true) → a = b := by intro a b; cases a <;> cases b <;> simp
  refine e _ _ ?_
  simp only [pIn, wIn, inR, Bool.and_eq_true, Bool.not_eq_true', decide_eq_true_eq, decide_eq_false_iff_not]
  omega

theorem lPlay_acts {R : Type} (K : X → St → Option R) (F : Nat) (hF : 300 ≤ F) (sz : Int) (acts : List (List C)) (hacts : ∀ x ∈ acts, ∃ k at_ B Ch, IsAct x k at_ B Ch) (hlen : acts.length ≤ 60) :
    ∀ (n i : Nat) (kt cache : List (List C)) (left : Int) (dark : Bool) (kr : List (List C)), i ≤ acts.length → acts.length - i < n → PInv sz i kt cache left kr →
    lPlay_L4 K F n sz acts left dark sz kr cache left dark kt cache i = K (.ex 0) lPlay_E5 := by
  intro n
  induction n with
  | zero => intro i _ _ _ _ _ hi h; omega
  | succ n ih =>
    intro i kt cache left dark kr hi hn inv
    rw [lPlay_r4]
    by_cases hlt : i < acts.length
    · have hget : acts[i]? = some acts[i] := List.getElem?_eq_getElem hlt
      obtain ⟨k, at_, B, Ch, he, hB, hCh⟩ := hacts _ (List.getElem_mem hlt)
      rw [he] at hget
      have d1 : decide ((i : Int) < (acts.length : Int)) = true := by simpa using hlt
      have d2 : decide ((0 : Int) ≤ (i : Int)) = true := by simp
      have ek : ((List.take 4 [C.int IntKind.i64 k, C.int IntKind.i64 at_, C.sl 1 B, C.sl 1 Ch]).getD 0 C.nf).toInt = k := rfl
      have ea : ((List.take 4 [C.int IntKind.i64 k, C.int IntKind.i64 at_, C.sl 1 B, C.sl 1 Ch]).getD 1 C.nf).toInt = at_ := rfl
      have eB : ((List.take 4 [C.int IntKind.i64 k, C.int IntKind.i64 at_, C.sl 1 B, C.sl 1 Ch]).getD 2 C.nf).toEls = B := rfl
      have eC : ((List.take 4 [C.int IntKind.i64 k, C.int IntKind.i64 at_, C.sl 1 B, C.sl 1 Ch]).getD 3 C.nf).toEls = Ch := rfl
      have e4 : ((List.take 4 [C.int IntKind.i64 k, C.int IntKind.i64 at_, C.sl 1 B, C.sl 1 Ch]).length == 4) = true := rfl
      have esh : shOk [Sh.int IntKind.i64, Sh.int IntKind.i64, Sh.sl 1, Sh.sl 1] (List.take 4 [C.int IntKind.i64 k, C.int IntKind.i64 at_, C.sl 1 B, C.sl 1 Ch]) = true := rfl
      rw [d1, cond_true, d2, cond_true, getT_at rfl hget, ek, ea, eB, eC, e4, cond_true, esh, cond_true, w64 ((i : Int) + 1) (by omega) (by omega)]
      have next : ∀ {kt' cache' left' kr'} dark', PInv sz (i + 1) kt' cache' left' kr' → lPlay_L4 K F n sz acts left' dark' sz kr' cache' left' dark' kt' cache' ((i : Int) + 1) = K (.ex 0) lPlay_E5 :=
        fun dark' h => ih (i + 1) _ _ _ dark' _ (by omega) (by omega) h
      -- behind the call: all is compared, all is read
      have rd : ∀ {kt' cache' left' kr'} dark', PInv sz (i + 1) kt' cache' left' kr' → lPlay_L6 (lPlay_K6 K F n) F F sz acts i left' dark' sz kr' cache' left' dark' kt' cache' 0 = K (.ex 0) lPlay_E5 := by
        intro kt' cache' left' kr' dark' h
        have := lPlay_reads (lPlay_K6 K F n) F acts hacts hlen i sz (i + 1) (by omega) kt' cache' left' dark' kr' h F 0 (by omega) (by omega)
        rw [show ((0 : Nat) : Int) = 0 from rfl] at this
        rw [this, lPlay_c4, w64 ((i : Int) + 1) (by omega) (by omega)]
        exact next dark' h
      have hl := inv.lenEq
      have hne : ∀ {a b : Int}, a = b → (a != b) = false := fun h => by simp [h]
      by_cases hb : (B.length : Int) > 200
      · rw [decide_eq_true hb, cond_true]; exact next dark inv.step
      rw [decide_eq_false hb, cond_false]
      by_cases hc : (Ch.length : Int) > 200
      · rw [decide_eq_true hc, cond_true]; exact next dark inv.step
      rw [decide_eq_false hc, cond_false]
      have hcl := inv.cl
      have hok := inv.ok
      have hk1 : okT kt cache = true := okT_iff.2 hok
      have hr1 : okR sz kr cache = true := inv.okr (by omega)
      by_cases h1 : k = 1
      · subst h1
        have z1 : decide ((0 + B.length) * 1 ≤ 140737488355328 ∧ 0 + B.length ≤ 9223372036854775807) = true := by simp only [decide_eq_true_eq]; omega
        rw [beq_self_eq_true, cond_true, z1, cond_true, hk1, hB, inv.lf, hr1, pIn_eq hl at_ B]
        simp only [Bool.and_true, cond_true]
        have hrow : ∀ e ∈ B, ∃ x : Int, e = [C.int .u8 x] := fun e he => isBE_parts (List.all_eq_true.1 hB e he)
        have own : ∀ {kt' cache' left' kr'} (dark' : Bool) (code : Int), PInv sz (i + 1) kt' cache' left' kr' →
            lPlay_L5 (lPlay_K5 K F n) F F sz acts i code (B.length : Int) cache' left' dark' B cache' left' dark' sz kr' kt' code 0 = K (.ex 0) lPlay_E5 := by
          intro kt' cache' left' kr' dark' code h
          have := lPlay_own (lPlay_K5 K F n) F sz acts i code cache' left' dark' cache' left' dark' sz kr' kt' code B.length (by omega) F 0 B hrow rfl (by omega) (by omega)
          rw [show ((0 : Nat) : Int) = 0 from rfl] at this
          rw [this, lPlay_c1, dup_eq 5, hne rfl, cond_false, hne rfl, cond_false, beq_self_eq_true, Bool.not_true, cond_false, hne h.lenEq, cond_false]
          exact rd dark' h
        cases hw : wIn kt at_ B with
        | true =>
          cases h0 : left == 0 with
          | true =>
            have hl0 : left = 0 := by simpa using h0
            subst hl0
            simp only [Bool.not_true, Bool.and_false, cond_false, cond_true, Bool.true_and, Bool.true_or]
            exact own true 20 inv.step
          | false =>
            simp only [Bool.not_false, Bool.and_true, cond_true, cond_false, Bool.and_false, Bool.false_or]
            have h2 := hok.push (mkW_ok hw hB) (by omega)
            exact own dark 0 ⟨h2, inv.rk, inv.s0, inv.s1, inv.kl, inv.kv, by simp; omega, leftOk_dec inv.lf⟩
        | false =>
          simp only [Bool.false_and, cond_false, Bool.false_or]
          exact own dark 1 inv.step
      rw [beq_false_of_ne h1, cond_false]
      by_cases h2 : k = 2
      · subst h2
        rw [beq_self_eq_true, cond_true, hk1, inv.lf, hr1]
        simp only [Bool.and_true, cond_true]
        cases h0 : left == 0 with
        | true =>
          have hl0 : left = 0 := by simpa using h0
          subst hl0
          simp only [cond_true, Bool.true_or]
          rw [dup_eq 5, hne rfl, cond_false, hne rfl, cond_false, beq_self_eq_true, Bool.not_true, cond_false, hne hl, cond_false]
          exact rd true inv.step
        | false =>
          simp only [cond_false, Bool.false_or]
          rw [dup_eq 5, hne rfl, cond_false, hne (a := 0) (b := (([] : List (List C)).length : Int)) rfl, cond_false, beq_self_eq_true, Bool.not_true, cond_false, hne (by rw [settleP_len]; exact hl), cond_false]
          exact rd dark ⟨hok.settle, fun e he => by
            rcases List.mem_append.1 he with h | h
            · exact inv.rk e h
            · rw [← inv.kl]; exact hok.cw e h, inv.s0, inv.s1, by rw [settleP_len]; exact inv.kl, by rw [q_settle_append, ← inv.kv], by simp; omega, leftOk_dec inv.lf⟩
      rw [beq_false_of_ne h2, cond_false]
      by_cases h3 : k = 3
      · subst h3
        rw [beq_self_eq_true, cond_true]
        by_cases p1 : at_ < 0
        · have hp : powerIn at_ = false := by simp [powerIn, p1]
          rw [decide_eq_true p1, cond_true, hp]
          simp only [cond_false, Bool.not_false, Bool.true_and]
          rw [dup_eq 5, hne rfl, cond_false, hne rfl, cond_false, beq_self_eq_true, Bool.not_true, cond_false, hne hl, cond_false]
          exact rd dark inv.step
        rw [decide_eq_false p1, cond_false]
        by_cases p2 : at_ > 1099511627776
        · have hp : powerIn at_ = false := by simp [powerIn, p2]
          rw [decide_eq_true p2, cond_true, hp]
          simp only [cond_false, Bool.not_false, Bool.true_and]
          rw [dup_eq 5, hne rfl, cond_false, hne rfl, cond_false, beq_self_eq_true, Bool.not_true, cond_false, hne hl, cond_false]
          exact rd dark inv.step
        · have hp : powerIn at_ = true := by simp [powerIn, p1, p2]
          rw [decide_eq_false p2, cond_false, hp]
          simp only [cond_true, Bool.not_true, Bool.false_and]
          rw [dup_eq 5, hne rfl, cond_false, hne rfl, cond_false, beq_self_eq_true, Bool.not_true, cond_false, hne hl, cond_false]
          exact rd false ⟨hok, inv.rk, inv.s0, inv.s1, inv.kl, inv.kv, by omega, by simp [leftOk]; omega⟩
      rw [beq_false_of_ne h3, cond_false]
      by_cases h4 : k = 4
      · subst h4
        rw [beq_self_eq_true, cond_true, dup_eq 3, hk1, hCh, hr1]
        simp only [Bool.and_true, cond_true]
        rw [dup_eq 5, hne (by rw [settleP_len]; exact hl), cond_false]
        have hsub := q_chosen_sub cache Ch
        exact rd false ⟨hok.chosen.settle, fun e he => by
          rcases List.mem_append.1 he with h | h
          · exact inv.rk e h
          · rw [← inv.kl]; exact hok.cw e (hsub.1 e h), inv.s0, inv.s1, by rw [settleP_len]; exact inv.kl, by rw [q_settle_append, ← inv.kv], by simp; omega, rfl⟩
      rw [beq_false_of_ne h4, cond_false, dup_eq 5, hne rfl, cond_false, beq_self_eq_true, Bool.not_true, cond_false, hne hl, cond_false]
      exact rd dark inv.step
    · have : i = acts.length := by omega
      subst this
      have d1 : decide ((acts.length : Int) < (acts.length : Int)) = false := by simp
      rw [d1, cond_false]

theorem zsec_okn (n : Nat) (hn : n ≤ 4096) : OkT (List.replicate n zsec) [] :=
  ⟨fun s hs => by rw [List.eq_of_mem_replicate hs]; exact of_decide_eq_true (by decide +kernel), by simp, by simpa using hn, by simp⟩

theorem lPlay_run (sz : Int) (acts : List (List C)) (hacts : ∀ x ∈ acts, ∃ k at_ B Ch, IsAct x k at_ B Ch) (F : Nat) (hF : 300 ≤ F) :
    runFn lPlay_cf F Try.f6 (bd Try.f6) [vi sz, vc (C.sl 4 acts)] [] fin2 = some (vb true, []) := by
  rw [lPlay_start]
  cases h : decide ((acts.length : Int) > 60) with
  | true => rfl
  | false =>
    simp only [decide_eq_false_iff_not] at h
    rw [cond_false]
    by_cases h1 : sz < 4
    · have g1 : decide (sz ≥ 4) = false := by simp only [decide_eq_false_iff_not]; omega
      rw [decide_eq_true h1, g1]; rfl
    · have g1 : decide (sz ≥ 4) = true := by simp only [decide_eq_true_eq]; omega
      rw [decide_eq_false h1, g1]
      by_cases h2 : sz > 4096
      · have g2 : decide (sz ≤ 4096) = false := by simp only [decide_eq_false_iff_not]; omega
        rw [decide_eq_true h2, g2]; rfl
      · have g2 : decide (sz ≤ 4096) = true := by simp only [decide_eq_true_eq]; omega
        rw [decide_eq_false h2, g2]
        have inv : PInv sz 0 (List.replicate sz.toNat zsec) [] (-1) [] := ⟨zsec_okn _ (by omega), by simp, by omega, by omega, by simp, rfl, by simp, rfl⟩
        have := lPlay_acts (lPlay_K4 fin2 F) F hF sz acts hacts (by omega) F 0 _ _ _ false _ (by omega) (by omega) inv
        rw [show ((0 : Nat) : Int) = 0 from rfl] at this
        show lPlay_L4 (lPlay_K4 fin2 F) F F sz acts (-1) false sz [] [] (-1) false (List.replicate sz.toNat zsec) [] 0 = _
        rw [this, lPlay_c5]

theorem i64_arg {v : V} (h : argV Try.prog 3 v) : ∃ n : Int, v = vi n := by
  obtain ⟨f, l, h, rfl⟩ := h
  rw [Try.underlying3]
  match f, h with
  | f + 1, h =>
    unfold hasT at h; rw [Try.underlying3] at h; simp only at h
    obtain ⟨n, rfl, _⟩ := h
    exact ⟨n, rfl⟩
theorem plays_res (xs : List V) (h : argVs Try.prog [3, 22] xs) : ∃ b, FnRes Try.prog (fun _ => none) 6 xs [] (vb true) b := by
  match xs, h with
  | [x, y], ⟨h1, h2, _⟩ =>
    obtain ⟨n, rfl⟩ := i64_arg h1
    obtain ⟨acts, rfl, hacts⟩ := acts_of h2
    exact ⟨[], specAtD mix vti_ok Try.func6 rfl (by kernel_rfl) tab5_ok 300 (lPlay_run n acts hacts 300 (Nat.le_refl _))⟩
end Go.Proofs.Ytjkiipkghkpihaa
