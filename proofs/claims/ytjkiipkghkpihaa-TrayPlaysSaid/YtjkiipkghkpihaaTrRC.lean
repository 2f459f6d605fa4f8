/- the reference of tray: each function answers by its tree -/
import Derived.Test.YtjkiipkghkpihaaTrRB
import Derived.Test.YtjkiipkghkpihaaTrL
set_option linter.unusedVariables false
namespace Go.Proofs.Ytjkiipkghkpihaa
open Go Vm
theorem onR_run {x : V} {f : Int → List (List C) → List (List C) → Int → Bool → Tr} {R : Type} {k : V → Bx → Option R} {r : R} (h : (onR x f).run k = some r) : ∃ s kept cache left dark, x = rt s kept cache left dark ∧ (f s kept cache left dark).run k = some r := by
  unfold onR at h
  split at h
  · exact ⟨_, _, _, _, _, rfl, h⟩
  · cases h
theorem leftOk_parts {left : Int} (h : leftOk left = true) : -1 ≤ left ∧ left ≤ 1099511627776 := by simpa [leftOk] using h
theorem rstep_ok : SpecOk Try.prog (fun _ => none) 26 stepR := by
  intro a b v b' h
  unfold stepR at h
  split at h
  · obtain ⟨s, kept, cache, left, dark, rfl, h⟩ := onR_run h
    rcases run_ite h with ⟨h1, h⟩ | ⟨_, h⟩
    · obtain ⟨l0, l1⟩ := leftOk_parts h1
      refine specAt mix vti_ok Try.func26 rfl (by kernel_rfl) (l := []) .nil (keep := false) (bor := fun i => memN i []) (drop := fun _ => false) 0 ((rstep_start _ _ _ _ _ _ _).trans ?_)
      cases hz : left == 0 with
      | true =>
        have : left = 0 := by simpa using hz
        subst this; rw [hz] at h; exact h
      | false =>
        rw [hz] at h
        rw [cond_false]
        cases hd : decide (left > 0) with
        | true =>
          rw [cond_true, w64 _ (by omega) (by omega)]
          have : decL left = left - 1 := by unfold decL; rw [hd]; rfl
          rw [this] at h; exact h
        | false =>
          rw [cond_false]
          have : decL left = left := by unfold decL; rw [hd]; rfl
          rw [this] at h; exact h
    · exact (run_no h).elim
  · cases h
theorem tabR1_ok : TabS Try.prog (fun _ => none) tabR1 := .cons rstep_ok .nil
theorem rnew_ok : SpecOk Try.prog (fun _ => none) 16 newR := by
  intro a b v b' h
  unfold newR at h
  split at h
  · rename_i n
    refine specAt mix vti_ok Try.func16 rfl (by kernel_rfl) (l := []) .nil (keep := false) (bor := fun i => memN i []) (drop := fun _ => false) 0 ((rnew_start _ _ _).trans ?_)
    cases hd : decide (n ≥ 4) with
    | true => rw [hd] at h; exact h
    | false => rw [hd] at h; exact h
  · cases h
theorem rpower_ok : SpecOk Try.prog (fun _ => none) 19 powerR := by
  intro a b v b' h
  unfold powerR at h
  split at h
  · rename_i x n
    obtain ⟨s, kept, cache, left, dark, rfl, h⟩ := onR_run h
    refine specAt mix vti_ok Try.func19 rfl (by kernel_rfl) tabR1_ok (keep := false) (bor := fun i => memN i []) (drop := fun _ => false) 0 ((rpower_start _ _ _ _ _ _ _ _).trans ?_)
    unfold powerIn at h
    cases h1 : decide (n < 0) with
    | true => rw [h1] at h; exact h
    | false =>
      rw [h1] at h
      cases h2 : decide (n > 1099511627776) with
      | true => rw [h2] at h; exact h
      | false => rw [h2] at h; exact h
  · cases h
structure OkR (s : Int) (kept cache : List (List C)) : Prop where
  s0 : 0 ≤ s
  s1 : s ≤ 4096
  k : ∀ e ∈ kept, cwOk s.toNat e = true
  c : ∀ e ∈ cache, cwOk s.toNat e = true
  kl : kept.length < 1000000
  cl : cache.length < 1000000
theorem okR_iff {s : Int} {kept cache : List (List C)} : okR s kept cache = true ↔ OkR s kept cache := by
  simp only [okR, Bool.and_eq_true, List.all_eq_true, decide_eq_true_eq]
  exact ⟨fun h => ⟨h.1.1.1.1.1, h.1.1.1.1.2, h.1.1.1.2, h.1.1.2, h.1.2, h.2⟩, fun h => ⟨⟨⟨⟨⟨h.s0, h.s1⟩, h.k⟩, h.c⟩, h.kl⟩, h.cl⟩⟩
theorem rflush_ok : SpecOk Try.prog (fun _ => none) 18 flushR := by
  intro a b v b' h
  unfold flushR at h
  split at h
  · obtain ⟨s, kept, cache, left, dark, rfl, h⟩ := onR_run h
    rcases run_ite h with ⟨h1, h⟩ | ⟨_, h⟩
    · rw [Bool.and_eq_true] at h1
      have hok := okR_iff.1 h1.1
      have hkl := hok.kl
      have hcl := hok.cl
      refine specAt mix vti_ok Try.func18 rfl (by kernel_rfl) tabR1_ok (keep := false) (bor := fun i => memN i []) (drop := fun _ => false) 0 ((rflush_start _ _ _ _ _ _ _).trans ?_)
      have z1 : decide (kept.length * 136 ≤ 140737488355328 ∧ kept.length ≤ 9223372036854775807) = true := by simp only [decide_eq_true_eq]; omega
      have z2 : decide (cache.length * 136 ≤ 140737488355328 ∧ cache.length ≤ 9223372036854775807) = true := by simp only [decide_eq_true_eq]; omega
      have z3 : decide ((kept.length + cache.length) * 136 ≤ 140737488355328 ∧ kept.length + cache.length ≤ 9223372036854775807) = true := by simp only [decide_eq_true_eq]; omega
      rw [h1.2, cond_true, z1, z2, z3]
      cases hz : left == 0 with
      | true => rw [hz] at h; exact h
      | false =>
        rw [hz] at h
        simp only [Bool.not_false, Bool.not_true, cond_false, cond_true] at h ⊢
        cases kept with
        | nil =>
          cases cache with
          | nil => exact h
          | cons c r => exact h
        | cons e q => exact h
    · exact (run_no h).elim
  · cases h

theorem isBE_parts {e : List C} (h : isBE e = true) : ∃ m : Int, e = [C.int .u8 m] := by
  match e, h with
  | [c], h =>
    have h : isB c = true := h
    cases c with
    | int k n => cases k <;> first | exact ⟨_, rfl⟩ | exact absurd h (by simp [isB])
    | _ => exact absurd h (by simp [isB])
theorem rput_loop {R : Type} (K : X → St → Option R) (F : Nat) (s : Int) (kept cache : List (List C)) (left : Int) (dark : Bool) (at_ : Int) (bels : List (List C)) (hb : bels.all isBE = true) (hl : bels.length ≤ 128) :
    ∀ (n i : Nat), i ≤ bels.length → bels.length - i < n →
    rput_L0 K F n s kept cache left dark bels i (C.int .i64 at_ :: ((bels.take i).map (fun e => e.getD 0 .nf) ++ List.replicate (128 - i) (C.int .u8 0))) = K (.ex 0) (rput_E1 s kept cache left dark bels bels.length (mkW at_ bels)) := by
  intro n
  induction n with
  | zero => intro i hi h; omega
  | succ n ih =>
    intro i hi hn
    rw [rput_r0]
    by_cases hlt : i < bels.length
    · have hget : bels[i]? = some bels[i] := List.getElem?_eq_getElem hlt
      have hbe := List.all_eq_true.1 hb _ (List.getElem_mem hlt)
      have hz : ∃ m : Int, bels[i] = [C.int .u8 m] := isBE_parts hbe
      obtain ⟨m, hm⟩ := hz
      rw [hm] at hget
      have d1 : decide ((i : Int) < (bels.length : Int)) = true := by simpa using hlt
      have d2 : decide ((0 : Int) ≤ (i : Int)) = true := by simp
      have d3 : decide ((0 : Int) ≤ (i : Int) ∧ (i : Int) < 128) = true := by simp only [decide_eq_true_eq]; omega
      have d4 : (1 + i * 1 + 1).ble 129 = true := by rw [Nat.ble_eq]; omega
      rw [d1, cond_true, d2, cond_true, getT_at rfl hget]
      have e1 : ∀ {γ : Type} (k : C → Option γ), getT [C.int .u8 m] 0 k = k (C.int .u8 m) := fun k => rfl
      have e2 : shOk [Sh.int IntKind.u8] [C.int .u8 m] = true := rfl
      have e3 : ([C.int .u8 m].getD 0 C.nf).toInt = m := rfl
      rw [e1, e2, cond_true, d3, cond_true, e3, Int.toNat_natCast, d4, cond_true, w64 _ (by omega) (by omega)]
      have := ih (i + 1) (by omega) (by omega)
      rw [show ((i + 1 : Nat) : Int) = (i : Int) + 1 from rfl] at this
      refine Eq.trans (congrArg (fun z => rput_L0 K F n s kept cache left dark bels ((i : Int) + 1) z) ?_) this
      have hpre : ((bels.take i).map (fun e => e.getD 0 C.nf)).length = i := by simp; omega
      have hrep : List.replicate (128 - i) (C.int IntKind.u8 0) = C.int .u8 0 :: List.replicate (128 - (i + 1)) (C.int .u8 0) := by
        rw [show 128 - i = (128 - (i + 1)) + 1 by omega, List.replicate_succ]
      have htk : (bels.take (i + 1)).map (fun e => e.getD 0 C.nf) = (bels.take i).map (fun e => e.getD 0 C.nf) ++ [C.int .u8 m] := by
        rw [List.take_add_one, hget, List.map_append]; rfl
      rw [htk, hrep]
      have t1 : List.take (1 + i * 1) (C.int IntKind.i64 at_ :: ((bels.take i).map (fun e => e.getD 0 C.nf) ++ C.int .u8 0 :: List.replicate (128 - (i + 1)) (C.int .u8 0))) = C.int .i64 at_ :: (bels.take i).map (fun e => e.getD 0 C.nf) := by
        rw [show 1 + i * 1 = i + 1 by omega, List.take_succ_cons, List.take_append_of_le_length (by omega), List.take_of_length_le (by omega)]
      have t2 : List.drop (1 + i * 1 + 1) (C.int IntKind.i64 at_ :: ((bels.take i).map (fun e => e.getD 0 C.nf) ++ C.int .u8 0 :: List.replicate (128 - (i + 1)) (C.int .u8 0))) = List.replicate (128 - (i + 1)) (C.int .u8 0) := by
        rw [show 1 + i * 1 + 1 = (i + 1) + 1 by omega, List.drop_succ_cons, List.drop_append, List.drop_eq_nil_of_le (by omega), hpre]
        simp
      rw [t1, t2]; simp
    · have : i = bels.length := by omega
      subst this
      have d1 : decide ((bels.length : Int) < (bels.length : Int)) = false := by simp
      rw [d1, cond_false, List.take_length]; rfl

theorem rput_ok : SpecOk Try.prog (fun _ => none) 17 putR := by
  intro a b v b' h
  unfold putR at h
  split at h
  · rename_i x at_ bels
    obtain ⟨s, kept, cache, left, dark, rfl, h⟩ := onR_run h
    rcases run_ite h with ⟨h1, h⟩ | ⟨_, h⟩
    · rw [Bool.and_eq_true, Bool.and_eq_true] at h1
      obtain ⟨⟨h1, hl⟩, hb⟩ := h1
      have hok := okR_iff.1 h1
      have hcl := hok.cl
      refine specAt mix vti_ok Try.func17 rfl (by kernel_rfl) tabR1_ok (keep := false) (bor := fun i => memN i []) (drop := (fun i => !memN i [2, 3, 6, 9, 36, 37])) 200 ((rput_start _ _ _ _ _ _ _ _ _).trans ?_)
      unfold pIn at h
      cases p1 : decide (at_ < 0) with
      | true => rw [p1] at h; exact h
      | false =>
        cases p2 : decide (at_ ≥ s) with
        | true => rw [p1, p2] at h; exact h
        | false =>
          cases p3 : decide ((bels.length : Int) > 128) with
          | true => rw [p1, p2, p3] at h; exact h
          | false =>
            rw [p1, p2, p3] at h
            simp only [decide_eq_false_iff_not] at p3
            rw [cond_false, cond_false, cond_false, hl, cond_true]
            cases hz : left == 0 with
            | true => rw [hz] at h; simp only [Bool.not_false, Bool.not_true, Bool.and_self, Bool.and_false, Bool.true_and, cond_true, cond_false, Bool.and_true] at h ⊢; exact h
            | false =>
              rw [hz] at h
              simp only [Bool.not_false, Bool.not_true, Bool.and_self, Bool.and_false, Bool.true_and, cond_true, cond_false, Bool.and_true, Bool.false_or] at h ⊢
              have hlp := rput_loop (rput_K0 fin2 200) 200 s kept cache left dark at_ bels hb (by omega) 200 0 (by omega) (by omega)
              have hs0 : (C.int .i64 at_ :: ((bels.take 0).map (fun e => e.getD 0 C.nf) ++ List.replicate (128 - 0) (C.int .u8 0))) = C.int .i64 at_ :: List.replicate 128 (C.int .u8 0) := rfl
              rw [hs0] at hlp
              refine hlp.trans ?_
              rw [rput_c1]
              have z2 : decide (cache.length * 136 ≤ 140737488355328 ∧ cache.length ≤ 9223372036854775807) = true := by simp only [decide_eq_true_eq]; omega
              have z3 : decide ((cache.length + 1) * 136 ≤ 140737488355328 ∧ cache.length + 1 ≤ 9223372036854775807) = true := by simp only [decide_eq_true_eq]; omega
              have ht : List.take 129 (mkW at_ bels) = mkW at_ bels := List.take_of_length_le (by simp [mkW]; omega)
              rw [z2, z3, ht, hz]
              cases cache with
              | nil => exact h
              | cons c r => exact h
    · exact (run_no h).elim
  · cases h

/-! read -/
theorem cw_split {n : Nat} {e : List C} (h : cwOk n e = true) : ∃ c r, e = c :: r ∧ shOk [Sh.int IntKind.i64] [c] = true ∧ ([c].getD 0 C.nf).toInt = atE e ∧ r.length = 128 ∧ shOk [Sh.run 128] r = true ∧ secOk r = true := by
  obtain ⟨h1, h2, h3, h4, h5⟩ := cwOk_parts h
  match e, h1 with
  | c :: r, h1 =>
    have hs := secOk_len h5
    refine ⟨c, r, rfl, ?_, rfl, hs, ?_, h5⟩
    · have h2 := h2
      cases c with
      | int k n => cases k <;> first | rfl | (exfalso; simp [shOk, shOkGo, shLen, Sh.len, Sh.ok] at h2)
      | _ => exfalso; simp [shOk, shOkGo, shLen, Sh.len, Sh.ok] at h2
    · have hs : r.length = 128 := hs
      simp [shOk, shLen, Sh.len, hs, shOkGo]
theorem rread_loop0 {R : Type} (K : X → St → Option R) (F : Nat) (s : Int) (kept cache : List (List C)) (left : Int) (dark : Bool) (at_ : Int) (hk : ∀ e ∈ kept, cwOk s.toNat e = true) (hl : kept.length < 1000000) : ∀ (n i : Nat) (b : List C), i ≤ kept.length → kept.length - i < n → b.length = 128 →
    rread_L0 K F n s kept cache left dark at_ i b = K (.ex 0) (rread_E1 s kept cache left dark at_ kept.length (readW at_ b (kept.drop i))) := by
  intro n
  induction n with
  | zero => intro i b hi h; omega
  | succ n ih =>
    intro i b hi hn hb
    rw [rread_r0]
    by_cases hlt : i < kept.length
    · have hget : kept[i]? = some kept[i] := List.getElem?_eq_getElem hlt
      have hmem : kept[i] ∈ kept := List.getElem_mem hlt
      generalize hE : kept[i] = e at hget hmem
      rw [drop_cons hget]
      obtain ⟨c, r, rfl, h1, h2, h3, h4, h5⟩ := cw_split (hk e hmem)
      have d1 : decide ((i : Int) < (kept.length : Int)) = true := by simpa using hlt
      have d2 : decide ((0 : Int) ≤ (i : Int)) = true := by simp
      have ht : List.take 128 r = r := List.take_of_length_le (by omega)
      have hdz : List.drop 128 b = [] := List.drop_eq_nil_of_le (by omega)
      have e1 : ∀ {γ : Type} (k : C → Option γ), getT (c :: r) 0 k = k c := fun k => rfl
      have e2 : List.drop 1 (c :: r) = r := rfl
      rw [d1, cond_true, d2, cond_true, getT_at rfl hget, e1, h1, cond_true, h2, getT_at rfl hget, e2, ht, h3, beq_self_eq_true, cond_true, h4, cond_true, hdz, List.append_nil, List.append_nil, ht, w64 _ (by omega) (by omega)]
      simp only [readW]
      cases hq : atE (c :: r) == at_ with
      | true => rw [cond_true, cond_true]; exact ih (i + 1) _ (by omega) (by omega) h3
      | false => rw [cond_false, cond_false]; exact ih (i + 1) _ (by omega) (by omega) hb
    · have : i = kept.length := by omega
      subst this
      have d1 : decide ((kept.length : Int) < (kept.length : Int)) = false := by simp
      rw [d1, cond_false, List.drop_length]
      rfl
theorem rread_loop1 {R : Type} (K : X → St → Option R) (F : Nat) (s : Int) (kept cache : List (List C)) (left : Int) (dark : Bool) (at_ : Int) (v3 : Int) (hk : ∀ e ∈ cache, cwOk s.toNat e = true) (hl : cache.length < 1000000) : ∀ (n i : Nat) (b : List C), i ≤ cache.length → cache.length - i < n → b.length = 128 →
    rread_L1 K F n s kept cache left dark at_ v3 i b = K (.ex 2) (rread_E2 s kept cache left dark at_ v3 cache.length (readW at_ b (cache.drop i))) := by
  intro n
  induction n with
  | zero => intro i b hi h; omega
  | succ n ih =>
    intro i b hi hn hb
    rw [rread_r1]
    by_cases hlt : i < cache.length
    · have hget : cache[i]? = some cache[i] := List.getElem?_eq_getElem hlt
      have hmem : cache[i] ∈ cache := List.getElem_mem hlt
      generalize hE : cache[i] = e at hget hmem
      rw [drop_cons hget]
      obtain ⟨c, r, rfl, h1, h2, h3, h4, h5⟩ := cw_split (hk e hmem)
      have d1 : decide ((i : Int) < (cache.length : Int)) = true := by simpa using hlt
      have d2 : decide ((0 : Int) ≤ (i : Int)) = true := by simp
      have ht : List.take 128 r = r := List.take_of_length_le (by omega)
      have hdz : List.drop 128 b = [] := List.drop_eq_nil_of_le (by omega)
      have e1 : ∀ {γ : Type} (k : C → Option γ), getT (c :: r) 0 k = k c := fun k => rfl
      have e2 : List.drop 1 (c :: r) = r := rfl
      rw [d1, cond_true, d2, cond_true, getT_at rfl hget, e1, h1, cond_true, h2, getT_at rfl hget, e2, ht, h3, beq_self_eq_true, cond_true, h4, cond_true, hdz, List.append_nil, List.append_nil, ht, w64 _ (by omega) (by omega)]
      simp only [readW]
      cases hq : atE (c :: r) == at_ with
      | true => rw [cond_true, cond_true]; exact ih (i + 1) _ (by omega) (by omega) h3
      | false => rw [cond_false, cond_false]; exact ih (i + 1) _ (by omega) (by omega) hb
    · have : i = cache.length := by omega
      subst this
      have d1 : decide ((cache.length : Int) < (cache.length : Int)) = false := by simp
      rw [d1, cond_false, List.drop_length]
      rfl

theorem zsecR_len : zsec.length = 128 := List.length_replicate ..
theorem zsecR_ok : secOk zsec = true := by
  unfold secOk
  rw [zsecR_len, beq_self_eq_true, Bool.true_and, List.all_eq_true]
  intro c hc
  rw [List.eq_of_mem_replicate hc]; rfl
theorem rread_ok : SpecOk Try.prog (fun _ => none) 22 readR := by
  intro a b v b' h
  unfold readR at h
  split at h
  · rename_i x at_
    obtain ⟨s, kept, cache, left, dark, rfl, h⟩ := onR_run h
    rcases run_ite h with ⟨h1, h⟩ | ⟨_, h⟩
    · have hok := okR_iff.1 h1
      have l1 : (readW at_ zsec kept).length = 128 := secOk_len (readW_len at_ kept zsec hok.k zsecR_ok)
      have l2 : (readW at_ (readW at_ zsec kept) cache).length = 128 := secOk_len (readW_len at_ cache _ hok.c (readW_len at_ kept zsec hok.k zsecR_ok))
      refine specAt mix vti_ok Try.func22 rfl (by kernel_rfl) tabR1_ok (keep := false) (bor := fun i => memN i []) (drop := (fun i => !memN i [1, 2, 4, 5, 11, 12, 32, 33])) (kept.length + cache.length + 1) ((rread_start _ _ _ _ _ _ _ _).trans ?_)
      refine (rread_loop0 _ _ s kept cache left dark at_ hok.k hok.kl _ 0 zsec (by omega) (by omega) zsecR_len).trans ?_
      rw [rread_c1]
      refine (rread_loop1 _ _ s kept cache left dark at_ _ hok.c hok.cl _ 0 _ (by omega) (by omega) l1).trans ?_
      have hz : List.take 128 (List.take 128 (readW at_ (readW at_ zsec kept) cache) ++ []) = readW at_ (readW at_ zsec kept) cache := by
        rw [List.append_nil, List.take_take, List.take_of_length_le (by omega)]
      refine (rread_c2 ..).trans ?_
      rw [show List.drop 0 cache = cache from rfl, hz]
      exact h
    · exact (run_no h).elim
  · cases h
end Go.Proofs.Ytjkiipkghkpihaa
