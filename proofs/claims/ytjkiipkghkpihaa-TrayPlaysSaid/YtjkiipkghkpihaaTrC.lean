/- tray: each function answers by its tree -/
import Derived.Test.YtjkiipkghkpihaaTrB
namespace Go.Proofs.Ytjkiipkghkpihaa
open Go Vm
theorem mix : Try.prog.follows .mixedOrders = true := by kernel_rfl
theorem onTray_run {b : Bx} {f : List (List C) → List (List C) → Int → Bool → Tr} {R : Type} {k : V → Bx → Option R} {r : R} (h : (onTray b f).run k = some r) : ∃ kept cache left dark, b = trayB kept cache left dark ∧ (f kept cache left dark).run k = some r := by
  unfold onTray at h
  split at h
  · exact ⟨_, _, _, _, rfl, h⟩
  · cases h

theorem has_ok : SpecOk Try.prog (fun _ => none) 23 hasS := by
  refine specOk mix vti_ok Try.func23 rfl (by kernel_rfl) (l := []) .nil (keep := false) (bor := fun i => memN i []) (drop := fun _ => false) (fun a b v b' h => ?_)
  unfold hasS at h
  split at h
  · obtain ⟨kept, cache, left, dark, rfl, h⟩ := onTray_run h
    refine ⟨0, (has_start _ _ _ _ _ _ _).trans ?_⟩
    exact h
  · cases h
theorem step_ok : SpecOk Try.prog (fun _ => none) 24 stepS := by
  refine specOk mix vti_ok Try.func24 rfl (by kernel_rfl) (l := []) .nil (keep := false) (bor := fun i => memN i []) (drop := fun _ => false) (fun a b v b' h => ?_)
  unfold stepS at h
  split at h
  · obtain ⟨kept, cache, left, dark, rfl, h⟩ := onTray_run h
    exact ⟨0, (step_start _ _ _ _ _ _).trans h⟩
  · cases h
theorem cached_ok : SpecOk Try.prog (fun _ => none) 13 cachedS := by
  refine specOk mix vti_ok Try.func13 rfl (by kernel_rfl) (l := []) .nil (keep := false) (bor := fun i => memN i []) (drop := fun _ => false) (fun a b v b' h => ?_)
  unfold cachedS at h
  split at h
  · obtain ⟨kept, cache, left, dark, rfl, h⟩ := onTray_run h
    exact ⟨0, (cached_start _ _ _ _ _ _).trans h⟩
  · cases h
theorem dark_ok : SpecOk Try.prog (fun _ => none) 14 darkS := by
  refine specOk mix vti_ok Try.func14 rfl (by kernel_rfl) (l := []) .nil (keep := false) (bor := fun i => memN i []) (drop := fun _ => false) (fun a b v b' h => ?_)
  unfold darkS at h
  split at h
  · obtain ⟨kept, cache, left, dark, rfl, h⟩ := onTray_run h
    exact ⟨0, (dark_start _ _ _ _ _ _).trans h⟩
  · cases h
theorem sectors_ok : SpecOk Try.prog (fun _ => none) 21 sectorsS := by
  refine specOk mix vti_ok Try.func21 rfl (by kernel_rfl) (l := []) .nil (keep := false) (bor := fun i => memN i []) (drop := fun _ => false) (fun a b v b' h => ?_)
  unfold sectorsS at h
  split at h
  · obtain ⟨kept, cache, left, dark, rfl, h⟩ := onTray_run h
    exact ⟨0, (sectors_start _ _ _ _ _ _).trans h⟩
  · cases h
theorem power_ok : SpecOk Try.prog (fun _ => none) 15 powerS := by
  refine specOk mix vti_ok Try.func15 rfl (by kernel_rfl) (l := []) .nil (keep := false) (bor := fun i => memN i []) (drop := fun _ => false) (fun a b v b' h => ?_)
  unfold powerS at h
  split at h
  · obtain ⟨kept, cache, left, dark, rfl, h⟩ := onTray_run h
    exact ⟨0, (power_start _ _ _ _ _ _ _).trans h⟩
  · cases h
theorem new_ok : SpecOk Try.prog (fun _ => none) 7 newS := by
  refine specOk mix vti_ok Try.func7 rfl (by kernel_rfl) (l := []) .nil (keep := false) (bor := fun i => memN i []) (drop := fun _ => false) (fun a b v b' h => ?_)
  unfold newS at h
  split at h
  · rename_i n
    refine ⟨0, (new__start _ _ _).trans ?_⟩
    rcases run_ite h with ⟨h1, h⟩ | ⟨h1, h⟩
    · rw [h1]; exact h
    · rw [h1, cond_false]
      rcases run_ite h with ⟨h2, h⟩ | ⟨h2, h⟩
      · rw [h2]; exact h
      · rw [h2, cond_false]
        have : mkOk n n 128 = true := by
          simp only [decide_eq_false_iff_not] at h1 h2
          refine decide_eq_true ⟨rfl, by omega, ?_, by omega⟩
          show (128 : Int) * n ≤ _
          omega
        rw [this]
        exact h
  · cases h

/-! settle -/
theorem cwOk_parts {n : Nat} {e : List C} (h : cwOk n e = true) : e.length = 129 ∧ shOk [Sh.int .i64, Sh.run 128] e = true ∧ 0 ≤ atE e ∧ (atE e).toNat < n ∧ secOk (e.drop 1) = true := by
  simp only [cwOk, Bool.and_eq_true, beq_iff_eq, decide_eq_true_eq] at h
  exact ⟨h.1.1.1.1, h.1.1.1.2, h.1.1.2, h.1.2, h.2⟩
theorem secOk_len {s : List C} (h : secOk s = true) : s.length = 128 := by
  simp only [secOk, Bool.and_eq_true, beq_iff_eq] at h; exact h.1
structure OkT (kept cache : List (List C)) : Prop where
  sec : ∀ s ∈ kept, secOk s = true
  cw : ∀ e ∈ cache, cwOk kept.length e = true
  kl : kept.length ≤ 4096
  cl : cache.length < 1000000
theorem okT_iff {kept cache : List (List C)} : okT kept cache = true ↔ OkT kept cache := by
  simp only [okT, Bool.and_eq_true, List.all_eq_true, decide_eq_true_eq]
  exact ⟨fun h => ⟨h.1.1.1, h.1.1.2, h.1.2, h.2⟩, fun h => ⟨⟨⟨h.sec, h.cw⟩, h.kl⟩, h.cl⟩⟩

theorem OkT.set {kept : List (List C)} {e : List C} {r : List (List C)} (h : OkT kept (e :: r)) : OkT (kept.set (atE e).toNat (e.drop 1)) r := by
  have he := cwOk_parts (h.cw e (by simp))
  refine ⟨fun s hs => ?_, fun e' he' => by rw [List.length_set]; exact h.cw e' (by simp [he']), by rw [List.length_set]; exact h.kl, by have := h.cl; simp at this; omega⟩
  rcases List.mem_or_eq_of_mem_set hs with h1 | h1
  · exact h.sec s h1
  · rw [h1]; exact he.2.2.2.2
theorem settleP_len : ∀ (cache kept : List (List C)), (settleP kept cache).length = kept.length := by
  intro cache
  induction cache with
  | nil => intro kept; rfl
  | cons e r ih => intro kept; simp only [settleP]; rw [ih, List.length_set]
theorem OkT.settle : ∀ {cache kept : List (List C)}, OkT kept cache → OkT (settleP kept cache) [] := by
  intro cache
  induction cache with
  | nil => intro kept h; exact h
  | cons e r ih => intro kept h; exact ih h.set

theorem drop_cons {α : Type} {l : List α} {i : Nat} {e : α} (h : l[i]? = some e) : l.drop i = e :: l.drop (i + 1) := by
  have hl : i < l.length := (List.getElem?_eq_some_iff.1 h).1
  rw [List.drop_eq_getElem_cons hl]
  congr 1
  rw [List.getElem?_eq_getElem hl] at h; exact Option.some.inj h

theorem settle_loop {R : Type} (K : X → St → Option R) (F : Nat) (cache : List (List C)) (hc : cache.length < 1000000) : ∀ (n i : Nat) (kept : List (List C)), i ≤ cache.length → cache.length - i < n → OkT kept (cache.drop i) →
    settle_L0 K F n cache i kept = K (.ex 0) (settle_E1 cache cache.length (settleP kept (cache.drop i))) := by
  intro n
  induction n with
  | zero => intro i kept hi h; omega
  | succ n ih =>
    intro i kept hi hn hok
    rw [settle_r0]
    by_cases hlt : i < cache.length
    · have hget : cache[i]? = some cache[i] := List.getElem?_eq_getElem hlt
      generalize hE : cache[i] = e at hget
      rw [drop_cons hget] at hok ⊢
      obtain ⟨h1, h2, h3, h4, h5⟩ := cwOk_parts (hok.cw e (by simp))
      have ht : List.take 129 e = e := List.take_of_length_le (by omega)
      have hk := List.getElem?_eq_getElem h4
      have d1 : decide ((i : Int) < (cache.length : Int)) = true := by simpa using hlt
      have d2 : decide ((0 : Int) ≤ (i : Int)) = true := by simp
      have d3 : decide ((0 : Int) ≤ (e.getD 0 .nf).toInt) = true := by simpa [atE] using h3
      have hs := secOk_len h5
      have h128 : List.take 128 (List.take 128 (List.drop 1 e) ++ [] ++ []) = List.drop 1 e := by
        rw [List.append_nil, List.append_nil, List.take_take]; exact List.take_of_length_le (by simp at hs ⊢; omega)
      have hz : ((0 : Nat) + (List.drop 1 e).length) = 128 := by simp at hs ⊢; omega
      have hdz : List.drop 128 kept[(atE e).toNat] = [] := List.drop_eq_nil_of_le (by rw [secOk_len (hok.sec _ (List.getElem_mem h4))]; omega)
      rw [d1, cond_true, d2, cond_true, getT_at rfl hget, getT_at rfl hget, ht, h1, beq_self_eq_true, cond_true, h2, cond_true, d3, cond_true]
      rw [show (e.getD 0 .nf).toInt.toNat = (atE e).toNat from rfl, getT_some hk, getT_some hk, h128, hz, hdz, List.append_nil, w64 _ (by omega) (by omega)]
      exact ih (i + 1) _ (by omega) (by omega) hok.set
    · have : i = cache.length := by omega
      subst this
      have d1 : decide ((cache.length : Int) < (cache.length : Int)) = false := by simp
      rw [d1, cond_false, List.drop_length]
      rfl

theorem settle2_loop {R : Type} (K : X → St → Option R) (F : Nat) (cache : List (List C)) (hc : cache.length < 1000000) : ∀ (n i : Nat) (kept : List (List C)), i ≤ cache.length → cache.length - i < n → OkT kept (cache.drop i) →
    settle2_L0 K F n cache i kept = K (.ex 0) (settle2_E1 cache cache.length (settleP kept (cache.drop i))) := by
  intro n
  induction n with
  | zero => intro i kept hi h; omega
  | succ n ih =>
    intro i kept hi hn hok
    rw [settle2_r0]
    by_cases hlt : i < cache.length
    · have hget : cache[i]? = some cache[i] := List.getElem?_eq_getElem hlt
      generalize hE : cache[i] = e at hget
      rw [drop_cons hget] at hok ⊢
      obtain ⟨h1, h2, h3, h4, h5⟩ := cwOk_parts (hok.cw e (by simp))
      have ht : List.take 129 e = e := List.take_of_length_le (by omega)
      have hk := List.getElem?_eq_getElem h4
      have d1 : decide ((i : Int) < (cache.length : Int)) = true := by simpa using hlt
      have d2 : decide ((0 : Int) ≤ (i : Int)) = true := by simp
      have d3 : decide ((0 : Int) ≤ (e.getD 0 .nf).toInt) = true := by simpa [atE] using h3
      have hs := secOk_len h5
      have h128 : List.take 128 (List.take 128 (List.drop 1 e) ++ [] ++ []) = List.drop 1 e := by
        rw [List.append_nil, List.append_nil, List.take_take]; exact List.take_of_length_le (by simp at hs ⊢; omega)
      have hz : ((0 : Nat) + (List.drop 1 e).length) = 128 := by simp at hs ⊢; omega
      have hdz : List.drop 128 kept[(atE e).toNat] = [] := List.drop_eq_nil_of_le (by rw [secOk_len (hok.sec _ (List.getElem_mem h4))]; omega)
      rw [d1, cond_true, d2, cond_true, getT_at rfl hget, ht, h1, beq_self_eq_true, cond_true, h2, cond_true, d3, cond_true]
      rw [show (e.getD 0 .nf).toInt.toNat = (atE e).toNat from rfl, getT_some hk, getT_some hk, h128, hz, hdz, List.append_nil, w64 _ (by omega) (by omega)]
      exact ih (i + 1) _ (by omega) (by omega) hok.set
    · have : i = cache.length := by omega
      subst this
      have d1 : decide ((cache.length : Int) < (cache.length : Int)) = false := by simp
      rw [d1, cond_false, List.drop_length]
      rfl

theorem settle_ok : SpecOk Try.prog (fun _ => none) 25 settleS := by
  intro a b v b' h
  unfold settleS at h
  split at h
  · rename_i kept cache
    rcases run_ite h with ⟨h1, h⟩ | ⟨h1, h⟩
    · have hok := okT_iff.1 h1
      refine specAt mix vti_ok Try.func25 rfl (by kernel_rfl) (l := []) .nil (keep := false) (bor := fun i => memN i []) (drop := fun i => !memN i [0, 6, 7, 8]) (cache.length + 1) ((settle_start _ _ _ _).trans ?_)
      rw [show (0 : Int) = ((0 : Nat) : Int) from rfl, settle_loop _ _ _ hok.cl _ 0 _ (by omega) (by omega) hok, settle_c1]
      exact h
    · exact (run_no h).elim
  · rename_i cache kept
    rcases run_ite h with ⟨h1, h⟩ | ⟨h1, h⟩
    · have hok := okT_iff.1 h1
      refine specAt mix vti_ok Try.func25 rfl (by kernel_rfl) (l := []) .nil (keep := false) (bor := fun i => memN i []) (drop := fun i => !memN i [0, 6, 7, 8]) (cache.length + 1) ((settle2_start _ _ _ _).trans ?_)
      rw [show (0 : Int) = ((0 : Nat) : Int) from rfl, settle2_loop _ _ _ hok.cl _ 0 _ (by omega) (by omega) hok, settle2_c1]
      exact h
    · exact (run_no h).elim
  · cases h
theorem tab1_ok : TabS Try.prog (fun _ => none) tab1 := .cons has_ok (.cons step_ok (.cons settle_ok .nil))

theorem OkT.kept_at {kept cache : List (List C)} (h : OkT kept cache) {i : Nat} {s : List C} (hs : kept[i]? = some s) : secOk s = true := h.sec s (List.mem_of_getElem? hs)

theorem flush_ok : SpecOk Try.prog (fun _ => none) 10 flushS := by
  intro a b v b' h
  unfold flushS at h
  split at h
  · obtain ⟨kept, cache, left, dark, rfl, h⟩ := onTray_run h
    rcases run_ite h with ⟨h1, h⟩ | ⟨h1, h⟩
    · rw [Bool.and_eq_true] at h1
      obtain ⟨h1, hl⟩ := h1
      simp only [leftOk, Bool.and_eq_true, decide_eq_true_eq] at hl
      refine specAt mix vti_ok Try.func10 rfl (by kernel_rfl) tab1_ok (keep := false) (bor := fun i => memN i [14]) (drop := fun _ => false) 0 ((flush_start _ _ _ _ _ _).trans ?_)
      rcases run_ite h with ⟨h2, h⟩ | ⟨h2, h⟩
      · rw [h2]; exact h
      · rw [h2, cond_false]
        cases hd : decide (left > 0) with
        | true =>
          simp only [decide_eq_true_eq] at hd
          rw [cond_true, h1, cond_true, w64 _ (by omega) (by omega)]
          have : decL left = left - 1 := by simp [decL, hd]
          rw [this] at h; exact h
        | false =>
          simp only [decide_eq_false_iff_not] at hd
          rw [cond_false, h1, cond_true]
          have : decL left = left := by simp [decL, hd]
          rw [this] at h; exact h
    · exact (run_no h).elim
  · cases h

theorem mkW_eq (at_ : Int) (bels : List (List C)) (h : bels.length ≤ 128) :
    (C.int IntKind.i64 at_ :: List.take 128 (List.map (fun e => e.getD 0 C.nf) (List.take 128 bels) ++ List.drop (1 + bels.length.min 128) (C.int IntKind.i64 at_ :: List.replicate 128 (C.int IntKind.u8 0)))) = mkW at_ bels := by
  unfold mkW
  congr 1
  have h1 : List.take 128 bels = bels := List.take_of_length_le h
  have h2 : bels.length.min 128 = bels.length := Nat.min_eq_left h
  rw [h1, h2, Nat.add_comm 1, List.drop_succ_cons, List.drop_replicate]
  exact List.take_of_length_le (by simp; omega)

theorem write_ok : SpecOk Try.prog (fun _ => none) 9 writeS := by
  intro a b v b' h
  unfold writeS at h
  split at h
  · rename_i at_ bels
    obtain ⟨kept, cache, left, dark, rfl, h⟩ := onTray_run h
    rcases run_ite h with ⟨h1, h⟩ | ⟨h1, h⟩
    · simp only [Bool.and_eq_true] at h1
      obtain ⟨⟨h1, hb⟩, hl⟩ := h1
      have hok := okT_iff.1 h1
      have hcl := hok.cl
      simp only [leftOk, Bool.and_eq_true, decide_eq_true_eq] at hl
      refine specAt mix vti_ok Try.func9 rfl (by kernel_rfl) tab1_ok (keep := false) (bor := fun i => memN i []) (drop := fun _ => false) 0 ((write_start _ _ _ _ _ _ _ _).trans ?_)
      have hsz : decide ((cache.length + 1) * 136 ≤ 140737488355328 ∧ cache.length + 1 ≤ 9223372036854775807) = true := by simp only [decide_eq_true_eq]; omega
      simp only [hsz, cond_true]
      by_cases ha : at_ ≥ 0
      · by_cases hb2 : at_ < (kept.length : Int)
        · by_cases hb3 : (bels.length : Int) > 128
          · have hw : wIn kept at_ bels = false := by simp [wIn]; intro _; omega
            rw [hw] at h
            simp only [Bool.false_and, Bool.false_or, cond_false] at h
            simp only [ha, hb2, hb3, decide_true, cond_true, Bool.not_true, cond_false]
            rcases run_ite h with ⟨h2, h⟩ | ⟨_, h⟩
            · cases h2
            · exact h
          · have hw : wIn kept at_ bels = true := by simp [wIn, inR]; omega
            rw [hw] at h
            simp only [Bool.true_and, Bool.true_or, cond_true] at h
            simp only [ha, hb2, hb3, decide_true, cond_true, Bool.not_true, cond_false, decide_false]
            rw [mkW_eq _ _ (by omega)]
            rcases run_ite h with ⟨h2, h⟩ | ⟨h2, h⟩
            · rw [Bool.not_eq_true'] at h2
              rw [h2, cond_false]
              cases hd : decide (left > 0) with
              | true =>
                simp only [decide_eq_true_eq] at hd
                rw [cond_true, w64 _ (by omega) (by omega)]
                have : decL left = left - 1 := by simp [decL, hd]
                rw [this] at h; exact h
              | false =>
                simp only [decide_eq_false_iff_not] at hd
                rw [cond_false]
                have : decL left = left := by simp [decL, hd]
                rw [this] at h; exact h
            · simp only [Bool.not_eq_false'] at h2
              rw [h2]; exact h
        · have hw : wIn kept at_ bels = false := by simp [wIn, inR]; omega
          rw [hw] at h
          simp only [Bool.false_and, Bool.false_or, cond_false] at h
          simp only [ha, hb2, decide_true, cond_true, decide_false, Bool.not_false]
          rcases run_ite h with ⟨h2, h⟩ | ⟨_, h⟩
          · cases h2
          · exact h
      · have hw : wIn kept at_ bels = false := by simp [wIn, inR]; omega
        rw [hw] at h
        simp only [Bool.false_and, Bool.false_or, cond_false] at h
        simp only [ha, decide_false, cond_false]
        rcases run_ite h with ⟨h2, h⟩ | ⟨_, h⟩
        · cases h2
        · exact h
    · exact (run_no h).elim
  · cases h

/-! read -/
theorem readW_len (at_ : Int) {n : Nat} : ∀ (cache : List (List C)) (b : List C), (∀ e ∈ cache, cwOk n e = true) → secOk b = true → secOk (readW at_ b cache) = true := by
  intro cache
  induction cache with
  | nil => intro b _ h; exact h
  | cons e r ih =>
    intro b hc h
    refine ih _ (fun e' he' => hc e' (by simp [he'])) ?_
    cases atE e == at_ with
    | true => exact (cwOk_parts (hc e (by simp))).2.2.2.2
    | false => exact h

theorem read_loop {R : Type} (K : X → St → Option R) (F : Nat) (kept cache : List (List C)) (left : Int) (dark : Bool) (at_ : Int) (hok : OkT kept cache) : ∀ (n i : Nat) (b : List C), i ≤ cache.length → cache.length - i < n → b.length = 128 →
    read_L0 K F n kept cache left dark at_ i b = K (.ex 0) (read_E1 kept cache left dark at_ cache.length (readW at_ b (cache.drop i))) := by
  intro n
  have hcl := hok.cl
  induction n with
  | zero => intro i b hi h; omega
  | succ n ih =>
    intro i b hi hn hb
    rw [read_r0]
    by_cases hlt : i < cache.length
    · have hget : cache[i]? = some cache[i] := List.getElem?_eq_getElem hlt
      have hmem : cache[i] ∈ cache := List.getElem_mem hlt
      generalize hE : cache[i] = e at hget hmem
      rw [drop_cons hget]
      obtain ⟨h1, h2, h3, h4, h5⟩ := cwOk_parts (hok.cw e hmem)
      have ht : List.take 129 e = e := List.take_of_length_le (by omega)
      have d1 : decide ((i : Int) < (cache.length : Int)) = true := by simpa using hlt
      have d2 : decide ((0 : Int) ≤ (i : Int)) = true := by simp
      have hs := secOk_len h5
      have h128 : List.take 128 (List.take 128 (List.drop 1 e) ++ [] ++ []) = List.drop 1 e := by
        rw [List.append_nil, List.append_nil, List.take_take]; exact List.take_of_length_le (by simp at hs ⊢; omega)
      have hdz : List.drop 128 b = [] := List.drop_eq_nil_of_le (by omega)
      rw [d1, cond_true, d2, cond_true, getT_at rfl hget, getT_at rfl hget, ht, h1, beq_self_eq_true, cond_true, h2, cond_true]
      rw [show (e.getD 0 .nf).toInt = atE e from rfl, h128, hdz, List.append_nil, w64 _ (by omega) (by omega)]
      simp only [readW]
      cases atE e == at_ with
      | true => rw [cond_true, cond_true]; exact ih (i + 1) _ (by omega) (by omega) hs
      | false => rw [cond_false, cond_false]; exact ih (i + 1) _ (by omega) (by omega) hb
    · have : i = cache.length := by omega
      subst this
      have d1 : decide ((cache.length : Int) < (cache.length : Int)) = false := by simp
      rw [d1, cond_false, List.drop_length]
      rfl

theorem read_ok : SpecOk Try.prog (fun _ => none) 12 readS := by
  intro a b v b' h
  unfold readS at h
  split at h
  · rename_i at_
    obtain ⟨kept, cache, left, dark, rfl, h⟩ := onTray_run h
    rcases run_ite h with ⟨h1, h⟩ | ⟨h1, h⟩
    · have hok := okT_iff.1 h1
      refine specAt mix vti_ok Try.func12 rfl (by kernel_rfl) tab1_ok (keep := false) (bor := fun i => memN i [36]) (drop := fun i => !memN i [1, 6, 23, 24, 25]) (cache.length + 1) ((read_start _ _ _ _ _ _ _).trans ?_)
      by_cases ha : at_ ≥ 0
      · by_cases hb2 : at_ < (kept.length : Int)
        · have hin : inR kept at_ = true := by simp [inR]; omega
          rw [hin] at h
          simp only [cond_true] at h
          have hlt : at_.toNat < kept.length := by omega
          have hk := List.getElem?_eq_getElem hlt
          have hs := hok.sec _ (List.getElem_mem hlt)
          have hkd : kept.getD at_.toNat [] = kept[at_.toNat] := by rw [List.getD_eq_getElem?_getD, hk]; rfl
          simp only [readP, hkd] at h
          generalize kept[at_.toNat] = s at hk hs h
          have hl := secOk_len hs
          have ht : List.take 128 s = s := List.take_of_length_le (by omega)
          have hsh : shOk [Sh.run 128] s = true := by simp [shOk, shLen, Sh.len, hl, shOkGo]
          simp only [ha, hb2, decide_true, cond_true, Bool.not_true, cond_false]
          rw [getT_some hk, getT_some hk, ht, hl, beq_self_eq_true, cond_true, hsh, cond_true, List.append_nil, List.append_nil, ht]
          rw [show (0 : Int) = ((0 : Nat) : Int) from rfl, read_loop _ _ _ _ _ _ _ hok _ 0 _ (by omega) (by omega) hl, read_c1]
          exact h
        · have hin : inR kept at_ = false := by simp [inR]; omega
          rw [hin] at h
          simp only [ha, hb2, decide_true, cond_true, decide_false, Bool.not_false]
          exact h
      · have hin : inR kept at_ = false := by simp [inR]; omega
        rw [hin] at h
        simp only [ha, decide_false, cond_false]
        exact h
    · exact (run_no h).elim
  · cases h
/-! lose -/
theorem isBoolE_parts {c : List C} (h : isBoolE c = true) : ∃ b, c = [.bool b] := by
  unfold isBoolE at h
  split at h
  · exact ⟨_, rfl⟩
  · cases h
theorem OkT.one {kept cache kept' : List (List C)} (h : OkT kept cache) (h' : OkT kept' []) (hl : kept'.length = kept.length) {e : List C} (he : e ∈ cache) : OkT kept' [e] :=
  ⟨h'.sec, fun e' he' => by simp at he'; subst he'; rw [hl]; exact h.cw _ he, h'.kl, by simp⟩
theorem settleP_cons (kept : List (List C)) (e : List C) (r : List (List C)) : settleP kept (e :: r) = settleP (settleP kept [e]) r := rfl

theorem lose_loop {R : Type} (K : X → St → Option R) (F : Nat) (kept cache : List (List C)) (left : Int) (dark : Bool) (ch : List (List C)) (hok : OkT kept cache) (hch : ∀ c ∈ ch, isBoolE c = true) : ∀ (n i : Nat) (k2 : List (List C)), i ≤ cache.length → cache.length - i < n → OkT k2 [] → k2.length = kept.length →
    lose_L0 K F n kept cache left dark ch i k2 = K (.ex 0) (lose_E1 kept cache left dark ch cache.length (settleP k2 (chosen (cache.drop i) (ch.drop i)))) := by
  intro n
  have hcl := hok.cl
  induction n with
  | zero => intro i b hi h; omega
  | succ n ih =>
    intro i k2 hi hn hk2 hkl
    rw [lose_r0]
    by_cases hlt : i < cache.length
    · have hget : cache[i]? = some cache[i] := List.getElem?_eq_getElem hlt
      have hmem : cache[i] ∈ cache := List.getElem_mem hlt
      generalize hE : cache[i] = e at hget hmem
      rw [drop_cons hget]
      obtain ⟨h1, h2, h3, h4, h5⟩ := cwOk_parts (hok.cw e hmem)
      have ht : List.take 129 e = e := List.take_of_length_le (by omega)
      have d1 : decide ((i : Int) < (cache.length : Int)) = true := by simpa using hlt
      have d2 : decide ((0 : Int) ≤ (i : Int)) = true := by simp
      have hs := secOk_len h5
      have h128 : List.take 128 (List.take 128 (List.drop 1 e) ++ [] ++ []) = List.drop 1 e := by
        rw [List.append_nil, List.append_nil, List.take_take]; exact List.take_of_length_le (by simp at hs ⊢; omega)
      rw [d1, cond_true, d2, cond_true, getT_at rfl hget, getT_at rfl hget, ht, h1, beq_self_eq_true, cond_true, h2, cond_true]
      rw [h128, w64 _ (by omega) (by omega)]
      by_cases hc : i < ch.length
      · have hgc : ch[i]? = some ch[i] := List.getElem?_eq_getElem hc
        obtain ⟨bv, hbv⟩ := isBoolE_parts (hch _ (List.getElem_mem hc))
        rw [hbv] at hgc
        rw [drop_cons hgc]
        have d3 : decide ((i : Int) < (ch.length : Int)) = true := by simpa using hc
        rw [d3, cond_true, getT_at rfl hgc]
        have e1 : getT [C.bool bv] 0 = fun (k : C → Option R) => k (C.bool bv) := by funext k; rfl
        rw [e1]
        simp only [chosen]
        have e2 : shOk [Sh.bool] [C.bool bv] = true := rfl
        have e3 : ([C.bool bv].getD 0 C.nf).toBool = bv := rfl
        rw [e2, e3, cond_true]
        have hrec : (C.int IntKind.i64 (e.getD 0 C.nf).toInt :: List.drop 1 e) = e := by
          have := h2
          match e, h1, this with
          | .int k n :: r, _, h2 =>
            have : k = .i64 := by
              simp [shOk, shOkGo, Sh.ok] at h2
              exact h2.2.symm
            subst this; rfl
          | .bool _ :: r, _, h2 => simp [shOk, shOkGo, Sh.ok] at h2
          | .str _ :: r, _, h2 => simp [shOk, shOkGo, Sh.ok] at h2
          | .sl _ _ :: r, _, h2 => simp [shOk, shOkGo, Sh.ok] at h2
          | .ni :: r, _, h2 => simp [shOk, shOkGo, Sh.ok] at h2
          | .ifc _ _ _ :: r, _, h2 => simp [shOk, shOkGo, Sh.ok] at h2
          | .fn _ _ :: r, _, h2 => simp [shOk, shOkGo, Sh.ok] at h2
          | .nf :: r, _, h2 => simp [shOk, shOkGo, Sh.ok] at h2
          | .np :: r, _, h2 => simp [shOk, shOkGo, Sh.ok] at h2
          | .ip _ :: r, _, h2 => simp [shOk, shOkGo, Sh.ok] at h2
          | [], h1, _ => simp at h1
        rw [hrec]
        cases bv with
        | true =>
          have h1e : OkT k2 [e] := hok.one hk2 hkl hmem
          rw [cond_true, cond_true, okT_iff.2 h1e, cond_true, settleP_cons]
          exact ih (i + 1) (settleP k2 [e]) (by omega) (by omega) h1e.settle ((settleP_len _ _).trans hkl)
        | false =>
          rw [cond_false, cond_false]
          exact ih (i + 1) _ (by omega) (by omega) hk2 hkl
      · have d3 : decide ((i : Int) < (ch.length : Int)) = false := by simpa using hc
        rw [d3, cond_false]
        have e1 : ch.drop i = [] := List.drop_eq_nil_of_le (by omega)
        have e2 : ch.drop (i + 1) = [] := List.drop_eq_nil_of_le (by omega)
        have := ih (i + 1) k2 (by omega) (by omega) hk2 hkl
        rw [e1]; rw [e2] at this
        have e3 : ∀ l, chosen l [] = [] := fun l => by cases l <;> rfl
        rw [e3] at this ⊢
        exact this
    · have : i = cache.length := by omega
      subst this
      have d1 : decide ((cache.length : Int) < (cache.length : Int)) = false := by simp
      rw [d1, cond_false, List.drop_length]
      rfl

theorem lose_ok : SpecOk Try.prog (fun _ => none) 11 loseS := by
  intro a b v b' h
  unfold loseS at h
  split at h
  · rename_i ch
    obtain ⟨kept, cache, left, dark, rfl, h⟩ := onTray_run h
    rcases run_ite h with ⟨h1, h⟩ | ⟨h1, h⟩
    · rw [Bool.and_eq_true] at h1
      have hok := okT_iff.1 h1.1
      have hch := List.all_eq_true.1 h1.2
      have hkl := hok.kl
      refine specAt mix vti_ok Try.func11 rfl (by kernel_rfl) tab1_ok (keep := false) (bor := fun i => memN i [42]) (drop := fun i => !memN i [1, 5, 19, 20, 21]) (cache.length + 1) ((lose_start _ _ _ _ _ _ _).trans ?_)
      have hd : decide ((0 + kept.length) * 128 ≤ 140737488355328 ∧ 0 + kept.length ≤ 9223372036854775807) = true := by simp only [decide_eq_true_eq]; omega
      rw [hd, cond_true, show (0 : Int) = ((0 : Nat) : Int) from rfl, lose_loop _ _ _ _ _ _ _ hok hch _ 0 _ (by omega) (by omega) ⟨hok.sec, by simp, hok.kl, by simp⟩ rfl, lose_c1]
      exact h
    · exact (run_no h).elim
  · cases h

theorem awake_ok_of (h2 : TabS Try.prog (fun _ => none) tab2a) : SpecOk Try.prog (fun _ => none) 8 awakeS := by
  intro a b v b' h
  unfold awakeS at h
  split at h
  · refine specAt mix vti_ok Try.func8 rfl (by kernel_rfl) h2 (keep := false) (bor := fun i => memN i []) (drop := fun _ => false) 0 ((awake_start _ _).trans ?_)
    exact h
  · cases h
theorem tab2a_ok : TabS Try.prog (fun _ => none) tab2a := .cons new_ok (.cons write_ok (.cons flush_ok (.cons lose_ok (.cons read_ok (.cons cached_ok (.cons dark_ok (.cons power_ok (.cons sectors_ok .nil))))))))
theorem tab2_ok : TabS Try.prog (fun _ => none) tab2 := .cons new_ok (.cons (awake_ok_of tab2a_ok) (.cons write_ok (.cons flush_ok (.cons lose_ok (.cons read_ok (.cons cached_ok (.cons dark_ok (.cons power_ok (.cons sectors_ok .nil)))))))))
end Go.Proofs.Ytjkiipkghkpihaa
