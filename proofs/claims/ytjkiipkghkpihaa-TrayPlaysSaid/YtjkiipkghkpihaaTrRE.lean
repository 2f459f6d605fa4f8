/- the reference of tray: Lose answers by its tree -/
import Derived.Test.YtjkiipkghkpihaaTrRC
import Derived.Test.YtjkiipkghkpihaaTrRD
set_option linter.unusedVariables false
namespace Go.Proofs.Ytjkiipkghkpihaa
open Go Vm
theorem cw_rec {n : Nat} {e : List C} (h : cwOk n e = true) : (C.int IntKind.i64 (e.getD 0 C.nf).toInt :: List.drop 1 e) = e := by
  obtain ⟨c, r, rfl, h1, h2, _⟩ := cw_split h
  cases c with
  | int k n => cases k <;> first | rfl | (exfalso; simp [shOk, shOkGo, shLen, Sh.len, Sh.ok] at h1)
  | _ => exfalso; simp [shOk, shOkGo, shLen, Sh.len, Sh.ok] at h1

theorem rlose_loop {R : Type} (K : X → St → Option R) (F : Nat) (s : Int) (kept cache : List (List C)) (left : Int) (dark : Bool) (ch : List (List C)) (m0 : Nat) (hk : ∀ e ∈ cache, cwOk m0 e = true) (hcl : cache.length < 1000000) (hch : ∀ c ∈ ch, isBoolE c = true) : ∀ (n i : Nat) (k2 : List (List C)), i ≤ cache.length → cache.length - i < n → k2.length + (cache.length - i) < 2000000 →
    rlose_L0 K F n s kept cache left dark ch i k2 = K (.ex 0) (rlose_E1 s kept cache left dark ch cache.length (k2 ++ chosen (cache.drop i) (ch.drop i))) := by
  intro n
  induction n with
  | zero => intro i k2 hi h; omega
  | succ n ih =>
    intro i k2 hi hn hk2
    rw [rlose_r0]
    by_cases hlt : i < cache.length
    · have hget : cache[i]? = some cache[i] := List.getElem?_eq_getElem hlt
      have hmem : cache[i] ∈ cache := List.getElem_mem hlt
      generalize hE : cache[i] = e at hget hmem
      rw [drop_cons hget]
      obtain ⟨h1, h2, h3, h4, h5⟩ := cwOk_parts (hk e hmem)
      have hrec := cw_rec (hk e hmem)
      have ht : List.take 129 e = e := List.take_of_length_le (by omega)
      have d1 : decide ((i : Int) < (cache.length : Int)) = true := by simpa using hlt
      have d2 : decide ((0 : Int) ≤ (i : Int)) = true := by simp
      have hs := secOk_len h5
      have h128 : List.take 128 (List.drop 1 e) ++ [] = List.drop 1 e := by
        rw [List.append_nil]; exact List.take_of_length_le (by simp at hs ⊢; omega)
      rw [d1, cond_true, d2, cond_true, getT_at rfl hget, ht, h1, beq_self_eq_true, cond_true, h2, cond_true]
      rw [h128, hrec, w64 _ (by omega) (by omega)]
      by_cases hc : i < ch.length
      · have hgc : ch[i]? = some ch[i] := List.getElem?_eq_getElem hc
        obtain ⟨bv, hbv⟩ := isBoolE_parts (hch _ (List.getElem_mem hc))
        rw [hbv] at hgc
        rw [drop_cons hgc]
        have d3 : decide ((i : Int) < (ch.length : Int)) = true := by simpa using hc
        rw [d3, cond_true, getT_at rfl hgc]
        have e1 : getT [C.bool bv] 0 = fun (k : C → Option R) => k (C.bool bv) := by funext k; rfl
        rw [e1]
        simp only [chosen]
        have e2 : shOk [Sh.bool] [C.bool bv] = true := rfl
        have e3 : ([C.bool bv].getD 0 C.nf).toBool = bv := rfl
        rw [e2, e3, cond_true]
        cases bv with
        | true =>
          have z : decide ((k2.length + 1) * 136 ≤ 140737488355328 ∧ k2.length + 1 ≤ 9223372036854775807) = true := by simp only [decide_eq_true_eq]; omega
          simp only [cond_true, z]
          rw [show k2 ++ e :: chosen (cache.drop (i + 1)) (ch.drop (i + 1)) = (k2 ++ [e]) ++ chosen (cache.drop (i + 1)) (ch.drop (i + 1)) by simp]
          exact ih (i + 1) (k2 ++ [e]) (by omega) (by omega) (by simp; omega)
        | false =>
          rw [cond_false, cond_false]
          exact ih (i + 1) k2 (by omega) (by omega) (by omega)
      · have d3 : decide ((i : Int) < (ch.length : Int)) = false := by simpa using hc
        rw [d3, cond_false]
        have e1 : ch.drop i = [] := List.drop_eq_nil_of_le (by omega)
        have e2 : ch.drop (i + 1) = [] := List.drop_eq_nil_of_le (by omega)
        have := ih (i + 1) k2 (by omega) (by omega) (by omega)
        rw [e1]; rw [e2] at this
        have e3 : ∀ l, chosen l [] = [] := fun l => by cases l <;> rfl
        rw [e3] at this ⊢
        exact this
    · have : i = cache.length := by omega
      subst this
      have d1 : decide ((cache.length : Int) < (cache.length : Int)) = false := by simp
      rw [d1, cond_false, List.drop_length]
      rw [show chosen [] (ch.drop cache.length) = [] from rfl, List.append_nil]

/-- the state behind the loop, where nothing was kept ahead -/
def rlose_fin (s : Int) (kept cache : List (List C)) (left : Int) (dark : Bool) (ch : List (List C)) (v1 : Int) : List (List C) → St
  | [] => rlose_AE s kept cache left dark ch v1
  | e :: q => rlose_E1 s kept cache left dark ch v1 (e :: q)

theorem rlose_loopA {R : Type} (K : X → St → Option R) (F : Nat) (s : Int) (kept cache : List (List C)) (left : Int) (dark : Bool) (ch : List (List C)) (m0 : Nat) (hk : ∀ e ∈ cache, cwOk m0 e = true) (hcl : cache.length < 1000000) (hch : ∀ c ∈ ch, isBoolE c = true) : ∀ (n i : Nat), i ≤ cache.length → cache.length - i < n →
    rlose_A0 K F n s kept cache left dark ch i = K (.ex 0) (rlose_fin s kept cache left dark ch cache.length (chosen (cache.drop i) (ch.drop i))) := by
  intro n
  induction n with
  | zero => intro i hi h; omega
  | succ n ih =>
    intro i hi hn
    rw [rlose_Ar]
    by_cases hlt : i < cache.length
    · have hget : cache[i]? = some cache[i] := List.getElem?_eq_getElem hlt
      have hmem : cache[i] ∈ cache := List.getElem_mem hlt
      generalize hE : cache[i] = e at hget hmem
      rw [drop_cons hget]
      obtain ⟨h1, h2, h3, h4, h5⟩ := cwOk_parts (hk e hmem)
      have hrec := cw_rec (hk e hmem)
      have ht : List.take 129 e = e := List.take_of_length_le (by omega)
      have d1 : decide ((i : Int) < (cache.length : Int)) = true := by simpa using hlt
      have d2 : decide ((0 : Int) ≤ (i : Int)) = true := by simp
      have hs := secOk_len h5
      have h128 : List.take 128 (List.drop 1 e) ++ [] = List.drop 1 e := by
        rw [List.append_nil]; exact List.take_of_length_le (by simp at hs ⊢; omega)
      rw [d1, cond_true, d2, cond_true, getT_at rfl hget, ht, h1, beq_self_eq_true, cond_true, h2, cond_true]
      rw [h128, hrec, w64 _ (by omega) (by omega)]
      by_cases hc : i < ch.length
      · have hgc : ch[i]? = some ch[i] := List.getElem?_eq_getElem hc
        obtain ⟨bv, hbv⟩ := isBoolE_parts (hch _ (List.getElem_mem hc))
        rw [hbv] at hgc
        rw [drop_cons hgc]
        have d3 : decide ((i : Int) < (ch.length : Int)) = true := by simpa using hc
        rw [d3, cond_true, getT_at rfl hgc]
        have e1 : getT [C.bool bv] 0 = fun (k : C → Option R) => k (C.bool bv) := by funext k; rfl
        rw [e1]
        simp only [chosen]
        have e2 : shOk [Sh.bool] [C.bool bv] = true := rfl
        have e3 : ([C.bool bv].getD 0 C.nf).toBool = bv := rfl
        rw [e2, e3, cond_true]
        cases bv with
        | true =>
          rw [cond_true, cond_true]
          refine (rlose_loop K F s kept cache left dark ch m0 hk hcl hch n (i + 1) [e] (by omega) (by omega) (by simp; omega)).trans ?_
          rfl
        | false =>
          rw [cond_false, cond_false]
          exact ih (i + 1) (by omega) (by omega)
      · have d3 : decide ((i : Int) < (ch.length : Int)) = false := by simpa using hc
        rw [d3, cond_false]
        have e1 : ch.drop i = [] := List.drop_eq_nil_of_le (by omega)
        have e2 : ch.drop (i + 1) = [] := List.drop_eq_nil_of_le (by omega)
        have := ih (i + 1) (by omega) (by omega)
        rw [e1]; rw [e2] at this
        have e3 : ∀ l, chosen l [] = [] := fun l => by cases l <;> rfl
        rw [e3] at this ⊢
        exact this
    · have : i = cache.length := by omega
      subst this
      have d1 : decide ((cache.length : Int) < (cache.length : Int)) = false := by simp
      rw [d1, cond_false, List.drop_length]
      rfl

theorem rlose_ok : SpecOk Try.prog (fun _ => none) 20 loseR := by
  intro a b v b' h
  unfold loseR at h
  split at h
  · rename_i x ch
    obtain ⟨s, kept, cache, left, dark, rfl, h⟩ := onR_run h
    rcases run_ite h with ⟨h1, h⟩ | ⟨_, h⟩
    · rw [Bool.and_eq_true] at h1
      have hok := okR_iff.1 h1.1
      have hch := List.all_eq_true.1 h1.2
      have hkl := hok.kl
      have hcl := hok.cl
      refine specAt mix vti_ok Try.func20 rfl (by kernel_rfl) tabR1_ok (keep := false) (bor := fun i => memN i []) (drop := (fun i => !memN i [1, 2, 4, 5, 16, 17])) (cache.length + 1) ((rlose_start _ _ _ _ _ _ _ _).trans ?_)
      have z : decide (kept.length * 136 ≤ 140737488355328 ∧ kept.length ≤ 9223372036854775807) = true := by simp only [decide_eq_true_eq]; omega
      rw [dup_eq, z, cond_true]
      cases hke : kept.isEmpty with
      | true =>
        have : kept = [] := by simpa using hke
        subst this
        rw [cond_true]
        refine (rlose_loopA _ _ s [] cache left dark ch s.toNat hok.c hcl hch _ 0 (by omega) (by omega)).trans ?_
        rw [List.nil_append] at h
        rw [show List.drop 0 cache = cache from rfl, show List.drop 0 ch = ch from rfl]
        generalize chosen cache ch = z at h ⊢
        cases z with
        | nil => exact (rlose_Ac ..).trans h
        | cons e q => exact (rlose_c1 ..).trans h
      | false =>
        rw [cond_false]
        refine (rlose_loop _ _ s kept cache left dark ch s.toNat hok.c hcl hch _ 0 kept (by omega) (by omega) (by omega)).trans ?_
        exact (rlose_c1 ..).trans h
    · exact (run_no h).elim
  · cases h
theorem tabR_ok : TabS Try.prog (fun _ => none) tabR := .cons rnew_ok (.cons rput_ok (.cons rflush_ok (.cons rpower_ok (.cons rlose_ok (.cons rread_ok .nil)))))
end Go.Proofs.Ytjkiipkghkpihaa
