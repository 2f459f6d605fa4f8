/- TrayPowers: the law's run -/
import Derived.Test.YtjkiipkghkpihaaTrP
import Derived.Test.YtjkiipkghkpihaaTrL
set_option linter.unusedVariables false
namespace Go.Proofs.Ytjkiipkghkpihaa
open Go Vm
theorem u64_mod4 (x : Int) : 0 ≤ (IntKind.u64.wrap x).tmod 4 ∧ (IntKind.u64.wrap x).tmod 4 < 4 := by
  have h : 0 ≤ IntKind.u64.wrap x := by
    have : IntKind.u64.wrap x = x % 18446744073709551616 := by
      simp [IntKind.wrap, IntKind.signed, IntKind.bits]
    rw [this]; omega
  rw [Int.tmod_eq_emod_of_nonneg h]
  omega
theorem lPow_acts {R : Type} (K : X → St → Option R) (F : Nat) (acts : List (List C)) (hacts : ∀ x ∈ acts, ∃ k at_ B Ch, IsAct x k at_ B Ch) (hlen : acts.length ≤ 60) :
    ∀ (n i : Nat) (L : Int) (cache : List (List C)) (dark : Bool) (kept : List (List C)), i ≤ acts.length → acts.length - i < n → OkT kept cache → kept.length = 4 → cache.length ≤ i → 0 ≤ L → L ≤ 255 → (0 < L → dark = false) →
    ∃ L' cache' dark' kept', lPow_L0 K F n acts L i L cache dark kept = K (.ex 0) (lPow_E16 acts L' acts.length L' cache' dark' kept') := by
  intro n
  induction n with
  | zero => intro i _ _ _ _ hi h; omega
  | succ n ih =>
    intro i L cache dark kept hi hn hok hkl hcl hL0 hL1 hdk
    rw [lPow_r0]
    by_cases hlt : i < acts.length
    · have hget : acts[i]? = some acts[i] := List.getElem?_eq_getElem hlt
      obtain ⟨k, at_, B, Ch, he, hB, _⟩ := hacts _ (List.getElem_mem hlt)
      rw [he] at hget
      have d1 : decide ((i : Int) < (acts.length : Int)) = true := by simpa using hlt
      have d2 : decide ((0 : Int) ≤ (i : Int)) = true := by simp
      rw [d1, cond_true, d2, cond_true, getT_at rfl hget, w64 ((i : Int) + 1) (by omega) (by omega), w64 (L - 1) (by omega) (by omega)]
      have hk1 : okT kept cache = true := okT_iff.2 hok
      have hl1 : leftOk L = true := by simp [leftOk]; omega
      have ek : ((List.take 4 [C.int IntKind.i64 k, C.int IntKind.i64 at_, C.sl 1 B, C.sl 1 Ch]).getD 0 C.nf).toInt = k := rfl
      have ea : ((List.take 4 [C.int IntKind.i64 k, C.int IntKind.i64 at_, C.sl 1 B, C.sl 1 Ch]).getD 1 C.nf).toInt = at_ := rfl
      have e4 : ((List.take 4 [C.int IntKind.i64 k, C.int IntKind.i64 at_, C.sl 1 B, C.sl 1 Ch]).length == 4) = true := rfl
      have esh : shOk [Sh.int IntKind.i64, Sh.int IntKind.i64, Sh.sl 1, Sh.sl 1] (List.take 4 [C.int IntKind.i64 k, C.int IntKind.i64 at_, C.sl 1 B, C.sl 1 Ch]) = true := rfl
      obtain ⟨m0, m1⟩ := u64_mod4 at_
      rw [ek, ea, e4, cond_true, esh, cond_true]
      rw [w64 ((IntKind.u64.wrap at_).tmod 4) (by omega) (by omega)]
      generalize (IntKind.u64.wrap at_).tmod 4 = at4 at m0 m1
      have hw : wIn kept at4 [[C.int IntKind.u8 120]] = true := by simp [wIn, inR]; omega
      have h3 : inR kept 3 = true := by simp [inR]; omega
      have h2 : OkT kept (cache ++ [mkW at4 [[C.int IntKind.u8 120]]]) := hok.push (mkW_ok hw rfl) (by omega)
      have h2' := okT_iff.2 h2
      have hs := hok.settle
      have hs' := okT_iff.2 hs
      have h3' : inR (settleP kept cache) 3 = true := by simp [inR, settleP_len]; omega
      simp only [hk1, hl1, hw, h3, h3', h2', hs', cond_true, Bool.and_self, Bool.and_true, Bool.true_and, Bool.true_or]
      by_cases hz : L = 0
      · subst hz
        have next : ∀ cache' kept', OkT kept' cache' → kept'.length = 4 → cache'.length ≤ i + 1 → ∃ L2 cache2 dark2 kept2, lPow_L0 K F n acts 0 ((i : Int) + 1) 0 cache' true kept' = K (.ex 0) (lPow_E16 acts L2 acts.length L2 cache2 dark2 kept2) :=
          fun cache' kept' h1 h2 h3 => ih (i + 1) 0 cache' true kept' (by omega) (by omega) h1 h2 h3 (by omega) (by omega) (by omega)
        cases k == 1 with
        | true => exact next _ _ hok hkl (by omega)
        | false => exact next _ _ hok hkl (by omega)
      · have hd := hdk (by omega)
        subst hd
        have e0 : (L == 0) = false := by simpa using hz
        have e1 : decide (L > 0) = true := by simp; omega
        have e2 : decL L = L - 1 := by unfold decL; rw [e1]; rfl
        have e3 : (if L - 1 < 0 then (0 : Int) else L - 1) = L - 1 := if_neg (show ¬ (L - 1 < 0) by omega)
        have next : ∀ cache' kept', OkT kept' cache' → kept'.length = 4 → cache'.length ≤ i + 1 → ∃ L2 cache2 dark2 kept2, lPow_L0 K F n acts (L - 1) ((i : Int) + 1) (L - 1) cache' false kept' = K (.ex 0) (lPow_E16 acts L2 acts.length L2 cache2 dark2 kept2) :=
          fun cache' kept' h1 h2 h3 => ih (i + 1) (L - 1) cache' false kept' (by omega) (by omega) h1 h2 h3 (by omega) (by omega) (fun _ => rfl)
        rw [e0, e1, e2, e3]
        cases k == 1 with
        | true => exact next _ _ h2 hkl (by simp; omega)
        | false =>
          have := next [] _ hs (by rw [settleP_len]; exact hkl) (by simp)
          simp only [cond_false, cond_true, Bool.not_false, Bool.not_true]
          exact this
    · have : i = acts.length := by omega
      subst this
      have d1 : decide ((acts.length : Int) < (acts.length : Int)) = false := by simp
      rw [d1, cond_false]
      exact ⟨L, cache, dark, kept, rfl⟩
theorem zsec4_ok : OkT (List.replicate (Int.toNat (4 : Int)) zsec) [] := okT_iff.1 (by decide +kernel)

theorem lPow_run (nn : Int) (h0 : 0 ≤ nn) (h1 : nn < 256) (acts : List (List C)) (hacts : ∀ x ∈ acts, ∃ k at_ B Ch, IsAct x k at_ B Ch) (F : Nat) (hF : 100 ≤ F) :
    runFn lPow_cf F Try.f5 (bd Try.f5) [vc (.int .u8 nn), vc (.sl 4 acts)] [] fin2 = some (vb true, []) := by
  rw [lPow_start, w64 nn (by omega) (by omega)]
  cases h : decide ((acts.length : Int) > 60) with
  | true => rfl
  | false =>
    simp only [decide_eq_false_iff_not] at h
    have d1 : decide (nn < 0) = false := by simp; omega
    have d2 : decide (nn > 1099511627776) = false := by simp; omega
    rw [cond_false, d1, cond_false, d2, cond_false]
    obtain ⟨L', cache, dark, kept, he⟩ := lPow_acts (lPow_K0 fin2 F) F acts hacts (by omega) F 0 nn [] false _ (by omega) (by omega) zsec4_ok rfl (by simp) h0 (by omega) (fun _ => rfl)
    rw [show ((0 : Nat) : Int) = 0 from rfl] at he
    rw [he, lPow_c16]
theorem u8_arg {v : V} (h : argV Try.prog 5 v) : ∃ n : Int, v = vc (.int .u8 n) ∧ 0 ≤ n ∧ n < 256 := by
  obtain ⟨f, l, h, rfl⟩ := h
  rw [Try.underlying5]
  match f, h with
  | f + 1, h =>
    unfold hasT at h; rw [Try.underlying5] at h; simp only at h
    obtain ⟨n, rfl, hw⟩ := h
    exact ⟨n, rfl, u8_wf hw⟩
theorem powers_res (xs : List V) (h : argVs Try.prog [5, 22] xs) : ∃ b, FnRes Try.prog (fun _ => none) 5 xs [] (vb true) b := by
  match xs, h with
  | [x, y], ⟨h1, h2, _⟩ =>
    obtain ⟨n, rfl, hn0, hn1⟩ := u8_arg h1
    obtain ⟨acts, rfl, hacts⟩ := acts_of h2
    exact ⟨[], specAt mix vti_ok Try.func5 rfl (by kernel_rfl) tab2_ok 100 (lPow_run n hn0 hn1 acts hacts 100 (Nat.le_refl _))⟩
end Go.Proofs.Ytjkiipkghkpihaa
