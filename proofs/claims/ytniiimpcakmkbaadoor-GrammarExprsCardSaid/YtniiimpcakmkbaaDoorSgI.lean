/- sigil: tokens have bytes -/
import Derived.Test.YtniiimpcakmkbaaDoorSgF
import Derived.Lib.QuoteLoop
set_option linter.unusedVariables false
namespace Go.Proofs.YtniiimpcakmkbaaDoor
open Go Vm Go.RowKit
theorem index_mem : ∀ (l sub : List UInt8), 0 ≤ Go.Lib.index l sub → ∀ b ∈ sub, b ∈ l := by
  intro l
  induction l with
  | nil =>
    intro sub h b hb
    unfold Go.Lib.index at h
    cases sub with
    | nil => cases hb
    | cons x r => simp at h
  | cons a l ih =>
    intro sub h b hb
    unfold Go.Lib.index at h
    by_cases hp : sub.isPrefixOf (a :: l) = true
    · have := List.isPrefixOf_iff_prefix.1 hp
      exact this.subset hb
    · rw [if_neg hp] at h
      by_cases h1 : (Go.Lib.index l sub == -1) = true
      · rw [if_pos h1] at h; omega
      · rw [if_neg h1] at h
        have h2 : Go.Lib.index l sub ≠ -1 := by simpa using h1
        have h3 := Go.Lib.index_ge l sub
        exact List.mem_cons_of_mem _ (ih sub (by omega) b hb)
theorem rune_valid (s : ByteArray) (i : Nat) : Utf8.valid ((Utf8.decode s i).1 : Int) = true := by
  have h := Go.Lib.decodeN_valid (s.size - i) (s.get! i).toNat (s.get! (i + 1)).toNat (s.get! (i + 2)).toNat (s.get! (i + 3)).toNat (UInt8.toNat_lt _)
  rw [← Go.Lib.decode_at] at h
  unfold Utf8.valid
  simp only [Bool.or_eq_true, Bool.and_eq_true, decide_eq_true_eq]
  omega
theorem enc_small (r : Int) (h0 : 0 ≤ r) (h1 : r < 128) : (Utf8.encode r).size = 1 := by
  have hv : Utf8.valid r = true := by
    unfold Utf8.valid; simp only [Bool.or_eq_true, Bool.and_eq_true, decide_eq_true_eq]; omega
  have hc : r.toNat < 128 := by omega
  unfold Utf8.encode
  simp only [hv, if_true, hc]
  rfl
theorem sub_mem {s p : ByteArray} (h : hasSub s p = true) : ∀ b ∈ p.data.toList, b ∈ s.data.toList := by
  rw [hasSub_eq] at h
  unfold Go.Lib.contains at h
  rw [decide_eq_true_eq] at h
  exact index_mem _ _ h
theorem signs_small : ∀ b ∈ bSigns.data.toList, b.toNat < 128 := by decide
theorem last_mem (t : ByteArray) (h : t.size - 1 < t.size) : t[t.size - 1] ∈ t.data.toList := by
  rw [Array.mem_toList_iff]
  exact Array.getElem_mem _
theorem small_of {r : Int} (hv : Utf8.valid r = true) (hm : ∀ b ∈ (Utf8.encode r).data.toList, b ∈ bSigns.data.toList) : r < 128 := by
  refine Int.lt_of_not_ge fun hge => ?_
  obtain ⟨e1, e2, e3⟩ := Go.encode_facts _ hv hge
  have hlt : (Utf8.encode r).size - 1 < (Utf8.encode r).size := by omega
  have hb := e3 hlt
  have := signs_small _ (hm _ (last_mem _ hlt))
  omega
theorem sign_small {s : ByteArray} (h : signP s = true) : 0 < s.size ∧ ((Utf8.decode s 0).1 : Int) < 128 := by
  unfold signP at h
  rw [Bool.and_eq_true, decide_eq_true_eq] at h
  exact ⟨h.1, small_of (rune_valid s 0) (sub_mem h.2)⟩
theorem word_nonempty {s : ByteArray} (h : isW s = true) : 1 ≤ (wordP s).size ∧ (wordP s).size ≤ s.size := by
  constructor
  · refine Nat.pos_of_ne_zero fun h0 => ?_
    unfold isW at h
    have e : (wordP s).toList = bNo.toList := by
      rw [Go.Lib.toList_data, Go.Lib.toList_data]
      have : (wordP s).data.toList = [] := List.eq_nil_of_length_eq_zero h0
      rw [this]; rfl
    rw [e] at h; simp at h
  · unfold wordP
    have := first_le s fun i r => !letterP r ((i : Int) == 0)
    rw [ext_size _ _ _ this]; omega
theorem tok_size {s : ByteArray} (h : tokO s = true) : 1 ≤ (tokT s).size ∧ (tokT s).size ≤ s.size := by
  unfold tokO at h
  unfold tokT
  cases hw : isW s with
  | true => rw [cond_true]; exact word_nonempty hw
  | false =>
    rw [hw, cond_false] at h
    rw [cond_false]
    cases hp : preP s bTo with
    | true =>
      rw [cond_true]
      unfold preP at hp
      rw [Bool.and_eq_true, decide_eq_true_eq] at hp
      have : bTo.size = 2 := rfl
      omega
    | false =>
      rw [hp, cond_false] at h
      obtain ⟨h1, h2⟩ := sign_small h
      rw [cond_false, h, cond_true, enc_small _ (by omega) h2]; omega
end Go.Proofs.YtniiimpcakmkbaaDoor
