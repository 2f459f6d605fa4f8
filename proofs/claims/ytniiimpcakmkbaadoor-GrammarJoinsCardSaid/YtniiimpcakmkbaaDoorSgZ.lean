/- sigil: the package variables at a call -/
import Derived.Test.YtniiimpcakmkbaaDoorSgD
import Derived.Test.YtniiimpcakmkbaaDoorWP
import Derived.Lib.LaidU8T
import Derived.PinnedBridge
import Derived.Shelf.Vars
import Derived.Test.YtniiimpcakmkbaaDoorRows
set_option linter.unusedVariables false
namespace Go.Proofs.YtniiimpcakmkbaaDoor
open Go Vm Go.RowKit Go.Lib
theorem acc_eq : (Rows.laid_unicode_utf8_acceptRanges : DataW Unit) = acceptData := by kernel_rfl
theorem first_eq : Rows.laid_unicode_utf8_first = firstData := Pinned.utf8First_eq
theorem tabs_reads {W : World} (h3 : VarReads Tryd.prog W "unicode/utf8.first" firstData) (h4 : VarReads Tryd.prog W "unicode/utf8.acceptRanges" acceptData) : Utf8Tabs 3 4 W :=
  utf8Tabs_of_readsT (ρ := Tryd.lays260_ren) (U8Types.of260 Tryd.lays260) ⟨by kernel_rfl, by kernel_rfl, by kernel_rfl, by kernel_rfl, by kernel_rfl, by kernel_rfl, by kernel_rfl⟩ h3 h4
theorem maxlen_shaped {W : World} (h : W.ShapedOpen Tryd.prog) : ∃ m, W.cell? ⟨2, 0, none⟩ = some (.int .i64 m) :=
  Go.Proofs.cell_of_shapedOpen_int (zero := #[.int .i64 0]) (t := 3) h (of_decide_eq_true (by kernel_rfl)) (by kernel_rfl) rfl (by kernel_rfl) (by kernel_rfl) Tryd.underlying3
theorem ip_of {S : Addr → Option Value} {g : Nat} {l : List C} (uf : Nat → Value) (h : ∀ (j : Nat) c, l[j]? = some c → S ⟨g, j, none⟩ = some (uf j) ∧ RelC S c (uf j)) : RelC S (.ip l) (.pointer (some ⟨g, 0, none⟩)) := by
  refine .ip l ⟨g, 0, none⟩ uf rfl (fun j c hj => ?_) (fun j c hj => (h j c hj).2)
  have e : (⟨g, 0, none⟩ : Addr).add j = ⟨g, j, none⟩ := by rw [add_plain', Nat.zero_add]
  rw [e]; exact (h j c hj).1
theorem glob_of {W : World} {m : Int} (hT : Utf8Tabs 3 4 W) (hm : W.cell? ⟨2, 0, none⟩ = some (.int .i64 m)) : ∀ g' l, globT m g' = some l → RelC (stG W).S (.ip l) (.pointer (some ⟨g', 0, none⟩)) := by
  intro g' l hg
  have hi : ∀ k n, RelC (stG W).S (C.int k n) (.int k n) := fun k n => RelC.int k n
  unfold globT at hg
  by_cases h2 : g' = 2
  · subst h2
    have : l = [.int .i64 m] := by cases hg; rfl
    subst this
    refine ip_of (fun _ => .int .i64 m) fun j c hj => ?_
    match j, hj with
    | 0, hj => cases hj; exact ⟨hm, hi _ _⟩
    | j + 1, hj => simp at hj
  by_cases h3 : g' = 3
  · subst h3
    have : l = firstC := by cases hg; rfl
    subst this
    refine ip_of (fun j => .int .u8 (firstT j)) fun j c hj => ?_
    unfold firstC at hj
    rw [List.getElem?_map] at hj
    by_cases hlt : j < 256
    · rw [List.getElem?_range hlt] at hj
      cases hj
      exact ⟨hT.1 j hlt, hi _ _⟩
    · rw [List.getElem?_eq_none (by simp; omega)] at hj; cases hj
  by_cases h4 : g' = 4
  · subst h4
    have : l = accC := by cases hg; rfl
    subst this
    refine ip_of (fun j => .int .u8 (if j % 2 = 0 then (accLo (j / 2) : Int) else (accHi (j / 2) : Int))) fun j c hj => ?_
    have hl : accC.length = 32 := rfl
    by_cases hlt : j < 32
    · have h5 := hT.2 (j / 2) (by omega)
      have hk : accC[j]? = some (C.int .u8 (if j % 2 = 0 then (accLo (j / 2) : Int) else (accHi (j / 2) : Int))) := by
        have : j = 0 ∨ j = 1 ∨ j = 2 ∨ j = 3 ∨ j = 4 ∨ j = 5 ∨ j = 6 ∨ j = 7 ∨ j = 8 ∨ j = 9 ∨ j = 10 ∨ j = 11 ∨ j = 12 ∨ j = 13 ∨ j = 14 ∨ j = 15 ∨ j = 16 ∨ j = 17 ∨ j = 18 ∨ j = 19 ∨ j = 20 ∨ j = 21 ∨ j = 22 ∨ j = 23 ∨ j = 24 ∨ j = 25 ∨ j = 26 ∨ j = 27 ∨ j = 28 ∨ j = 29 ∨ j = 30 ∨ j = 31 := by omega
        rcases this with rfl | rfl | rfl | rfl | rfl | rfl | rfl | rfl | rfl | rfl | rfl | rfl | rfl | rfl | rfl | rfl | rfl | rfl | rfl | rfl | rfl | rfl | rfl | rfl | rfl | rfl | rfl | rfl | rfl | rfl | rfl | rfl <;> rfl
      rw [hk] at hj
      cases hj
      refine ⟨?_, hi _ _⟩
      by_cases he : j % 2 = 0
      · rw [if_pos he]
        have : 2 * (j / 2) = j := by omega
        rw [this] at h5; exact h5.1
      · rw [if_neg he]
        have : 2 * (j / 2) + 1 = j := by omega
        rw [this] at h5; exact h5.2
    · rw [List.getElem?_eq_none (by omega)] at hj; cases hj
  · exfalso
    have f2 : Nat.beq g' 2 = false := by rw [← Bool.not_eq_true]; exact fun h => h2 (Nat.eq_of_beq_eq_true h)
    have f3 : Nat.beq g' 3 = false := by rw [← Bool.not_eq_true]; exact fun h => h3 (Nat.eq_of_beq_eq_true h)
    have f4 : Nat.beq g' 4 = false := by rw [← Bool.not_eq_true]; exact fun h => h4 (Nat.eq_of_beq_eq_true h)
    rw [f2, f3, f4] at hg; cases hg
abbrev laid2 : List (String × DataW Unit) := [("unicode/utf8.acceptRanges", Rows.laid_unicode_utf8_acceptRanges), ("unicode/utf8.first", Rows.laid_unicode_utf8_first)]
theorem tabs_laid2 {W : World} (h : laidMetH Tryd.prog laid2 W) : Utf8Tabs 3 4 W := by
  rw [MakeChecks.laidMetH_plain _ _ _ (by kernel_rfl)] at h
  have h3 := Lib.laidMet.reads h (.tail _ (.head _))
  have h4 := Lib.laidMet.reads h (.head _)
  rw [first_eq] at h3
  rw [acc_eq] at h4
  exact tabs_reads h3 h4
theorem globT_noer {m : Int} : ∀ g' l n ty gs, globT m g' = some l → C.er n ty gs ∈ l → False := by
  intro g' l n ty gs hg hm
  unfold globT at hg
  cases h2 : Nat.beq g' 2 with
  | true => rw [h2] at hg; cases hg; simp at hm
  | false =>
    cases h3 : Nat.beq g' 3 with
    | true => rw [h2, h3] at hg; cases hg; unfold firstC at hm; obtain ⟨x, _, h⟩ := List.mem_map.1 hm; cases h
    | false =>
      cases h4 : Nat.beq g' 4 with
      | true => rw [h2, h3, h4] at hg; cases hg; unfold accC at hm; obtain ⟨x, _, h⟩ := List.mem_flatMap.1 hm; simp at h
      | false => rw [h2, h3, h4] at hg; cases hg
theorem glob_laid2 {W : World} (hsh : W.ShapedOpen Tryd.prog) (h : laidMetH Tryd.prog laid2 W) : ∃ m, (∀ g' l, globT m g' = some l → RelC (stG W).S (.ip l) (.pointer (some ⟨g', 0, none⟩))) ∧ EnvOk (globT m) W (fun _ => False) := by
  obtain ⟨m, hm⟩ := maxlen_shaped hsh
  exact ⟨m, glob_of (tabs_laid2 h) hm, EnvOk.empty _ _ globT_noer⟩
theorem str_arg {v : V} (h : argV Tryd.prog 9 v) : ∃ s : ByteArray, v = vs s ∧ s.size ≤ maxLen := str_argP Tryd.underlying9 h
theorem u8_arg {v : V} (h : argV Tryd.prog 5 v) : ∃ n : Int, v = vc (.int .u8 n) ∧ 0 ≤ n ∧ n < 256 := by
  obtain ⟨n, h1, h2⟩ := int_argP Tryd.underlying5 h
  refine ⟨n, h1, ?_⟩
  have : IntKind.u8.min ≤ n ∧ n ≤ IntKind.u8.max := by simpa [Lit.wf] using h2
  simp [IntKind.min, IntKind.max, IntKind.signed, IntKind.bits] at this; omega
end Go.Proofs.YtniiimpcakmkbaaDoor
