/- sigil: the small functions answer by their trees -/
import Derived.Test.YtniiimpcakmkbaaDoorSgW
import Derived.Lib.RuneCount
set_option linter.unusedVariables false
namespace Go.Proofs.YtniiimpcakmkbaaDoor
open Go Vm Go.RowKit
theorem mix : Tryd.prog.follows .mixedOrders = true := by kernel_rfl

/-! the library's functions, by the shelf -/
theorem glob_cells {g : G} {w : World} {m : Int} (hS : ∀ a u, g.S a = some u → w.cell? a = some u) {g' : Nat} {l : List C} (h : RelC g.S (.ip l) (.pointer (some ⟨g', 0, none⟩))) :
    ∀ (j : Nat) k n, l[j]? = some (C.int k n) → w.cell? ⟨g', j, none⟩ = some (.int k n) := by
  intro j k n hj
  cases h with
  | ip l a uf hsp hc hr =>
    have h1 := hS _ _ (hc j _ hj)
    have h2 := hr j _ hj
    generalize uf j = u at h1 h2
    cases h2
    have e : (⟨g', 0, none⟩ : Addr).add j = ⟨g', j, none⟩ := by rw [add_plain', Nat.zero_add]
    rw [e] at h1
    exact h1
theorem tabs_of {g : G} {w : World} {m : Int} (hS : ∀ a u, g.S a = some u → w.cell? a = some u) (hg : ∀ g' l, globT m g' = some l → RelC g.S (.ip l) (.pointer (some ⟨g', 0, none⟩))) : Go.Lib.Utf8Tabs 3 4 w := by
  have h3 := glob_cells (m := m) hS (hg 3 firstC rfl)
  have h4 := glob_cells (m := m) hS (hg 4 accC rfl)
  refine ⟨fun c hc => h3 c _ _ ?_, fun i hi => ?_⟩
  · simp [firstC, hc]
  · have hk : accC[2 * i]? = some (C.int .u8 (Go.Lib.accLo i)) ∧ accC[2 * i + 1]? = some (C.int .u8 (Go.Lib.accHi i)) := by
      have : i = 0 ∨ i = 1 ∨ i = 2 ∨ i = 3 ∨ i = 4 ∨ i = 5 ∨ i = 6 ∨ i = 7 ∨ i = 8 ∨ i = 9 ∨ i = 10 ∨ i = 11 ∨ i = 12 ∨ i = 13 ∨ i = 14 ∨ i = 15 := by omega
      rcases this with rfl | rfl | rfl | rfl | rfl | rfl | rfl | rfl | rfl | rfl | rfl | rfl | rfl | rfl | rfl | rfl <;> exact ⟨rfl, rfl⟩
    exact ⟨h4 _ _ _ hk.1, h4 _ _ _ hk.2⟩
theorem dec_ok (m : Int) : SpecOk Tryd.prog (globT m) 93 decS := by
  intro a b v b' h
  unfold decS at h
  split at h
  · rename_i s
    obtain ⟨rfl, rfl⟩ := run_ret h
    refine known_res ⟨_, _, Tryd.func93, rfl, by kernel_rfl⟩ (fun g w cargs hS hg ha => ?_) []
    match cargs, ha with
    | [x], ha =>
      have hx := relC_str ha.head
      subst hx
      exact ⟨_, ⟨[_, _], rfl, .cons (RelC.int _ _) (.cons (RelC.int _ _) .nil)⟩, Tryd.utf8_DecodeRuneInString s w (tabs_of hS hg)⟩
    | [], ha => exact absurd ha.1 (by simp)
    | _ :: _ :: _, ha => exact absurd ha.1 (by simp)
  · cases h
theorem contains_ok (m : Int) : SpecOk Tryd.prog (globT m) 24 containsS := by
  intro a b v b' h
  unfold containsS at h
  split at h
  · rename_i s p
    rcases run_ite h with ⟨hl, h⟩ | ⟨_, h⟩
    · obtain ⟨rfl, rfl⟩ := run_ret h
      refine known_res ⟨_, _, Tryd.func24, rfl, by kernel_rfl⟩ (fun g w cargs hS hg ha => ?_) []
      match cargs, ha with
      | [x, y], ha =>
        have hx := relC_str ha.head
        have hy := relC_str ha.tail.head
        subst hx hy
        have h2 := glob_cells (m := m) hS (hg 2 [.int .i64 m] rfl)
        have hs : s.size < 4294967281 := by
          have := shortB_len _ _ hl
          have e : s.size = s.data.toList.length := rfl
          omega
        refine ⟨_, RelC.bool _, (Tryd.strings_Contains s p m w hs (h2 0 _ _ rfl)).mono fun e w' ⟨he, hw⟩ => ⟨by rw [he, hasSub_eq], hw ▸ Below.refl _ _⟩⟩
      | [], ha => exact absurd ha.1 (by simp)
      | [_], ha => exact absurd ha.1 (by simp)
      | _ :: _ :: _ :: _, ha => exact absurd ha.1 (by simp)
    · exact (run_no h).elim
  · cases h
end Go.Proofs.YtniiimpcakmkbaaDoor
