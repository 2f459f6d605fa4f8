/- sigil: the law on long texts, where the arguments are of little bulk -/
import Derived.Test.YtniiimpcakmkbaaDoorSgLg
import Derived.Test.YtniiimpcakmkbaaDoorWP
set_option linter.unusedVariables false
namespace Go.Proofs.YtniiimpcakmkbaaDoor
open Go Vm Go.RowKit Go.ChangeShapes Go.ChangeAt Go.WideShapes
theorem small_bound {H : Type} {l : List (DataW H)} (hk : Rows.uptoSmall H l = true) : Rows.uptoBulkAll l ≤ 1048576 := of_decide_eq_true hk
set_option maxRecDepth 100000 in
theorem long_resU {H : Type} {enc : TypeId × Value → H} {W : World} {args : Array Value} {ds : List (DataW H)} {p : List MemPlace} (m : Int)
    (hval : ∀ (j : Nat) t v, ([9, 5] : List TypeId)[j]? = some t → args[j]? = some v → Value.okWide Tryd.prog W .any 0 t v)
    (hA : DataW.TrodAll enc Tryd.prog W 0 (fun _ => true) true [9, 5] args.toList ds p) (hk : Rows.uptoSmall H ds = true) :
    ∀ xs, argVs Tryd.prog [9, 5] xs → All2 (RelV (stG W)) xs args.toList → ∃ b, FnRes Tryd.prog (globT m) 7 xs [] (vb true) b := by
  intro xs h hr
  obtain ⟨x, y, rfl, h1, h2⟩ := argVs2 h
  obtain ⟨s, rfl, _⟩ := str_arg h1
  obtain ⟨g, rfl, hg, _⟩ := u8_arg h2
  obtain ⟨v0, vs0, d0, ds0, p0, q0, hargs, e0, rfl, h0, r0⟩ := trod_first hA
  rw [hargs] at hr
  obtain rfl := str_same Tryd.underlying9 (hval 0 9 v0 (by simp) e0) h0 hr.head
  have hb := small_bound hk
  simp only [Rows.uptoBulkAll, Rows.uptoBulk] at hb
  have hz : s.size = s.data.toList.length := rfl
  exact ⟨[], long_res m s g hg (by omega)⟩
end Go.Proofs.YtniiimpcakmkbaaDoor
