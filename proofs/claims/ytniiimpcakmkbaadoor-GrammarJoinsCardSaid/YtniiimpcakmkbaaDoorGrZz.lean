/- grammar: the package variables at a call -/
import Derived.Test.YtniiimpcakmkbaaDoorGrA
import Derived.Test.YtniiimpcakmkbaaDoorSgZ
import Derived.Stop.LaidTwo
set_option linter.unusedVariables false
namespace Go.Proofs.YtniiimpcakmkbaaDoor
open Go Vm Go.RowKit Go.Lib
theorem gSyn : Tryd.prog.globalNamed "stile/grammar.errSyntax" = some 0 := by kernel_rfl
theorem gDeep : Tryd.prog.globalNamed "stile/grammar.errDeep" = some 1 := by kernel_rfl
theorem gSynT : (Tryd.prog.globals[0]?).map (·.type) = some 95 := by kernel_rfl
theorem gDeepT : (Tryd.prog.globals[1]?).map (·.type) = some 95 := by kernel_rfl
theorem row172 (u : TypeId) (h : Tryd.prog.typeName? 3 u = some "*errors.errorString") : u = 172 :=
  typeName_ptr_named (nm := "errors.errorString") (by rw [show "*" ++ "errors.errorString" = "*errors.errorString" by decide]; kernel_rfl) (by kernel_rfl) (by decide) u (by rw [show "*" ++ "errors.errorString" = "*errors.errorString" by decide]; exact h)
abbrev laid4 : List (String × DataW Unit) := [("unicode/utf8.acceptRanges", Rows.laid_unicode_utf8_acceptRanges), ("stile/grammar.errSyntax", Rows.laid_stile_grammar_errSyntax), ("stile/grammar.errDeep", Rows.laid_stile_grammar_errDeep), ("unicode/utf8.first", Rows.laid_unicode_utf8_first)]
theorem cells194 : Tryd.prog.cellsOf 194 = 1 := by kernel_rfl
theorem cells9' : Tryd.prog.cellsOf 9 = 1 := by kernel_rfl
theorem glob_laid4 {W : World} (hsh : W.ShapedOpen Tryd.prog) (h : laidMetH Tryd.prog laid4 W) : ∃ m, (∀ g' l, globG m g' = some l → RelC (stG W).S (.ip l) (.pointer (some ⟨g', 0, none⟩))) ∧ EnvOk (globG m) W (fun _ => False) := by
  obtain ⟨m, hm⟩ := maxlen_shaped hsh
  rw [MakeChecks.laidMetH_plain _ _ _ (by kernel_rfl)] at h
  have h3 := Lib.laidMet.reads h (.tail _ (.tail _ (.tail _ (.head _))))
  have h4 := Lib.laidMet.reads h (.head _)
  rw [first_eq] at h3
  rw [acc_eq] at h4
  have hT := glob_of (tabs_reads h3 h4) hm
  obtain ⟨a0, a1, s0, s1, c0, c1, t0, t1, hv0, hv1, hc0, hs0, hz0, hc1, hs1, hz1, hne, hb0, hb1⟩ :=
    laid_sentinels2 (nm := "*errors.errorString") h.tail gSyn gSynT gDeep gDeepT Tryd.underlying95 row172 Tryd.underlying172 Tryd.underlying194 rfl rfl Tryd.underlying9 cells194 cells9'
  have hg0 : W.cell? ⟨0, 0, none⟩ = some (.iface 172 (.pointer (some a0))) := by simpa using World.var?_cell gSyn hv0 0
  have hg1 : W.cell? ⟨1, 0, none⟩ = some (.iface 172 (.pointer (some a1))) := by simpa using World.var?_cell gDeep hv1 0
  have split : ∀ g' l, globG m g' = some l → (g' = 0 ∧ l = [.er 1 172 [0, 1]]) ∨ (g' = 1 ∧ l = [.er 2 172 [0, 1]]) ∨ globT m g' = some l := by
    intro g' l hg
    unfold globG at hg
    cases f0 : Nat.beq g' 0 with
    | true => rw [f0] at hg; exact .inl ⟨Nat.eq_of_beq_eq_true f0, by cases hg; rfl⟩
    | false =>
      cases f1 : Nat.beq g' 1 with
      | true => rw [f0, f1] at hg; exact .inr (.inl ⟨Nat.eq_of_beq_eq_true f1, by cases hg; rfl⟩)
      | false => rw [f0, f1] at hg; exact .inr (.inr hg)
  refine ⟨m, fun g' l hg => ?_, ?_⟩
  · rcases split g' l hg with ⟨rfl, rfl⟩ | ⟨rfl, rfl⟩ | hg
    · refine ip_of (fun _ => .iface 172 (.pointer (some a0))) fun j c hj => ?_
      match j, hj with
      | 0, hj => cases hj; exact ⟨hg0, RelC.er1 0 172 [0, 1] 0 a0 rfl hg0⟩
      | j + 1, hj => simp at hj
    · refine ip_of (fun _ => .iface 172 (.pointer (some a1))) fun j c hj => ?_
      match j, hj with
      | 0, hj => cases hj; exact ⟨hg1, RelC.er1 1 172 [0, 1] 1 a1 rfl hg1⟩
      | j + 1, hj => simp at hj
    · exact hT g' l hg
  · refine ⟨fun g => if g = 0 then a0 else a1, fun g' l n ty gs hg hmem k gk hk => ?_⟩
    have hgs : gs = [0, 1] ∧ ty = 172 := by
      rcases split g' l hg with ⟨rfl, rfl⟩ | ⟨rfl, rfl⟩ | hg
      · simp at hmem; exact ⟨hmem.2.2, hmem.2.1⟩
      · simp at hmem; exact ⟨hmem.2.2, hmem.2.1⟩
      · exact (globT_noer _ _ _ _ _ hg hmem).elim
    obtain ⟨rfl, rfl⟩ := hgs
    have hk2 : ∀ (k' gk' : Nat), ([0, 1] : List Nat)[k']? = some gk' → gk' = 0 ∨ gk' = 1 := by
      intro k' gk' h
      revert h
      match k' with
      | 0 => intro h; cases h; exact .inl rfl
      | 1 => intro h; cases h; exact .inr rfl
      | k' + 2 => intro h; simp at h
    rcases hk2 k gk hk with rfl | rfl
    · refine ⟨hg0, fun h => h, fun h => h, ⟨_, _, hb0⟩, fun k' gk' h2 hn => ?_⟩
      rcases hk2 k' gk' h2 with rfl | rfl
      · exact absurd rfl hn
      · exact hne
    · refine ⟨hg1, fun h => h, fun h => h, ⟨_, _, hb1⟩, fun k' gk' h2 hn => ?_⟩
      rcases hk2 k' gk' h2 with rfl | rfl
      · exact hne.symm
      · exact absurd rfl hn
end Go.Proofs.YtniiimpcakmkbaaDoor
