/- GrammarJoins: the concatenation of two configurations is parsed as both. The statement of the card. -/
import Derived.Test.YtniiimpcakmkbaaDoorGrCk
import Derived.Test.YtniiimpcakmkbaaDoorGrZz
import Derived.Test.YtniiimpcakmkbaaDoorRows
import Derived.Test.YtniiimpcakmkbaaDoorCards
import Derived.Test.YtniiimpcakmkbaaDoorTie
import Derived.ProofKit
import Derived.OpenShut
import Derived.LaidMore
import Derived.Lay
import Derived.SevenTiedAt
import Derived.Stop.Joined
set_option linter.unusedVariables false
namespace Go.Proofs.YtniiimpcakmkbaaDoor
open Go.ChangeShapes Go.WideShapes Go.ChangeAt Go.RowKit

theorem own : ownKnob Tryd.prog.godebug = none := by kernel_rfl
theorem laidOut : laidOutB Tryd.prog = true := by kernel_rfl
theorem plain : Vm.plainTs Tryd.prog [4, 5, 9] = true := by kernel_rfl
theorem params_eq : Tryd.f11.params.toList = [9,  9] := by kernel_rfl

set_option maxRecDepth 100000 in
theorem lifted (os : Os) (started : os.Started) (H : Type) (enc : TypeId × Value → H) :
    ReturnsInHanded {} Tryd.checked os 11 .any (fun w args => (Rows.grammarJoinsSpec.pre enc Tryd.prog Tryd.f11 Rows.grammarJoinsRow.domain false w args ∧ laidMetH Tryd.prog laid4 w) ∧ sizedMet enc Tryd.prog Tryd.f11 (OpenSpec.ofChange Rows.grammarJoinsSpec) false w args)
      (Rows.grammarJoinsSpec.post enc Tryd.prog Tryd.f11 false true false false) := by
  refine Vm.handed_shaped (C := Tryd.checked) (X := fun w _ => laidMetH Tryd.prog laid4 w) (fun _ _ _ hh h => h.of_heap hh) own started (by kernel_rfl) Tryd.func11
    (ChangeSpec.witness_shaped (enc := enc) (C := Tryd.checked) (os := os) (X := fun w _ => laidMetH Tryd.prog laid4 w) false (World.laidAll Tryd.prog os laid4) #[.string ⟨#[]⟩, .string ⟨#[]⟩] 8 (World.laidAll_os _ _ _)
      (World.shaped_of_ZipB (by kernel_rfl) (by kernel_rfl)) (by kernel_rfl) (by kernel_rfl) (by kernel_rfl)
      (by rw [MakeChecks.laidMetH_plain _ _ _ (by kernel_rfl)]; exact laidMet_laidAll _ (by kernel_rfl) (by kernel_rfl))) ?_
  intro W base args ds gs before hval0 hW hsh hL
  have hval : ∀ (j : Nat) t v, Tryd.f11.params.toList[j]? = some t → args[j]? = some v → Value.okWide Tryd.prog W .any base t v := fun j t v hj hv => hval0 j t v (by simpa using hj) hv
  have hW' := hW
  obtain ⟨p, q, hA0, hV, rfl, hfz, hnd⟩ := hW
  have hA : DataW.TrodAll enc Tryd.prog W 0 (fun _ => true) true Tryd.f11.params.toList args.toList ds p := hA0
  rw [params_eq] at hA hval
  obtain ⟨rfl, rfl⟩ := trodVars_none hV
  obtain ⟨gx, hglob⟩ := glob_laid4 hsh hL
  refine (Vm.law_callsG (f := 11) (params := [9,  9]) plain (by decide) (fun j t v hj hv => ⟨_, _, hval j t v (by simpa using hj) hv⟩) hA ⟨_, _, Tryd.func11, rfl, by kernel_rfl⟩ hglob (joins_res gx)).mono fun e W' ⟨he, bel⟩ => ?_
  subst he
  have hB := Vm.trodAll_below laidOut (by kernel_rfl) bel hA
  obtain ⟨v0, vs0, d0, ds0, p0, q0, hargs, rfl, rfl, h0, r0⟩ := trodAll_cons hA
  obtain ⟨v1, vs1, d1, ds1, p1, q1, rfl, rfl, rfl, h1, r1⟩ := trodAll_cons r0
  obtain ⟨rfl, rfl, rfl⟩ := trodAll_nil r1
  exact ⟨_, rfl, _, _, _, [], _, [], hW', trodAll_mk1 (shut_bool Tryd.underlying4 _), hB, rfl, bel.frame _, fun h => by cases h⟩

theorem over : Rows.GrammarJoinsSaid :=
  OpenClaim.holds_of_wide 11 Tryd.f11 rfl rfl rfl rfl rfl rfl rfl ⟨rfl, rfl, rfl, rfl, rfl⟩ rfl rfl rfl rfl rfl (by kernel_rfl) Tryd.func11 (by kernel_rfl)
    (of_decide_eq_true (by kernel_rfl)) (by unfold Func.isWrapper; first | (rw [if_pos (by decide +kernel)]; kernel_rfl) | (rw [if_neg (by decide +kernel)]; exact ⟨rfl, rfl⟩))
    (fun os started H enc _ => lifted os started H enc)

theorem grammarJoins_proved : Rows.GrammarJoinsCardSaid :=
  Claim7.holds_tied_plain_at .later [] [.data, .sentinel, .sentinel, .pinned] true (true, "139eced0e0e39f29d1af0bfa24cf2c9af64f90568f7d7b03cc246e705d6eec5d") true over (fun _ h => by cases h) (by kernel_rfl) (fun _ h => by cases h) grammarJoins_row_tie rfl ⟨rfl, rfl⟩ (by kernel_rfl) rfl
    (fun f fn hf hfn => by
      obtain rfl : f = 11 := Option.some.inj ((show Tryd.prog.funcNamed "stile/stilelaw07.GrammarJoins" = some 11 by kernel_rfl).symm.trans hf) |>.symm
      obtain rfl : fn = Tryd.f11 := (Option.some.inj (Tryd.func11.symm.trans hfn)).symm
      exact ⟨by kernel_rfl, fun j t ht => by
        have hm : t ∈ [9,  9] := by rw [← params_eq]; simpa using Array.mem_of_getElem? ht
        have hall : ([9,  9].all fun u => !Tryd.prog.wantsStandIn u) = true := by kernel_rfl
        exact (show Tryd.prog.wantsStandIn t = false by simpa using List.all_eq_true.1 hall t hm)⟩)
    (by kernel_rfl)
#print axioms grammarJoins_proved
end Go.Proofs.YtniiimpcakmkbaaDoor
