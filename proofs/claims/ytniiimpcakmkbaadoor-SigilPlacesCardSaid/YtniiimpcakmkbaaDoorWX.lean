/- Vm, part X: the frame of statements whose rows list package variables. -/
import Derived.Test.YtniiimpcakmkbaaDoorWV
import Derived.HandedShaped
import Derived.LaidMore
set_option linter.unusedVariables false
namespace Vm
open Go Go.RowKit Go.ChangeShapes

theorem handed_shaped {H : Type} {enc : TypeId × Value → H} {a : Assume} {C : Checked} {os : Os} {f : FuncId} {fn : Func} {s : ChangeSpec} {conds : List PathCond} {apart fresh handsOn again : Bool} {X : World → Array Value → Prop}
    (hX : ∀ (w w' : World) (args : Array Value), w.heap = w'.heap → X w args → X w' args)
    (own : ownKnob C.prog.godebug = none) (started : os.Started) (noInit : C.prog.inits.idxOf? f = none) (hfn : C.prog.funcs[f]? = some fn)
    (witness : ∃ (w : World) (tape : Tape) (i : Input), w.os = os ∧ (w.forCall tape i).Shaped C.prog ∧ i.vars = [] ∧ Input.okWide C.prog (w.forCall tape i) .any w.heap.size f i ∧
      ((s.pre enc C.prog fn conds apart (w.forCall tape i).memory i.args ∧ X (w.forCall tape i).memory i.args) ∧ sizedMet enc C.prog fn (OpenSpec.ofChange s) apart (w.forCall tape i).memory i.args) ∧ a.holds C.prog (lone (Frame.enter C.prog f i.args .normal) [] (w.forCall tape i)))
    (contract : ∀ (W : World) (base : Nat) (args : Array Value) (ds gs : List (DataW H)) (before : List MemPlace),
      (∀ (j : Nat) t v, fn.params[j]? = some t → args[j]? = some v → Value.okWide C.prog W .any base t v) →
      DataW.Whole enc C.prog fn.params.toList s.vars apart W args.toList ds gs before →
      W.ShapedOpen C.prog → X W args →
      Calls C.prog f args W fun e W' => ∃ v, e = .returned v ∧ s.post enc C.prog fn apart fresh handsOn again W args v W') :
    ReturnsInHanded a C os f .any (fun w args => (s.pre enc C.prog fn conds apart w args ∧ X w args) ∧ sizedMet enc C.prog fn (OpenSpec.ofChange s) apart w args) (s.post enc C.prog fn apart fresh handsOn again) := by
  refine returnsInHanded_of_calls own started noInit witness ?_
  intro w tape i _ hsh _ hok hpre hholds
  obtain ⟨_, _, _, fn', hfn', _, _, _, _, hval⟩ := hok
  have e : fn' = fn := Option.some.inj (hfn'.symm.trans hfn)
  subst e
  obtain ⟨⟨⟨ds, gs, before, hw, hc⟩, hx⟩, hz⟩ := hpre
  have hw' := DataW.Whole.of_heap (w' := w.forCall tape i) (by rfl) hw
  refine (contract (w.forCall tape i) w.heap.size i.args ds gs before hval hw' hsh (hX _ _ _ (by rfl) hx)).mono fun e W' ⟨v, he, hp⟩ => ?_
  subst he
  exact ChangeSpec.post_blind hp

section
variable {H : Type} {enc : TypeId × Value → H} {P : Program} {w : World} {base : Nat} {spare : Nat → Bool} {held : Bool}
/-- a law over plain data, with package variables, answers true at its call -/
theorem law_callsG {glob : Nat → Option (List C)} {f : FuncId} {ts params : List TypeId} {args : Array Value} (hts : plainTs P ts = true) (hin : params.all (fun t => ts.contains t) = true)
    (hok : ∀ (j : Nat) t v, params[j]? = some t → args[j]? = some v → ∃ r b0, Value.okWide P w r b0 t v) {ds : List (DataW H)} {ps : List MemPlace} (hA : DataW.TrodAll enc P w base spare held params args.toList ds ps)
    (hbody : ∃ fn c, P.funcs[f]? = some fn ∧ fn.body = some c ∧ (fn.name == "runtime.NumGoroutine") = false)
    (hglob : ∀ g' l, glob g' = some l → RelC (stG w).S (.ip l) (.pointer (some ⟨g', 0, none⟩)))
    (hlaw : ∀ xs, argVs P params xs → ∃ b, FnRes P glob f xs [] (vb true) b) :
    Calls P f args w fun e w' => e = .returned (.bool true) ∧ Below w.heap.size w w' := by
  obtain ⟨xs, h1, h2⟩ := args_rel hts (fun t ht => by simpa using List.all_eq_true.1 hin t ht) (fun j t v hj hv => hok j t v hj (by simpa using hv)) hA
  obtain ⟨b, hb⟩ := hlaw xs h1
  have hM : RelM w (stG w).S (fun _ => False) (stG w) [] w :=
    ⟨rfl, rfl, rfl, Nat.le_refl _, fun _ _ _ => rfl, fun _ _ h => h, fun _ _ h => .inl h, fun _ _ h => h, fun _ h => h.elim, fun n x h => by simp at h, fun n m x y k h => by simp at h, fun n x k h => by simp at h, fun n x k h => by simp at h⟩
  have := hb (stG w) w (fun _ => False) args.toList hM (fun k hk => by simp at hk) hglob h2
  have hcf : ∀ c w', PcPost (stG w) w (fun _ => False) 0 (vb true) b c w' → c = .bool true ∧ Below w.heap.size w w' := by
    rintro c w' ⟨g', _, _, hv, hm⟩
    exact ⟨relC_bool hv, hm.os, hm.tape, hm.output, hm.size, fun k hk => hm.old k hk (fun h => h)⟩
  rcases this with ⟨_, hc⟩ | ⟨c, w', hc, _⟩
  · have e : args.toList.toArray = args := by simp
    rw [e] at hc
    refine hc.mono fun e w' ⟨c, he, hp⟩ => ?_
    obtain ⟨rfl, hbel⟩ := hcf c w' hp
    exact ⟨he, hbel⟩
  · obtain ⟨fn, cd, hf, hbd, hn⟩ := hbody
    rw [callFunc_enter hf (by rw [hbd]; rfl) hn] at hc
    cases hc
end
theorem argVs1 {P : Program} {t : TypeId} {xs : List V} (h : argVs P [t] xs) : ∃ x, xs = [x] ∧ argV P t x := by
  match xs, h with
  | [x], h => exact ⟨x, rfl, h.1⟩
theorem argVs2 {P : Program} {t u : TypeId} {xs : List V} (h : argVs P [t, u] xs) : ∃ x y, xs = [x, y] ∧ argV P t x ∧ argV P u y := by
  match xs, h with
  | [x, y], h => exact ⟨x, y, rfl, h.1, h.2.1⟩
theorem argVs3 {P : Program} {t u v : TypeId} {xs : List V} (h : argVs P [t, u, v] xs) : ∃ x y z, xs = [x, y, z] ∧ argV P t x ∧ argV P u y ∧ argV P v z := by
  match xs, h with
  | [x, y, z], h => exact ⟨x, y, z, rfl, h.1, h.2.1, h.2.2.1⟩
theorem str_argP {P : Program} {t : TypeId} (hu : P.underlying t = some .string) {v : V} (h : argV P t v) : ∃ s : ByteArray, v = .t (.w (.d (.str s))) ∧ s.size ≤ maxLen := by
  obtain ⟨f, l, h, hv⟩ := h
  rw [hu] at hv
  match f, h with
  | f + 1, h =>
    unfold hasT at h; rw [hu] at h; simp only at h
    obtain ⟨s, rfl, hs⟩ := h
    exact ⟨s, hv, hs⟩
theorem int_argP {P : Program} {t : TypeId} {k : IntKind} (hu : P.underlying t = some (.int k)) {v : V} (h : argV P t v) : ∃ n : Int, v = .t (.w (.d (.int k n))) ∧ (Lit.int k n).wf = true := by
  obtain ⟨f, l, h, hv⟩ := h
  rw [hu] at hv
  match f, h with
  | f + 1, h =>
    unfold hasT at h; rw [hu] at h; simp only at h
    obtain ⟨s, rfl, hs⟩ := h
    exact ⟨s, hv, hs⟩
end Vm
