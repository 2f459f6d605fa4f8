/- tray: Write of a row that stays the caller's; the table for TrayPlays -/
import Derived.Test.YtjkiipkghkpihaaTrRE
set_option linter.unusedVariables false
namespace Go.Proofs.Ytjkiipkghkpihaa
open Go Vm
def trayO (kept cache bels : List (List C)) (left : Int) (dark : Bool) : Bx :=
  [some (.cells ⟨[.nf, .nf, .int .i64 left, .bool dark], [(0, .arr 2), (1, .arr 3)], 4⟩), some (.arr true (some 5) 1 bels), some (.arr true (some 64) 128 kept), some (.arr true (some 66) 129 cache)]
def trayOW (kept cache bels : List (List C)) (left : Int) (dark : Bool) : Bx :=
  [some (.cells ⟨[.nf, .nf, .int .i64 left, .bool dark], [(0, .arr 2), (1, .arr 4)], 4⟩), some (.arr true (some 5) 1 bels), some (.arr true (some 64) 128 kept), none, some (.arr true (some 66) 129 cache)]
def writeOS : List V → Bx → Tr
  | [.t (.w (.ptr 0 0)), .t (.w (.d (.int .i64 at_))), .t (.w (.arr 1))], [some (.cells ⟨[.nf, .nf, .int .i64 left, .bool dark], [(0, .arr 2), (1, .arr 3)], 4⟩), some (.arr true (some 5) 1 bels), some (.arr true (some 64) 128 kept), some (.arr true (some 66) 129 cache)] =>
    .ite (okT kept cache && bels.all isBE && leftOk left)
      (.ite (wIn kept at_ bels && !(left == 0)) (.ret (vi 0) (trayOW kept (cache ++ [mkW at_ bels]) bels (decL left) dark))
        (.ret (vi (bif wIn kept at_ bels then 20 else 1)) (trayO kept cache bels left (wIn kept at_ bels || dark))))
      .no
  | _, _ => .no
def tab4 : List (FuncId × (List V → Bx → Tr)) := (9, writeOS) :: tab2 ++ tabR
def orc4 : FuncId → List V → Bx → Tr := orcOf tab4
def writeO_cf : Cfg := mkCf vti orc1 false (fun i => memN i []) (fun _ => false)
theorem writeO_start {R : Type} (k : V → Bx → Option R) (F : Nat) (kept : List (List C)) (cache : List (List C)) (left : Int) (dark : Bool) (at_ : Int) (bels : List (List C)) : runFn writeO_cf F Try.f9 (bd Try.f9) [p0, vi at_, V.t (T.w (W.arr (1 : Nat)))] [some (Box.cells { l := [C.nf, C.nf, C.int IntKind.i64 left, C.bool dark], lk := [((0 : Nat), W.arr (2 : Nat)), ((1 : Nat), W.arr (3 : Nat))], n := (4 : Nat) }), some (Box.arr true (some (5 : TypeId)) (1 : Nat) bels), some (Box.arr true (some (64 : TypeId)) (128 : Nat) kept), some (Box.arr true (some (66 : TypeId)) (129 : Nat) cache)] k =
    (bif decide (at_ ≥ (0 : Int)) then
      (bif !decide (at_ < (↑kept.length : Int)) then
        k (vi 1) [(some (.cells ⟨[.nf, .nf, (.int .i64 left), (.bool dark)], [(0, (.arr 2)), (1, (.arr 3))], 4⟩)), (some (.arr true (some 5) 1 bels)), (some (.arr true (some 64) 128 kept)), (some (.arr true (some 66) 129 cache))]
      else (bif decide ((↑bels.length : Int) > (128 : Int)) then
          k (vi 1) [(some (.cells ⟨[.nf, .nf, (.int .i64 left), (.bool dark)], [(0, (.arr 2)), (1, (.arr 3))], 4⟩)), (some (.arr true (some 5) 1 bels)), (some (.arr true (some 64) 128 kept)), (some (.arr true (some 66) 129 cache))]
        else (bif left == (0 : Int) then
            k (vi 20) [(some (.cells ⟨[.nf, .nf, (.int .i64 left), (.bool true)], [(0, (.arr 2)), (1, (.arr 3))], 4⟩)), (some (.arr true (some 5) 1 bels)), (some (.arr true (some 64) 128 kept)), (some (.arr true (some 66) 129 cache))]
          else (bif decide (left > (0 : Int)) then
              (bif decide ((cache.length + (1 : Nat)) * (136 : Nat) ≤ (140737488355328 : Nat) ∧ cache.length + (1 : Nat) ≤ (9223372036854775807 : Nat)) then
                k (vi 0) [(some (.cells ⟨[.nf, .nf, (.int .i64 (IntKind.i64.wrap (left - (1 : Int)))), (.bool dark)], [(0, (.arr 2)), (1, (.arr 4))], 4⟩)), (some (.arr true (some 5) 1 bels)), (some (.arr true (some 64) 128 kept)), none, (some (.arr true (some 66) 129 (cache ++ [C.int IntKind.i64 at_ :: List.take (128 : Nat) (List.map (fun e => e.getD (0 : Nat) C.nf) (List.take (128 : Nat) bels) ++ List.drop ((1 : Nat) + bels.length.min (128 : Nat)) (C.int IntKind.i64 at_ :: List.replicate (128 : Nat) (C.int IntKind.u8 (0 : Int))))])))]
              else none)
            else (bif decide ((cache.length + (1 : Nat)) * (136 : Nat) ≤ (140737488355328 : Nat) ∧ cache.length + (1 : Nat) ≤ (9223372036854775807 : Nat)) then
                k (vi 0) [(some (.cells ⟨[.nf, .nf, (.int .i64 left), (.bool dark)], [(0, (.arr 2)), (1, (.arr 4))], 4⟩)), (some (.arr true (some 5) 1 bels)), (some (.arr true (some 64) 128 kept)), none, (some (.arr true (some 66) 129 (cache ++ [C.int IntKind.i64 at_ :: List.take (128 : Nat) (List.map (fun e => e.getD (0 : Nat) C.nf) (List.take (128 : Nat) bels) ++ List.drop ((1 : Nat) + bels.length.min (128 : Nat)) (C.int IntKind.i64 at_ :: List.replicate (128 : Nat) (C.int IntKind.u8 (0 : Int))))])))]
              else none)))))
    else k (vi 1) [(some (.cells ⟨[.nf, .nf, (.int .i64 left), (.bool dark)], [(0, (.arr 2)), (1, (.arr 3))], 4⟩)), (some (.arr true (some 5) 1 bels)), (some (.arr true (some 64) 128 kept)), (some (.arr true (some 66) 129 cache))]) := by kernel_rfl

theorem writeO_ok : SpecOk Try.prog (fun _ => none) 9 writeOS := by
  intro a b v b' h
  unfold writeOS at h
  split at h
  · rename_i at_ left dark bels kept cache
    rcases run_ite h with ⟨h1, h⟩ | ⟨h1, h⟩
    · simp only [Bool.and_eq_true] at h1
      obtain ⟨⟨h1, hb⟩, hl⟩ := h1
      have hok := okT_iff.1 h1
      have hcl := hok.cl
      simp only [leftOk, Bool.and_eq_true, decide_eq_true_eq] at hl
      refine specAt mix vti_ok Try.func9 rfl (by kernel_rfl) tab1_ok (keep := false) (bor := fun i => memN i []) (drop := fun _ => false) 0 ((writeO_start _ _ _ _ _ _ _ _).trans ?_)
      have hsz : decide ((cache.length + 1) * 136 ≤ 140737488355328 ∧ cache.length + 1 ≤ 9223372036854775807) = true := by simp only [decide_eq_true_eq]; omega
      simp only [hsz, cond_true]
      by_cases ha : at_ ≥ 0
      · by_cases hb2 : at_ < (kept.length : Int)
        · by_cases hb3 : (bels.length : Int) > 128
          · have hw : wIn kept at_ bels = false := by simp [wIn]; intro _; omega
            rw [hw] at h
            simp only [Bool.false_and, Bool.false_or, cond_false] at h
            simp only [ha, hb2, hb3, decide_true, cond_true, Bool.not_true, cond_false]
            rcases run_ite h with ⟨h2, h⟩ | ⟨_, h⟩
            · cases h2
            · exact h
          · have hw : wIn kept at_ bels = true := by simp [wIn, inR]; omega
            rw [hw] at h
            simp only [Bool.true_and, Bool.true_or, cond_true] at h
            simp only [ha, hb2, hb3, decide_true, cond_true, Bool.not_true, cond_false, decide_false]
            rw [mkW_eq _ _ (by omega)]
            rcases run_ite h with ⟨h2, h⟩ | ⟨h2, h⟩
            · rw [Bool.not_eq_true'] at h2
              rw [h2, cond_false]
              cases hd : decide (left > 0) with
              | true =>
                simp only [decide_eq_true_eq] at hd
                rw [cond_true, w64 _ (by omega) (by omega)]
                have : decL left = left - 1 := by simp [decL, hd]
                rw [this] at h; exact h
              | false =>
                simp only [decide_eq_false_iff_not] at hd
                rw [cond_false]
                have : decL left = left := by simp [decL, hd]
                rw [this] at h; exact h
            · simp only [Bool.not_eq_false'] at h2
              rw [h2]; exact h
        · have hw : wIn kept at_ bels = false := by simp [wIn, inR]; omega
          rw [hw] at h
          simp only [Bool.false_and, Bool.false_or, cond_false] at h
          simp only [ha, hb2, decide_true, cond_true, decide_false, Bool.not_false]
          rcases run_ite h with ⟨h2, h⟩ | ⟨_, h⟩
          · cases h2
          · exact h
      · have hw : wIn kept at_ bels = false := by simp [wIn, inR]; omega
        rw [hw] at h
        simp only [Bool.false_and, Bool.false_or, cond_false] at h
        simp only [ha, decide_false, cond_false]
        rcases run_ite h with ⟨h2, h⟩ | ⟨_, h⟩
        · cases h2
        · exact h
    · exact (run_no h).elim
  · cases h

theorem TabS.app {P : Program} {glob : Nat → Option (List C)} : ∀ {l m : List (FuncId × (List V → Bx → Tr))}, TabS P glob l → TabS P glob m → TabS P glob (l ++ m)
  | _, _, .nil, h => h
  | _, _, .cons a t, h => .cons a (TabS.app t h)
theorem tab4_ok : TabS Try.prog (fun _ => none) tab4 := .cons writeO_ok (TabS.app tab2_ok tabR_ok)
end Go.Proofs.Ytjkiipkghkpihaa
