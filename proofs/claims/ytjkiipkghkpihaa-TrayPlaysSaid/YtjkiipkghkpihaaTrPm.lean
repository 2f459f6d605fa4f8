/- tray: Read with a row that stays the caller's own -/
import Derived.Test.YtjkiipkghkpihaaTrPl
set_option linter.unusedVariables false
namespace Go.Proofs.Ytjkiipkghkpihaa
open Go Vm
def readO_cf : Cfg := mkCfD vti orc1 true [36] [(5, 58720322), (999, 48), (1000, 64)]
def readO_m0 : List Bool := [false, true, false, false, false, false, true, false, false, false, false, false, false, false, false, false, false, false, false, false, false, false, false, true, true, true, false, false, false, false, false, false, false, false, false, false, false]
noncomputable def readO_b0 : Code := (cA (cA (cB (cA (cB (cB (cB (bd Try.f12))))))))
def readO_S0 (kept : List (List C)) (cache : List (List C)) (left : Int) (dark : Bool) (at_ : Int) (v1 : List C) (v2 : Int) : St := { env := [vu, (vi at_), vu, vu, vu, vu, (.t (.w (.ptr 3 0))), vu, vu, vu, vu, vu, vu, vu, vu, vu, vu, vu, vu, vu, vu, vu, vu, (.t (.w (.arr 2))), (vi ((↑cache.length : Int))), (vi v2), vu, vu, vu, vu, vu, vu, vu, vu, vu, vu, vu], bx := [(some (.cells ⟨[.nf, .nf, (.int .i64 left), (.bool dark)], [(0, (.arr 1)), (1, (.arr 2))], 4⟩)), (some (.arr true (some 64) 128 kept)), (some (.arr true (some 66) 129 cache)), (some (.cells ⟨v1, [], 128⟩))], np := 3 }
noncomputable def readO_L0 {R : Type} (K : X → St → Option R) (F n : Nat) (kept : List (List C)) (cache : List (List C)) (left : Int) (dark : Bool) (at_ : Int) (v1 : List C) (v2 : Int) : Option R := loopV (headM readO_m0) (exec readO_cf F readO_b0) (exitK readO_cf K) n (readO_S0 kept cache left dark at_ v1 v2)
noncomputable def readO_K0 {R : Type} (k : V → Bx → Option R) (F : Nat) : X → St → Option R := (blockK 0 (seqK readO_cf F (cB (cB (cB (cB (bd Try.f12))))) (finK readO_cf Try.f12 k)))
def readO_E1 (kept : List (List C)) (cache : List (List C)) (left : Int) (dark : Bool) (v1 : List C) : St := { env := [vu, vu, vu, vu, vu, vu, (.t (.w (.ptr 3 0))), vu, vu, vu, vu, vu, vu, vu, vu, vu, vu, vu, vu, vu, vu, vu, vu, vu, vu, vu, vu, vu, vu, vu, vu, vu, vu, vu, vu, vu, vu], bx := [(some (.cells ⟨[.nf, .nf, (.int .i64 left), (.bool dark)], [(0, (.arr 1)), (1, (.arr 2))], 4⟩)), (some (.arr true (some 64) 128 kept)), (some (.arr true (some 66) 129 cache)), (some (.cells ⟨v1, [], 128⟩))], np := 3 }
theorem readO_c1 {R : Type} (k : V → Bx → Option R) (F : Nat) (kept : List (List C)) (cache : List (List C)) (left : Int) (dark : Bool) (v1 : List C) : readO_K0 k F (.ex 0) (readO_E1 kept cache left dark v1) =
    k (.tup [(.w (.arr 3)), (.w (.d (.int .i64 0)))]) [(some (.cells ⟨[.nf, .nf, (.int .i64 left), (.bool dark)], [(0, (.arr 1)), (1, (.arr 2))], 4⟩)), (some (.arr true (some 64) 128 kept)), (some (.arr true (some 66) 129 cache)), (some (.arr true none 1 (List.map (fun c => [c]) v1)))] := by kernel_rfl
theorem readO_r0 {R : Type} (K : X → St → Option R) (F n : Nat) (kept : List (List C)) (cache : List (List C)) (left : Int) (dark : Bool) (at_ : Int) (v1 : List C) (v2 : Int) : readO_L0 K F (n + 1) kept cache left dark at_ v1 v2 =
    (bif decide (v2 < (↑cache.length : Int)) then
      (bif decide ((0 : Int) ≤ v2) then
        (getT cache v2.toNat fun _ =>
          (getT cache v2.toNat fun z4 =>
            (bif (List.take (129 : Nat) z4).length == (129 : Nat) then
              (bif shOk [Sh.int IntKind.i64, Sh.run (128 : Nat)] (List.take (129 : Nat) z4) then
                (bif ((List.take (129 : Nat) z4).getD (0 : Nat) C.nf).toInt == at_ then
                  readO_L0 K F n kept cache left dark at_ (List.take (128 : Nat) (List.take (128 : Nat) (List.drop (1 : Nat) (List.take (129 : Nat) z4)) ++ [] ++ []) ++ List.drop (128 : Nat) v1) (IntKind.i64.wrap (v2 + (1 : Int)))
                else readO_L0 K F n kept cache left dark at_ v1 (IntKind.i64.wrap (v2 + (1 : Int))))
              else none)
            else none)))
      else none)
    else K (.ex 0) (readO_E1 kept cache left dark v1)) := by kernel_rfl
theorem readO_start {R : Type} (k : V → Bx → Option R) (F : Nat) (kept : List (List C)) (cache : List (List C)) (left : Int) (dark : Bool) (at_ : Int) : runFn readO_cf F Try.f12 (bd Try.f12) [p0, vi at_] (trayB kept cache left dark) k =
    (bif decide (at_ ≥ (0 : Int)) then
      (bif !decide (at_ < (↑kept.length : Int)) then
        k (.tup [(.w (.arr 3)), (.w (.d (.int .i64 1)))]) [(some (.cells ⟨[.nf, .nf, (.int .i64 left), (.bool dark)], [(0, (.arr 1)), (1, (.arr 2))], 4⟩)), (some (.arr true (some 64) 128 kept)), (some (.arr true (some 66) 129 cache)), (some (.arr true (some 5) 1 []))]
      else (bif decide ((0 : Int) ≤ at_) then
          (getT kept at_.toNat fun _ =>
            (getT kept at_.toNat fun z2 =>
              (bif (List.take (128 : Nat) z2).length == (128 : Nat) then
                (bif shOk [Sh.run (128 : Nat)] (List.take (128 : Nat) z2) then
                  readO_L0 (readO_K0 k F) F F kept cache left dark at_ (List.take (128 : Nat) (List.take (128 : Nat) z2) ++ [] ++ []) 0
                else none)
              else none)))
        else none))
    else k (.tup [(.w (.arr 3)), (.w (.d (.int .i64 1)))]) [(some (.cells ⟨[.nf, .nf, (.int .i64 left), (.bool dark)], [(0, (.arr 1)), (1, (.arr 2))], 4⟩)), (some (.arr true (some 64) 128 kept)), (some (.arr true (some 66) 129 cache)), (some (.arr true (some 5) 1 []))]) := by kernel_rfl

def trayRd (kept cache : List (List C)) (left : Int) (dark : Bool) (x : Box) : Bx :=
  [some (.cells ⟨[.nf, .nf, .int .i64 left, .bool dark], [(0, .arr 1), (1, .arr 2)], 4⟩), some (.arr true (some 64) 128 kept), some (.arr true (some 66) 129 cache), some x]
def readOS : List V → Bx → Tr
  | [.t (.w (.ptr 0 0)), .t (.w (.d (.int .i64 at_)))], b => onTray b fun kept cache left dark =>
    .ite (okT kept cache)
      (.ite (inR kept at_) (.ret (.tup [.w (.arr 3), .w (.d (.int .i64 0))]) (trayRd kept cache left dark (.arr true none 1 ((readP kept cache at_).map (fun c => [c])))))
        (.ret (.tup [.w (.arr 3), .w (.d (.int .i64 1))]) (trayRd kept cache left dark (.arr true (some 5) 1 []))))
      .no
  | _, _ => .no
theorem readO_loop {R : Type} (K : X → St → Option R) (F : Nat) (kept cache : List (List C)) (left : Int) (dark : Bool) (at_ : Int) (hok : OkT kept cache) : ∀ (n i : Nat) (b : List C), i ≤ cache.length → cache.length - i < n → b.length = 128 →
    readO_L0 K F n kept cache left dark at_ b i = K (.ex 0) (readO_E1 kept cache left dark (readW at_ b (cache.drop i))) := by
  intro n
  have hcl := hok.cl
  induction n with
  | zero => intro i b hi h; omega
  | succ n ih =>
    intro i b hi hn hb
    rw [readO_r0]
    by_cases hlt : i < cache.length
    · have hget : cache[i]? = some cache[i] := List.getElem?_eq_getElem hlt
      have hmem : cache[i] ∈ cache := List.getElem_mem hlt
      generalize hE : cache[i] = e at hget hmem
      rw [drop_cons hget]
      obtain ⟨h1, h2, h3, h4, h5⟩ := cwOk_parts (hok.cw e hmem)
      have ht : List.take 129 e = e := List.take_of_length_le (by omega)
      have d1 : decide ((i : Int) < (cache.length : Int)) = true := by simpa using hlt
      have d2 : decide ((0 : Int) ≤ (i : Int)) = true := by simp
      have hs := secOk_len h5
      have h128 : List.take 128 (List.take 128 (List.drop 1 e) ++ [] ++ []) = List.drop 1 e := by
        rw [List.append_nil, List.append_nil, List.take_take]; exact List.take_of_length_le (by simp at hs ⊢; omega)
      have hdz : List.drop 128 b = [] := List.drop_eq_nil_of_le (by omega)
      rw [d1, cond_true, d2, cond_true, getT_at rfl hget, getT_at rfl hget, ht, h1, beq_self_eq_true, cond_true, h2, cond_true]
      rw [show (e.getD 0 .nf).toInt = atE e from rfl, h128, hdz, List.append_nil, w64 _ (by omega) (by omega)]
      simp only [readW]
      cases atE e == at_ with
      | true => rw [cond_true, cond_true]; exact ih (i + 1) _ (by omega) (by omega) hs
      | false => rw [cond_false, cond_false]; exact ih (i + 1) _ (by omega) (by omega) hb
    · have : i = cache.length := by omega
      subst this
      have d1 : decide ((cache.length : Int) < (cache.length : Int)) = false := by simp
      rw [d1, cond_false, List.drop_length]
      rfl

theorem readO_ok : SpecOk Try.prog (fun _ => none) 12 readOS := by
  intro a b v b' h
  unfold readOS at h
  split at h
  · rename_i at_
    obtain ⟨kept, cache, left, dark, rfl, h⟩ := onTray_run h
    rcases run_ite h with ⟨h1, h⟩ | ⟨h1, h⟩
    · have hok := okT_iff.1 h1
      refine specAtD mix vti_ok Try.func12 rfl (by kernel_rfl) tab1_ok (keep := true) (bor := [36]) (lv := [(5, 58720322), (999, 48), (1000, 64)]) (cache.length + 1) ((readO_start _ _ _ _ _ _ _).trans ?_)
      by_cases ha : at_ ≥ 0
      · by_cases hb2 : at_ < (kept.length : Int)
        · have hin : inR kept at_ = true := by simp [inR]; omega
          rw [hin] at h
          have hlt : at_.toNat < kept.length := by omega
          have hk := List.getElem?_eq_getElem hlt
          have hs := hok.sec _ (List.getElem_mem hlt)
          have hkd : kept.getD at_.toNat [] = kept[at_.toNat] := by rw [List.getD_eq_getElem?_getD, hk]; rfl
          simp only [readP, hkd] at h
          generalize kept[at_.toNat] = s at hk hs h
          have hl := secOk_len hs
          have ht : List.take 128 s = s := List.take_of_length_le (by omega)
          have hsh : shOk [Sh.run 128] s = true := by simp [shOk, shLen, Sh.len, hl, shOkGo]
          simp only [ha, hb2, decide_true, cond_true, Bool.not_true, cond_false]
          rw [getT_some hk, getT_some hk, ht, hl, beq_self_eq_true, cond_true, hsh, cond_true, List.append_nil, List.append_nil, ht]
          rw [show (0 : Int) = ((0 : Nat) : Int) from rfl, readO_loop _ _ _ _ _ _ _ hok _ 0 _ (by omega) (by omega) hl, readO_c1]
          exact h
        · have hin : inR kept at_ = false := by simp [inR]; omega
          rw [hin] at h
          simp only [ha, hb2, decide_true, cond_true, decide_false, Bool.not_false]
          exact h
      · have hin : inR kept at_ = false := by simp [inR]; omega
        rw [hin] at h
        simp only [ha, decide_false, cond_false]
        exact h
    · exact (run_no h).elim
  · cases h
def tab5 : List (FuncId × (List V → Bx → Tr)) := (12, readOS) :: tab4
def orc5 : FuncId → List V → Bx → Tr := orcOf tab5
theorem tab5_ok : TabS Try.prog (fun _ => none) tab5 := .cons readO_ok tab4_ok
end Go.Proofs.Ytjkiipkghkpihaa
