/- grammar: the table of the law of two expressions -/
import Derived.Test.YtniiimpcakmkbaaDoorGrLa
import Derived.Test.YtniiimpcakmkbaaDoorGrK
set_option linter.unusedVariables false
namespace Go.Proofs.YtniiimpcakmkbaaDoor
open Go Vm Go.RowKit
/-- strings.Contains at longer texts -/
noncomputable def containsLS : List V → Bx → Tr
  | [.t (.w (.d (.str s))), .t (.w (.d (.str p)))], [] => .ite (decide (s.size < 1000000)) (.ret (vb (hasSub s p)) []) .no
  | _, _ => .no
theorem containsL_ok (m : Int) : SpecOk Tryd.prog (globT m) 24 containsLS := by
  intro a b v b' h
  unfold containsLS at h
  split at h
  · rename_i s p
    rcases run_ite h with ⟨hl, h⟩ | ⟨_, h⟩
    · obtain ⟨rfl, rfl⟩ := run_ret h
      refine known_res ⟨_, _, Tryd.func24, rfl, by kernel_rfl⟩ (fun g w cargs hS hg ha => ?_) []
      match cargs, ha with
      | [x, y], ha =>
        have hx := relC_str ha.head
        have hy := relC_str ha.tail.head
        subst hx hy
        have h2 := glob_cells (m := m) hS (hg 2 [.int .i64 m] rfl)
        have hs : s.size < 4294967281 := by rw [decide_eq_true_eq] at hl; omega
        refine ⟨_, RelC.bool _, (Tryd.strings_Contains s p m w hs (h2 0 _ _ rfl)).mono fun e w' ⟨he, hw⟩ => ⟨by rw [he, hasSub_eq], hw ▸ Below.refl _ _⟩⟩
      | [], ha => exact absurd ha.1 (by simp)
      | [_], ha => exact absurd ha.1 (by simp)
      | _ :: _ :: _ :: _, ha => exact absurd ha.1 (by simp)
    · exact (run_no h).elim
  · cases h
noncomputable def tabGJ : List (FuncId × (List V → Bx → Tr)) := [(19, awakeGS), (20, exprS), (22, sameS 30), (24, containsLS)]
noncomputable def orcGJ : FuncId → List V → Bx → Tr := orcOf tabGJ
theorem tabGJ_ok (m : Int) : TabS Tryd.prog (globG m) tabGJ := .cons (gawake_ok m) (.cons (expr_ok m) (.cons (same_ok m 30) (.cons (SpecOk.mono globG_T (containsL_ok m)) .nil)))
end Go.Proofs.YtniiimpcakmkbaaDoor

set_option linter.unusedVariables false
namespace Go.Proofs.YtniiimpcakmkbaaDoor
open Go Vm
noncomputable def lJoint_cf (m : Int) : Cfg := mkCfQ [25, 35] (globG m) vti orcGJ false [] []
theorem lJoint_start {R : Type} (m : Int) (k : V → Bx → Option R) (F : Nat) (s : ByteArray) (t : ByteArray) (x : Int) : runFn (lJoint_cf m) F Tryd.f9 (bd Tryd.f9) [vs s, vs t, vc (C.int IntKind.u8 x)] [] k =
    (bif decide ((↑s.size : Int) > (1000 : Int)) then
      k (vb true) []
    else (bif decide ((↑t.size : Int) > (1000 : Int)) then
        k (vb true) []
      else (bif decide (s.size < (1000000 : Nat)) then
          (bif hasSub s (ByteArray.mk #[(47 : UInt8), (47 : UInt8)]) then
            k (vb true) []
          else (bif decide (t.size < (1000000 : Nat)) then
              (bif hasSub t (ByteArray.mk #[(47 : UInt8), (47 : UInt8)]) then
                k (vb true) []
              else (bif decide (s.size < (1000000 : Nat)) then
                  (bif decide (t.size < (1000000 : Nat)) then
                    (bif exprE s != (0 : Int) then
                      k (vb true) []
                    else (bif exprE t != (0 : Int) then
                        k (vb true) []
                      else (bif decide ((↑((ByteArray.mk #[(40 : UInt8)]).size + s.size) : Int) > (9223372036854775807 : Int)) then
                          none
                        else (bif decide ((↑(((ByteArray.mk #[(40 : UInt8)]) ++ s).size + (ByteArray.mk #[(41 : UInt8)]).size) : Int) > (9223372036854775807 : Int)) then
                            none
                          else (bif decide ((0 : Int) ≤ IntKind.i64.wrap (x.tmod (3 : Int)) ∧ IntKind.i64.wrap (x.tmod (3 : Int)) < (3 : Int)) then
                              (getT (List.drop ((IntKind.i64.wrap (x.tmod (3 : Int))).toNat * (1 : Nat)) [C.str (ByteArray.mk #[(124 : UInt8)]), C.str (ByteArray.mk #[(38 : UInt8)]), C.str (ByteArray.mk #[(32 : UInt8), (45 : UInt8), (32 : UInt8)])]) 0 fun z1 =>
                                (bif shOk [Sh.str] [z1] then
                                  (bif decide ((↑(((ByteArray.mk #[(40 : UInt8)]) ++ s ++ (ByteArray.mk #[(41 : UInt8)])).size + ([z1].getD (0 : Nat) C.nf).toStr.size) : Int) > (9223372036854775807 : Int)) then
                                    none
                                  else (bif decide ((↑(((ByteArray.mk #[(40 : UInt8)]) ++ s ++ (ByteArray.mk #[(41 : UInt8)]) ++ ([z1].getD (0 : Nat) C.nf).toStr).size + (ByteArray.mk #[(40 : UInt8)]).size) : Int) > (9223372036854775807 : Int)) then
                                      none
                                    else (bif decide ((↑(((ByteArray.mk #[(40 : UInt8)]) ++ s ++ (ByteArray.mk #[(41 : UInt8)]) ++ ([z1].getD (0 : Nat) C.nf).toStr ++ (ByteArray.mk #[(40 : UInt8)])).size + t.size) : Int) > (9223372036854775807 : Int)) then
                                        none
                                      else (bif decide ((↑(((ByteArray.mk #[(40 : UInt8)]) ++ s ++ (ByteArray.mk #[(41 : UInt8)]) ++ ([z1].getD (0 : Nat) C.nf).toStr ++ (ByteArray.mk #[(40 : UInt8)]) ++ t).size + (ByteArray.mk #[(41 : UInt8)]).size) : Int) > (9223372036854775807 : Int)) then
                                          none
                                        else (bif decide (((ByteArray.mk #[(40 : UInt8)]) ++ s ++ (ByteArray.mk #[(41 : UInt8)]) ++ ([z1].getD (0 : Nat) C.nf).toStr ++ (ByteArray.mk #[(40 : UInt8)]) ++ t ++ (ByteArray.mk #[(41 : UInt8)])).size < (1000000 : Nat)) then
                                            (bif exprE ((ByteArray.mk #[(40 : UInt8)]) ++ s ++ (ByteArray.mk #[(41 : UInt8)]) ++ ([z1].getD (0 : Nat) C.nf).toStr ++ (ByteArray.mk #[(40 : UInt8)]) ++ t ++ (ByteArray.mk #[(41 : UInt8)])) == (12 : Int) then
                                              k (vb true) []
                                            else (bif exprE ((ByteArray.mk #[(40 : UInt8)]) ++ s ++ (ByteArray.mk #[(41 : UInt8)]) ++ ([z1].getD (0 : Nat) C.nf).toStr ++ (ByteArray.mk #[(40 : UInt8)]) ++ t ++ (ByteArray.mk #[(41 : UInt8)])) == (0 : Int) then
                                                (bif decide ((0 : Int) ≤ IntKind.i64.wrap (x.tmod (3 : Int)) ∧ IntKind.i64.wrap (x.tmod (3 : Int)) < (3 : Int)) then
                                                  (getT (List.drop ((IntKind.i64.wrap (x.tmod (3 : Int))).toNat * (1 : Nat)) [C.int IntKind.i64 (4 : Int), C.int IntKind.i64 (5 : Int), C.int IntKind.i64 (6 : Int)]) 0 fun z2 =>
                                                    (bif shOk [Sh.int IntKind.i64] [z2] then
                                                      (bif eqN (List.take (4 : Nat) (exprN ((ByteArray.mk #[(40 : UInt8)]) ++ s ++ (ByteArray.mk #[(41 : UInt8)]) ++ ([z1].getD (0 : Nat) C.nf).toStr ++ (ByteArray.mk #[(40 : UInt8)]) ++ t ++ (ByteArray.mk #[(41 : UInt8)])) ++ [])) [C.int IntKind.i64 ([z2].getD (0 : Nat) C.nf).toInt, C.str ByteArray.empty, C.str ByteArray.empty, C.sl (4 : Nat) [List.take (4 : Nat) (exprN s ++ []), List.take (4 : Nat) (exprN t ++ [])]] && tree (30 : Nat) (List.take (4 : Nat) (exprN ((ByteArray.mk #[(40 : UInt8)]) ++ s ++ (ByteArray.mk #[(41 : UInt8)]) ++ ([z1].getD (0 : Nat) C.nf).toStr ++ (ByteArray.mk #[(40 : UInt8)]) ++ t ++ (ByteArray.mk #[(41 : UInt8)])) ++ [])) then
                                                        k (vb true) []
                                                      else none)
                                                    else none))
                                                else none)
                                              else k (vb false) []))
                                          else none)))))
                                else none))
                            else none)))))
                  else none)
                else none))
            else none))
        else none))) := by kernel_rfl
end Go.Proofs.YtniiimpcakmkbaaDoor

/- grammar: the law of two expressions -/
set_option linter.unusedVariables false
namespace Go.Proofs.YtniiimpcakmkbaaDoor
open Go Vm Go.RowKit
theorem nobig {n : Nat} (h : n ≤ 10000) : decide ((n : Int) > 9223372036854775807) = false := by rw [decide_eq_false_iff_not]; omega
theorem lJoint_run (m : Int) (s t : ByteArray) (x : Int) (hx : 0 ≤ x) (F : Nat) : runFn (lJoint_cf m) F Tryd.f9 (bd Tryd.f9) [vs s, vs t, vc (C.int IntKind.u8 x)] [] fin2 = some (vb true, []) := by
  rw [lJoint_start]
  cases h1 : decide ((s.size : Int) > 1000) with
  | true => rfl
  | false =>
    cases h2 : decide ((t.size : Int) > 1000) with
    | true => rfl
    | false =>
      simp only [decide_eq_false_iff_not] at h1 h2
      have hs : s.size ≤ 1000 := by omega
      have ht : t.size ≤ 1000 := by omega
      rw [cond_false, cond_false, decide_eq_true (show s.size < 1000000 by omega), cond_true]
      cases h3 : hasSub s ⟨#[47, 47]⟩ with
      | true => rfl
      | false =>
        rw [cond_false, decide_eq_true (show t.size < 1000000 by omega), cond_true]
        cases h4 : hasSub t ⟨#[47, 47]⟩ with
        | true => rfl
        | false =>
          rw [cond_false, cond_true, cond_true]
          cases h5 : exprE s != 0 with
          | true => rfl
          | false =>
            cases h6 : exprE t != 0 with
            | true => rfl
            | false =>
              have es : exprE s = 0 := by simpa using h5
              have et : exprE t = 0 := by simpa using h6
              obtain ⟨j, hj, hj3⟩ : ∃ j : Nat, x.tmod 3 = j ∧ j < 3 := by
                refine ⟨(x.tmod 3).toNat, ?_, ?_⟩
                · have := Int.tmod_nonneg 3 hx; omega
                · have := Int.tmod_lt_of_pos x (show (0 : Int) < 3 by decide); omega
              have hw : IntKind.i64.wrap (x.tmod 3) = (j : Int) := by rw [hj]; exact w64 _ (by omega) (by omega)
              rw [hw, Int.toNat_natCast]
              obtain ⟨sg, sk, hsg, z1, z2⟩ : ∃ (sg : List Nat) (sk : Int), (sg, sk) ∈ sgN ∧
                  (List.drop (j * 1) [C.str (ByteArray.mk #[(124 : UInt8)]), C.str (ByteArray.mk #[(38 : UInt8)]), C.str (ByteArray.mk #[(32 : UInt8), (45 : UInt8), (32 : UInt8)])])[0]? = some (C.str (bsN sg)) ∧
                  (List.drop (j * 1) [C.int IntKind.i64 (4 : Int), C.int IntKind.i64 (5 : Int), C.int IntKind.i64 (6 : Int)])[0]? = some (C.int .i64 (kdN sk)) := by
                have : j = 0 ∨ j = 1 ∨ j = 2 := by omega
                rcases this with rfl | rfl | rfl
                · exact ⟨[124], 124, by simp [sgN], rfl, rfl⟩
                · exact ⟨[38], 38, by simp [sgN], rfl, rfl⟩
                · exact ⟨[32, 45, 32], 45, by simp [sgN], rfl, rfl⟩
              have hsgz : (bsN sg).size ≤ 3 := by
                simp only [sgN, List.mem_cons, List.mem_nil_iff, or_false, Prod.mk.injEq] at hsg
                rcases hsg with ⟨rfl, _⟩ | ⟨rfl, _⟩ | ⟨rfl, _⟩ <;> decide
              have c40 : (⟨#[40]⟩ : ByteArray).size = 1 := rfl
              have c41 : (⟨#[41]⟩ : ByteArray).size = 1 := rfl
              have sz : ∀ (c : ByteArray), c.size ≤ 10000 → c.size < 1000000 := fun c h => by omega
              have hj0 : decide ((0 : Int) ≤ (j : Int) ∧ (j : Int) < 3) = true := by rw [decide_eq_true_eq]; omega
              have so1 : shOk [Sh.str] [C.str (bsN sg)] = true := rfl
              have so2 : shOk [Sh.int IntKind.i64] [C.int .i64 (kdN sk)] = true := rfl
              have b1 : (⟨#[40]⟩ ++ s ++ ⟨#[41]⟩ ++ bsN sg ++ ⟨#[40]⟩ ++ t ++ ⟨#[41]⟩ : ByteArray).size ≤ 10000 := by simp only [ByteArray.size_append]; omega
              rw [cond_false, cond_false, nobig (by omega), cond_false, nobig (by simp only [ByteArray.size_append]; omega), cond_false, hj0, cond_true, getT_some z1, so1, cond_true]
              simp only [List.getD_cons_zero, C.toStr]
              rw [nobig (by simp only [ByteArray.size_append]; omega), cond_false, nobig (by simp only [ByteArray.size_append]; omega), cond_false, nobig (by simp only [ByteArray.size_append]; omega), cond_false, nobig (by simp only [ByteArray.size_append]; omega), cond_false, decide_eq_true (sz _ b1), cond_true]
              rcases joint_plain hs ht es et h3 h4 hsg with e | ⟨e1, e2⟩
              · rw [e]; rfl
              · rw [e1, cond_true, getT_some z2, so2, cond_true, exprN_take (sz _ b1), e2, exprN_take (by omega), exprN_take (by omega)]
                have tr := exprN_tree (sz _ b1)
                rw [e2] at tr
                have e3 : eqN (ndC (kdN sk) bE bE [exprN s, exprN t]) [C.int IntKind.i64 (C.int .i64 (kdN sk)).toInt, C.str ByteArray.empty, C.str ByteArray.empty, C.sl (4 : Nat) [exprN s, exprN t]] = true := eqN_refl _
                rw [e3, tr]; rfl
theorem joint_res (m : Int) (xs : List V) (h : argVs Tryd.prog [9, 9, 5] xs) : ∃ b, FnRes Tryd.prog (globG m) 9 xs [] (vb true) b := by
  obtain ⟨x, y, z, rfl, h1, h2, h3⟩ := argVs3 h
  obtain ⟨s, rfl, _⟩ := str_arg h1
  obtain ⟨t, rfl, _⟩ := str_arg h2
  obtain ⟨n, rfl, h0, _⟩ := u8_arg h3
  exact ⟨[], specAtQ eqs_ok mix vti_ok Tryd.func9 rfl (by kernel_rfl) (tabGJ_ok m) 100 (lJoint_run m s t n h0 100)⟩
end Go.Proofs.YtniiimpcakmkbaaDoor
