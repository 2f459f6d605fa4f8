/- grammar: the table of the law of brackets -/
import Derived.Test.YtniiimpcakmkbaaDoorGrLa
import Derived.Test.YtniiimpcakmkbaaDoorSgRq
import Derived.Test.YtniiimpcakmkbaaDoorSgT
set_option linter.unusedVariables false
namespace Go.Proofs.YtniiimpcakmkbaaDoor
open Go Vm Go.RowKit
noncomputable def tabGNe : List (FuncId × (List V → Bx → Tr)) := [(18, repeatS), (19, awakeGS), (20, exprS), (22, sameS 30)]
noncomputable def orcGNe : FuncId → List V → Bx → Tr := orcOf tabGNe
theorem globG_T' {m : Int} : ∀ g l, globT m g = some l → globG m g = some l := globG_T
theorem tabGNe_ok (m : Int) : TabS Tryd.prog (globG m) tabGNe := .cons (SpecOk.mono globG_T (repeat_ok m)) (.cons (gawake_ok m) (.cons (expr_ok m) (.cons (same_ok m 30) .nil)))
end Go.Proofs.YtniiimpcakmkbaaDoor

set_option linter.unusedVariables false
namespace Go.Proofs.YtniiimpcakmkbaaDoor
open Go Vm
noncomputable def lNests_cf (m : Int) : Cfg := mkCfQ [25, 35] (globG m) vti orcGNe false [] []
theorem lNests_start {R : Type} (m : Int) (k : V → Bx → Option R) (F : Nat) (x : Int) : runFn (lNests_cf m) F Tryd.f12 (bd Tryd.f12) [vc (C.int IntKind.u8 x)] [] k =
    (bif decide ((0 : Int) ≤ IntKind.i64.wrap (x.tmod (20 : Int)) ∧ IntKind.i64.wrap (x.tmod (20 : Int)) ≤ (1000000 : Int) ∧ (ByteArray.mk #[(40 : UInt8)]).size ≤ (1000000 : Nat)) then
      (bif decide ((↑((repB (ByteArray.mk #[(40 : UInt8)]) (IntKind.i64.wrap (x.tmod (20 : Int))).toNat).size + (ByteArray.mk #[(97 : UInt8), (45 : UInt8), (62 : UInt8), (98 : UInt8)]).size) : Int) > (9223372036854775807 : Int)) then
        none
      else (bif decide ((0 : Int) ≤ IntKind.i64.wrap (x.tmod (20 : Int)) ∧ IntKind.i64.wrap (x.tmod (20 : Int)) ≤ (1000000 : Int) ∧ (ByteArray.mk #[(41 : UInt8)]).size ≤ (1000000 : Nat)) then
          (bif decide ((↑((repB (ByteArray.mk #[(40 : UInt8)]) (IntKind.i64.wrap (x.tmod (20 : Int))).toNat ++ (ByteArray.mk #[(97 : UInt8), (45 : UInt8), (62 : UInt8), (98 : UInt8)])).size + (repB (ByteArray.mk #[(41 : UInt8)]) (IntKind.i64.wrap (x.tmod (20 : Int))).toNat).size) : Int) > (9223372036854775807 : Int)) then
            none
          else (bif decide ((repB (ByteArray.mk #[(40 : UInt8)]) (IntKind.i64.wrap (x.tmod (20 : Int))).toNat ++ (ByteArray.mk #[(97 : UInt8), (45 : UInt8), (62 : UInt8), (98 : UInt8)]) ++ repB (ByteArray.mk #[(41 : UInt8)]) (IntKind.i64.wrap (x.tmod (20 : Int))).toNat).size < (1000000 : Nat)) then
              (bif decide (IntKind.i64.wrap (x.tmod (20 : Int)) > (8 : Int)) then
                (bif exprE (repB (ByteArray.mk #[(40 : UInt8)]) (IntKind.i64.wrap (x.tmod (20 : Int))).toNat ++ (ByteArray.mk #[(97 : UInt8), (45 : UInt8), (62 : UInt8), (98 : UInt8)]) ++ repB (ByteArray.mk #[(41 : UInt8)]) (IntKind.i64.wrap (x.tmod (20 : Int))).toNat) == (12 : Int) then
                  k (vb (exprL (repB (ByteArray.mk #[(40 : UInt8)]) (IntKind.i64.wrap (x.tmod (20 : Int))).toNat ++ (ByteArray.mk #[(97 : UInt8), (45 : UInt8), (62 : UInt8), (98 : UInt8)]) ++ repB (ByteArray.mk #[(41 : UInt8)]) (IntKind.i64.wrap (x.tmod (20 : Int))).toNat) == (1 : Int) && (exprC (repB (ByteArray.mk #[(40 : UInt8)]) (IntKind.i64.wrap (x.tmod (20 : Int))).toNat ++ (ByteArray.mk #[(97 : UInt8), (45 : UInt8), (62 : UInt8), (98 : UInt8)]) ++ repB (ByteArray.mk #[(41 : UInt8)]) (IntKind.i64.wrap (x.tmod (20 : Int))).toNat) == (9 : Int) && true))) []
                else k (vb false) [])
              else (bif exprE (repB (ByteArray.mk #[(40 : UInt8)]) (IntKind.i64.wrap (x.tmod (20 : Int))).toNat ++ (ByteArray.mk #[(97 : UInt8), (45 : UInt8), (62 : UInt8), (98 : UInt8)]) ++ repB (ByteArray.mk #[(41 : UInt8)]) (IntKind.i64.wrap (x.tmod (20 : Int))).toNat) == (0 : Int) then
                  (bif eqN (List.take (4 : Nat) (exprN (repB (ByteArray.mk #[(40 : UInt8)]) (IntKind.i64.wrap (x.tmod (20 : Int))).toNat ++ (ByteArray.mk #[(97 : UInt8), (45 : UInt8), (62 : UInt8), (98 : UInt8)]) ++ repB (ByteArray.mk #[(41 : UInt8)]) (IntKind.i64.wrap (x.tmod (20 : Int))).toNat) ++ [])) [C.int IntKind.i64 (3 : Int), C.str (ByteArray.mk #[(97 : UInt8)]), C.str (ByteArray.mk #[(98 : UInt8)]), C.sl (4 : Nat) []] && tree (30 : Nat) (List.take (4 : Nat) (exprN (repB (ByteArray.mk #[(40 : UInt8)]) (IntKind.i64.wrap (x.tmod (20 : Int))).toNat ++ (ByteArray.mk #[(97 : UInt8), (45 : UInt8), (62 : UInt8), (98 : UInt8)]) ++ repB (ByteArray.mk #[(41 : UInt8)]) (IntKind.i64.wrap (x.tmod (20 : Int))).toNat) ++ [])) then
                    k (vb true) []
                  else none)
                else k (vb false) []))
            else none))
        else none))
    else none) := by kernel_rfl
end Go.Proofs.YtniiimpcakmkbaaDoor

/- grammar: the law of brackets -/
set_option linter.unusedVariables false
namespace Go.Proofs.YtniiimpcakmkbaaDoor
open Go Vm Go.RowKit
def nsK (k : Nat) : List Nat := rep [40] k ++ [97, 45, 62, 98] ++ rep [41] k
def tkK2 (k : Nat) : List Tok × (Int × Int) × Int := lxF ((nsK k).length + 1) (1, 1) (nsK k)
noncomputable abbrev tkL2 (k : Nat) : List (List C) := (tkK2 k).1.map tokC
theorem nsK_text (k : Nat) : repB ⟨#[40]⟩ k ++ ⟨#[97, 45, 62, 98]⟩ ++ repB ⟨#[41]⟩ k = bsN (nsK k) := by
  have h1 : repB ⟨#[40]⟩ k = bsN (rep [40] k) := repB_bsN [40] k
  have h2 : repB ⟨#[41]⟩ k = bsN (rep [41] k) := repB_bsN [41] k
  have h3 : (⟨#[97, 45, 62, 98]⟩ : ByteArray) = bsN [97, 45, 62, 98] := rfl
  rw [h1, h2, h3, bsN_app, bsN_app]; rfl
theorem rep1_low {c : Nat} (hc : c < 128) (k : Nat) : ∀ x ∈ rep [c] k, x < 128 := by
  induction k with
  | zero => intro x hx; cases hx
  | succ k ih =>
    intro x hx
    rcases List.mem_cons.1 hx with rfl | hx
    · exact hc
    · exact ih x hx
theorem nsK_SC (k : Nat) : SC (nsK k) := by
  refine SC_low fun c hc => ?_
  rcases List.mem_append.1 hc with hc | hc
  · rcases List.mem_append.1 hc with hc | hc
    · exact rep1_low (by decide) k c hc
    · have : ∀ x ∈ ([97, 45, 62, 98] : List Nat), x < 128 := by decide
      exact this c hc
  · exact rep1_low (by decide) k c hc
theorem nsK_len (k : Nat) : (nsK k).length = 2 * k + 4 := by
  unfold nsK; simp only [List.length_append, rep_len, List.length_cons, List.length_nil]; omega
theorem k20 {k : Nat} (h : k < 20) : k = 0 ∨ k = 1 ∨ k = 2 ∨ k = 3 ∨ k = 4 ∨ k = 5 ∨ k = 6 ∨ k = 7 ∨ k = 8 ∨ k = 9 ∨ k = 10 ∨ k = 11 ∨ k = 12 ∨ k = 13 ∨ k = 14 ∨ k = 15 ∨ k = 16 ∨ k = 17 ∨ k = 18 ∨ k = 19 := by omega
theorem tkK_er {k : Nat} (h : k < 20) : (tkK2 k).2.2 = 0 := by
  rcases k20 h with rfl | rfl | rfl | rfl | rfl | rfl | rfl | rfl | rfl | rfl | rfl | rfl | rfl | rfl | rfl | rfl | rfl | rfl | rfl | rfl <;> kernel_rfl
theorem lexK {k : Nat} (h : k < 20) : lexP (bsN (nsK k)) = (tkL2 k, (tkK2 k).2.1.1, (tkK2 k).2.1.2, 0) := by
  rw [lexP_F (nsK_SC k) (by rw [nsK_len]; omega)]
  show lexRes (tkK2 k).1 (tkK2 k).2.1 (tkK2 k).2.2 = _
  rw [tkK_er h]; rfl
theorem readK {k : Nat} (h : k < 9) : (endG (tkL2 k) (unionN (tkL2 k) 8 ⟨0, 0, 0⟩).1).er = 0 ∧ (unionN (tkL2 k) 8 ⟨0, 0, 0⟩).2 = ndC 3 ⟨#[97]⟩ ⟨#[98]⟩ [] := by
  have : k = 0 ∨ k = 1 ∨ k = 2 ∨ k = 3 ∨ k = 4 ∨ k = 5 ∨ k = 6 ∨ k = 7 ∨ k = 8 := by omega
  rcases this with rfl | rfl | rfl | rfl | rfl | rfl | rfl | rfl | rfl <;> exact ⟨by kernel_rfl, by kernel_rfl⟩
theorem deepK {k : Nat} (h : k < 20) (h8 : 8 < k) : (endG (tkL2 k) (unionN (tkL2 k) 8 ⟨0, 0, 0⟩).1).er = 2 ∧ plL (tkL2 k) (tkK2 k).2.1.1 (endG (tkL2 k) (unionN (tkL2 k) 8 ⟨0, 0, 0⟩).1) = 1 ∧ plC (tkL2 k) (tkK2 k).2.1.2 (endG (tkL2 k) (unionN (tkL2 k) 8 ⟨0, 0, 0⟩).1) = 9 := by
  have : k = 9 ∨ k = 10 ∨ k = 11 ∨ k = 12 ∨ k = 13 ∨ k = 14 ∨ k = 15 ∨ k = 16 ∨ k = 17 ∨ k = 18 ∨ k = 19 := by omega
  rcases this with rfl | rfl | rfl | rfl | rfl | rfl | rfl | rfl | rfl | rfl | rfl <;> exact ⟨by kernel_rfl, by kernel_rfl, by kernel_rfl⟩
theorem exprK {k : Nat} (h : k < 9) : exprE (bsN (nsK k)) = 0 ∧ exprN (bsN (nsK k)) = ndC 3 ⟨#[97]⟩ ⟨#[98]⟩ [] := by
  obtain ⟨h1, _, _, h2⟩ := expr_toks (p := (tkK2 k).2.1) (lexK (show k < 20 by omega))
  obtain ⟨r1, r2⟩ := readK h
  rw [h1, h2, r1, r2]; exact ⟨rfl, rfl⟩
theorem exprD {k : Nat} (h : k < 20) (h8 : 8 < k) : exprE (bsN (nsK k)) = 12 ∧ exprL (bsN (nsK k)) = 1 ∧ exprC (bsN (nsK k)) = 9 := by
  obtain ⟨_, h1, h2, h3⟩ := expr_toks (p := (tkK2 k).2.1) (lexK h)
  obtain ⟨r1, r2, r3⟩ := deepK h h8
  rw [h1, h2, h3]
  unfold plOf
  rw [r1, r2, r3]; exact ⟨rfl, rfl, rfl⟩
theorem treeK : tree 30 (ndC 3 ⟨#[97]⟩ ⟨#[98]⟩ []) = true := rfl
theorem lNests_run (m : Int) (x : Int) (hx : 0 ≤ x) (F : Nat) : runFn (lNests_cf m) F Tryd.f12 (bd Tryd.f12) [vc (C.int IntKind.u8 x)] [] fin2 = some (vb true, []) := by
  rw [lNests_start]
  obtain ⟨k, hk, hk20⟩ : ∃ k : Nat, x.tmod 20 = k ∧ k < 20 := by
    refine ⟨(x.tmod 20).toNat, ?_, ?_⟩
    · have := Int.tmod_nonneg 20 hx; omega
    · have := Int.tmod_lt_of_pos x (show (0 : Int) < 20 by decide); omega
  have hw : IntKind.i64.wrap (x.tmod 20) = (k : Int) := by rw [hk]; exact w64 _ (by omega) (by omega)
  rw [hw, Int.toNat_natCast]
  have d1 : ∀ c : UInt8, decide ((0 : Int) ≤ (k : Int) ∧ (k : Int) ≤ 1000000 ∧ (ByteArray.mk #[c]).size ≤ 1000000) = true := by
    intro c
    rw [decide_eq_true_eq]
    exact ⟨by omega, by omega, by show 1 ≤ 1000000; omega⟩
  have hsz : (bsN (nsK k)).size = 2 * k + 4 := by
    rw [bsN_size, encs_ascii _ (fun c hc => ?_), List.length_map, nsK_len]
    rcases List.mem_append.1 hc with hc | hc
    · rcases List.mem_append.1 hc with hc | hc
      · exact rep1_low (by decide) k c hc
      · have : ∀ x ∈ ([97, 45, 62, 98] : List Nat), x < 128 := by decide
        exact this c hc
    · exact rep1_low (by decide) k c hc
  have htx := nsK_text k
  have hs2 : (repB ⟨#[40]⟩ k ++ ⟨#[97, 45, 62, 98]⟩).size + (repB ⟨#[41]⟩ k).size = 2 * k + 4 := by rw [← ByteArray.size_append, htx, hsz]
  have hs1 : (repB ⟨#[40]⟩ k).size + (ByteArray.mk #[97, 45, 62, 98]).size = (repB ⟨#[40]⟩ k ++ ⟨#[97, 45, 62, 98]⟩).size := by rw [ByteArray.size_append]
  rw [d1 40, cond_true, decide_eq_false (show ¬ (((repB ⟨#[40]⟩ k).size + (ByteArray.mk #[97, 45, 62, 98]).size : Nat) : Int) > 9223372036854775807 by omega), cond_false, d1 41, cond_true,
    decide_eq_false (show ¬ (((repB ⟨#[40]⟩ k ++ ⟨#[97, 45, 62, 98]⟩).size + (repB ⟨#[41]⟩ k).size : Nat) : Int) > 9223372036854775807 by omega), cond_false, htx, decide_eq_true (show (bsN (nsK k)).size < 1000000 by omega), cond_true]
  by_cases h8 : (k : Int) > 8
  · rw [decide_eq_true h8, cond_true]
    obtain ⟨e1, e2, e3⟩ := exprD hk20 (by omega)
    rw [e1, e2, e3]; rfl
  · rw [decide_eq_false h8, cond_false]
    obtain ⟨e1, e2⟩ := exprK (k := k) (by omega)
    rw [e1, e2]
    have e3 : List.take 4 (ndC 3 ⟨#[97]⟩ ⟨#[98]⟩ [] ++ []) = ndC 3 ⟨#[97]⟩ ⟨#[98]⟩ [] := rfl
    have e4 : eqN (ndC 3 ⟨#[97]⟩ ⟨#[98]⟩ []) [C.int IntKind.i64 (3 : Int), C.str (ByteArray.mk #[(97 : UInt8)]), C.str (ByteArray.mk #[(98 : UInt8)]), C.sl (4 : Nat) []] = true := eqN_refl _
    rw [e3, e4, treeK]; rfl
theorem nests_res (m : Int) (xs : List V) (h : argVs Tryd.prog [5] xs) : ∃ b, FnRes Tryd.prog (globG m) 12 xs [] (vb true) b := by
  obtain ⟨x, rfl, h1⟩ := argVs1 h
  obtain ⟨n, rfl, h0, _⟩ := u8_arg h1
  exact ⟨[], specAtQ eqs_ok mix vti_ok Tryd.func12 rfl (by kernel_rfl) (tabGNe_ok m) 100 (lNests_run m n h0 100)⟩
end Go.Proofs.YtniiimpcakmkbaaDoor
