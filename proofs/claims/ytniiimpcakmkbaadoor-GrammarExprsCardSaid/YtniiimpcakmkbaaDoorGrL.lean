/- grammar: the laws' tables; constant texts -/
import Derived.Test.YtniiimpcakmkbaaDoorGrPl
set_option linter.unusedVariables false
namespace Go.Proofs.YtniiimpcakmkbaaDoor
open Go Vm Go.RowKit
/-! ### the lexer as a function -/
def lxF : Nat → Int × Int → List Nat → List Tok × (Int × Int) × Int
  | 0, p, _ => ([], p, 10)
  | _ + 1, p, [] => ([], p, 0)
  | n + 1, p, c :: r =>
    bif blankN c then lxF n (advN p c) r
    else bif isRem (c :: r) then lxF n (advs p ((c :: r).takeWhile ne10)) ((c :: r).dropWhile ne10)
    else match tokN (c :: r) with
      | none => ([], p, 10)
      | some (k, t) => ((k, t, p) :: (lxF n (advs p t) ((c :: r).drop t.length)).1, (lxF n (advs p t) ((c :: r).drop t.length)).2)
theorem lxF_ok : ∀ (n : Nat) (ns : List Nat) (p : Int × Int), ns.length < n → Lx p ns (lxF n p ns).1 (lxF n p ns).2.1 (lxF n p ns).2.2 := by
  intro n
  induction n with
  | zero => intro ns p h; omega
  | succ n ih =>
    intro ns p h
    cases ns with
    | nil => exact .nil p
    | cons c r =>
      unfold lxF
      cases hb : blankN c with
      | true => exact .blank hb (ih r (advN p c) (by simp at h; omega))
      | false =>
        cases hr : isRem (c :: r) with
        | true => exact .rem hr (ih ((c :: r).dropWhile ne10) (advs p ((c :: r).takeWhile ne10)) (by have := (rem_take hr).2; omega))
        | false =>
          cases ht : tokN (c :: r) with
          | none => exact .bad hb hr ht
          | some x =>
            obtain ⟨k, t⟩ := x
            obtain ⟨h1, r', h2⟩ := tokN_split ht
            have hl := congrArg List.length h2
            have : 0 < t.length := List.length_pos_iff.2 h1
            have h3 : (c :: r).drop t.length = r' := by rw [h2]; simp
            rw [← h3] at h2
            exact .tok hb hr ht h2 (ih _ (advs p t) (by rw [h3]; rw [List.length_append] at hl; omega))
theorem lexP_F {ns : List Nat} (hs : SC ns) (hl : ns.length ≤ 3000) : lexP (bsN ns) = lexRes (lxF (ns.length + 1) (1, 1) ns).1 (lxF (ns.length + 1) (1, 1) ns).2.1 (lxF (ns.length + 1) (1, 1) ns).2.2 :=
  lexP_encs hs hl (lxF_ok _ ns _ (Nat.lt_succ_self _))
/-! ### what is read off tokens -/
def plOf (L : List (List C)) (p : Int × Int) (s : PS) : Int × Int := (bif Nat.beq s.er 0 then 0 else plL L p.1 s, bif Nat.beq s.er 0 then 0 else plC L p.2 s)
theorem expr_toks {s : ByteArray} {L : List (List C)} {p : Int × Int} (h : lexP s = (L, p.1, p.2, 0)) :
    exprN s = (bif Nat.beq (endG L (unionN L 8 ⟨0, 0, 0⟩).1).er 0 then (unionN L 8 ⟨0, 0, 0⟩).2 else zeroN) ∧
    exprL s = (plOf L p (endG L (unionN L 8 ⟨0, 0, 0⟩).1)).1 ∧ exprC s = (plOf L p (endG L (unionN L 8 ⟨0, 0, 0⟩).1)).2 ∧ exprE s = erC (endG L (unionN L 8 ⟨0, 0, 0⟩).1).er := by
  have hu : unionA L ⟨0, 0, 0⟩ = unionN L 8 ⟨0, 0, 0⟩ := by rw [unionA_eq, ← unionN_eq]; rfl
  have hr : rd0 s = unionN L 8 ⟨0, 0, 0⟩ := by unfold rd0; rw [h, hu]
  have he : endW s = endG L (unionN L 8 ⟨0, 0, 0⟩).1 := by unfold endW; rw [hr, h]
  refine ⟨?_, ?_, ?_, ?_⟩
  · unfold exprN; rw [he, hr, h]; rfl
  · unfold exprL; rw [he, h]; rfl
  · unfold exprC; rw [he, h]; rfl
  · unfold exprE; rw [he, h]; rfl
/-! ### the two texts of awake -/
def awN1 : List Nat := [97, 32, 124, 32, 98, 32, 38, 32, 99, 32, 45, 32, 100]
def awN2 : List Nat := [97, 32, 45, 32, 98, 32, 45, 32, 99]
def awT1 : Nde := ndC 4 bE bE [ndC 2 (bsN [97]) bE [], ndC 5 bE bE [ndC 2 (bsN [98]) bE [], ndC 6 bE bE [ndC 2 (bsN [99]) bE [], ndC 2 (bsN [100]) bE []]]]
theorem aw1 : lexP (bsN awN1) = (([(1, [97], (1, 1)), (124, [124], (1, 3)), (1, [98], (1, 5)), (38, [38], (1, 7)), (1, [99], (1, 9)), (45, [45], (1, 11)), (1, [100], (1, 13))] : List Tok).map tokC, (1, 14).1, (1, 14).2, 0) :=
  (lexP_F (SC_low (by decide)) (by decide)).trans rfl
theorem aw2 : lexP (bsN awN2) = (([(1, [97], (1, 1)), (45, [45], (1, 3)), (1, [98], (1, 5)), (45, [45], (1, 7)), (1, [99], (1, 9))] : List Tok).map tokC, (1, 10).1, (1, 10).2, 0) :=
  (lexP_F (SC_low (by decide)) (by decide)).trans rfl
theorem aw1_n : exprN (bsN awN1) = awT1 := (expr_toks (p := (1, 14)) aw1).1.trans (by kernel_rfl)
theorem aw1_e : exprE (bsN awN1) = 0 := (expr_toks (p := (1, 14)) aw1).2.2.2.trans (by kernel_rfl)
theorem aw2_l : exprL (bsN awN2) = 1 := (expr_toks (p := (1, 10)) aw2).2.1.trans (by kernel_rfl)
theorem aw2_c : exprC (bsN awN2) = 7 := (expr_toks (p := (1, 10)) aw2).2.2.1.trans (by kernel_rfl)
theorem aw2_e : exprE (bsN awN2) = 11 := (expr_toks (p := (1, 10)) aw2).2.2.2.trans (by kernel_rfl)
theorem aw2_n : exprN (bsN awN2) = zeroN := (expr_toks (p := (1, 10)) aw2).1.trans (by kernel_rfl)
/-- Expr at awake's texts -/
def eqA (s : ByteArray) (ns : List Nat) : Bool := decide (s.data.toList = ns.map UInt8.ofNat)
def exprSA : List V → Bx → Tr
  | [.t (.w (.d (.str s)))], [] =>
    .ite (eqA s awN1) (.ret (.tup [.agg ⟨awT1, [], 4⟩, .agg (plM 0 0), .w (.d (.int .i64 0))]) [])
      (.ite (eqA s awN2) (.ret (.tup [.agg ⟨zeroN, [], 4⟩, .agg (plM 1 7), .w (.d (.int .i64 11))]) []) .no)
  | _, _ => .no
theorem aw1_l : exprL (bsN awN1) = 0 := (expr_toks (p := (1, 14)) aw1).2.1.trans (by kernel_rfl)
theorem aw1_c : exprC (bsN awN1) = 0 := (expr_toks (p := (1, 14)) aw1).2.2.1.trans (by kernel_rfl)
theorem eqA_bsN {s : ByteArray} {ns : List Nat} (hn : ∀ c ∈ ns, c < 128) (h : eqA s ns = true) : s = bsN ns := by
  unfold eqA at h
  rw [decide_eq_true_eq] at h
  apply ByteArray.ext
  apply Array.toList_inj.1
  rw [h, bsN_data, encs_ascii ns hn]
theorem exprSA_ok (m : Int) : SpecOk Tryd.prog (globG m) 20 exprSA := by
  intro a b v b' hr
  unfold exprSA at hr
  split at hr
  · rename_i s
    rcases run_ite hr with ⟨hl, hx⟩ | ⟨_, hx⟩
    · obtain ⟨rfl, rfl⟩ := run_ret hx
      obtain rfl := eqA_bsN (by decide) hl
      refine expr_ok m _ _ _ _ ?_
      show (Tr.ite (decide ((bsN awN1).size < 1000000)) (.ret (.tup [.agg ⟨exprN (bsN awN1), [], 4⟩, .agg (plM (exprL (bsN awN1)) (exprC (bsN awN1))), .w (.d (.int .i64 (exprE (bsN awN1))))]) []) .no).run fin2 = _
      rw [aw1_n, aw1_l, aw1_c, aw1_e]; rfl
    · rcases run_ite hx with ⟨hl, hx⟩ | ⟨_, hx⟩
      · obtain ⟨rfl, rfl⟩ := run_ret hx
        obtain rfl := eqA_bsN (by decide) hl
        refine expr_ok m _ _ _ _ ?_
        show (Tr.ite (decide ((bsN awN2).size < 1000000)) (.ret (.tup [.agg ⟨exprN (bsN awN2), [], 4⟩, .agg (plM (exprL (bsN awN2)) (exprC (bsN awN2))), .w (.d (.int .i64 (exprE (bsN awN2))))]) []) .no).run fin2 = _
        rw [aw2_n, aw2_l, aw2_c, aw2_e]; rfl
      · exact (run_no hx).elim
  · cases hr
noncomputable def tabGAw : List (FuncId × (List V → Bx → Tr)) := [(20, exprSA)]
noncomputable def orcGAw : FuncId → List V → Bx → Tr := orcOf tabGAw
def awakeGS : List V → Bx → Tr
  | [], [] => .ret (vb true) []
  | _, _ => .no
noncomputable def tabGLw : List (FuncId × (List V → Bx → Tr)) := [(19, awakeGS), (20, exprS), (21, rExprS), (22, sameS 30), (23, goodS 30)]
noncomputable def orcGLw : FuncId → List V → Bx → Tr := orcOf tabGLw
end Go.Proofs.YtniiimpcakmkbaaDoor
