/- grammar: specs of an expression's reading -/
import Derived.Test.YtniiimpcakmkbaaDoorGrC
import Derived.Test.YtniiimpcakmkbaaDoorGrI
import Derived.Test.YtniiimpcakmkbaaDoorSgK
import Derived.Test.YtniiimpcakmkbaaDoorSgPd
set_option linter.unusedVariables false
namespace Go.Proofs.YtniiimpcakmkbaaDoor
open Go Vm Go.RowKit
theorem globG_T {m : Int} : ∀ g l, globT m g = some l → globG m g = some l := by
  intro g l h
  unfold globG
  have h0 : Nat.beq g 0 = false := by
    rw [← Bool.not_eq_true]; intro hb
    obtain rfl := Nat.eq_of_beq_eq_true hb
    cases h
  have h1 : Nat.beq g 1 = false := by
    rw [← Bool.not_eq_true]; intro hb
    obtain rfl := Nat.eq_of_beq_eq_true hb
    cases h
  rw [h0, h1]; exact h
def tkL (L : List (List C)) (i : Int) : Int := ((L.getD i.toNat []).getD 2 .nf).toInt
def tkC (L : List (List C)) (i : Int) : Int := ((L.getD i.toNat []).getD 3 .nf).toInt
def plL (L : List (List C)) (el : Int) (s : PS) : Int := bif decide (s.at_ < (L.length : Int)) then tkL L s.at_ else el
def plC (L : List (List C)) (ec : Int) (s : PS) : Int := bif decide (s.at_ < (L.length : Int)) then tkC L s.at_ else ec
def gPlaceS : List V → Bx → Tr
  | [.t (.w (.ptr 0 0))], [some (.cells ⟨[.sl 4 L, .int .i64 el, .int .i64 ec, .int .i64 a, .int .i64 o, .er e 172 gs], [], 6⟩)] =>
    .ite (stOk L ⟨a, o, e⟩ && gsOk gs) (.ret (.t (.agg (plM (plL L el ⟨a, o, e⟩) (plC L ec ⟨a, o, e⟩)))) [pB L el ec ⟨a, o, e⟩]) .no
  | _, _ => .no
/-- one that begins -/
noncomputable def rd0S (f : List (List C) → PS → PS × Nde) : List V → Bx → Tr
  | [.t (.w (.ptr 0 0))], [some (.cells ⟨[.sl 4 L, .int .i64 el, .int .i64 ec, .int .i64 a, .int .i64 o, .ni], [], 6⟩)] =>
    .ite (stOk L ⟨a, o, 0⟩) (.ret (ndV (f L ⟨a, o, 0⟩).2) [pB L el ec (f L ⟨a, o, 0⟩).1]) .no
  | _, _ => .no
theorem rd0_ok {m : Int} {fn : FuncId} {f : List (List C) → PS → PS × Nde} (h : SpecOk Tryd.prog (globG m) fn (rdS f 9)) : SpecOk Tryd.prog (globG m) fn (rd0S f) := by
  intro a b v b' hr
  unfold rd0S at hr
  split at hr
  · rename_i L el ec a o
    rcases run_ite hr with ⟨hl, hx⟩ | ⟨_, hx⟩
    · obtain ⟨rfl, rfl⟩ := run_ret hx
      refine FnRes.weakArg (n := 0) (m := ⟨[.sl 4 L, .int .i64 el, .int .i64 ec, .int .i64 a, .int .i64 o, .ni], [], 6⟩) (m' := ⟨[.sl 4 L, .int .i64 el, .int .i64 ec, .int .i64 a, .int .i64 o, .er 0 172 [0, 1]], [], 6⟩) rfl (fun g cs h => relMx_ni (j := 5) rfl h) (h _ _ _ _ ?_)
      have hs := stOk_iff.1 hl
      have ho := hs.o0
      have hlv : decide (lvl ⟨a, o, 0⟩ < 9) = true := by unfold lvl; simp only [decide_eq_true_eq]; simp only at ho; omega
      show (rdS f 9 [pp] [pB L el ec ⟨a, o, 0⟩]).run fin2 = _
      unfold rdS
      simp only [Tr.run]
      rw [hl, hlv]; rfl
    · exact (run_no hx).elim
  · cases hr
noncomputable def tabGW : List (FuncId × (List V → Bx → Tr)) := [(14, lexS), (46, rd0S unionA), (64, gFailS), (65, gIsS), (66, gPlaceS)]
noncomputable def orcGW : FuncId → List V → Bx → Tr := orcOf tabGW
/-! what an expression's reading answers -/
def endG (L : List (List C)) (s : PS) : PS := bif decide (s.at_ < (L.length : Int)) then failG 1 s else s
def erC (n : Nat) : Int := bif Nat.beq n 0 then 0 else bif Nat.beq n 1 then 11 else 12
noncomputable def rd0 (s : ByteArray) : PS × Nde := unionA (lexP s).1 ⟨0, 0, 0⟩
noncomputable def endW (s : ByteArray) : PS := endG (lexP s).1 (rd0 s).1
noncomputable def exprN (s : ByteArray) : Nde := bif (lexP s).2.2.2 == 0 && Nat.beq (endW s).er 0 then (rd0 s).2 else zeroN
noncomputable def exprL (s : ByteArray) : Int := bif (lexP s).2.2.2 == 0 then (bif Nat.beq (endW s).er 0 then 0 else plL (lexP s).1 (lexP s).2.1 (endW s)) else (lexP s).2.1
noncomputable def exprC (s : ByteArray) : Int := bif (lexP s).2.2.2 == 0 then (bif Nat.beq (endW s).er 0 then 0 else plC (lexP s).1 (lexP s).2.2.1 (endW s)) else (lexP s).2.2.1
noncomputable def exprE (s : ByteArray) : Int := bif (lexP s).2.2.2 == 0 then erC (endW s).er else (lexP s).2.2.2
noncomputable def wholeS : List V → Bx → Tr
  | [.t (.w (.d (.str s))), .t (.w (.d (.fn 46 [])))], [] => .ite (decide (s.size < 1000000)) (.ret (.tup [.agg ⟨exprN s, [], 4⟩, .agg (plM (exprL s) (exprC s)), .w (.d (.int .i64 (exprE s)))]) []) .no
  | _, _ => .no
noncomputable def exprS : List V → Bx → Tr
  | [.t (.w (.d (.str s)))], [] => .ite (decide (s.size < 1000000)) (.ret (.tup [.agg ⟨exprN s, [], 4⟩, .agg (plM (exprL s) (exprC s)), .w (.d (.int .i64 (exprE s)))]) []) .no
  | _, _ => .no
noncomputable def orcGX : FuncId → List V → Bx → Tr := orcOf [(45, wholeS)]
theorem lx_len {p ns o q e} (h : Lx p ns o q e) : o.length ≤ ns.length := by
  induction h with
  | nil p => simp
  | blank _ _ ih => simp only [List.length_cons]; omega
  | @rem p ns o q e hr _ ih => have := dropWhile_le ne10 ns; omega
  | @tok p c r o q e k t r' hb hr ht hsp _ ih =>
    have h3 := congrArg List.length hsp
    have : 0 < t.length := List.length_pos_iff.2 (tokN_split ht).1
    rw [List.length_append] at h3
    simp only [List.length_cons] at h3 ⊢; omega
  | bad => simp
theorem lexP_toks (s : ByteArray) (hz : s.size < 1000000) : (lexP s).1.all isTok = true ∧ (lexP s).1.length < 1000000 := by
  cases hv : validP s with
  | false => rw [lexP_bad hv]; exact ⟨rfl, by simp⟩
  | true =>
    obtain ⟨ns, hs, rfl⟩ := valid_bsN hv
    have hel := encs_len ns
    have hbs := bsN_size ns
    by_cases hl : ns.length ≤ 3000
    · obtain ⟨o, q, e, hx⟩ := Lx.total _ ns (1, 1) (Nat.lt_succ_self _)
      have hol := lx_len hx
      rw [lexP_encs hs hl hx]
      unfold lexRes
      split
      · refine ⟨?_, by simp only [List.length_map]; omega⟩
        rw [List.all_eq_true]
        intro x hx
        obtain ⟨y, _, rfl⟩ := List.mem_map.1 hx
        rfl
      · exact ⟨rfl, by simp⟩
    · rw [lexP_big hs (by omega) (by omega)]; exact ⟨rfl, by simp⟩
end Go.Proofs.YtniiimpcakmkbaaDoor
