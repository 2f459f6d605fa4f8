/- grammar: specs of an expression's reading -/
import Derived.Test.YtniiimpcakmkbaaDoorGrA
import Derived.Test.YtniiimpcakmkbaaDoorGrI
import Derived.Test.YtniiimpcakmkbaaDoorSgD
import Derived.Test.YtniiimpcakmkbaaDoorSgPb
set_option linter.unusedVariables false
namespace Go.Proofs.YtniiimpcakmkbaaDoor
open Go Vm Go.RowKit
theorem globG_T {m : Int} : ∀ g l, globT m g = some l → globG m g = some l := by
  intro g l h
  unfold globG
  have h0 : Nat.beq g 0 = false := by
    rw [← Bool.not_eq_true]; intro hb
    obtain rfl := Nat.eq_of_beq_eq_true hb
    cases h
  have h1 : Nat.beq g 1 = false := by
    rw [← Bool.not_eq_true]; intro hb
    obtain rfl := Nat.eq_of_beq_eq_true hb
    cases h
  rw [h0, h1]; exact h
def tkL (L : List (List C)) (i : Int) : Int := ((L.getD i.toNat []).getD 2 .nf).toInt
def tkC (L : List (List C)) (i : Int) : Int := ((L.getD i.toNat []).getD 3 .nf).toInt
def plL (L : List (List C)) (el : Int) (s : PS) : Int := bif decide (s.at_ < (L.length : Int)) then tkL L s.at_ else el
def plC (L : List (List C)) (ec : Int) (s : PS) : Int := bif decide (s.at_ < (L.length : Int)) then tkC L s.at_ else ec
def gPlaceS : List V → Bx → Tr
  | [.t (.w (.ptr 0 0))], [some (.cells ⟨[.sl 4 L, .int .i64 el, .int .i64 ec, .int .i64 a, .int .i64 o, .er e 172 gs], [], 6⟩)] =>
    .ite (stOk L ⟨a, o, e⟩ && gsOk gs) (.ret (.t (.agg (plM (plL L el ⟨a, o, e⟩) (plC L ec ⟨a, o, e⟩)))) [pB L el ec ⟨a, o, e⟩]) .no
  | _, _ => .no
/-- one that begins -/
noncomputable def rd0S (f : List (List C) → PS → PS × Nde) : List V → Bx → Tr
  | [.t (.w (.ptr 0 0))], [some (.cells ⟨[.sl 4 L, .int .i64 el, .int .i64 ec, .int .i64 a, .int .i64 o, .ni], [], 6⟩)] =>
    .ite (stOk L ⟨a, o, 0⟩) (.ret (ndV (f L ⟨a, o, 0⟩).2) [pB L el ec (f L ⟨a, o, 0⟩).1]) .no
  | _, _ => .no
theorem rd0_ok {m : Int} {fn : FuncId} {f : List (List C) → PS → PS × Nde} (h : SpecOk Tryd.prog (globG m) fn (rdS f 9)) : SpecOk Tryd.prog (globG m) fn (rd0S f) := by
  intro a b v b' hr
  unfold rd0S at hr
  split at hr
  · rename_i L el ec a o
    rcases run_ite hr with ⟨hl, hx⟩ | ⟨_, hx⟩
    · obtain ⟨rfl, rfl⟩ := run_ret hx
      refine FnRes.weakArg (n := 0) (m := ⟨[.sl 4 L, .int .i64 el, .int .i64 ec, .int .i64 a, .int .i64 o, .ni], [], 6⟩) (m' := ⟨[.sl 4 L, .int .i64 el, .int .i64 ec, .int .i64 a, .int .i64 o, .er 0 172 [0, 1]], [], 6⟩) rfl (fun g cs h => relMx_ni (j := 5) rfl h) (h _ _ _ _ ?_)
      have hs := stOk_iff.1 hl
      have ho := hs.o0
      have hlv : decide (lvl ⟨a, o, 0⟩ < 9) = true := by unfold lvl; simp only [decide_eq_true_eq]; simp only at ho; omega
      show (rdS f 9 [pp] [pB L el ec ⟨a, o, 0⟩]).run fin2 = _
      unfold rdS
      simp only [Tr.run]
      rw [hl, hlv]; rfl
    · exact (run_no hx).elim
  · cases hr
noncomputable def tabGW : List (FuncId × (List V → Bx → Tr)) := [(14, lexS), (46, rd0S unionA), (64, gFailS), (65, gIsS), (66, gPlaceS)]
noncomputable def orcGW : FuncId → List V → Bx → Tr := orcOf tabGW
/-! what an expression's reading answers -/
def endG (L : List (List C)) (s : PS) : PS := bif decide (s.at_ < (L.length : Int)) then failG 1 s else s
def erC (n : Nat) : Int := bif Nat.beq n 0 then 0 else bif Nat.beq n 1 then 11 else 12
noncomputable def rd0 (s : ByteArray) : PS × Nde := unionA (lexP s).1 ⟨0, 0, 0⟩
noncomputable def endW (s : ByteArray) : PS := endG (lexP s).1 (rd0 s).1
noncomputable def exprN (s : ByteArray) : Nde := bif (lexP s).2.2.2 == 0 && Nat.beq (endW s).er 0 then (rd0 s).2 else zeroN
noncomputable def exprL (s : ByteArray) : Int := bif (lexP s).2.2.2 == 0 then (bif Nat.beq (endW s).er 0 then 0 else plL (lexP s).1 (lexP s).2.1 (endW s)) else (lexP s).2.1
noncomputable def exprC (s : ByteArray) : Int := bif (lexP s).2.2.2 == 0 then (bif Nat.beq (endW s).er 0 then 0 else plC (lexP s).1 (lexP s).2.2.1 (endW s)) else (lexP s).2.2.1
noncomputable def exprE (s : ByteArray) : Int := bif (lexP s).2.2.2 == 0 then erC (endW s).er else (lexP s).2.2.2
noncomputable def wholeS : List V → Bx → Tr
  | [.t (.w (.d (.str s))), .t (.w (.d (.fn 46 [])))], [] => .ite (decide (s.size < 1000000)) (.ret (.tup [.agg ⟨exprN s, [], 4⟩, .agg (plM (exprL s) (exprC s)), .w (.d (.int .i64 (exprE s)))]) []) .no
  | _, _ => .no
noncomputable def exprS : List V → Bx → Tr
  | [.t (.w (.d (.str s)))], [] => .ite (decide (s.size < 1000000)) (.ret (.tup [.agg ⟨exprN s, [], 4⟩, .agg (plM (exprL s) (exprC s)), .w (.d (.int .i64 (exprE s)))]) []) .no
  | _, _ => .no
noncomputable def orcGX : FuncId → List V → Bx → Tr := orcOf [(45, wholeS)]
theorem lx_len {p ns o q e} (h : Lx p ns o q e) : o.length ≤ ns.length := by
  induction h with
  | nil p => simp
  | blank _ _ ih => simp only [List.length_cons]; omega
  | @rem p ns o q e hr _ ih => have := dropWhile_le ne10 ns; omega
  | @tok p c r o q e k t r' hb hr ht hsp _ ih =>
    have h3 := congrArg List.length hsp
    have : 0 < t.length := List.length_pos_iff.2 (tokN_split ht).1
    rw [List.length_append] at h3
    simp only [List.length_cons] at h3 ⊢; omega
  | bad => simp
theorem lexP_toks (s : ByteArray) (hz : s.size < 1000000) : (lexP s).1.all isTok = true ∧ (lexP s).1.length < 1000000 := by
  cases hv : validP s with
  | false => rw [lexP_bad hv]; exact ⟨rfl, by simp⟩
  | true =>
    obtain ⟨ns, hs, rfl⟩ := valid_bsN hv
    have hel := encs_len ns
    have hbs := bsN_size ns
    by_cases hl : ns.length ≤ 3000
    · obtain ⟨o, q, e, hx⟩ := Lx.total _ ns (1, 1) (Nat.lt_succ_self _)
      have hol := lx_len hx
      rw [lexP_encs hs hl hx]
      unfold lexRes
      split
      · refine ⟨?_, by simp only [List.length_map]; omega⟩
        rw [List.all_eq_true]
        intro x hx
        obtain ⟨y, _, rfl⟩ := List.mem_map.1 hx
        rfl
      · exact ⟨rfl, by simp⟩
    · rw [lexP_big hs (by omega) (by omega)]; exact ⟨rfl, by simp⟩
end Go.Proofs.YtniiimpcakmkbaaDoor

/- grammar: the reference's specs -/
set_option linter.unusedVariables false
namespace Go.Proofs.YtniiimpcakmkbaaDoor
open Go Vm

def erN (c : Int) : Nat := bif c == 0 then 0 else bif c == 11 then 1 else 2
def okC (c : Int) : Bool := c == 0 || c == 11 || c == 12
abbrev sM (L : List (List C)) (s : PS) : M := ⟨[.sl 4 L, .int .i64 s.at_, .int .i64 s.op, .int .i64 (erC s.er)], [], 4⟩
abbrev rP (a o c : Int) : PS := ⟨a, o, erN c⟩
def rKindS : List V → Bx → Tr
  | [.t (.agg ⟨[.sl 4 L, .int .i64 a, .int .i64 o, .int .i64 c], [], 4⟩)], [] => .ite (stOk L (rP a o c) && okC c) (.ret (vi (kindG L (rP a o c))) []) .no
  | _, _ => .no
def rTakeS : List V → Bx → Tr
  | [.t (.agg ⟨[.sl 4 L, .int .i64 a, .int .i64 o, .int .i64 c], [], 4⟩), .t (.w (.d (.int .i64 k)))], [] =>
    .ite (stOk L (rP a o c) && okC c && decide (k ≠ 0)) (.ret (.tup [.agg (sM L (takeG L k (rP a o c)).1), .w (.d (.str (takeG L k (rP a o c)).2))]) []) .no
  | _, _ => .no
noncomputable def rRdS (f : List (List C) → PS → PS × Nde) (N : Nat) : List V → Bx → Tr
  | [.t (.agg ⟨[.sl 4 L, .int .i64 a, .int .i64 o, .int .i64 c], [], 4⟩)], [] =>
    .ite (stOk L (rP a o c) && okC c && decide (lvl (rP a o c) < N)) (.ret (.tup [.agg (sM L (f L (rP a o c)).1), .agg ⟨(f L (rP a o c)).2, [], 4⟩]) []) .no
  | _, _ => .no
def tabRA : List (FuncId × (List V → Bx → Tr)) := [(71, rKindS)]
def orcRA : FuncId → List V → Bx → Tr := orcOf tabRA
def tabRB : List (FuncId × (List V → Bx → Tr)) := [(71, rKindS), (75, rTakeS)]
noncomputable def orcR_1 (N : Nat) : FuncId → List V → Bx → Tr := orcOf ((47, rRdS unionA N) :: tabRB)
noncomputable def orcR_2 (N : Nat) : FuncId → List V → Bx → Tr := orcOf ((95, rRdS atomA N) :: tabRB)
noncomputable def orcR_3 (N : Nat) : FuncId → List V → Bx → Tr := orcOf ((85, rRdS lessA N) :: tabRB)
noncomputable def orcR_4 (N : Nat) : FuncId → List V → Bx → Tr := orcOf ((70, rRdS meetA N) :: tabRB)
end Go.Proofs.YtniiimpcakmkbaaDoor

set_option linter.unusedVariables false
namespace Go.Proofs.YtniiimpcakmkbaaDoor
open Go Vm
noncomputable def g_place_cf (m : Int) : Cfg := mkCfQ [25, 35] (globG m) vti orc0 false [] []
theorem g_place_start {R : Type} (m : Int) (k : V → Bx → Option R) (F : Nat) (L : List (List C)) (el : Int) (ec : Int) (a : Int) (o : Int) (e : Nat) : runFn (g_place_cf m) F Tryd.f66 (bd Tryd.f66) [pp] [pB L el ec { at_ := a, op := o, er := e }] k =
    (bif decide (a < (↑L.length : Int)) then
      (bif decide ((0 : Int) ≤ a) then
        (getT L a.toNat fun z1 =>
          (bif (List.take (2 : Nat) (List.drop (2 : Nat) z1)).length == (2 : Nat) then
            (bif shOk [Sh.int IntKind.i64, Sh.int IntKind.i64] (List.take (2 : Nat) (List.drop (2 : Nat) z1)) then
              k (.t (.agg ⟨[(.int .i64 (((List.take (2 : Nat) (List.drop (2 : Nat) z1)).getD (0 : Nat) C.nf).toInt)), (.int .i64 (((List.take (2 : Nat) (List.drop (2 : Nat) z1)).getD (1 : Nat) C.nf).toInt))], [], 2⟩)) [(some (.cells ⟨[(.sl 4 L), (.int .i64 el), (.int .i64 ec), (.int .i64 a), (.int .i64 o), (.er e 172 [0, 1])], [], 6⟩))]
            else none)
          else none))
      else none)
    else k (.t (.agg ⟨[(.int .i64 el), (.int .i64 ec)], [], 2⟩)) [(some (.cells ⟨[(.sl 4 L), (.int .i64 el), (.int .i64 ec), (.int .i64 a), (.int .i64 o), (.er e 172 [0, 1])], [], 6⟩))]) := by kernel_rfl
noncomputable def g_whole_cf (m : Int) : Cfg := mkCfQ [25, 35] (globG m) vti orcGW false [50, 60] []
theorem g_whole_start {R : Type} (m : Int) (k : V → Bx → Option R) (F : Nat) (s : ByteArray) : runFn (g_whole_cf m) F Tryd.f45 (bd Tryd.f45) [vs s, vc (C.fn (46 : FuncId) [])] [] k =
    (bif decide (s.size < (1000000 : Nat)) then
      (bif (lexP s).snd.snd.snd != (0 : Int) then
        dup 2 (k (.tup [(.agg ⟨[(.int .i64 0), (.str ByteArray.empty), (.str ByteArray.empty), (.sl 4 [])], [], 4⟩), (.agg ⟨[(.int .i64 ((lexP s).snd.fst)), (.int .i64 ((lexP s).snd.snd.fst))], [], 2⟩), (.w (.d (.int .i64 ((lexP s).snd.snd.snd))))]) [])
      else (bif stOk (lexP s).fst { at_ := (0 : Int), op := (0 : Int), er := (0 : Nat) } then
          (bif decide ((unionA (lexP s).fst { at_ := (0 : Int), op := (0 : Int), er := (0 : Nat) }).fst.at_ < (↑(lexP s).fst.length : Int)) then
            (bif decide ((failG (1 : Nat) { at_ := (unionA (lexP s).fst { at_ := (0 : Int), op := (0 : Int), er := (0 : Nat) }).fst.at_, op := (unionA (lexP s).fst { at_ := (0 : Int), op := (0 : Int), er := (0 : Nat) }).fst.op, er := (unionA (lexP s).fst { at_ := (0 : Int), op := (0 : Int), er := (0 : Nat) }).fst.er }).er ≤ (2 : Nat)) && true then
              (bif (failG (1 : Nat) { at_ := (unionA (lexP s).fst { at_ := (0 : Int), op := (0 : Int), er := (0 : Nat) }).fst.at_, op := (unionA (lexP s).fst { at_ := (0 : Int), op := (0 : Int), er := (0 : Nat) }).fst.op, er := (unionA (lexP s).fst { at_ := (0 : Int), op := (0 : Int), er := (0 : Nat) }).fst.er }).er.beq (2 : Nat) then
                dup 2 ((bif stOk (lexP s).fst { at_ := (unionA (lexP s).fst { at_ := (0 : Int), op := (0 : Int), er := (0 : Nat) }).fst.1, op := (unionA (lexP s).fst { at_ := (0 : Int), op := (0 : Int), er := (0 : Nat) }).fst.2, er := (failG (1 : Nat) { at_ := (unionA (lexP s).fst { at_ := (0 : Int), op := (0 : Int), er := (0 : Nat) }).fst.at_, op := (unionA (lexP s).fst { at_ := (0 : Int), op := (0 : Int), er := (0 : Nat) }).fst.op, er := (unionA (lexP s).fst { at_ := (0 : Int), op := (0 : Int), er := (0 : Nat) }).fst.er }).er } && true then
                  k (.tup [(.agg ⟨[(.int .i64 0), (.str ByteArray.empty), (.str ByteArray.empty), (.sl 4 [])], [], 4⟩), (.agg ⟨[(.int .i64 (plL (lexP s).fst (lexP s).snd.fst { at_ := (unionA (lexP s).fst { at_ := (0 : Int), op := (0 : Int), er := (0 : Nat) }).fst.1, op := (unionA (lexP s).fst { at_ := (0 : Int), op := (0 : Int), er := (0 : Nat) }).fst.2, er := (failG (1 : Nat) { at_ := (unionA (lexP s).fst { at_ := (0 : Int), op := (0 : Int), er := (0 : Nat) }).fst.at_, op := (unionA (lexP s).fst { at_ := (0 : Int), op := (0 : Int), er := (0 : Nat) }).fst.op, er := (unionA (lexP s).fst { at_ := (0 : Int), op := (0 : Int), er := (0 : Nat) }).fst.er }).er })), (.int .i64 (plC (lexP s).fst (lexP s).snd.snd.fst { at_ := (unionA (lexP s).fst { at_ := (0 : Int), op := (0 : Int), er := (0 : Nat) }).fst.1, op := (unionA (lexP s).fst { at_ := (0 : Int), op := (0 : Int), er := (0 : Nat) }).fst.2, er := (failG (1 : Nat) { at_ := (unionA (lexP s).fst { at_ := (0 : Int), op := (0 : Int), er := (0 : Nat) }).fst.at_, op := (unionA (lexP s).fst { at_ := (0 : Int), op := (0 : Int), er := (0 : Nat) }).fst.op, er := (unionA (lexP s).fst { at_ := (0 : Int), op := (0 : Int), er := (0 : Nat) }).fst.er }).er }))], [], 2⟩), (.w (.d (.int .i64 12)))]) []
                else none))
              else (bif decide ((failG (1 : Nat) { at_ := (unionA (lexP s).fst { at_ := (0 : Int), op := (0 : Int), er := (0 : Nat) }).fst.at_, op := (unionA (lexP s).fst { at_ := (0 : Int), op := (0 : Int), er := (0 : Nat) }).fst.op, er := (unionA (lexP s).fst { at_ := (0 : Int), op := (0 : Int), er := (0 : Nat) }).fst.er }).er ≤ (2 : Nat)) && true then
                  (bif (failG (1 : Nat) { at_ := (unionA (lexP s).fst { at_ := (0 : Int), op := (0 : Int), er := (0 : Nat) }).fst.at_, op := (unionA (lexP s).fst { at_ := (0 : Int), op := (0 : Int), er := (0 : Nat) }).fst.op, er := (unionA (lexP s).fst { at_ := (0 : Int), op := (0 : Int), er := (0 : Nat) }).fst.er }).er.beq (1 : Nat) then
                    dup 2 ((bif stOk (lexP s).fst { at_ := (unionA (lexP s).fst { at_ := (0 : Int), op := (0 : Int), er := (0 : Nat) }).fst.1, op := (unionA (lexP s).fst { at_ := (0 : Int), op := (0 : Int), er := (0 : Nat) }).fst.2, er := (failG (1 : Nat) { at_ := (unionA (lexP s).fst { at_ := (0 : Int), op := (0 : Int), er := (0 : Nat) }).fst.at_, op := (unionA (lexP s).fst { at_ := (0 : Int), op := (0 : Int), er := (0 : Nat) }).fst.op, er := (unionA (lexP s).fst { at_ := (0 : Int), op := (0 : Int), er := (0 : Nat) }).fst.er }).er } && true then
                      k (.tup [(.agg ⟨[(.int .i64 0), (.str ByteArray.empty), (.str ByteArray.empty), (.sl 4 [])], [], 4⟩), (.agg ⟨[(.int .i64 (plL (lexP s).fst (lexP s).snd.fst { at_ := (unionA (lexP s).fst { at_ := (0 : Int), op := (0 : Int), er := (0 : Nat) }).fst.1, op := (unionA (lexP s).fst { at_ := (0 : Int), op := (0 : Int), er := (0 : Nat) }).fst.2, er := (failG (1 : Nat) { at_ := (unionA (lexP s).fst { at_ := (0 : Int), op := (0 : Int), er := (0 : Nat) }).fst.at_, op := (unionA (lexP s).fst { at_ := (0 : Int), op := (0 : Int), er := (0 : Nat) }).fst.op, er := (unionA (lexP s).fst { at_ := (0 : Int), op := (0 : Int), er := (0 : Nat) }).fst.er }).er })), (.int .i64 (plC (lexP s).fst (lexP s).snd.snd.fst { at_ := (unionA (lexP s).fst { at_ := (0 : Int), op := (0 : Int), er := (0 : Nat) }).fst.1, op := (unionA (lexP s).fst { at_ := (0 : Int), op := (0 : Int), er := (0 : Nat) }).fst.2, er := (failG (1 : Nat) { at_ := (unionA (lexP s).fst { at_ := (0 : Int), op := (0 : Int), er := (0 : Nat) }).fst.at_, op := (unionA (lexP s).fst { at_ := (0 : Int), op := (0 : Int), er := (0 : Nat) }).fst.op, er := (unionA (lexP s).fst { at_ := (0 : Int), op := (0 : Int), er := (0 : Nat) }).fst.er }).er }))], [], 2⟩), (.w (.d (.int .i64 11)))]) []
                    else none))
                  else k (.tup [(.agg ⟨(List.take (4 : Nat) (List.take (4 : Nat) ((unionA (lexP s).fst { at_ := (0 : Int), op := (0 : Int), er := (0 : Nat) }).snd ++ []) ++ [])), [], 4⟩), (.agg ⟨[(.int .i64 0), (.int .i64 0)], [], 2⟩), (.w (.d (.int .i64 0)))]) [])
                else none))
            else none)
          else (bif decide ((unionA (lexP s).fst { at_ := (0 : Int), op := (0 : Int), er := (0 : Nat) }).fst.er ≤ (2 : Nat)) && true then
              (bif (unionA (lexP s).fst { at_ := (0 : Int), op := (0 : Int), er := (0 : Nat) }).fst.er.beq (2 : Nat) then
                dup 2 ((bif stOk (lexP s).fst { at_ := (unionA (lexP s).fst { at_ := (0 : Int), op := (0 : Int), er := (0 : Nat) }).fst.at_, op := (unionA (lexP s).fst { at_ := (0 : Int), op := (0 : Int), er := (0 : Nat) }).fst.op, er := (unionA (lexP s).fst { at_ := (0 : Int), op := (0 : Int), er := (0 : Nat) }).fst.er } && true then
                  k (.tup [(.agg ⟨[(.int .i64 0), (.str ByteArray.empty), (.str ByteArray.empty), (.sl 4 [])], [], 4⟩), (.agg ⟨[(.int .i64 (plL (lexP s).fst (lexP s).snd.fst { at_ := (unionA (lexP s).fst { at_ := (0 : Int), op := (0 : Int), er := (0 : Nat) }).fst.at_, op := (unionA (lexP s).fst { at_ := (0 : Int), op := (0 : Int), er := (0 : Nat) }).fst.op, er := (unionA (lexP s).fst { at_ := (0 : Int), op := (0 : Int), er := (0 : Nat) }).fst.er })), (.int .i64 (plC (lexP s).fst (lexP s).snd.snd.fst { at_ := (unionA (lexP s).fst { at_ := (0 : Int), op := (0 : Int), er := (0 : Nat) }).fst.at_, op := (unionA (lexP s).fst { at_ := (0 : Int), op := (0 : Int), er := (0 : Nat) }).fst.op, er := (unionA (lexP s).fst { at_ := (0 : Int), op := (0 : Int), er := (0 : Nat) }).fst.er }))], [], 2⟩), (.w (.d (.int .i64 12)))]) []
                else none))
              else (bif decide ((unionA (lexP s).fst { at_ := (0 : Int), op := (0 : Int), er := (0 : Nat) }).fst.er ≤ (2 : Nat)) && true then
                  (bif (unionA (lexP s).fst { at_ := (0 : Int), op := (0 : Int), er := (0 : Nat) }).fst.er.beq (1 : Nat) then
                    dup 2 ((bif stOk (lexP s).fst { at_ := (unionA (lexP s).fst { at_ := (0 : Int), op := (0 : Int), er := (0 : Nat) }).fst.at_, op := (unionA (lexP s).fst { at_ := (0 : Int), op := (0 : Int), er := (0 : Nat) }).fst.op, er := (unionA (lexP s).fst { at_ := (0 : Int), op := (0 : Int), er := (0 : Nat) }).fst.er } && true then
                      k (.tup [(.agg ⟨[(.int .i64 0), (.str ByteArray.empty), (.str ByteArray.empty), (.sl 4 [])], [], 4⟩), (.agg ⟨[(.int .i64 (plL (lexP s).fst (lexP s).snd.fst { at_ := (unionA (lexP s).fst { at_ := (0 : Int), op := (0 : Int), er := (0 : Nat) }).fst.at_, op := (unionA (lexP s).fst { at_ := (0 : Int), op := (0 : Int), er := (0 : Nat) }).fst.op, er := (unionA (lexP s).fst { at_ := (0 : Int), op := (0 : Int), er := (0 : Nat) }).fst.er })), (.int .i64 (plC (lexP s).fst (lexP s).snd.snd.fst { at_ := (unionA (lexP s).fst { at_ := (0 : Int), op := (0 : Int), er := (0 : Nat) }).fst.at_, op := (unionA (lexP s).fst { at_ := (0 : Int), op := (0 : Int), er := (0 : Nat) }).fst.op, er := (unionA (lexP s).fst { at_ := (0 : Int), op := (0 : Int), er := (0 : Nat) }).fst.er }))], [], 2⟩), (.w (.d (.int .i64 11)))]) []
                    else none))
                  else k (.tup [(.agg ⟨(List.take (4 : Nat) (List.take (4 : Nat) ((unionA (lexP s).fst { at_ := (0 : Int), op := (0 : Int), er := (0 : Nat) }).snd ++ []) ++ [])), [], 4⟩), (.agg ⟨[(.int .i64 0), (.int .i64 0)], [], 2⟩), (.w (.d (.int .i64 0)))]) [])
                else none))
            else none))
        else none))
    else none) := by kernel_rfl
noncomputable def g_expr_cf (m : Int) : Cfg := mkCfQ [25, 35] (globG m) vti orcGX false [] []
theorem g_expr_start {R : Type} (m : Int) (k : V → Bx → Option R) (F : Nat) (s : ByteArray) : runFn (g_expr_cf m) F Tryd.f20 (bd Tryd.f20) [vs s] [] k =
    (bif decide (s.size < (1000000 : Nat)) then
      k (.tup [(.agg ⟨(List.take (4 : Nat) (exprN s ++ [])), [], 4⟩), (.agg ⟨[(.int .i64 (exprL s)), (.int .i64 (exprC s))], [], 2⟩), (.w (.d (.int .i64 (exprE s))))]) []
    else none) := by kernel_rfl
end Go.Proofs.YtniiimpcakmkbaaDoor

/- grammar: an expression's reading answers by its tree -/
set_option linter.unusedVariables false
namespace Go.Proofs.YtniiimpcakmkbaaDoor
open Go Vm Go.RowKit
theorem tok_pl {L : List (List C)} (h : L.all isTok = true) {i : Nat} (hi : i < L.length) : ∃ (k : Int) (t : ByteArray) (l c : Int), L[i]? = some [.int .i64 k, .str t, .int .i64 l, .int .i64 c] ∧ tkL L i = l ∧ tkC L i = c := by
  have h1 := List.all_eq_true.1 h L[i] (List.getElem_mem hi)
  have h2 : L[i]? = some L[i] := List.getElem?_eq_getElem hi
  generalize L[i] = x at h1 h2
  unfold isTok at h1
  split at h1
  · rename_i k t l c
    refine ⟨k, t, l, c, h2, ?_, ?_⟩
    · unfold tkL; rw [Int.toNat_natCast, List.getD_eq_getElem?_getD (l := L), h2]; rfl
    · unfold tkC; rw [Int.toNat_natCast, List.getD_eq_getElem?_getD (l := L), h2]; rfl
  · cases h1
theorem gplace_ok (m : Int) : SpecOk Tryd.prog (globG m) 66 gPlaceS := by
  intro a b v b' h
  unfold gPlaceS at h
  split at h
  · rename_i L el ec a o e gs
    rcases run_ite h with ⟨hl, hx⟩ | ⟨_, hx⟩ <;> clear h <;> have h := hx <;> clear hx
    · rw [Bool.and_eq_true, stOk_iff] at hl
      obtain ⟨hs, hg⟩ := hl
      obtain rfl := gs_eq hg
      refine specAtQ eqs_ok mix vti_ok Tryd.func66 rfl (by kernel_rfl) .nil 0 (Eq.trans (g_place_start m fin2 0 L el ec a o e) ?_)
      unfold plL plC at h
      simp only at h
      by_cases hlt : a < (L.length : Int)
      · have h0 := hs.a0
        simp only at h0
        obtain ⟨i, rfl⟩ : ∃ i : Nat, a = i := ⟨a.toNat, by omega⟩
        obtain ⟨k, t, l, c, hL, h1, h2⟩ := tok_pl hs.tk (i := i) (by omega)
        rw [decide_eq_true hlt, cond_true, decide_eq_true (by omega), cond_true, getT_at rfl hL]
        rw [decide_eq_true hlt, cond_true, cond_true, h1, h2] at h
        exact h
      · rw [decide_eq_false hlt, cond_false]
        rw [decide_eq_false hlt, cond_false, cond_false] at h
        exact h
    · exact (run_no h).elim
  · cases h
theorem tabGW_ok (m : Int) : TabS Tryd.prog (globG m) tabGW :=
  .cons ((lex_ok m).mono globG_T) (.cons (rd0_ok (gunion_all m 9)) (.cons (gfailS_ok m) (.cons (gIs_ok m) (.cons (gplace_ok m) .nil))))
theorem st0 {L : List (List C)} (h : L.all isTok = true) (hl : L.length < 1000000) : St8 L ⟨0, 0, 0⟩ := ⟨h, hl, by simp, by simp, by simp, by simp, by simp⟩
theorem rd0_good {s : ByteArray} (hz : s.size < 1000000) : St8 (lexP s).1 (rd0 s).1 ∧ isNd (rd0 s).2 = true := by
  obtain ⟨h1, h2⟩ := lexP_toks s hz
  obtain ⟨g1, _, g2⟩ := unionA_good (st0 h1 h2)
  exact ⟨g1, g2⟩
theorem end_good {L : List (List C)} {s : PS} (h : St8 L s) : St8 L (endG L s) := by
  unfold endG
  cases decide (s.at_ < (L.length : Int)) with
  | true => exact (gfail_ok h (by omega)).1
  | false => exact h
theorem er3 {n : Nat} (h : n ≤ 2) : n = 0 ∨ n = 1 ∨ n = 2 := by omega
theorem dup2 {R : Type} (x : Option R) : dup 2 x = x := dup_eq 1 x
theorem whole_run (m : Int) (s : ByteArray) (hz : s.size < 1000000) : runFn (g_whole_cf m) 0 Tryd.f45 (bd Tryd.f45) [vs s, vc (C.fn (46 : FuncId) [])] [] fin2 = some (.tup [.agg ⟨exprN s, [], 4⟩, .agg (plM (exprL s) (exprC s)), .w (.d (.int .i64 (exprE s)))], []) := by
  obtain ⟨h1, h2⟩ := lexP_toks s hz
  obtain ⟨g1, g2⟩ := rd0_good hz
  have g3 := end_good g1
  rw [g_whole_start]
  simp only [dup2, Bool.and_true]
  rw [decide_eq_true hz, cond_true]
  unfold exprN exprL exprC exprE
  cases he : (lexP s).2.2.2 == 0 with
  | false =>
    have : ((lexP s).2.2.2 != 0) = true := by unfold bne; rw [he]; rfl
    rw [this, cond_true]; rfl
  | true =>
    have : ((lexP s).2.2.2 != 0) = false := by unfold bne; rw [he]; rfl
    rw [this, cond_false, st_t (st0 h1 h2), cond_true]
    have e0 : unionA (lexP s).1 ⟨0, 0, 0⟩ = rd0 s := rfl
    simp only [e0, Bool.true_and, cond_true]
    have key : ∀ t : PS, St8 (lexP s).1 t → (bif decide (t.er ≤ 2) then
        (bif Nat.beq t.er 2 then (bif stOk (lexP s).1 t then fin2 (.tup [.agg ⟨zeroN, [], 4⟩, .agg (plM (plL (lexP s).1 (lexP s).2.1 t) (plC (lexP s).1 (lexP s).2.2.1 t)), .w (.d (.int .i64 12))]) [] else none)
         else bif decide (t.er ≤ 2) then
          (bif Nat.beq t.er 1 then (bif stOk (lexP s).1 t then fin2 (.tup [.agg ⟨zeroN, [], 4⟩, .agg (plM (plL (lexP s).1 (lexP s).2.1 t) (plC (lexP s).1 (lexP s).2.2.1 t)), .w (.d (.int .i64 11))]) [] else none)
           else fin2 (.tup [.agg ⟨List.take 4 (List.take 4 ((rd0 s).2 ++ []) ++ []), [], 4⟩, .agg (plM 0 0), .w (.d (.int .i64 0))]) []) else none) else none) =
        some (.tup [.agg ⟨bif Nat.beq t.er 0 then (rd0 s).2 else zeroN, [], 4⟩, .agg (plM (bif Nat.beq t.er 0 then 0 else plL (lexP s).1 (lexP s).2.1 t) (bif Nat.beq t.er 0 then 0 else plC (lexP s).1 (lexP s).2.2.1 t)), .w (.d (.int .i64 (erC t.er)))], []) := by
      intro t ht
      rw [decide_eq_true ht.e2, st_t ht, take4 (x := List.take 4 ((rd0 s).2 ++ [])) (by rw [take4 g2]; exact g2), take4 g2]
      rcases er3 ht.e2 with h | h | h <;> rw [h] <;> rfl
    unfold endW endG
    by_cases hlt : (rd0 s).1.at_ < ((lexP s).1.length : Int)
    · rw [decide_eq_true hlt, cond_true, cond_true]
      exact key (failG 1 (rd0 s).1) (gfail_ok g1 (by omega)).1
    · rw [decide_eq_false hlt, cond_false, cond_false]
      exact key (rd0 s).1 g1
theorem whole_ok (m : Int) : SpecOk Tryd.prog (globG m) 45 wholeS := by
  intro a b v b' h
  unfold wholeS at h
  split at h
  · rename_i s
    rcases run_ite h with ⟨hl, hx⟩ | ⟨_, hx⟩ <;> clear h <;> have h := hx <;> clear hx
    · rw [decide_eq_true_eq] at hl
      obtain ⟨rfl, rfl⟩ := run_ret h
      exact specAtQ eqs_ok mix vti_ok Tryd.func45 rfl (by kernel_rfl) (tabGW_ok m) 0 (whole_run m s hl)
    · exact (run_no h).elim
  · cases h
theorem exprN_nd {s : ByteArray} (hz : s.size < 1000000) : isNd (exprN s) = true := by
  unfold exprN
  cases ((lexP s).2.2.2 == 0 && Nat.beq (endW s).er 0) with
  | true => exact (rd0_good hz).2
  | false => rfl
theorem expr_ok (m : Int) : SpecOk Tryd.prog (globG m) 20 exprS := by
  intro a b v b' h
  unfold exprS at h
  split at h
  · rename_i s
    rcases run_ite h with ⟨hl, hx⟩ | ⟨_, hx⟩ <;> clear h <;> have h := hx <;> clear hx
    · rw [decide_eq_true_eq] at hl
      obtain ⟨rfl, rfl⟩ := run_ret h
      refine specAtQ eqs_ok mix vti_ok Tryd.func20 rfl (by kernel_rfl) (.cons (whole_ok m) .nil) 0 (Eq.trans (g_expr_start m fin2 0 s) ?_)
      have hn := exprN_nd hl
      rw [decide_eq_true hl, cond_true]
      rw [take4 hn]
      rfl
    · exact (run_no h).elim
  · cases h
end Go.Proofs.YtniiimpcakmkbaaDoor

set_option linter.unusedVariables false
namespace Go.Proofs.YtniiimpcakmkbaaDoor
open Go Vm
noncomputable def h_kind_cf (m : Int) : Cfg := mkCfQ [25, 35] (globG m) vti orc0 false [] []
theorem h_kind_start {R : Type} (m : Int) (k : V → Bx → Option R) (F : Nat) (L : List (List C)) (a : Int) (o : Int) (c : Int) : runFn (h_kind_cf m) F Tryd.f71 (bd Tryd.f71) [V.t (T.agg { l := [C.sl (4 : Nat) L, C.int IntKind.i64 a, C.int IntKind.i64 o, C.int IntKind.i64 c], lk := [], n := (4 : Nat) })] [] k =
    (bif c != (0 : Int) then
      k (vi 0) []
    else (bif decide (a ≥ (↑L.length : Int)) then
        k (vi 0) []
      else (bif decide ((0 : Int) ≤ a) then
          (getT L a.toNat fun z1 =>
            (getT z1 0 fun z2 =>
              (bif shOk [Sh.int IntKind.i64] [z2] then
                k (vi (([z2].getD (0 : Nat) C.nf).toInt)) []
              else none)))
        else none))) := by kernel_rfl
noncomputable def h_take_cf (m : Int) : Cfg := mkCfQ [25, 35] (globG m) vti orcRA false [] []
theorem h_take_start {R : Type} (m : Int) (k : V → Bx → Option R) (F : Nat) (L : List (List C)) (a : Int) (o : Int) (c : Int) (sg : Int) : runFn (h_take_cf m) F Tryd.f75 (bd Tryd.f75) [V.t (T.agg { l := [C.sl (4 : Nat) L, C.int IntKind.i64 a, C.int IntKind.i64 o, C.int IntKind.i64 c], lk := [], n := (4 : Nat) }), vi sg] [] k =
    (bif c != (0 : Int) then
      k (.tup [(.agg ⟨[(.sl 4 L), (.int .i64 a), (.int .i64 o), (.int .i64 c)], [], 4⟩), (.w (.d (.str ((ByteArray.mk #[])))))]) []
    else (bif stOk L (rP a o c) && okC c then
        (bif kindG L (rP a o c) != sg then
          k (.tup [(.agg ⟨[(.sl 4 L), (.int .i64 a), (.int .i64 o), (.int .i64 11)], [], 4⟩), (.w (.d (.str ((ByteArray.mk #[])))))]) []
        else dup 6 ((bif decide ((0 : Int) ≤ IntKind.i64.wrap (IntKind.i64.wrap (a + (1 : Int)) - (1 : Int))) then
            (getT L ((IntKind.i64.wrap (IntKind.i64.wrap (a + (1 : Int)) - (1 : Int))).toNat) fun z1 =>
              (getT (List.drop (1 : Nat) z1) 0 fun z2 =>
                (bif shOk [Sh.str] [z2] then
                  k (.tup [(.agg ⟨[(.sl 4 L), (.int .i64 (IntKind.i64.wrap (a + (1 : Int)))), (.int .i64 o), (.int .i64 c)], [], 4⟩), (.w (.d (.str (([z2].getD (0 : Nat) C.nf).toStr))))]) []
                else none)))
          else none)))
      else none)) := by kernel_rfl
noncomputable def h_atom_cf (m : Int) (N : Nat) : Cfg := mkCfQ [25, 35] (globG m) vti (orcR_1 N) false [] []
theorem h_atom_start {R : Type} (m : Int) (N : Nat) (k : V → Bx → Option R) (F : Nat) (L : List (List C)) (a : Int) (o : Int) (c : Int) : runFn (h_atom_cf m N) F Tryd.f95 (bd Tryd.f95) [V.t (T.agg { l := [C.sl (4 : Nat) L, C.int IntKind.i64 a, C.int IntKind.i64 o, C.int IntKind.i64 c], lk := [], n := (4 : Nat) })] [] k =
    (bif stOk L (rP a o c) && okC c then
      (bif kindG L (rP a o c) == (40 : Int) then
        (bif decide (o ≥ (8 : Int)) then
          dup 2 (k (.tup [(.agg ⟨[(.sl 4 L), (.int .i64 a), (.int .i64 o), (.int .i64 12)], [], 4⟩), (.agg ⟨[(.int .i64 0), (.str ByteArray.empty), (.str ByteArray.empty), (.sl 4 [])], [], 4⟩)]) [])
        else (bif stOk L (rP (IntKind.i64.wrap (a + (1 : Int))) (IntKind.i64.wrap (o + (1 : Int))) c) && okC c && decide (lvl (rP (IntKind.i64.wrap (a + (1 : Int))) (IntKind.i64.wrap (o + (1 : Int))) c) < N) then
            (bif stOk L (rP (unionA L (rP (IntKind.i64.wrap (a + (1 : Int))) (IntKind.i64.wrap (o + (1 : Int))) c)).fst.at_ (unionA L (rP (IntKind.i64.wrap (a + (1 : Int))) (IntKind.i64.wrap (o + (1 : Int))) c)).fst.op (erC (unionA L (rP (IntKind.i64.wrap (a + (1 : Int))) (IntKind.i64.wrap (o + (1 : Int))) c)).fst.er)) && okC (erC (unionA L (rP (IntKind.i64.wrap (a + (1 : Int))) (IntKind.i64.wrap (o + (1 : Int))) c)).fst.er) && true then
              dup 2 (k (.tup [(.agg ⟨[(.sl 4 L), (.int .i64 ((takeG L (41 : Int) (rP (unionA L (rP (IntKind.i64.wrap (a + (1 : Int))) (IntKind.i64.wrap (o + (1 : Int))) c)).fst.at_ (unionA L (rP (IntKind.i64.wrap (a + (1 : Int))) (IntKind.i64.wrap (o + (1 : Int))) c)).fst.op (erC (unionA L (rP (IntKind.i64.wrap (a + (1 : Int))) (IntKind.i64.wrap (o + (1 : Int))) c)).fst.er))).fst.at_)), (.int .i64 (IntKind.i64.wrap ((takeG L (41 : Int) (rP (unionA L (rP (IntKind.i64.wrap (a + (1 : Int))) (IntKind.i64.wrap (o + (1 : Int))) c)).fst.at_ (unionA L (rP (IntKind.i64.wrap (a + (1 : Int))) (IntKind.i64.wrap (o + (1 : Int))) c)).fst.op (erC (unionA L (rP (IntKind.i64.wrap (a + (1 : Int))) (IntKind.i64.wrap (o + (1 : Int))) c)).fst.er))).fst.op - (1 : Int)))), (.int .i64 (erC (takeG L (41 : Int) (rP (unionA L (rP (IntKind.i64.wrap (a + (1 : Int))) (IntKind.i64.wrap (o + (1 : Int))) c)).fst.at_ (unionA L (rP (IntKind.i64.wrap (a + (1 : Int))) (IntKind.i64.wrap (o + (1 : Int))) c)).fst.op (erC (unionA L (rP (IntKind.i64.wrap (a + (1 : Int))) (IntKind.i64.wrap (o + (1 : Int))) c)).fst.er))).fst.er))], [], 4⟩), (.agg ⟨(List.take (4 : Nat) (List.take (4 : Nat) ((unionA L (rP (IntKind.i64.wrap (a + (1 : Int))) (IntKind.i64.wrap (o + (1 : Int))) c)).snd ++ []) ++ [])), [], 4⟩)]) [])
            else none)
          else none))
      else (bif stOk L (rP a o c) && okC c then
          (bif kindG L (rP a o c) == (4 : Int) then
            k (.tup [(.agg ⟨[(.sl 4 L), (.int .i64 (IntKind.i64.wrap (a + (1 : Int)))), (.int .i64 o), (.int .i64 c)], [], 4⟩), (.agg ⟨[(.int .i64 1), (.str ByteArray.empty), (.str ByteArray.empty), (.sl 4 [])], [], 4⟩)]) []
          else (bif stOk L (rP a o c) && okC c && true then
              (bif stOk L (rP (takeG L (1 : Int) (rP a o c)).fst.at_ (takeG L (1 : Int) (rP a o c)).fst.op (erC (takeG L (1 : Int) (rP a o c)).fst.er)) && okC (erC (takeG L (1 : Int) (rP a o c)).fst.er) then
                (bif kindG L (rP (takeG L (1 : Int) (rP a o c)).fst.at_ (takeG L (1 : Int) (rP a o c)).fst.op (erC (takeG L (1 : Int) (rP a o c)).fst.er)) == (5 : Int) then
                  (bif stOk L (rP (IntKind.i64.wrap ((takeG L (1 : Int) (rP a o c)).fst.at_ + (1 : Int))) (takeG L (1 : Int) (rP a o c)).fst.op (erC (takeG L (1 : Int) (rP a o c)).fst.er)) && okC (erC (takeG L (1 : Int) (rP a o c)).fst.er) && true then
                    k (.tup [(.agg ⟨[(.sl 4 L), (.int .i64 ((takeG L (1 : Int) (rP (IntKind.i64.wrap ((takeG L (1 : Int) (rP a o c)).fst.at_ + (1 : Int))) (takeG L (1 : Int) (rP a o c)).fst.op (erC (takeG L (1 : Int) (rP a o c)).fst.er))).fst.at_)), (.int .i64 ((takeG L (1 : Int) (rP (IntKind.i64.wrap ((takeG L (1 : Int) (rP a o c)).fst.at_ + (1 : Int))) (takeG L (1 : Int) (rP a o c)).fst.op (erC (takeG L (1 : Int) (rP a o c)).fst.er))).fst.op)), (.int .i64 (erC (takeG L (1 : Int) (rP (IntKind.i64.wrap ((takeG L (1 : Int) (rP a o c)).fst.at_ + (1 : Int))) (takeG L (1 : Int) (rP a o c)).fst.op (erC (takeG L (1 : Int) (rP a o c)).fst.er))).fst.er))], [], 4⟩), (.agg ⟨[(.int .i64 3), (.str ((takeG L (1 : Int) (rP a o c)).snd)), (.str ((takeG L (1 : Int) (rP (IntKind.i64.wrap ((takeG L (1 : Int) (rP a o c)).fst.at_ + (1 : Int))) (takeG L (1 : Int) (rP a o c)).fst.op (erC (takeG L (1 : Int) (rP a o c)).fst.er))).snd)), (.sl 4 [])], [], 4⟩)]) []
                  else none)
                else k (.tup [(.agg ⟨[(.sl 4 L), (.int .i64 ((takeG L (1 : Int) (rP a o c)).fst.at_)), (.int .i64 ((takeG L (1 : Int) (rP a o c)).fst.op)), (.int .i64 (erC (takeG L (1 : Int) (rP a o c)).fst.er))], [], 4⟩), (.agg ⟨[(.int .i64 2), (.str ((takeG L (1 : Int) (rP a o c)).snd)), (.str ByteArray.empty), (.sl 4 [])], [], 4⟩)]) [])
              else none)
            else none))
        else none))
    else none) := by kernel_rfl
noncomputable def h_less_cf (m : Int) (N : Nat) : Cfg := mkCfQ [25, 35] (globG m) vti (orcR_2 N) false [] []
theorem h_less_start {R : Type} (m : Int) (N : Nat) (k : V → Bx → Option R) (F : Nat) (L : List (List C)) (a : Int) (o : Int) (c : Int) : runFn (h_less_cf m N) F Tryd.f85 (bd Tryd.f85) [V.t (T.agg { l := [C.sl (4 : Nat) L, C.int IntKind.i64 a, C.int IntKind.i64 o, C.int IntKind.i64 c], lk := [], n := (4 : Nat) })] [] k =
    (bif stOk L (rP a o c) && okC c && decide (lvl (rP a o c) < N) then
      (bif stOk L (rP (atomA L (rP a o c)).fst.at_ (atomA L (rP a o c)).fst.op (erC (atomA L (rP a o c)).fst.er)) && okC (erC (atomA L (rP a o c)).fst.er) then
        (bif kindG L (rP (atomA L (rP a o c)).fst.at_ (atomA L (rP a o c)).fst.op (erC (atomA L (rP a o c)).fst.er)) != (45 : Int) then
          dup 2 (k (.tup [(.agg ⟨[(.sl 4 L), (.int .i64 ((atomA L (rP a o c)).fst.at_)), (.int .i64 ((atomA L (rP a o c)).fst.op)), (.int .i64 (erC (atomA L (rP a o c)).fst.er))], [], 4⟩), (.agg ⟨(List.take (4 : Nat) (List.take (4 : Nat) ((atomA L (rP a o c)).snd ++ []) ++ [])), [], 4⟩)]) [])
        else (bif stOk L (rP (IntKind.i64.wrap ((atomA L (rP a o c)).fst.at_ + (1 : Int))) (atomA L (rP a o c)).fst.op (erC (atomA L (rP a o c)).fst.er)) && okC (erC (atomA L (rP a o c)).fst.er) && decide (lvl (rP (IntKind.i64.wrap ((atomA L (rP a o c)).fst.at_ + (1 : Int))) (atomA L (rP a o c)).fst.op (erC (atomA L (rP a o c)).fst.er)) < N) then
            dup 5 (k (.tup [(.agg ⟨[(.sl 4 L), (.int .i64 ((atomA L (rP (IntKind.i64.wrap ((atomA L (rP a o c)).fst.at_ + (1 : Int))) (atomA L (rP a o c)).fst.op (erC (atomA L (rP a o c)).fst.er))).fst.at_)), (.int .i64 ((atomA L (rP (IntKind.i64.wrap ((atomA L (rP a o c)).fst.at_ + (1 : Int))) (atomA L (rP a o c)).fst.op (erC (atomA L (rP a o c)).fst.er))).fst.op)), (.int .i64 (erC (atomA L (rP (IntKind.i64.wrap ((atomA L (rP a o c)).fst.at_ + (1 : Int))) (atomA L (rP a o c)).fst.op (erC (atomA L (rP a o c)).fst.er))).fst.er))], [], 4⟩), (.agg ⟨[(.int .i64 6), (.str ByteArray.empty), (.str ByteArray.empty), (.sl 4 [(List.take (4 : Nat) ((atomA L (rP a o c)).snd ++ [])), (List.take (4 : Nat) ((atomA L (rP (IntKind.i64.wrap ((atomA L (rP a o c)).fst.at_ + (1 : Int))) (atomA L (rP a o c)).fst.op (erC (atomA L (rP a o c)).fst.er))).snd ++ []))])], [], 4⟩)]) [])
          else none))
      else none)
    else none) := by kernel_rfl
noncomputable def h_meet_cf (m : Int) (N : Nat) : Cfg := mkCfQ [25, 35] (globG m) vti (orcR_3 N) false [] [(3, 62), (999, 12), (1000, 62)]
noncomputable def h_meet_m0 : List Bool := [false, true, true, true, true, true, false, false, false, false, false, false, false, false, false, false, false, false, false, false, false, false, false, false, false, false, false, false, false, false, false, false, false, false, false, false, false]
noncomputable def h_meet_b0 : Code := (cA (cA (cA (cB (cB (cB (bd Tryd.f70)))))))
noncomputable def h_meet_S0 (v1 : Int) (L2 : List (List C)) (v3 : Int) (v4 : Int) (v5 : Int) (v6 : Int) (v7 : Int) (v8 : Int) (v9 : ByteArray) (v10 : ByteArray) (v11 : List (List C)) (v12 : List (List C)) (v13 : List (List C)) (v14 : List C) : St := { env := [vu, (.t (.w (.ptr 0 0))), (.t (.w (.ptr 1 0))), (.t (.w (.ptr 2 0))), (.t (.w (.ptr 3 0))), (.t (.w (.arr 4))), vu, vu, vu, vu, vu, vu, vu, vu, vu, vu, vu, vu, vu, vu, vu, vu, vu, vu, vu, vu, vu, vu, vu, vu, vu, vu, vu, vu, vu, vu, vu], bx := [(some (.cells ⟨[(.sl 4 L2), (.int .i64 v3), (.int .i64 v4), (.int .i64 v1)], [], 4⟩)), (some (.cells ⟨[.nf, (.int .i64 v5), (.int .i64 v6), (.int .i64 v7)], [(0, (.arr 5))], 4⟩)), (some (.cells ⟨[(.int .i64 v8), (.str v9), (.str v10), .nf], [(3, (.arr 6))], 4⟩)), (some (.cells ⟨v14, [], 4⟩)), (some (.arr true (some 47) 4 v11)), (some (.arr true (some 35) 4 v12)), (some (.arr true (some 47) 4 v13))], np := 0 }
noncomputable def h_meet_L0 {R : Type} (m : Int) (N : Nat) (K : X → St → Option R) (F n : Nat) (v1 : Int) (L2 : List (List C)) (v3 : Int) (v4 : Int) (v5 : Int) (v6 : Int) (v7 : Int) (v8 : Int) (v9 : ByteArray) (v10 : ByteArray) (v11 : List (List C)) (v12 : List (List C)) (v13 : List (List C)) (v14 : List C) : Option R := loopV (headM h_meet_m0) (exec (h_meet_cf m N) F h_meet_b0) (exitK (h_meet_cf m N) K) n (h_meet_S0 v1 L2 v3 v4 v5 v6 v7 v8 v9 v10 v11 v12 v13 v14)
noncomputable def h_meet_K0 {R : Type} (m : Int) (N : Nat) (k : V → Bx → Option R) (F : Nat) : X → St → Option R := (blockK 0 (seqK (h_meet_cf m N) F (cB (cB (cB (cB (bd Tryd.f70))))) (finK (h_meet_cf m N) Tryd.f70 k)))
noncomputable def h_meet_E1 (v1 : Int) (L2 : List (List C)) (v3 : Int) (v4 : Int) (v5 : Int) (v6 : Int) (v7 : Int) (v8 : Int) (v9 : ByteArray) (v10 : ByteArray) (v11 : List (List C)) (v12 : List (List C)) (v13 : List (List C)) (v14 : List C) : St := { env := [vu, (.t (.w (.ptr 0 0))), (.t (.w (.ptr 1 0))), (.t (.w (.ptr 2 0))), (.t (.w (.ptr 3 0))), (.t (.w (.arr 4))), vu, vu, vu, vu, vu, vu, vu, vu, vu, vu, vu, vu, vu, vu, vu, vu, vu, vu, vu, vu, vu, vu, vu, vu, vu, vu, vu, vu, vu, vu, vu], bx := [(some (.cells ⟨[(.sl 4 L2), (.int .i64 v3), (.int .i64 v4), (.int .i64 v1)], [], 4⟩)), (some (.cells ⟨[.nf, (.int .i64 v5), (.int .i64 v6), (.int .i64 v7)], [(0, (.arr 5))], 4⟩)), (some (.cells ⟨[(.int .i64 v8), (.str v9), (.str v10), .nf], [(3, (.arr 6))], 4⟩)), (some (.cells ⟨v14, [], 4⟩)), (some (.arr true (some 47) 4 v11)), (some (.arr true (some 35) 4 v12)), (some (.arr true (some 47) 4 v13))], np := 0 }
theorem h_meet_c1 {R : Type} (m : Int) (N : Nat) (k : V → Bx → Option R) (F : Nat) (v1 : Int) (L2 : List (List C)) (v3 : Int) (v4 : Int) (v5 : Int) (v6 : Int) (v7 : Int) (v8 : Int) (v9 : ByteArray) (v10 : ByteArray) (v11 : List (List C)) (v12 : List (List C)) (v13 : List (List C)) (v14 : List C) : h_meet_K0 m N k F (.ex 0) (h_meet_E1 v1 L2 v3 v4 v5 v6 v7 v8 v9 v10 v11 v12 v13 v14) =
    (bif (↑v11.length : Int) == (1 : Int) then
      dup 2 (k (.tup [(.agg ⟨[(.sl 4 L2), (.int .i64 v3), (.int .i64 v4), (.int .i64 v1)], [], 4⟩), (.agg ⟨(List.take (4 : Nat) (List.take (4 : Nat) v14 ++ [])), [], 4⟩)]) [])
    else k (.tup [(.agg ⟨[(.sl 4 L2), (.int .i64 v3), (.int .i64 v4), (.int .i64 v1)], [], 4⟩), (.agg ⟨[(.int .i64 5), (.str ByteArray.empty), (.str ByteArray.empty), (.sl 4 v11)], [], 4⟩)]) []) := by kernel_rfl
theorem h_meet_r0 {R : Type} (m : Int) (N : Nat) (K : X → St → Option R) (F n : Nat) (v1 : Int) (L2 : List (List C)) (v3 : Int) (v4 : Int) (v5 : Int) (v6 : Int) (v7 : Int) (v8 : Int) (v9 : ByteArray) (v10 : ByteArray) (v11 : List (List C)) (v12 : List (List C)) (v13 : List (List C)) (v14 : List C) : h_meet_L0 m N K F (n + 1) v1 L2 v3 v4 v5 v6 v7 v8 v9 v10 v11 v12 v13 v14 =
    (bif stOk L2 (rP v3 v4 v1) && okC v1 then
      (bif kindG L2 (rP v3 v4 v1) == (38 : Int) then
        (bif stOk L2 (rP (IntKind.i64.wrap (v3 + (1 : Int))) v4 v1) && okC v1 && decide (lvl (rP (IntKind.i64.wrap (v3 + (1 : Int))) v4 v1) < N) then
          (bif decide ((v11.length + (1 : Nat)) * (64 : Nat) ≤ (140737488355328 : Nat) ∧ v11.length + (1 : Nat) ≤ (9223372036854775807 : Nat)) then
            h_meet_L0 m N K F n (erC (lessA L2 (rP (IntKind.i64.wrap (v3 + (1 : Int))) v4 v1)).fst.er) L2 ((lessA L2 (rP (IntKind.i64.wrap (v3 + (1 : Int))) v4 v1)).fst.at_) ((lessA L2 (rP (IntKind.i64.wrap (v3 + (1 : Int))) v4 v1)).fst.op) v5 v6 v7 v8 v9 v10 (v11 ++ [List.take (4 : Nat) ((lessA L2 (rP (IntKind.i64.wrap (v3 + (1 : Int))) v4 v1)).snd ++ List.drop (4 : Nat) v14)]) v12 v13 ((lessA L2 (rP (IntKind.i64.wrap (v3 + (1 : Int))) v4 v1)).snd ++ List.drop (4 : Nat) v14)
          else none)
        else none)
      else K (.ex 0) (h_meet_E1 v1 L2 v3 v4 v5 v6 v7 v8 v9 v10 v11 v12 v13 v14))
    else none) := by kernel_rfl
theorem h_meet_start {R : Type} (m : Int) (N : Nat) (k : V → Bx → Option R) (F : Nat) (L : List (List C)) (a : Int) (o : Int) (c : Int) : runFn (h_meet_cf m N) F Tryd.f70 (bd Tryd.f70) [V.t (T.agg { l := [C.sl (4 : Nat) L, C.int IntKind.i64 a, C.int IntKind.i64 o, C.int IntKind.i64 c], lk := [], n := (4 : Nat) })] [] k =
    (bif stOk L (rP a o c) && okC c && decide (lvl (rP a o c) < N) then
      h_meet_L0 m N (h_meet_K0 m N k F) F F (erC (lessA L (rP a o c)).fst.er) L ((lessA L (rP a o c)).fst.at_) ((lessA L (rP a o c)).fst.op) 0 0 0 0 ByteArray.empty ByteArray.empty [(List.take (4 : Nat) ((lessA L (rP a o c)).snd ++ []))] [] [] ((lessA L (rP a o c)).snd ++ [])
    else none) := by kernel_rfl
noncomputable def h_union_cf (m : Int) (N : Nat) : Cfg := mkCfQ [25, 35] (globG m) vti (orcR_4 N) false [] [(3, 62), (999, 12), (1000, 62)]
noncomputable def h_union_m0 : List Bool := [false, true, true, true, true, true, false, false, false, false, false, false, false, false, false, false, false, false, false, false, false, false, false, false, false, false, false, false, false, false, false, false, false, false, false, false, false]
noncomputable def h_union_b0 : Code := (cA (cA (cA (cB (cB (cB (bd Tryd.f47)))))))
noncomputable def h_union_S0 (v1 : Int) (L2 : List (List C)) (v3 : Int) (v4 : Int) (v5 : Int) (v6 : Int) (v7 : Int) (v8 : Int) (v9 : ByteArray) (v10 : ByteArray) (v11 : List (List C)) (v12 : List (List C)) (v13 : List (List C)) (v14 : List C) : St := { env := [vu, (.t (.w (.ptr 0 0))), (.t (.w (.ptr 1 0))), (.t (.w (.ptr 2 0))), (.t (.w (.ptr 3 0))), (.t (.w (.arr 4))), vu, vu, vu, vu, vu, vu, vu, vu, vu, vu, vu, vu, vu, vu, vu, vu, vu, vu, vu, vu, vu, vu, vu, vu, vu, vu, vu, vu, vu, vu, vu], bx := [(some (.cells ⟨[(.sl 4 L2), (.int .i64 v3), (.int .i64 v4), (.int .i64 v1)], [], 4⟩)), (some (.cells ⟨[.nf, (.int .i64 v5), (.int .i64 v6), (.int .i64 v7)], [(0, (.arr 5))], 4⟩)), (some (.cells ⟨[(.int .i64 v8), (.str v9), (.str v10), .nf], [(3, (.arr 6))], 4⟩)), (some (.cells ⟨v14, [], 4⟩)), (some (.arr true (some 47) 4 v11)), (some (.arr true (some 35) 4 v12)), (some (.arr true (some 47) 4 v13))], np := 0 }
noncomputable def h_union_L0 {R : Type} (m : Int) (N : Nat) (K : X → St → Option R) (F n : Nat) (v1 : Int) (L2 : List (List C)) (v3 : Int) (v4 : Int) (v5 : Int) (v6 : Int) (v7 : Int) (v8 : Int) (v9 : ByteArray) (v10 : ByteArray) (v11 : List (List C)) (v12 : List (List C)) (v13 : List (List C)) (v14 : List C) : Option R := loopV (headM h_union_m0) (exec (h_union_cf m N) F h_union_b0) (exitK (h_union_cf m N) K) n (h_union_S0 v1 L2 v3 v4 v5 v6 v7 v8 v9 v10 v11 v12 v13 v14)
noncomputable def h_union_K0 {R : Type} (m : Int) (N : Nat) (k : V → Bx → Option R) (F : Nat) : X → St → Option R := (blockK 0 (seqK (h_union_cf m N) F (cB (cB (cB (cB (bd Tryd.f47))))) (finK (h_union_cf m N) Tryd.f47 k)))
noncomputable def h_union_E1 (v1 : Int) (L2 : List (List C)) (v3 : Int) (v4 : Int) (v5 : Int) (v6 : Int) (v7 : Int) (v8 : Int) (v9 : ByteArray) (v10 : ByteArray) (v11 : List (List C)) (v12 : List (List C)) (v13 : List (List C)) (v14 : List C) : St := { env := [vu, (.t (.w (.ptr 0 0))), (.t (.w (.ptr 1 0))), (.t (.w (.ptr 2 0))), (.t (.w (.ptr 3 0))), (.t (.w (.arr 4))), vu, vu, vu, vu, vu, vu, vu, vu, vu, vu, vu, vu, vu, vu, vu, vu, vu, vu, vu, vu, vu, vu, vu, vu, vu, vu, vu, vu, vu, vu, vu], bx := [(some (.cells ⟨[(.sl 4 L2), (.int .i64 v3), (.int .i64 v4), (.int .i64 v1)], [], 4⟩)), (some (.cells ⟨[.nf, (.int .i64 v5), (.int .i64 v6), (.int .i64 v7)], [(0, (.arr 5))], 4⟩)), (some (.cells ⟨[(.int .i64 v8), (.str v9), (.str v10), .nf], [(3, (.arr 6))], 4⟩)), (some (.cells ⟨v14, [], 4⟩)), (some (.arr true (some 47) 4 v11)), (some (.arr true (some 35) 4 v12)), (some (.arr true (some 47) 4 v13))], np := 0 }
theorem h_union_c1 {R : Type} (m : Int) (N : Nat) (k : V → Bx → Option R) (F : Nat) (v1 : Int) (L2 : List (List C)) (v3 : Int) (v4 : Int) (v5 : Int) (v6 : Int) (v7 : Int) (v8 : Int) (v9 : ByteArray) (v10 : ByteArray) (v11 : List (List C)) (v12 : List (List C)) (v13 : List (List C)) (v14 : List C) : h_union_K0 m N k F (.ex 0) (h_union_E1 v1 L2 v3 v4 v5 v6 v7 v8 v9 v10 v11 v12 v13 v14) =
    (bif (↑v11.length : Int) == (1 : Int) then
      dup 2 (k (.tup [(.agg ⟨[(.sl 4 L2), (.int .i64 v3), (.int .i64 v4), (.int .i64 v1)], [], 4⟩), (.agg ⟨(List.take (4 : Nat) (List.take (4 : Nat) v14 ++ [])), [], 4⟩)]) [])
    else k (.tup [(.agg ⟨[(.sl 4 L2), (.int .i64 v3), (.int .i64 v4), (.int .i64 v1)], [], 4⟩), (.agg ⟨[(.int .i64 4), (.str ByteArray.empty), (.str ByteArray.empty), (.sl 4 v11)], [], 4⟩)]) []) := by kernel_rfl
theorem h_union_r0 {R : Type} (m : Int) (N : Nat) (K : X → St → Option R) (F n : Nat) (v1 : Int) (L2 : List (List C)) (v3 : Int) (v4 : Int) (v5 : Int) (v6 : Int) (v7 : Int) (v8 : Int) (v9 : ByteArray) (v10 : ByteArray) (v11 : List (List C)) (v12 : List (List C)) (v13 : List (List C)) (v14 : List C) : h_union_L0 m N K F (n + 1) v1 L2 v3 v4 v5 v6 v7 v8 v9 v10 v11 v12 v13 v14 =
    (bif stOk L2 (rP v3 v4 v1) && okC v1 then
      (bif kindG L2 (rP v3 v4 v1) == (124 : Int) then
        (bif stOk L2 (rP (IntKind.i64.wrap (v3 + (1 : Int))) v4 v1) && okC v1 && decide (lvl (rP (IntKind.i64.wrap (v3 + (1 : Int))) v4 v1) < N) then
          (bif decide ((v11.length + (1 : Nat)) * (64 : Nat) ≤ (140737488355328 : Nat) ∧ v11.length + (1 : Nat) ≤ (9223372036854775807 : Nat)) then
            h_union_L0 m N K F n (erC (meetA L2 (rP (IntKind.i64.wrap (v3 + (1 : Int))) v4 v1)).fst.er) L2 ((meetA L2 (rP (IntKind.i64.wrap (v3 + (1 : Int))) v4 v1)).fst.at_) ((meetA L2 (rP (IntKind.i64.wrap (v3 + (1 : Int))) v4 v1)).fst.op) v5 v6 v7 v8 v9 v10 (v11 ++ [List.take (4 : Nat) ((meetA L2 (rP (IntKind.i64.wrap (v3 + (1 : Int))) v4 v1)).snd ++ List.drop (4 : Nat) v14)]) v12 v13 ((meetA L2 (rP (IntKind.i64.wrap (v3 + (1 : Int))) v4 v1)).snd ++ List.drop (4 : Nat) v14)
          else none)
        else none)
      else K (.ex 0) (h_union_E1 v1 L2 v3 v4 v5 v6 v7 v8 v9 v10 v11 v12 v13 v14))
    else none) := by kernel_rfl
theorem h_union_start {R : Type} (m : Int) (N : Nat) (k : V → Bx → Option R) (F : Nat) (L : List (List C)) (a : Int) (o : Int) (c : Int) : runFn (h_union_cf m N) F Tryd.f47 (bd Tryd.f47) [V.t (T.agg { l := [C.sl (4 : Nat) L, C.int IntKind.i64 a, C.int IntKind.i64 o, C.int IntKind.i64 c], lk := [], n := (4 : Nat) })] [] k =
    (bif stOk L (rP a o c) && okC c && decide (lvl (rP a o c) < N) then
      h_union_L0 m N (h_union_K0 m N k F) F F (erC (meetA L (rP a o c)).fst.er) L ((meetA L (rP a o c)).fst.at_) ((meetA L (rP a o c)).fst.op) 0 0 0 0 ByteArray.empty ByteArray.empty [(List.take (4 : Nat) ((meetA L (rP a o c)).snd ++ []))] [] [] ((meetA L (rP a o c)).snd ++ [])
    else none) := by kernel_rfl
end Go.Proofs.YtniiimpcakmkbaaDoor

/- grammar: the reference's parser answers by the same parts -/
set_option linter.unusedVariables false
namespace Go.Proofs.YtniiimpcakmkbaaDoor
open Go Vm Go.RowKit
theorem okC_er (n : Nat) : okC (erC n) = true := by
  unfold okC erC
  cases Nat.beq n 0 with
  | true => rfl
  | false => cases Nat.beq n 1 <;> rfl
theorem erN_C {n : Nat} (h : n ≤ 2) : erN (erC n) = n := by rcases er3 h with h | h | h <;> subst h <;> rfl
theorem erC_N {c : Int} (h : okC c = true) : erC (erN c) = c ∧ erN c ≤ 2 := by
  unfold okC at h
  simp only [Bool.or_eq_true, beq_iff_eq] at h
  rcases h with (h | h) | h <;> subst h <;> exact ⟨rfl, by decide⟩
theorem rP_s {s : PS} (h : s.er ≤ 2) : rP s.at_ s.op (erC s.er) = s := by unfold rP; rw [erN_C h]
theorem rP_next {L : List (List C)} {s : PS} (h : St8 L s) : rP (IntKind.i64.wrap (s.at_ + 1)) s.op (erC s.er) = nextG s := by
  have := h.a0; have := h.a1; have := h.len
  unfold rP nextG; rw [erN_C h.e2, w64 _ (by omega) (by omega)]
theorem wrap_next {L : List (List C)} {s : PS} (h : St8 L s) : IntKind.i64.wrap (s.at_ + 1) = (nextG s).at_ := by
  have := h.a0; have := h.a1; have := h.len
  unfold nextG; rw [w64 _ (by omega) (by omega)]
abbrev sV (L : List (List C)) (s : PS) : V := .t (.agg (sM L s))
theorem rrd_ok {m : Int} {fn : FuncId} {N : Nat} {f : List (List C) → PS → PS × Nde}
    (h : ∀ (L : List (List C)) (s : PS), St8 L s → lvl s < N → FnRes Tryd.prog (globG m) fn [sV L s] [] (.tup [.agg (sM L (f L s).1), .agg ⟨(f L s).2, [], 4⟩]) []) : SpecOk Tryd.prog (globG m) fn (rRdS f N) := by
  intro a b v b' hr
  unfold rRdS at hr
  split at hr
  · rename_i L a o c
    rcases run_ite hr with ⟨hl, hx⟩ | ⟨_, hx⟩ <;> clear hr <;> have hr := hx <;> clear hx
    · rw [Bool.and_eq_true, Bool.and_eq_true, stOk_iff, decide_eq_true_eq] at hl
      obtain ⟨⟨hs, hg⟩, hlv⟩ := hl
      obtain ⟨rfl, rfl⟩ := run_ret hr
      obtain ⟨e1, _⟩ := erC_N hg
      have := h L (rP a o c) hs hlv
      have e2 : sV L (rP a o c) = .t (.agg ⟨[.sl 4 L, .int .i64 a, .int .i64 o, .int .i64 c], [], 4⟩) := by
        show V.t (.agg ⟨[.sl 4 L, .int .i64 a, .int .i64 o, .int .i64 (erC (erN c))], [], 4⟩) = _
        rw [e1]
      rw [e2] at this
      exact this
    · exact (run_no hr).elim
  · cases hr
theorem rkind_ok (m : Int) : SpecOk Tryd.prog (globG m) 71 rKindS := by
  intro a b v b' h
  unfold rKindS at h
  split at h
  · rename_i L a o c
    rcases run_ite h with ⟨hl, hx⟩ | ⟨_, hx⟩ <;> clear h <;> have h := hx <;> clear hx
    · rw [Bool.and_eq_true, stOk_iff] at hl
      obtain ⟨hs, hg⟩ := hl
      obtain ⟨e1, _⟩ := erC_N hg
      refine specAtQ eqs_ok mix vti_ok Tryd.func71 rfl (by kernel_rfl) .nil 0 (Eq.trans (h_kind_start m fin2 0 L a o c) ?_)
      unfold kindG at h
      have hc : (c != 0) = !(Nat.beq (erN c) 0) := by
        rw [← e1]
        have := (erC_N hg).2
        rcases er3 this with h | h | h <;> rw [h] <;> rfl
      rw [hc]
      cases he : Nat.beq (erN c) 0 with
      | false => simp only [he] at h; exact h
      | true =>
        simp only [he, Bool.not_true, cond_false] at h ⊢
        by_cases hlt : a ≥ (L.length : Int)
        · rw [decide_eq_true hlt, cond_true] at h ⊢; exact h
        · rw [decide_eq_false hlt, cond_false] at h ⊢
          have h0 := hs.a0
          simp only at h0
          obtain ⟨i, rfl⟩ : ∃ i : Nat, a = i := ⟨a.toNat, by omega⟩
          obtain ⟨k, t, l, c, hL, hk, _⟩ := tok_at hs.tk (i := i) (by omega)
          rw [decide_eq_true (by omega), cond_true, getT_at rfl hL, getT_some (x := C.int .i64 k) rfl]
          rw [hk] at h
          exact h
    · exact (run_no h).elim
  · cases h
theorem tabRA_ok (m : Int) : TabS Tryd.prog (globG m) tabRA := .cons (rkind_ok m) .nil
theorem rtake_ok (m : Int) : SpecOk Tryd.prog (globG m) 75 rTakeS := by
  intro a b v b' h
  unfold rTakeS at h
  split at h
  · rename_i L a o c k
    rcases run_ite h with ⟨hl, hx⟩ | ⟨_, hx⟩ <;> clear h <;> have h := hx <;> clear hx
    · rw [Bool.and_eq_true, Bool.and_eq_true, stOk_iff, decide_eq_true_eq] at hl
      obtain ⟨⟨hs, hg⟩, hk⟩ := hl
      obtain ⟨e1, e2⟩ := erC_N hg
      refine specAtQ eqs_ok mix vti_ok Tryd.func75 rfl (by kernel_rfl) (tabRA_ok m) 0 (Eq.trans (h_take_start m fin2 0 L a o c k) ?_)
      have hc : (c != 0) = !(Nat.beq (erN c) 0) := by
        rw [← e1]
        rcases er3 e2 with h | h | h <;> rw [h] <;> rfl
      rw [hc, dup_eq 5]
      unfold takeG at h
      cases he : Nat.beq (erN c) 0 with
      | false =>
        have hkf : (kindG L (rP a o c) == k) = false := by
          rw [← Bool.not_eq_true]; intro hx
          have := (kind_some hk hx).1
          simp only at this
          rw [this] at he; cases he
        rw [hkf] at h
        simp only [cond_false, failG, he] at h
        have h : (Tr.ret (.tup [.agg ⟨[.sl 4 L, .int .i64 a, .int .i64 o, .int .i64 (erC (erN c))], [], 4⟩, .w (.d (.str bE))]) []).run fin2 = some (v, b') := h
        rw [e1] at h
        exact h
      | true =>
        have he0 : erN c = 0 := Nat.eq_of_beq_eq_true he
        simp only [Bool.not_true, cond_false]
        rw [st_t hs, hg, Bool.and_self, cond_true]
        cases hkk : kindG L (rP a o c) == k with
        | false =>
          have : (kindG L (rP a o c) != k) = true := by unfold bne; rw [hkk]; rfl
          rw [this, cond_true]
          rw [hkk] at h
          simp only [cond_false, failG, he, cond_true] at h
          exact h
        | true =>
          have : (kindG L (rP a o c) != k) = false := by unfold bne; rw [hkk]; rfl
          rw [this, cond_false]
          rw [hkk, cond_true] at h
          obtain ⟨_, hlt, _⟩ := kind_some hk hkk
          have h0 := hs.a0
          have hlen := hs.len
          simp only at h0 hlt
          obtain ⟨i, rfl⟩ : ∃ i : Nat, a = i := ⟨a.toNat, by omega⟩
          obtain ⟨k', t, l, c', hL, _, ht⟩ := tok_at hs.tk (i := i) (by omega)
          have w1 : IntKind.i64.wrap ((i : Int) + 1) = (i : Int) + 1 := w64 _ (by omega) (by omega)
          have w2 : IntKind.i64.wrap ((i : Int) + 1 - 1) = (i : Int) := by rw [w64 _ (by omega) (by omega)]; omega
          rw [w1, w2, decide_eq_true (by omega), cond_true, getT_at rfl hL, getT_some (x := C.str t) rfl]
          simp only [nextG, ht] at h
          have h : (Tr.ret (.tup [.agg ⟨[.sl 4 L, .int .i64 ((i : Int) + 1), .int .i64 o, .int .i64 (erC (erN c))], [], 4⟩, .w (.d (.str t))]) []).run fin2 = some (v, b') := h
          rw [e1] at h
          exact h
    · exact (run_no h).elim
  · cases h
theorem tabRB_ok (m : Int) : TabS Tryd.prog (globG m) tabRB := .cons (rkind_ok m) (.cons (rtake_ok m) .nil)
theorem ratom_ok (m : Int) (N : Nat) (hu : SpecOk Tryd.prog (globG m) 47 (rRdS unionA N)) : SpecOk Tryd.prog (globG m) 95 (rRdS atomA (N + 1)) := by
  refine rrd_ok fun L s hs hlv => ?_
  refine specAtQ eqs_ok mix vti_ok Tryd.func95 rfl (by kernel_rfl) (.cons hu (tabRB_ok m)) 0 (Eq.trans (h_atom_start m N fin2 0 L s.at_ s.op (erC s.er)) ?_)
  have hoC := okC_er
  rw [rP_s hs.e2, dup2, dup2, st_t hs, okC_er, Bool.and_self, cond_true, atomA_eq]
  unfold atomG
  cases h40 : kindG L s == 40 with
  | true =>
    obtain ⟨he0, hlt, _⟩ := kind_some (by decide) h40
    rw [cond_true, cond_true]
    by_cases h8 : s.op ≥ 8
    · rw [decide_eq_true h8, cond_true, cond_true]
      have : (failG 2 s).er = 2 := by unfold failG; rw [he0]; rfl
      have e : sM L (failG 2 s) = ⟨[.sl 4 L, .int .i64 s.at_, .int .i64 s.op, .int .i64 12], [], 4⟩ := by
        show (⟨[.sl 4 L, .int .i64 s.at_, .int .i64 s.op, .int .i64 (erC (failG 2 s).er)], [], 4⟩ : M) = _
        rw [this]; rfl
      rw [e]; rfl
    · have ho := hs.o0; have ha0 := hs.a0; have hl2 := hs.len
      have h1 : St8 L ⟨s.at_, s.op + 1, s.er⟩ := ⟨hs.tk, hs.len, hs.a0, hs.a1, by simp only; omega, by simp only; omega, hs.e2⟩
      have hk1 : (kindG L ⟨s.at_, s.op + 1, s.er⟩ == 40) = true := h40
      have ht : (takeG L 40 ⟨s.at_, s.op + 1, s.er⟩).1 = ⟨s.at_ + 1, s.op + 1, s.er⟩ := by unfold takeG; rw [hk1]; rfl
      have hrp : rP (IntKind.i64.wrap (s.at_ + 1)) (IntKind.i64.wrap (s.op + 1)) (erC s.er) = (takeG L 40 ⟨s.at_, s.op + 1, s.er⟩).1 := by
        rw [ht]; unfold rP; rw [erN_C hs.e2, w64 _ (by omega) (by omega), w64 _ (by omega) (by omega)]
      obtain ⟨h2, f2⟩ := gtake_ok h1 (k := 40) (by decide)
      obtain ⟨d', hd, hl⟩ : ∃ d', lvl s = d' + 1 ∧ lvl (takeG L 40 ⟨s.at_, s.op + 1, s.er⟩).1 = d' := by
        refine ⟨(7 - s.op).toNat, ?_, ?_⟩
        · unfold lvl; omega
        · rw [lvl_fol f2]; unfold lvl; simp only; omega
      have hun : innerN L (lvl s) (takeG L 40 ⟨s.at_, s.op + 1, s.er⟩).1 = unionA L (takeG L 40 ⟨s.at_, s.op + 1, s.er⟩).1 := by
        rw [hd, unionA_eq, hl]; exact congrFun (unionN_eq L d') _
      obtain ⟨h3, f3, n3⟩ := unionA_good h2
      obtain ⟨h4, f4⟩ := gtake_ok h3 (k := 41) (by decide)
      have f5 := (f2.trans f3).trans f4
      have e5 : (takeG L 41 (unionA L (takeG L 40 ⟨s.at_, s.op + 1, s.er⟩).1).1).1.op = s.op + 1 := f5.o
      rw [decide_eq_false h8, cond_false, cond_false, hrp]
      simp only [hun]
      rw [rP_s h3.e2, st_t h2, decide_eq_true (p := lvl (takeG L 40 ⟨s.at_, s.op + 1, s.er⟩).1 < N) (by rw [hl]; omega), st_t h3]
      simp only [okC_er, Bool.and_self, cond_true]
      rw [take4 (x := List.take 4 ((unionA L (takeG L 40 ⟨s.at_, s.op + 1, s.er⟩).1).2 ++ [])) (by rw [take4 n3]; exact n3), take4 n3, w64 _ (by rw [e5]; omega) (by rw [e5]; omega)]
  | false =>
    rw [cond_false, cond_false]
    simp only [cond_true]
    cases h4 : kindG L s == 4 with
    | true => rw [cond_true, cond_true, wrap_next hs]; rfl
    | false =>
      obtain ⟨h1, f1⟩ := gtake_ok hs (k := 1) (by decide)
      rw [cond_false, cond_false, rP_s h1.e2, rP_next h1, st_t h1]
      simp only [okC_er, Bool.and_self, cond_true]
      cases h5 : kindG L (takeG L 1 s).1 == 5 with
      | true =>
        obtain ⟨h2, f2⟩ := gnext_ok h1 (kind_some (by decide) h5).2.1
        rw [cond_true, cond_true, st_t h2]; rfl
      | false => rw [cond_false, cond_false]; rfl
theorem rless_ok (m : Int) (N : Nat) (ha : SpecOk Tryd.prog (globG m) 95 (rRdS atomA N)) : SpecOk Tryd.prog (globG m) 85 (rRdS lessA N) := by
  refine rrd_ok fun L s hs hlv => ?_
  refine specAtQ eqs_ok mix vti_ok Tryd.func85 rfl (by kernel_rfl) (.cons ha (tabRB_ok m)) 0 (Eq.trans (h_less_start m N fin2 0 L s.at_ s.op (erC s.er)) ?_)
  obtain ⟨g1, f1, n1⟩ := atomA_good hs
  rw [rP_s hs.e2, dup2, dup_eq 4, st_t hs, okC_er, Bool.and_self, Bool.true_and, decide_eq_true hlv, cond_true, rP_s g1.e2, st_t g1, okC_er, Bool.and_self, cond_true, lessA_step hs]
  cases hk : kindG L (atomA L s).1 == 45 with
  | true =>
    have hb : (kindG L (atomA L s).1 != 45) = false := by unfold bne; rw [hk]; rfl
    obtain ⟨g2, f2⟩ := gnext_ok g1 (kind_some (by decide) hk).2.1
    obtain ⟨g3, f3, n3⟩ := atomA_good g2
    have hlv2 : lvl (nextG (atomA L s).1) < N := by rw [lvl_fol (f1.trans f2)]; exact hlv
    rw [hb, cond_false, cond_true, rP_next g1, st_t g2, Bool.and_self, Bool.true_and, decide_eq_true hlv2, cond_true, take4 n1, take4 n3]; rfl
  | false =>
    have hb : (kindG L (atomA L s).1 != 45) = true := by unfold bne; rw [hk]; rfl
    rw [hb, cond_true, cond_false, take4 (x := List.take 4 ((atomA L s).2 ++ [])) (by rw [take4 n1]; exact n1), take4 n1]

/-- the loop of meet -/
theorem h_meet_loop {R : Type} (m : Int) (N : Nat) (k : V → Bx → Option R) (F : Nat) (L : List (List C)) (d : Nat) (hd : d < N) (v5 v6 v7 v8 : Int) (v9 v10 : ByteArray) (v12 v13 : List (List C)) : ∀ (n n' : Nat) (s : PS) (out : List Nde) (nd : Nde), St8 L s → lvl s = d → (L.length : Int) - s.at_ < n → (L.length : Int) - s.at_ < n' → (out.length : Int) + (L.length - s.at_) < 2000000 → 0 < out.length → isNd nd = true → (out.length = 1 → nd = out.getD 0 []) →
    h_meet_L0 m N (h_meet_K0 m N k F) F n (erC s.er) L s.at_ s.op v5 v6 v7 v8 v9 v10 out v12 v13 nd = k (.tup [.agg (sM L (moreG L (lessG L (innerN L d)) 38 n' s out).1), .agg ⟨ofG 5 (moreG L (lessG L (innerN L d)) 38 n' s out).2, [], 4⟩]) [] := by
  intro n
  induction n with
  | zero => intro n' s out nd h _ h1; have := h.a1; omega
  | succ n ih =>
    intro n' s out nd h hl h1 h2 h3 h4 hnd hone
    cases n' with
    | zero => have := h.a1; omega
    | succ n' =>
      rw [h_meet_r0]
      unfold moreG
      rw [rP_s h.e2, rP_next h, st_t h, okC_er, Bool.and_self, cond_true]
      cases hk : kindG L s == 38 with
      | false =>
        rw [cond_false, cond_false, h_meet_c1, dup2]
        unfold ofG
        simp only
        cases ho : out.length == 1 with
        | true =>
          have : ((out.length : Int) == 1) = true := by rw [beq_iff_eq] at ho ⊢; omega
          have hn1 : nd = out.getD 0 [] := hone (by simpa using ho)
          rw [this, cond_true, cond_true, take4 (x := List.take 4 nd) (by
            have := take4 hnd
            rw [List.append_nil] at this
            rw [this]; exact hnd)]
          have := take4 hnd
          rw [List.append_nil] at this
          rw [this, hn1]
        | false =>
          have : ((out.length : Int) == 1) = false := by rw [beq_eq_false_iff_ne] at ho ⊢; omega
          rw [this, cond_false, cond_false]; rfl
      | true =>
        obtain ⟨_, hlt, _⟩ := kind_some (by decide) hk
        obtain ⟨g2, f2⟩ := gnext_ok h hlt
        obtain ⟨g3, f3, n3⟩ := lessA_good g2
        have hl2 : lvl (nextG s) = d := (lvl_fol f2).trans hl
        have e1 := f3.a
        have e2 : (nextG s).at_ = s.at_ + 1 := rfl
        have hls : lessA L (nextG s) = lessG L (innerN L d) (nextG s) := by rw [lessA_eq, hl2]
        have ha1 := g3.a1
        have hdr : (lessA L (nextG s)).2 ++ List.drop 4 nd = (lessA L (nextG s)).2 := by
          obtain ⟨_, _, _, _, hx⟩ := isNd_parts hnd
          rw [hx]; exact List.append_nil _
        have ht4 : List.take 4 (lessA L (nextG s)).2 = (lessA L (nextG s)).2 := by have := take4 n3; rw [List.append_nil] at this; exact this
        rw [cond_true, cond_true, st_t g2, Bool.and_self, Bool.true_and, decide_eq_true (by rw [hl2]; exact hd), cond_true, decide_eq_true ⟨by omega, by omega⟩, cond_true, hdr, ht4, ← hls]
        exact ih n' _ _ _ g3 ((lvl_fol f3).trans hl2) (by push_cast at h1; omega) (by push_cast at h2; omega) (by simp only [List.length_append, List.length_cons, List.length_nil]; push_cast; omega) (by simp) n3 (fun hh => by simp only [List.length_append, List.length_cons, List.length_nil] at hh; omega)
theorem rmeet_ok (m : Int) (N : Nat) (hb : SpecOk Tryd.prog (globG m) 85 (rRdS lessA N)) : SpecOk Tryd.prog (globG m) 70 (rRdS meetA N) := by
  refine rrd_ok fun L s hs hlv => ?_
  refine specAtQ eqs_ok mix vti_ok Tryd.func70 rfl (by kernel_rfl) (.cons hb (tabRB_ok m)) (L.length + 1) (Eq.trans (h_meet_start m N fin2 _ L s.at_ s.op (erC s.er)) ?_)
  obtain ⟨g1, f1, n1⟩ := lessA_good hs
  have ha1 := g1.a0
  have hlen := hs.len
  rw [rP_s hs.e2, st_t hs, okC_er, Bool.and_self, Bool.true_and, decide_eq_true hlv, cond_true, take4 n1, List.append_nil]
  rw [h_meet_loop m N fin2 _ L _ hlv 0 0 0 0 _ _ _ _ (L.length + 1) (L.length + 1) _ _ _ g1 (lvl_fol f1) (by push_cast; omega) (by push_cast; omega) (by simp only [List.length_cons, List.length_nil]; push_cast; omega) (by simp) n1 (fun _ => rfl)]
  rw [meetA_eq]
  unfold meetG listG
  rw [← lessA_eq]

/-- the loop of union -/
theorem h_union_loop {R : Type} (m : Int) (N : Nat) (k : V → Bx → Option R) (F : Nat) (L : List (List C)) (d : Nat) (hd : d < N) (v5 v6 v7 v8 : Int) (v9 v10 : ByteArray) (v12 v13 : List (List C)) : ∀ (n n' : Nat) (s : PS) (out : List Nde) (nd : Nde), St8 L s → lvl s = d → (L.length : Int) - s.at_ < n → (L.length : Int) - s.at_ < n' → (out.length : Int) + (L.length - s.at_) < 2000000 → 0 < out.length → isNd nd = true → (out.length = 1 → nd = out.getD 0 []) →
    h_union_L0 m N (h_union_K0 m N k F) F n (erC s.er) L s.at_ s.op v5 v6 v7 v8 v9 v10 out v12 v13 nd = k (.tup [.agg (sM L (moreG L (meetG L (innerN L d)) 124 n' s out).1), .agg ⟨ofG 4 (moreG L (meetG L (innerN L d)) 124 n' s out).2, [], 4⟩]) [] := by
  intro n
  induction n with
  | zero => intro n' s out nd h _ h1; have := h.a1; omega
  | succ n ih =>
    intro n' s out nd h hl h1 h2 h3 h4 hnd hone
    cases n' with
    | zero => have := h.a1; omega
    | succ n' =>
      rw [h_union_r0]
      unfold moreG
      rw [rP_s h.e2, rP_next h, st_t h, okC_er, Bool.and_self, cond_true]
      cases hk : kindG L s == 124 with
      | false =>
        rw [cond_false, cond_false, h_union_c1, dup2]
        unfold ofG
        simp only
        cases ho : out.length == 1 with
        | true =>
          have : ((out.length : Int) == 1) = true := by rw [beq_iff_eq] at ho ⊢; omega
          have hn1 : nd = out.getD 0 [] := hone (by simpa using ho)
          rw [this, cond_true, cond_true, take4 (x := List.take 4 nd) (by
            have := take4 hnd
            rw [List.append_nil] at this
            rw [this]; exact hnd)]
          have := take4 hnd
          rw [List.append_nil] at this
          rw [this, hn1]
        | false =>
          have : ((out.length : Int) == 1) = false := by rw [beq_eq_false_iff_ne] at ho ⊢; omega
          rw [this, cond_false, cond_false]; rfl
      | true =>
        obtain ⟨_, hlt, _⟩ := kind_some (by decide) hk
        obtain ⟨g2, f2⟩ := gnext_ok h hlt
        obtain ⟨g3, f3, n3⟩ := meetA_good g2
        have hl2 : lvl (nextG s) = d := (lvl_fol f2).trans hl
        have e1 := f3.a
        have e2 : (nextG s).at_ = s.at_ + 1 := rfl
        have hls : meetA L (nextG s) = meetG L (innerN L d) (nextG s) := by rw [meetA_eq, hl2]
        have ha1 := g3.a1
        have hdr : (meetA L (nextG s)).2 ++ List.drop 4 nd = (meetA L (nextG s)).2 := by
          obtain ⟨_, _, _, _, hx⟩ := isNd_parts hnd
          rw [hx]; exact List.append_nil _
        have ht4 : List.take 4 (meetA L (nextG s)).2 = (meetA L (nextG s)).2 := by have := take4 n3; rw [List.append_nil] at this; exact this
        rw [cond_true, cond_true, st_t g2, Bool.and_self, Bool.true_and, decide_eq_true (by rw [hl2]; exact hd), cond_true, decide_eq_true ⟨by omega, by omega⟩, cond_true, hdr, ht4, ← hls]
        exact ih n' _ _ _ g3 ((lvl_fol f3).trans hl2) (by push_cast at h1; omega) (by push_cast at h2; omega) (by simp only [List.length_append, List.length_cons, List.length_nil]; push_cast; omega) (by simp) n3 (fun hh => by simp only [List.length_append, List.length_cons, List.length_nil] at hh; omega)
theorem runion_ok (m : Int) (N : Nat) (hb : SpecOk Tryd.prog (globG m) 70 (rRdS meetA N)) : SpecOk Tryd.prog (globG m) 47 (rRdS unionA N) := by
  refine rrd_ok fun L s hs hlv => ?_
  refine specAtQ eqs_ok mix vti_ok Tryd.func47 rfl (by kernel_rfl) (.cons hb (tabRB_ok m)) (L.length + 1) (Eq.trans (h_union_start m N fin2 _ L s.at_ s.op (erC s.er)) ?_)
  obtain ⟨g1, f1, n1⟩ := meetA_good hs
  have ha1 := g1.a0
  have hlen := hs.len
  rw [rP_s hs.e2, st_t hs, okC_er, Bool.and_self, Bool.true_and, decide_eq_true hlv, cond_true, take4 n1, List.append_nil]
  rw [h_union_loop m N fin2 _ L _ hlv 0 0 0 0 _ _ _ _ (L.length + 1) (L.length + 1) _ _ _ g1 (lvl_fol f1) (by push_cast; omega) (by push_cast; omega) (by simp only [List.length_cons, List.length_nil]; push_cast; omega) (by simp) n1 (fun _ => rfl)]
  rw [unionA_eq]
  unfold unionL listG
  rw [← meetA_eq]

theorem runion_all (m : Int) : ∀ N, SpecOk Tryd.prog (globG m) 47 (rRdS unionA N) := by
  intro N
  induction N with
  | zero => exact rrd_ok fun L s hs hlv => by omega
  | succ N ih => exact runion_ok m _ (rmeet_ok m _ (rless_ok m _ (ratom_ok m N ih)))
end Go.Proofs.YtniiimpcakmkbaaDoor
