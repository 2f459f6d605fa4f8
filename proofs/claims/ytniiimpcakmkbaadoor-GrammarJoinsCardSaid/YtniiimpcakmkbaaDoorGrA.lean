/- grammar: specs -/
import Derived.Test.YtniiimpcakmkbaaDoorSgD
set_option linter.unusedVariables false
namespace Go.Proofs.YtniiimpcakmkbaaDoor
open Go Vm
/-- the package variables that are read, the two errors by labels -/
def globG (m : Int) : Nat → Option (List C) := fun g => bif Nat.beq g 0 then some [.er 1 172 [0, 1]] else bif Nat.beq g 1 then some [.er 2 172 [0, 1]] else globT m g
def isTok : List C → Bool
  | [.int .i64 _, .str _, .int .i64 _, .int .i64 _] => true
  | _ => false
structure PS where
  at_ : Int
  op : Int
  er : Nat
abbrev pM (L : List (List C)) (el ec : Int) (s : PS) : M := ⟨[.sl 4 L, .int .i64 el, .int .i64 ec, .int .i64 s.at_, .int .i64 s.op, .er s.er 172 [0, 1]], [], 6⟩
abbrev pB (L : List (List C)) (el ec : Int) (s : PS) : Option Box := some (.cells (pM L el ec s))
def tkK (L : List (List C)) (i : Int) : Int := ((L.getD i.toNat []).getD 0 .nf).toInt
def tkT (L : List (List C)) (i : Int) : ByteArray := ((L.getD i.toNat []).getD 1 .nf).toStr
def stOk (L : List (List C)) (s : PS) : Bool := L.all isTok && decide (L.length < 1000000) && decide (0 ≤ s.at_) && decide (s.at_ ≤ L.length) && decide (0 ≤ s.op) && decide (s.op ≤ 8) && decide (s.er ≤ 2)
def gsOk (gs : List Nat) : Bool := gs == [0, 1]
def kindG (L : List (List C)) (s : PS) : Int := bif !(Nat.beq s.er 0) then 0 else bif decide (s.at_ ≥ (L.length : Int)) then 0 else tkK L s.at_
def nextG (s : PS) : PS := ⟨s.at_ + 1, s.op, s.er⟩
def failG (n : Nat) (s : PS) : PS := ⟨s.at_, s.op, bif Nat.beq s.er 0 then n else s.er⟩
def bE : ByteArray := ByteArray.empty
def takeG (L : List (List C)) (k : Int) (s : PS) : PS × ByteArray := bif kindG L s == k then (nextG s, tkT L s.at_) else (failG 1 s, bE)
def mayG (L : List (List C)) (k : Int) (s : PS) : PS := bif kindG L s == k then nextG s else s
abbrev pp : V := .t (.w (.ptr 0 0))
/-- a spec over the parser's state -/
def gKindS : List V → Bx → Tr
  | [.t (.w (.ptr 0 0))], [some (.cells ⟨[.sl 4 L, .int .i64 el, .int .i64 ec, .int .i64 a, .int .i64 o, .er e 172 gs], [], 6⟩)] =>
    .ite (stOk L ⟨a, o, e⟩ && gsOk gs) (.ret (vi (kindG L ⟨a, o, e⟩)) [pB L el ec ⟨a, o, e⟩]) .no
  | _, _ => .no
def gFailS : List V → Bx → Tr
  | [.t (.w (.ptr 0 0)), .t (.w (.d (.er n 172 gs')))], [some (.cells ⟨[.sl 4 L, .int .i64 el, .int .i64 ec, .int .i64 a, .int .i64 o, .er e 172 gs], [], 6⟩)] =>
    .ite (gsOk gs && gsOk gs') (.ret (.tup []) [pB L el ec (failG n ⟨a, o, e⟩)]) .no
  | _, _ => .no
def gTakeS : List V → Bx → Tr
  | [.t (.w (.ptr 0 0)), .t (.w (.d (.int .i64 k)))], [some (.cells ⟨[.sl 4 L, .int .i64 el, .int .i64 ec, .int .i64 a, .int .i64 o, .er e 172 gs], [], 6⟩)] =>
    .ite (stOk L ⟨a, o, e⟩ && gsOk gs && decide (k ≠ 0)) (.ret (vs (takeG L k ⟨a, o, e⟩).2) [pB L el ec (takeG L k ⟨a, o, e⟩).1]) .no
  | _, _ => .no
def gMayS : List V → Bx → Tr
  | [.t (.w (.ptr 0 0)), .t (.w (.d (.int .i64 k)))], [some (.cells ⟨[.sl 4 L, .int .i64 el, .int .i64 ec, .int .i64 a, .int .i64 o, .er e 172 gs], [], 6⟩)] =>
    .ite (stOk L ⟨a, o, e⟩ && gsOk gs && decide (k ≠ 0)) (.ret (vb (kindG L ⟨a, o, e⟩ == k)) [pB L el ec (mayG L k ⟨a, o, e⟩)]) .no
  | _, _ => .no
def tabGA : List (FuncId × (List V → Bx → Tr)) := [(73, gKindS), (64, gFailS)]
def orcGA : FuncId → List V → Bx → Tr := orcOf tabGA
/-! nodes: rows of four cells -/
abbrev ndC (k : Int) (a b : ByteArray) (l : List (List C)) : List C := [.int .i64 k, .str a, .str b, .sl 4 l]
abbrev Nde := List C
def zeroN : Nde := ndC 0 bE bE []
def ofG (k : Int) (l : List Nde) : Nde := bif l.length == 1 then l.getD 0 [] else ndC k bE bE l
abbrev ndV (x : Nde) : V := .t (.agg ⟨x, [], 4⟩)
def isNd : List C → Bool
  | [.int .i64 _, .str _, .str _, .sl 4 _] => true
  | _ => false
def gOfS : List V → Bx → Tr
  | [.t (.w (.d (.int .i64 k))), .t (.w (.d (.sl 4 l)))], [] => .ite (l.all isNd && decide (l.length < 2000000)) (.ret (ndV (ofG k l)) []) .no
  | _, _ => .no
/-! the grammar's parts -/
abbrev Rd := PS → PS × Nde
def atomG (L : List (List C)) (un : Rd) : Rd := fun s =>
  bif kindG L s == 40 then
    (bif decide (s.op ≥ 8) then (failG 2 s, zeroN)
     else
      (⟨(takeG L 41 (un (takeG L 40 ⟨s.at_, s.op + 1, s.er⟩).1).1).1.at_, (takeG L 41 (un (takeG L 40 ⟨s.at_, s.op + 1, s.er⟩).1).1).1.op - 1, (takeG L 41 (un (takeG L 40 ⟨s.at_, s.op + 1, s.er⟩).1).1).1.er⟩,
       (un (takeG L 40 ⟨s.at_, s.op + 1, s.er⟩).1).2))
  else bif kindG L s == 4 then (nextG s, ndC 1 bE bE [])
  else bif kindG L (takeG L 1 s).1 == 5 then ((takeG L 1 (nextG (takeG L 1 s).1)).1, ndC 3 (takeG L 1 s).2 (takeG L 1 (nextG (takeG L 1 s).1)).2 [])
  else ((takeG L 1 s).1, ndC 2 (takeG L 1 s).2 bE [])
def lessG (L : List (List C)) (un : Rd) : Rd := fun s =>
  bif kindG L (atomG L un s).1 == 45 then ((atomG L un (nextG (atomG L un s).1)).1, ndC 6 bE bE [(atomG L un s).2, (atomG L un (nextG (atomG L un s).1)).2])
  else ((atomG L un s).1, (atomG L un s).2)
def moreG (L : List (List C)) (one : Rd) (sg : Int) : Nat → PS → List Nde → PS × List Nde
  | 0, s, out => (s, out)
  | n + 1, s, out => bif kindG L s == sg then moreG L one sg n (one (nextG s)).1 (out ++ [(one (nextG s)).2]) else (s, out)
def listG (L : List (List C)) (one : Rd) (sg : Int) (s : PS) : PS × List Nde := moreG L one sg (L.length + 1) (one s).1 [(one s).2]
def meetG (L : List (List C)) (un : Rd) : Rd := fun s => ((listG L (lessG L un) 38 s).1, ofG 5 (listG L (lessG L un) 38 s).2)
def unionL (L : List (List C)) (un : Rd) : Rd := fun s => ((listG L (meetG L un) 124 s).1, ofG 4 (listG L (meetG L un) 124 s).2)
def unionN (L : List (List C)) : Nat → Rd
  | 0 => unionL L fun s => (s, zeroN)
  | d + 1 => unionL L (unionN L d)
/-- what is read within brackets -/
def innerN (L : List (List C)) : Nat → Rd
  | 0 => fun s => (s, zeroN)
  | d + 1 => unionN L d
theorem unionN_eq (L : List (List C)) (d : Nat) : unionN L d = unionL L (innerN L d) := by cases d <;> rfl
def lvl (s : PS) : Nat := (8 - s.op).toNat
theorem partEx (f : Rd → Rd) (L : List (List C)) (s : PS) : ∃ x : PS × Nde, x = f (innerN L (lvl s)) s := ⟨_, rfl⟩
/-- sealed -/
noncomputable def atomA (L : List (List C)) (s : PS) : PS × Nde := Classical.choose (partEx (atomG L) L s)
theorem atomA_eq (L : List (List C)) (s : PS) : atomA L s = atomG L (innerN L (lvl s)) s := Classical.choose_spec (partEx (atomG L) L s)
noncomputable def lessA (L : List (List C)) (s : PS) : PS × Nde := Classical.choose (partEx (lessG L) L s)
theorem lessA_eq (L : List (List C)) (s : PS) : lessA L s = lessG L (innerN L (lvl s)) s := Classical.choose_spec (partEx (lessG L) L s)
noncomputable def meetA (L : List (List C)) (s : PS) : PS × Nde := Classical.choose (partEx (meetG L) L s)
theorem meetA_eq (L : List (List C)) (s : PS) : meetA L s = meetG L (innerN L (lvl s)) s := Classical.choose_spec (partEx (meetG L) L s)
noncomputable def unionA (L : List (List C)) (s : PS) : PS × Nde := Classical.choose (partEx (unionL L) L s)
theorem unionA_eq (L : List (List C)) (s : PS) : unionA L s = unionL L (innerN L (lvl s)) s := Classical.choose_spec (partEx (unionL L) L s)
theorem listEx (f : Rd → Rd) (L : List (List C)) (sg : Int) (s : PS) : ∃ x : PS × List Nde, x = listG L (f (innerN L (lvl s))) sg s := ⟨_, rfl⟩
noncomputable def listLess (L : List (List C)) (sg : Int) (s : PS) : PS × List Nde := Classical.choose (listEx (lessG L) L sg s)
theorem listLess_eq (L : List (List C)) (sg : Int) (s : PS) : listLess L sg s = listG L (lessG L (innerN L (lvl s))) sg s := Classical.choose_spec (listEx (lessG L) L sg s)
noncomputable def listMeet (L : List (List C)) (sg : Int) (s : PS) : PS × List Nde := Classical.choose (listEx (meetG L) L sg s)
theorem listMeet_eq (L : List (List C)) (sg : Int) (s : PS) : listMeet L sg s = listG L (meetG L (innerN L (lvl s))) sg s := Classical.choose_spec (listEx (meetG L) L sg s)
/-- the spec of one that reads a node, within so many brackets -/
noncomputable def rdS (f : List (List C) → PS → PS × Nde) (N : Nat) : List V → Bx → Tr
  | [.t (.w (.ptr 0 0))], [some (.cells ⟨[.sl 4 L, .int .i64 el, .int .i64 ec, .int .i64 a, .int .i64 o, .er e 172 gs], [], 6⟩)] =>
    .ite (stOk L ⟨a, o, e⟩ && gsOk gs && decide (lvl ⟨a, o, e⟩ < N)) (.ret (ndV (f L ⟨a, o, e⟩).2) [pB L el ec (f L ⟨a, o, e⟩).1]) .no
  | _, _ => .no
noncomputable def listS1 (N : Nat) : List V → Bx → Tr
  | [.t (.w (.ptr 0 0)), .t (.w (.d (.int .i64 sg))), .t (.w (.d (.fn 84 [])))], [some (.cells ⟨[.sl 4 L, .int .i64 el, .int .i64 ec, .int .i64 a, .int .i64 o, .er e 172 gs], [], 6⟩)] =>
    .ite (stOk L ⟨a, o, e⟩ && gsOk gs && decide (lvl ⟨a, o, e⟩ < N) && decide (sg ≠ 0)) (.ret (vc (.sl 4 (listLess L sg ⟨a, o, e⟩).2)) [pB L el ec (listLess L sg ⟨a, o, e⟩).1]) .no
  | _, _ => .no
noncomputable def listS2 (N : Nat) : List V → Bx → Tr
  | [.t (.w (.ptr 0 0)), .t (.w (.d (.int .i64 sg))), .t (.w (.d (.fn 69 [])))], [some (.cells ⟨[.sl 4 L, .int .i64 el, .int .i64 ec, .int .i64 a, .int .i64 o, .er e 172 gs], [], 6⟩)] =>
    .ite (stOk L ⟨a, o, e⟩ && gsOk gs && decide (lvl ⟨a, o, e⟩ < N) && decide (sg ≠ 0)) (.ret (vc (.sl 4 (listMeet L sg ⟨a, o, e⟩).2)) [pB L el ec (listMeet L sg ⟨a, o, e⟩).1]) .no
  | _, _ => .no
def tabGB : List (FuncId × (List V → Bx → Tr)) := [(73, gKindS), (64, gFailS), (90, gTakeS), (83, gMayS), (67, gOfS)]
noncomputable def tabGN (N : Nat) : List (FuncId × (List V → Bx → Tr)) := (46, rdS unionA N) :: tabGB
/-- brackets: at an opening one -/
noncomputable def brS (N : Nat) : List V → Bx → Tr
  | [.t (.w (.ptr 0 0))], [some (.cells ⟨[.sl 4 L, .int .i64 el, .int .i64 ec, .int .i64 a, .int .i64 o, .er e 172 gs], [], 6⟩)] =>
    .ite (stOk L ⟨a, o, e⟩ && gsOk gs && decide (lvl ⟨a, o, e⟩ < N) && (kindG L ⟨a, o, e⟩ == 40)) (.ret (ndV (atomA L ⟨a, o, e⟩).2) [pB L el ec (atomA L ⟨a, o, e⟩).1]) .no
  | _, _ => .no
noncomputable def orcG1 (N : Nat) : FuncId → List V → Bx → Tr := orcOf (tabGN N)
noncomputable def orcG2 (N : Nat) : FuncId → List V → Bx → Tr := orcOf ((101, brS N) :: tabGB)
noncomputable def orcG3 (N : Nat) : FuncId → List V → Bx → Tr := orcOf ((94, rdS atomA N) :: tabGB)
noncomputable def orcG4 (N : Nat) : FuncId → List V → Bx → Tr := orcOf ((84, rdS lessA N) :: tabGB)
noncomputable def orcG5 (N : Nat) : FuncId → List V → Bx → Tr := orcOf ((68, listS1 N) :: tabGB)
noncomputable def orcG6 (N : Nat) : FuncId → List V → Bx → Tr := orcOf ((69, rdS meetA N) :: tabGB)
noncomputable def orcG7 (N : Nat) : FuncId → List V → Bx → Tr := orcOf ((68, listS2 N) :: tabGB)
end Go.Proofs.YtniiimpcakmkbaaDoor

/- grammar: plain facts on the parts -/
set_option linter.unusedVariables false
namespace Go.Proofs.YtniiimpcakmkbaaDoor
open Go Vm
theorem PS.eta (s : PS) : (⟨s.at_, s.op, s.er⟩ : PS) = s := rfl
structure St8 (L : List (List C)) (s : PS) : Prop where
  tk : L.all isTok = true
  len : L.length < 1000000
  a0 : 0 ≤ s.at_
  a1 : s.at_ ≤ L.length
  o0 : 0 ≤ s.op
  o1 : s.op ≤ 8
  e2 : s.er ≤ 2
theorem stOk_iff {L : List (List C)} {s : PS} : stOk L s = true ↔ St8 L s := by
  unfold stOk
  simp only [Bool.and_eq_true, decide_eq_true_eq]
  exact ⟨fun ⟨⟨⟨⟨⟨⟨h1, h2⟩, h3⟩, h4⟩, h5⟩, h6⟩, h7⟩ => ⟨h1, h2, h3, h4, h5, h6, h7⟩, fun h => ⟨⟨⟨⟨⟨⟨h.tk, h.len⟩, h.a0⟩, h.a1⟩, h.o0⟩, h.o1⟩, h.e2⟩⟩
theorem beq0 (n : Nat) : Nat.beq n 0 = decide (n = 0) := by cases n <;> rfl
theorem kind_some {L : List (List C)} {s : PS} {k : Int} (hk : k ≠ 0) (h : (kindG L s == k) = true) : s.er = 0 ∧ s.at_ < L.length ∧ tkK L s.at_ = k := by
  unfold kindG at h
  rw [beq0] at h
  by_cases h1 : s.er = 0
  · by_cases h2 : s.at_ ≥ (L.length : Int)
    · rw [decide_eq_true h1, decide_eq_true h2] at h
      simp at h; omega
    · rw [decide_eq_true h1, decide_eq_false h2] at h
      exact ⟨h1, by omega, by simpa using h⟩
  · rw [decide_eq_false h1] at h
    simp at h; omega
/-- s is at s0 or behind it, with as many brackets open -/
structure Fol (s0 s : PS) : Prop where
  a : s0.at_ ≤ s.at_
  o : s.op = s0.op
theorem Fol.refl (s : PS) : Fol s s := ⟨Int.le_refl _, rfl⟩
theorem Fol.trans {a b c : PS} (h : Fol a b) (g : Fol b c) : Fol a c := ⟨Int.le_trans h.a g.a, g.o.trans h.o⟩
theorem gnext_ok {L : List (List C)} {s : PS} (h : St8 L s) (hl : s.at_ < L.length) : St8 L (nextG s) ∧ Fol s (nextG s) :=
  ⟨⟨h.tk, h.len, by have := h.a0; show 0 ≤ s.at_ + 1; omega, by show s.at_ + 1 ≤ _; omega, h.o0, h.o1, h.e2⟩, ⟨by show s.at_ ≤ s.at_ + 1; omega, rfl⟩⟩
theorem gfail_ok {L : List (List C)} {s : PS} (h : St8 L s) {n : Nat} (hn : n ≤ 2) : St8 L (failG n s) ∧ Fol s (failG n s) := by
  refine ⟨⟨h.tk, h.len, h.a0, h.a1, h.o0, h.o1, ?_⟩, ⟨Int.le_refl _, rfl⟩⟩
  unfold failG
  simp only
  cases Nat.beq s.er 0 with
  | true => exact hn
  | false => exact h.e2
theorem gtake_ok {L : List (List C)} {s : PS} (h : St8 L s) {k : Int} (hk : k ≠ 0) : St8 L (takeG L k s).1 ∧ Fol s (takeG L k s).1 := by
  unfold takeG
  cases hc : kindG L s == k with
  | true => exact gnext_ok h (kind_some hk hc).2.1
  | false => exact gfail_ok h (by omega)
theorem gmay_ok {L : List (List C)} {s : PS} (h : St8 L s) {k : Int} (hk : k ≠ 0) : St8 L (mayG L k s) ∧ Fol s (mayG L k s) := by
  unfold mayG
  cases hc : kindG L s == k with
  | true => exact gnext_ok h (kind_some hk hc).2.1
  | false => exact ⟨h, Fol.refl s⟩
theorem may_yes {L : List (List C)} {s : PS} {k : Int} (hc : (kindG L s == k) = true) : mayG L k s = nextG s := by unfold mayG; rw [hc]; rfl
theorem may_no {L : List (List C)} {s : PS} {k : Int} (hc : (kindG L s == k) = false) : mayG L k s = s := by unfold mayG; rw [hc]; rfl
/-- a reader that goes on from a state to one behind it, with a node -/
def Good (L : List (List C)) (f : Rd) (d : Nat) : Prop := ∀ s, St8 L s → lvl s = d → St8 L (f s).1 ∧ Fol s (f s).1 ∧ isNd (f s).2 = true
theorem lvl_fol {a b : PS} (h : Fol a b) : lvl b = lvl a := by unfold lvl; rw [h.o]
theorem atom_good {L : List (List C)} {un : Rd} {d : Nat} (hu : ∀ d', d = d' + 1 → Good L un d') : Good L (atomG L un) d := by
  intro s h hd
  unfold atomG
  cases h40 : kindG L s == 40 with
  | true =>
    rw [cond_true]
    by_cases h8 : s.op ≥ 8
    · rw [decide_eq_true h8, cond_true]
      obtain ⟨h1, h2⟩ := gfail_ok h (n := 2) (by omega)
      exact ⟨h1, h2, rfl⟩
    · rw [decide_eq_false h8, cond_false]
      have ho := h.o0
      have h1 : St8 L ⟨s.at_, s.op + 1, s.er⟩ := ⟨h.tk, h.len, h.a0, h.a1, by simp only; omega, by simp only; omega, h.e2⟩
      obtain ⟨h2, f2⟩ := gtake_ok h1 (k := 40) (by decide)
      have hd1 : ∃ d', d = d' + 1 ∧ lvl (takeG L 40 ⟨s.at_, s.op + 1, s.er⟩).1 = d' := by
        refine ⟨(7 - s.op).toNat, ?_, ?_⟩
        · rw [← hd]; unfold lvl; omega
        · rw [lvl_fol f2]; unfold lvl; simp only; omega
      obtain ⟨d', hd', hl⟩ := hd1
      obtain ⟨h3, f3, n3⟩ := hu d' hd' _ h2 hl
      obtain ⟨h4, f4⟩ := gtake_ok h3 (k := 41) (by decide)
      have f5 := (f2.trans f3).trans f4
      have e5 : (takeG L 41 (un (takeG L 40 ⟨s.at_, s.op + 1, s.er⟩).1).1).1.op = s.op + 1 := f5.o
      have a5 : s.at_ ≤ (takeG L 41 (un (takeG L 40 ⟨s.at_, s.op + 1, s.er⟩).1).1).1.at_ := f5.a
      exact ⟨⟨h4.tk, h4.len, h4.a0, h4.a1, by simp only; omega, by simp only; omega, h4.e2⟩, ⟨a5, by simp only; omega⟩, n3⟩
  | false =>
    rw [cond_false]
    cases h4 : kindG L s == 4 with
    | true =>
      obtain ⟨h1, h2⟩ := gnext_ok h (kind_some (by decide) h4).2.1
      exact ⟨h1, h2, rfl⟩
    | false =>
      rw [cond_false]
      obtain ⟨h1, f1⟩ := gtake_ok h (k := 1) (by decide)
      cases h5 : kindG L (takeG L 1 s).1 == 5 with
      | true =>
        obtain ⟨h2, f2⟩ := gnext_ok h1 (kind_some (by decide) h5).2.1
        obtain ⟨h3, f3⟩ := gtake_ok h2 (k := 1) (by decide)
        exact ⟨h3, (f1.trans f2).trans f3, rfl⟩
      | false => exact ⟨h1, f1, rfl⟩
theorem less_good {L : List (List C)} {un : Rd} {d : Nat} (hu : ∀ d', d = d' + 1 → Good L un d') : Good L (lessG L un) d := by
  intro s h hd
  unfold lessG
  obtain ⟨h1, f1, n1⟩ := atom_good hu s h hd
  cases hk : kindG L (atomG L un s).1 == 45 with
  | true =>
    obtain ⟨h2, f2⟩ := gnext_ok h1 (kind_some (by decide) hk).2.1
    obtain ⟨h3, f3, _⟩ := atom_good hu _ h2 ((lvl_fol (f1.trans f2)).trans hd)
    exact ⟨h3, (f1.trans f2).trans f3, rfl⟩
  | false => exact ⟨h1, f1, n1⟩
theorem more_good {L : List (List C)} {one : Rd} {d : Nat} (ho : Good L one d) {sg : Int} (hsg : sg ≠ 0) : ∀ (n : Nat) (s : PS) (out : List Nde), St8 L s → lvl s = d → out.all isNd = true →
    St8 L (moreG L one sg n s out).1 ∧ Fol s (moreG L one sg n s out).1 ∧ (moreG L one sg n s out).2.all isNd = true ∧ ((moreG L one sg n s out).2.length : Int) ≤ out.length + (L.length - s.at_) := by
  intro n
  induction n with
  | zero => intro s out h hd hn; have := h.a1; exact ⟨h, Fol.refl s, hn, by simp only [moreG]; omega⟩
  | succ n ih =>
    intro s out h hd hn
    unfold moreG
    cases hk : kindG L s == sg with
    | true =>
      rw [cond_true]
      obtain ⟨_, hlt, _⟩ := kind_some hsg hk
      obtain ⟨h2, f2⟩ := gnext_ok h hlt
      obtain ⟨h3, f3, n3⟩ := ho _ h2 ((lvl_fol f2).trans hd)
      have hn' : (out ++ [(one (nextG s)).2]).all isNd = true := by rw [List.all_append, hn]; simp [n3]
      obtain ⟨x1, x2, x3, x4⟩ := ih (one (nextG s)).1 (out ++ [(one (nextG s)).2]) h3 ((lvl_fol (f2.trans f3)).trans hd) hn'
      refine ⟨x1, (f2.trans f3).trans x2, x3, ?_⟩
      have e1 := f3.a
      have e2 : (nextG s).at_ = s.at_ + 1 := rfl
      simp only [List.length_append, List.length_cons, List.length_nil] at x4
      push_cast at x4
      omega
    | false => have := h.a1; rw [cond_false]; exact ⟨h, Fol.refl s, hn, by simp only; omega⟩
theorem more_fuel {L : List (List C)} {one : Rd} {d : Nat} (ho : Good L one d) {sg : Int} (hsg : sg ≠ 0) : ∀ (n n' : Nat) (s : PS) (out : List Nde), St8 L s → lvl s = d → (L.length : Int) - s.at_ < n → (L.length : Int) - s.at_ < n' →
    moreG L one sg n s out = moreG L one sg n' s out := by
  intro n
  induction n with
  | zero => intro n' s out h _ h1; have := h.a1; omega
  | succ n ih =>
    intro n' s out h hd h1 h2
    cases n' with
    | zero => have := h.a1; omega
    | succ n' =>
      unfold moreG
      cases hk : kindG L s == sg with
      | true =>
        rw [cond_true, cond_true]
        obtain ⟨_, hlt, _⟩ := kind_some hsg hk
        obtain ⟨g2, f2⟩ := gnext_ok h hlt
        obtain ⟨g3, f3, n3⟩ := ho _ g2 ((lvl_fol f2).trans hd)
        have e1 := f3.a
        have e2 : (nextG s).at_ = s.at_ + 1 := rfl
        exact ih n' _ _ g3 ((lvl_fol (f2.trans f3)).trans hd) (by push_cast at h1; omega) (by push_cast at h2; omega)
      | false => rfl
theorem list_good {L : List (List C)} {one : Rd} {d : Nat} (ho : Good L one d) {sg : Int} (hsg : sg ≠ 0) {s : PS} (h : St8 L s) (hd : lvl s = d) :
    St8 L (listG L one sg s).1 ∧ Fol s (listG L one sg s).1 ∧ (listG L one sg s).2.all isNd = true ∧ (listG L one sg s).2.length < 1000002 := by
  obtain ⟨h1, f1, n1⟩ := ho s h hd
  obtain ⟨x1, x2, x3, x4⟩ := more_good ho hsg (L.length + 1) (one s).1 [(one s).2] h1 ((lvl_fol f1).trans hd) (by simp [n1])
  have := h.len; have := h1.a0
  refine ⟨x1, f1.trans x2, x3, ?_⟩
  unfold listG
  simp only [List.length_cons, List.length_nil] at x4
  push_cast at x4
  omega
theorem of_nd {k : Int} {l : List Nde} (h : l.all isNd = true) : isNd (ofG k l) = true := by
  unfold ofG
  cases hl : l.length == 1 with
  | false => rfl
  | true =>
    match l, hl with
    | [x], _ => simpa using h
theorem meet_good {L : List (List C)} {un : Rd} {d : Nat} (hu : ∀ d', d = d' + 1 → Good L un d') : Good L (meetG L un) d := by
  intro s h hd
  obtain ⟨x1, x2, x3, _⟩ := list_good (less_good hu) (sg := 38) (by decide) h hd
  exact ⟨x1, x2, of_nd x3⟩
theorem union_good {L : List (List C)} {un : Rd} {d : Nat} (hu : ∀ d', d = d' + 1 → Good L un d') : Good L (unionL L un) d := by
  intro s h hd
  obtain ⟨x1, x2, x3, _⟩ := list_good (meet_good hu) (sg := 124) (by decide) h hd
  exact ⟨x1, x2, of_nd x3⟩
theorem unionN_good (L : List (List C)) : ∀ d, Good L (unionN L d) d := by
  intro d
  induction d with
  | zero => exact union_good (fun d' h => by omega)
  | succ d ih => exact union_good (fun d' h => by have : d' = d := by omega
                                                  subst this; exact ih)
theorem inner_good (L : List (List C)) (d : Nat) : ∀ d', d = d' + 1 → Good L (innerN L d) d' := by
  intro d' h; subst h; exact unionN_good L d'
theorem atomA_good {L : List (List C)} {s : PS} (h : St8 L s) : St8 L (atomA L s).1 ∧ Fol s (atomA L s).1 ∧ isNd (atomA L s).2 = true := by
  rw [atomA_eq]; exact atom_good (inner_good L _) s h rfl
theorem lessA_good {L : List (List C)} {s : PS} (h : St8 L s) : St8 L (lessA L s).1 ∧ Fol s (lessA L s).1 ∧ isNd (lessA L s).2 = true := by
  rw [lessA_eq]; exact less_good (inner_good L _) s h rfl
theorem meetA_good {L : List (List C)} {s : PS} (h : St8 L s) : St8 L (meetA L s).1 ∧ Fol s (meetA L s).1 ∧ isNd (meetA L s).2 = true := by
  rw [meetA_eq]; exact meet_good (inner_good L _) s h rfl
theorem unionA_good {L : List (List C)} {s : PS} (h : St8 L s) : St8 L (unionA L s).1 ∧ Fol s (unionA L s).1 ∧ isNd (unionA L s).2 = true := by
  rw [unionA_eq]; exact union_good (inner_good L _) s h rfl
theorem listLess_good {L : List (List C)} {s : PS} (h : St8 L s) {sg : Int} (hsg : sg ≠ 0) : St8 L (listLess L sg s).1 ∧ Fol s (listLess L sg s).1 ∧ (listLess L sg s).2.all isNd = true ∧ (listLess L sg s).2.length < 1000002 := by
  rw [listLess_eq]; exact list_good (less_good (inner_good L _)) hsg h rfl
theorem listMeet_good {L : List (List C)} {s : PS} (h : St8 L s) {sg : Int} (hsg : sg ≠ 0) : St8 L (listMeet L sg s).1 ∧ Fol s (listMeet L sg s).1 ∧ (listMeet L sg s).2.all isNd = true ∧ (listMeet L sg s).2.length < 1000002 := by
  rw [listMeet_eq]; exact list_good (meet_good (inner_good L _)) hsg h rfl
/-! the sealed parts in terms of each other -/
theorem lessA_step {L : List (List C)} {s : PS} (h : St8 L s) : lessA L s = bif kindG L (atomA L s).1 == 45 then ((atomA L (nextG (atomA L s).1)).1, ndC 6 bE bE [(atomA L s).2, (atomA L (nextG (atomA L s).1)).2]) else ((atomA L s).1, (atomA L s).2) := by
  obtain ⟨h1, f1, _⟩ := atomA_good h
  have e : lvl (nextG (atomA L s).1) = lvl s := by show lvl (atomA L s).1 = _; exact lvl_fol f1
  rw [lessA_eq, atomA_eq L (nextG (atomA L s).1), e]
  unfold lessG
  rw [← atomA_eq]
theorem meetA_step {L : List (List C)} {s : PS} : meetA L s = ((listLess L 38 s).1, ofG 5 (listLess L 38 s).2) := by rw [meetA_eq, listLess_eq]; rfl
theorem unionA_step {L : List (List C)} {s : PS} : unionA L s = ((listMeet L 124 s).1, ofG 4 (listMeet L 124 s).2) := by rw [unionA_eq, listMeet_eq]; rfl
end Go.Proofs.YtniiimpcakmkbaaDoor

set_option linter.unusedVariables false
namespace Go.Proofs.YtniiimpcakmkbaaDoor
open Go Vm
noncomputable def g_kind_cf (m : Int) : Cfg := mkCfQ [25, 35] (globG m) vti orc0 false [] []
theorem g_kind_start {R : Type} (m : Int) (k : V → Bx → Option R) (F : Nat) (L : List (List C)) (el : Int) (ec : Int) (a : Int) (o : Int) (e : Nat) : runFn (g_kind_cf m) F Tryd.f73 (bd Tryd.f73) [pp] [pB L el ec { at_ := a, op := o, er := e }] k =
    (bif !e.beq (0 : Nat) then
      k (vi 0) [(some (.cells ⟨[(.sl 4 L), (.int .i64 el), (.int .i64 ec), (.int .i64 a), (.int .i64 o), (.er e 172 [0, 1])], [], 6⟩))]
    else (bif decide (a ≥ (↑L.length : Int)) then
        k (vi 0) [(some (.cells ⟨[(.sl 4 L), (.int .i64 el), (.int .i64 ec), (.int .i64 a), (.int .i64 o), (.er e 172 [0, 1])], [], 6⟩))]
      else (bif decide ((0 : Int) ≤ a) then
          (getT L a.toNat fun z1 =>
            (getT z1 0 fun z2 =>
              (bif shOk [Sh.int IntKind.i64] [z2] then
                k (vi (([z2].getD (0 : Nat) C.nf).toInt)) [(some (.cells ⟨[(.sl 4 L), (.int .i64 el), (.int .i64 ec), (.int .i64 a), (.int .i64 o), (.er e 172 [0, 1])], [], 6⟩))]
              else none)))
        else none))) := by kernel_rfl
noncomputable def g_fail_cf (m : Int) : Cfg := mkCfQ [25, 35] (globG m) vti orc0 false [] []
theorem g_fail_start {R : Type} (m : Int) (k : V → Bx → Option R) (F : Nat) (L : List (List C)) (el : Int) (ec : Int) (a : Int) (o : Int) (e : Nat) (x : Nat) : runFn (g_fail_cf m) F Tryd.f64 (bd Tryd.f64) [pp, vc (C.er x (172 : TypeId) [(0 : Nat), (1 : Nat)])] [pB L el ec { at_ := a, op := o, er := e }] k =
    (bif e.beq (0 : Nat) then
      k (.tup []) [(some (.cells ⟨[(.sl 4 L), (.int .i64 el), (.int .i64 ec), (.int .i64 a), (.int .i64 o), (.er x 172 [0, 1])], [], 6⟩))]
    else k (.tup []) [(some (.cells ⟨[(.sl 4 L), (.int .i64 el), (.int .i64 ec), (.int .i64 a), (.int .i64 o), (.er e 172 [0, 1])], [], 6⟩))]) := by kernel_rfl
noncomputable def g_take_cf (m : Int) : Cfg := mkCfQ [25, 35] (globG m) vti orcGA false [] []
theorem g_take_start {R : Type} (m : Int) (k : V → Bx → Option R) (F : Nat) (L : List (List C)) (el : Int) (ec : Int) (a : Int) (o : Int) (e : Nat) (sg : Int) : runFn (g_take_cf m) F Tryd.f90 (bd Tryd.f90) [pp, vi sg] [pB L el ec { at_ := a, op := o, er := e }] k =
    (bif stOk L { at_ := a, op := o, er := e } && true then
      (bif kindG L { at_ := a, op := o, er := e } != sg then
        k (vs ((ByteArray.mk #[]))) [(some (.cells ⟨[(.sl 4 L), (.int .i64 el), (.int .i64 ec), (.int .i64 a), (.int .i64 o), (.er ((failG (1 : Nat) { at_ := a, op := o, er := e }).er) 172 [0, 1])], [], 6⟩))]
      else (bif decide ((0 : Int) ≤ IntKind.i64.wrap (IntKind.i64.wrap (a + (1 : Int)) - (1 : Int))) then
          (getT L ((IntKind.i64.wrap (IntKind.i64.wrap (a + (1 : Int)) - (1 : Int))).toNat) fun z1 =>
            (getT (List.drop (1 : Nat) z1) 0 fun z2 =>
              (bif shOk [Sh.str] [z2] then
                k (vs (([z2].getD (0 : Nat) C.nf).toStr)) [(some (.cells ⟨[(.sl 4 L), (.int .i64 el), (.int .i64 ec), (.int .i64 (IntKind.i64.wrap (a + (1 : Int)))), (.int .i64 o), (.er e 172 [0, 1])], [], 6⟩))]
              else none)))
        else none))
    else none) := by kernel_rfl
noncomputable def g_may_cf (m : Int) : Cfg := mkCfQ [25, 35] (globG m) vti orcGA false [] []
theorem g_may_start {R : Type} (m : Int) (k : V → Bx → Option R) (F : Nat) (L : List (List C)) (el : Int) (ec : Int) (a : Int) (o : Int) (e : Nat) (sg : Int) : runFn (g_may_cf m) F Tryd.f83 (bd Tryd.f83) [pp, vi sg] [pB L el ec { at_ := a, op := o, er := e }] k =
    (bif stOk L { at_ := a, op := o, er := e } && true then
      (bif kindG L { at_ := a, op := o, er := e } != sg then
        k (vb false) [(some (.cells ⟨[(.sl 4 L), (.int .i64 el), (.int .i64 ec), (.int .i64 a), (.int .i64 o), (.er e 172 [0, 1])], [], 6⟩))]
      else k (vb true) [(some (.cells ⟨[(.sl 4 L), (.int .i64 el), (.int .i64 ec), (.int .i64 (IntKind.i64.wrap (a + (1 : Int)))), (.int .i64 o), (.er e 172 [0, 1])], [], 6⟩))])
    else none) := by kernel_rfl
noncomputable def g_of_cf (m : Int) : Cfg := mkCfQ [25, 35] (globG m) vti orc0 false [] []
theorem g_of_start {R : Type} (m : Int) (k : V → Bx → Option R) (F : Nat) (l : List (List C)) (sg : Int) : runFn (g_of_cf m) F Tryd.f67 (bd Tryd.f67) [vi sg, vc (C.sl (4 : Nat) l)] [] k =
    (bif (↑l.length : Int) == (1 : Int) then
      (getT l 0 fun z1 =>
        (bif (List.take (4 : Nat) z1).length == (4 : Nat) then
          (bif shOk [Sh.int IntKind.i64, Sh.str, Sh.str, Sh.sl (4 : Nat)] (List.take (4 : Nat) z1) then
            k (.t (.agg ⟨[(.int .i64 (((List.take (4 : Nat) z1).getD (0 : Nat) C.nf).toInt)), (.str (((List.take (4 : Nat) z1).getD (1 : Nat) C.nf).toStr)), (.str (((List.take (4 : Nat) z1).getD (2 : Nat) C.nf).toStr)), (.sl 4 (((List.take (4 : Nat) z1).getD (3 : Nat) C.nf).toEls))], [], 4⟩)) []
          else none)
        else none))
    else k (.t (.agg ⟨[(.int .i64 sg), (.str ByteArray.empty), (.str ByteArray.empty), (.sl 4 l)], [], 4⟩)) []) := by kernel_rfl
noncomputable def g_brackets_cf (m : Int) (N : Nat) : Cfg := mkCfQ [25, 35] (globG m) vti (orcG1 N) false [] []
theorem g_brackets_start {R : Type} (m : Int) (N : Nat) (k : V → Bx → Option R) (F : Nat) (L : List (List C)) (el : Int) (ec : Int) (a : Int) (o : Int) (e : Nat) : runFn (g_brackets_cf m N) F Tryd.f101 (bd Tryd.f101) [pp] [pB L el ec { at_ := a, op := o, er := e }] k =
    (bif decide (o ≥ (8 : Int)) then
      k (.t (.agg ⟨[(.int .i64 0), (.str ByteArray.empty), (.str ByteArray.empty), (.sl 4 [])], [], 4⟩)) [(some (.cells ⟨[(.sl 4 L), (.int .i64 el), (.int .i64 ec), (.int .i64 a), (.int .i64 o), (.er ((failG (2 : Nat) { at_ := a, op := o, er := e }).er) 172 [0, 1])], [], 6⟩))]
    else (bif stOk L { at_ := a, op := IntKind.i64.wrap (o + (1 : Int)), er := e } && true && true then
        (bif stOk L { at_ := (takeG L (40 : Int) { at_ := a, op := IntKind.i64.wrap (o + (1 : Int)), er := e }).fst.at_, op := (takeG L (40 : Int) { at_ := a, op := IntKind.i64.wrap (o + (1 : Int)), er := e }).fst.op, er := (takeG L (40 : Int) { at_ := a, op := IntKind.i64.wrap (o + (1 : Int)), er := e }).fst.er } && true && decide (lvl { at_ := (takeG L (40 : Int) { at_ := a, op := IntKind.i64.wrap (o + (1 : Int)), er := e }).fst.at_, op := (takeG L (40 : Int) { at_ := a, op := IntKind.i64.wrap (o + (1 : Int)), er := e }).fst.op, er := (takeG L (40 : Int) { at_ := a, op := IntKind.i64.wrap (o + (1 : Int)), er := e }).fst.er } < N) then
          (bif stOk L { at_ := (unionA L { at_ := (takeG L (40 : Int) { at_ := a, op := IntKind.i64.wrap (o + (1 : Int)), er := e }).fst.at_, op := (takeG L (40 : Int) { at_ := a, op := IntKind.i64.wrap (o + (1 : Int)), er := e }).fst.op, er := (takeG L (40 : Int) { at_ := a, op := IntKind.i64.wrap (o + (1 : Int)), er := e }).fst.er }).fst.at_, op := (unionA L { at_ := (takeG L (40 : Int) { at_ := a, op := IntKind.i64.wrap (o + (1 : Int)), er := e }).fst.at_, op := (takeG L (40 : Int) { at_ := a, op := IntKind.i64.wrap (o + (1 : Int)), er := e }).fst.op, er := (takeG L (40 : Int) { at_ := a, op := IntKind.i64.wrap (o + (1 : Int)), er := e }).fst.er }).fst.op, er := (unionA L { at_ := (takeG L (40 : Int) { at_ := a, op := IntKind.i64.wrap (o + (1 : Int)), er := e }).fst.at_, op := (takeG L (40 : Int) { at_ := a, op := IntKind.i64.wrap (o + (1 : Int)), er := e }).fst.op, er := (takeG L (40 : Int) { at_ := a, op := IntKind.i64.wrap (o + (1 : Int)), er := e }).fst.er }).fst.er } && true && true then
            k (.t (.agg ⟨(List.take (4 : Nat) (List.take (4 : Nat) ((unionA L { at_ := (takeG L (40 : Int) { at_ := a, op := IntKind.i64.wrap (o + (1 : Int)), er := e }).fst.at_, op := (takeG L (40 : Int) { at_ := a, op := IntKind.i64.wrap (o + (1 : Int)), er := e }).fst.op, er := (takeG L (40 : Int) { at_ := a, op := IntKind.i64.wrap (o + (1 : Int)), er := e }).fst.er }).snd ++ []) ++ [])), [], 4⟩)) [(some (.cells ⟨[(.sl 4 L), (.int .i64 el), (.int .i64 ec), (.int .i64 ((takeG L (41 : Int) { at_ := (unionA L { at_ := (takeG L (40 : Int) { at_ := a, op := IntKind.i64.wrap (o + (1 : Int)), er := e }).fst.at_, op := (takeG L (40 : Int) { at_ := a, op := IntKind.i64.wrap (o + (1 : Int)), er := e }).fst.op, er := (takeG L (40 : Int) { at_ := a, op := IntKind.i64.wrap (o + (1 : Int)), er := e }).fst.er }).fst.at_, op := (unionA L { at_ := (takeG L (40 : Int) { at_ := a, op := IntKind.i64.wrap (o + (1 : Int)), er := e }).fst.at_, op := (takeG L (40 : Int) { at_ := a, op := IntKind.i64.wrap (o + (1 : Int)), er := e }).fst.op, er := (takeG L (40 : Int) { at_ := a, op := IntKind.i64.wrap (o + (1 : Int)), er := e }).fst.er }).fst.op, er := (unionA L { at_ := (takeG L (40 : Int) { at_ := a, op := IntKind.i64.wrap (o + (1 : Int)), er := e }).fst.at_, op := (takeG L (40 : Int) { at_ := a, op := IntKind.i64.wrap (o + (1 : Int)), er := e }).fst.op, er := (takeG L (40 : Int) { at_ := a, op := IntKind.i64.wrap (o + (1 : Int)), er := e }).fst.er }).fst.er }).fst.at_)), (.int .i64 (IntKind.i64.wrap ((takeG L (41 : Int) { at_ := (unionA L { at_ := (takeG L (40 : Int) { at_ := a, op := IntKind.i64.wrap (o + (1 : Int)), er := e }).fst.at_, op := (takeG L (40 : Int) { at_ := a, op := IntKind.i64.wrap (o + (1 : Int)), er := e }).fst.op, er := (takeG L (40 : Int) { at_ := a, op := IntKind.i64.wrap (o + (1 : Int)), er := e }).fst.er }).fst.at_, op := (unionA L { at_ := (takeG L (40 : Int) { at_ := a, op := IntKind.i64.wrap (o + (1 : Int)), er := e }).fst.at_, op := (takeG L (40 : Int) { at_ := a, op := IntKind.i64.wrap (o + (1 : Int)), er := e }).fst.op, er := (takeG L (40 : Int) { at_ := a, op := IntKind.i64.wrap (o + (1 : Int)), er := e }).fst.er }).fst.op, er := (unionA L { at_ := (takeG L (40 : Int) { at_ := a, op := IntKind.i64.wrap (o + (1 : Int)), er := e }).fst.at_, op := (takeG L (40 : Int) { at_ := a, op := IntKind.i64.wrap (o + (1 : Int)), er := e }).fst.op, er := (takeG L (40 : Int) { at_ := a, op := IntKind.i64.wrap (o + (1 : Int)), er := e }).fst.er }).fst.er }).fst.op - (1 : Int)))), (.er ((takeG L (41 : Int) { at_ := (unionA L { at_ := (takeG L (40 : Int) { at_ := a, op := IntKind.i64.wrap (o + (1 : Int)), er := e }).fst.at_, op := (takeG L (40 : Int) { at_ := a, op := IntKind.i64.wrap (o + (1 : Int)), er := e }).fst.op, er := (takeG L (40 : Int) { at_ := a, op := IntKind.i64.wrap (o + (1 : Int)), er := e }).fst.er }).fst.at_, op := (unionA L { at_ := (takeG L (40 : Int) { at_ := a, op := IntKind.i64.wrap (o + (1 : Int)), er := e }).fst.at_, op := (takeG L (40 : Int) { at_ := a, op := IntKind.i64.wrap (o + (1 : Int)), er := e }).fst.op, er := (takeG L (40 : Int) { at_ := a, op := IntKind.i64.wrap (o + (1 : Int)), er := e }).fst.er }).fst.op, er := (unionA L { at_ := (takeG L (40 : Int) { at_ := a, op := IntKind.i64.wrap (o + (1 : Int)), er := e }).fst.at_, op := (takeG L (40 : Int) { at_ := a, op := IntKind.i64.wrap (o + (1 : Int)), er := e }).fst.op, er := (takeG L (40 : Int) { at_ := a, op := IntKind.i64.wrap (o + (1 : Int)), er := e }).fst.er }).fst.er }).fst.er) 172 [0, 1])], [], 6⟩))]
          else none)
        else none)
      else none)) := by kernel_rfl
noncomputable def g_atom_cf (m : Int) (N : Nat) : Cfg := mkCfQ [25, 35] (globG m) vti (orcG2 N) false [] []
theorem g_atom_start {R : Type} (m : Int) (N : Nat) (k : V → Bx → Option R) (F : Nat) (L : List (List C)) (el : Int) (ec : Int) (a : Int) (o : Int) (e : Nat) : runFn (g_atom_cf m N) F Tryd.f94 (bd Tryd.f94) [pp] [pB L el ec { at_ := a, op := o, er := e }] k =
    (bif stOk L { at_ := a, op := o, er := e } && true then
      (bif kindG L { at_ := a, op := o, er := e } == (40 : Int) then
        (bif stOk L { at_ := a, op := o, er := e } && true && decide (lvl { at_ := a, op := o, er := e } < N) && kindG L { at_ := a, op := o, er := e } == (40 : Int) then
          k (.t (.agg ⟨(List.take (4 : Nat) ((atomA L { at_ := a, op := o, er := e }).snd ++ [])), [], 4⟩)) [(some (.cells ⟨[(.sl 4 L), (.int .i64 el), (.int .i64 ec), (.int .i64 ((atomA L { at_ := a, op := o, er := e }).fst.at_)), (.int .i64 ((atomA L { at_ := a, op := o, er := e }).fst.op)), (.er ((atomA L { at_ := a, op := o, er := e }).fst.er) 172 [0, 1])], [], 6⟩))]
        else none)
      else (bif stOk L { at_ := a, op := o, er := e } && true && true then
          (bif kindG L { at_ := a, op := o, er := e } == (4 : Int) then
            k (.t (.agg ⟨[(.int .i64 1), (.str ByteArray.empty), (.str ByteArray.empty), (.sl 4 [])], [], 4⟩)) [(some (.cells ⟨[(.sl 4 L), (.int .i64 el), (.int .i64 ec), (.int .i64 ((mayG L (4 : Int) { at_ := a, op := o, er := e }).at_)), (.int .i64 ((mayG L (4 : Int) { at_ := a, op := o, er := e }).op)), (.er ((mayG L (4 : Int) { at_ := a, op := o, er := e }).er) 172 [0, 1])], [], 6⟩))]
          else (bif stOk L { at_ := (mayG L (4 : Int) { at_ := a, op := o, er := e }).at_, op := (mayG L (4 : Int) { at_ := a, op := o, er := e }).op, er := (mayG L (4 : Int) { at_ := a, op := o, er := e }).er } && true && true then
              (bif stOk L { at_ := (takeG L (1 : Int) { at_ := (mayG L (4 : Int) { at_ := a, op := o, er := e }).at_, op := (mayG L (4 : Int) { at_ := a, op := o, er := e }).op, er := (mayG L (4 : Int) { at_ := a, op := o, er := e }).er }).fst.at_, op := (takeG L (1 : Int) { at_ := (mayG L (4 : Int) { at_ := a, op := o, er := e }).at_, op := (mayG L (4 : Int) { at_ := a, op := o, er := e }).op, er := (mayG L (4 : Int) { at_ := a, op := o, er := e }).er }).fst.op, er := (takeG L (1 : Int) { at_ := (mayG L (4 : Int) { at_ := a, op := o, er := e }).at_, op := (mayG L (4 : Int) { at_ := a, op := o, er := e }).op, er := (mayG L (4 : Int) { at_ := a, op := o, er := e }).er }).fst.er } && true && true then
                (bif kindG L { at_ := (takeG L (1 : Int) { at_ := (mayG L (4 : Int) { at_ := a, op := o, er := e }).at_, op := (mayG L (4 : Int) { at_ := a, op := o, er := e }).op, er := (mayG L (4 : Int) { at_ := a, op := o, er := e }).er }).fst.at_, op := (takeG L (1 : Int) { at_ := (mayG L (4 : Int) { at_ := a, op := o, er := e }).at_, op := (mayG L (4 : Int) { at_ := a, op := o, er := e }).op, er := (mayG L (4 : Int) { at_ := a, op := o, er := e }).er }).fst.op, er := (takeG L (1 : Int) { at_ := (mayG L (4 : Int) { at_ := a, op := o, er := e }).at_, op := (mayG L (4 : Int) { at_ := a, op := o, er := e }).op, er := (mayG L (4 : Int) { at_ := a, op := o, er := e }).er }).fst.er } == (5 : Int) then
                  (bif stOk L { at_ := (mayG L (5 : Int) { at_ := (takeG L (1 : Int) { at_ := (mayG L (4 : Int) { at_ := a, op := o, er := e }).at_, op := (mayG L (4 : Int) { at_ := a, op := o, er := e }).op, er := (mayG L (4 : Int) { at_ := a, op := o, er := e }).er }).fst.at_, op := (takeG L (1 : Int) { at_ := (mayG L (4 : Int) { at_ := a, op := o, er := e }).at_, op := (mayG L (4 : Int) { at_ := a, op := o, er := e }).op, er := (mayG L (4 : Int) { at_ := a, op := o, er := e }).er }).fst.op, er := (takeG L (1 : Int) { at_ := (mayG L (4 : Int) { at_ := a, op := o, er := e }).at_, op := (mayG L (4 : Int) { at_ := a, op := o, er := e }).op, er := (mayG L (4 : Int) { at_ := a, op := o, er := e }).er }).fst.er }).at_, op := (mayG L (5 : Int) { at_ := (takeG L (1 : Int) { at_ := (mayG L (4 : Int) { at_ := a, op := o, er := e }).at_, op := (mayG L (4 : Int) { at_ := a, op := o, er := e }).op, er := (mayG L (4 : Int) { at_ := a, op := o, er := e }).er }).fst.at_, op := (takeG L (1 : Int) { at_ := (mayG L (4 : Int) { at_ := a, op := o, er := e }).at_, op := (mayG L (4 : Int) { at_ := a, op := o, er := e }).op, er := (mayG L (4 : Int) { at_ := a, op := o, er := e }).er }).fst.op, er := (takeG L (1 : Int) { at_ := (mayG L (4 : Int) { at_ := a, op := o, er := e }).at_, op := (mayG L (4 : Int) { at_ := a, op := o, er := e }).op, er := (mayG L (4 : Int) { at_ := a, op := o, er := e }).er }).fst.er }).op, er := (mayG L (5 : Int) { at_ := (takeG L (1 : Int) { at_ := (mayG L (4 : Int) { at_ := a, op := o, er := e }).at_, op := (mayG L (4 : Int) { at_ := a, op := o, er := e }).op, er := (mayG L (4 : Int) { at_ := a, op := o, er := e }).er }).fst.at_, op := (takeG L (1 : Int) { at_ := (mayG L (4 : Int) { at_ := a, op := o, er := e }).at_, op := (mayG L (4 : Int) { at_ := a, op := o, er := e }).op, er := (mayG L (4 : Int) { at_ := a, op := o, er := e }).er }).fst.op, er := (takeG L (1 : Int) { at_ := (mayG L (4 : Int) { at_ := a, op := o, er := e }).at_, op := (mayG L (4 : Int) { at_ := a, op := o, er := e }).op, er := (mayG L (4 : Int) { at_ := a, op := o, er := e }).er }).fst.er }).er } && true && true then
                    k (.t (.agg ⟨[(.int .i64 3), (.str ((takeG L (1 : Int) { at_ := (mayG L (4 : Int) { at_ := a, op := o, er := e }).at_, op := (mayG L (4 : Int) { at_ := a, op := o, er := e }).op, er := (mayG L (4 : Int) { at_ := a, op := o, er := e }).er }).snd)), (.str ((takeG L (1 : Int) { at_ := (mayG L (5 : Int) { at_ := (takeG L (1 : Int) { at_ := (mayG L (4 : Int) { at_ := a, op := o, er := e }).at_, op := (mayG L (4 : Int) { at_ := a, op := o, er := e }).op, er := (mayG L (4 : Int) { at_ := a, op := o, er := e }).er }).fst.at_, op := (takeG L (1 : Int) { at_ := (mayG L (4 : Int) { at_ := a, op := o, er := e }).at_, op := (mayG L (4 : Int) { at_ := a, op := o, er := e }).op, er := (mayG L (4 : Int) { at_ := a, op := o, er := e }).er }).fst.op, er := (takeG L (1 : Int) { at_ := (mayG L (4 : Int) { at_ := a, op := o, er := e }).at_, op := (mayG L (4 : Int) { at_ := a, op := o, er := e }).op, er := (mayG L (4 : Int) { at_ := a, op := o, er := e }).er }).fst.er }).at_, op := (mayG L (5 : Int) { at_ := (takeG L (1 : Int) { at_ := (mayG L (4 : Int) { at_ := a, op := o, er := e }).at_, op := (mayG L (4 : Int) { at_ := a, op := o, er := e }).op, er := (mayG L (4 : Int) { at_ := a, op := o, er := e }).er }).fst.at_, op := (takeG L (1 : Int) { at_ := (mayG L (4 : Int) { at_ := a, op := o, er := e }).at_, op := (mayG L (4 : Int) { at_ := a, op := o, er := e }).op, er := (mayG L (4 : Int) { at_ := a, op := o, er := e }).er }).fst.op, er := (takeG L (1 : Int) { at_ := (mayG L (4 : Int) { at_ := a, op := o, er := e }).at_, op := (mayG L (4 : Int) { at_ := a, op := o, er := e }).op, er := (mayG L (4 : Int) { at_ := a, op := o, er := e }).er }).fst.er }).op, er := (mayG L (5 : Int) { at_ := (takeG L (1 : Int) { at_ := (mayG L (4 : Int) { at_ := a, op := o, er := e }).at_, op := (mayG L (4 : Int) { at_ := a, op := o, er := e }).op, er := (mayG L (4 : Int) { at_ := a, op := o, er := e }).er }).fst.at_, op := (takeG L (1 : Int) { at_ := (mayG L (4 : Int) { at_ := a, op := o, er := e }).at_, op := (mayG L (4 : Int) { at_ := a, op := o, er := e }).op, er := (mayG L (4 : Int) { at_ := a, op := o, er := e }).er }).fst.op, er := (takeG L (1 : Int) { at_ := (mayG L (4 : Int) { at_ := a, op := o, er := e }).at_, op := (mayG L (4 : Int) { at_ := a, op := o, er := e }).op, er := (mayG L (4 : Int) { at_ := a, op := o, er := e }).er }).fst.er }).er }).snd)), (.sl 4 [])], [], 4⟩)) [(some (.cells ⟨[(.sl 4 L), (.int .i64 el), (.int .i64 ec), (.int .i64 ((takeG L (1 : Int) { at_ := (mayG L (5 : Int) { at_ := (takeG L (1 : Int) { at_ := (mayG L (4 : Int) { at_ := a, op := o, er := e }).at_, op := (mayG L (4 : Int) { at_ := a, op := o, er := e }).op, er := (mayG L (4 : Int) { at_ := a, op := o, er := e }).er }).fst.at_, op := (takeG L (1 : Int) { at_ := (mayG L (4 : Int) { at_ := a, op := o, er := e }).at_, op := (mayG L (4 : Int) { at_ := a, op := o, er := e }).op, er := (mayG L (4 : Int) { at_ := a, op := o, er := e }).er }).fst.op, er := (takeG L (1 : Int) { at_ := (mayG L (4 : Int) { at_ := a, op := o, er := e }).at_, op := (mayG L (4 : Int) { at_ := a, op := o, er := e }).op, er := (mayG L (4 : Int) { at_ := a, op := o, er := e }).er }).fst.er }).at_, op := (mayG L (5 : Int) { at_ := (takeG L (1 : Int) { at_ := (mayG L (4 : Int) { at_ := a, op := o, er := e }).at_, op := (mayG L (4 : Int) { at_ := a, op := o, er := e }).op, er := (mayG L (4 : Int) { at_ := a, op := o, er := e }).er }).fst.at_, op := (takeG L (1 : Int) { at_ := (mayG L (4 : Int) { at_ := a, op := o, er := e }).at_, op := (mayG L (4 : Int) { at_ := a, op := o, er := e }).op, er := (mayG L (4 : Int) { at_ := a, op := o, er := e }).er }).fst.op, er := (takeG L (1 : Int) { at_ := (mayG L (4 : Int) { at_ := a, op := o, er := e }).at_, op := (mayG L (4 : Int) { at_ := a, op := o, er := e }).op, er := (mayG L (4 : Int) { at_ := a, op := o, er := e }).er }).fst.er }).op, er := (mayG L (5 : Int) { at_ := (takeG L (1 : Int) { at_ := (mayG L (4 : Int) { at_ := a, op := o, er := e }).at_, op := (mayG L (4 : Int) { at_ := a, op := o, er := e }).op, er := (mayG L (4 : Int) { at_ := a, op := o, er := e }).er }).fst.at_, op := (takeG L (1 : Int) { at_ := (mayG L (4 : Int) { at_ := a, op := o, er := e }).at_, op := (mayG L (4 : Int) { at_ := a, op := o, er := e }).op, er := (mayG L (4 : Int) { at_ := a, op := o, er := e }).er }).fst.op, er := (takeG L (1 : Int) { at_ := (mayG L (4 : Int) { at_ := a, op := o, er := e }).at_, op := (mayG L (4 : Int) { at_ := a, op := o, er := e }).op, er := (mayG L (4 : Int) { at_ := a, op := o, er := e }).er }).fst.er }).er }).fst.at_)), (.int .i64 ((takeG L (1 : Int) { at_ := (mayG L (5 : Int) { at_ := (takeG L (1 : Int) { at_ := (mayG L (4 : Int) { at_ := a, op := o, er := e }).at_, op := (mayG L (4 : Int) { at_ := a, op := o, er := e }).op, er := (mayG L (4 : Int) { at_ := a, op := o, er := e }).er }).fst.at_, op := (takeG L (1 : Int) { at_ := (mayG L (4 : Int) { at_ := a, op := o, er := e }).at_, op := (mayG L (4 : Int) { at_ := a, op := o, er := e }).op, er := (mayG L (4 : Int) { at_ := a, op := o, er := e }).er }).fst.op, er := (takeG L (1 : Int) { at_ := (mayG L (4 : Int) { at_ := a, op := o, er := e }).at_, op := (mayG L (4 : Int) { at_ := a, op := o, er := e }).op, er := (mayG L (4 : Int) { at_ := a, op := o, er := e }).er }).fst.er }).at_, op := (mayG L (5 : Int) { at_ := (takeG L (1 : Int) { at_ := (mayG L (4 : Int) { at_ := a, op := o, er := e }).at_, op := (mayG L (4 : Int) { at_ := a, op := o, er := e }).op, er := (mayG L (4 : Int) { at_ := a, op := o, er := e }).er }).fst.at_, op := (takeG L (1 : Int) { at_ := (mayG L (4 : Int) { at_ := a, op := o, er := e }).at_, op := (mayG L (4 : Int) { at_ := a, op := o, er := e }).op, er := (mayG L (4 : Int) { at_ := a, op := o, er := e }).er }).fst.op, er := (takeG L (1 : Int) { at_ := (mayG L (4 : Int) { at_ := a, op := o, er := e }).at_, op := (mayG L (4 : Int) { at_ := a, op := o, er := e }).op, er := (mayG L (4 : Int) { at_ := a, op := o, er := e }).er }).fst.er }).op, er := (mayG L (5 : Int) { at_ := (takeG L (1 : Int) { at_ := (mayG L (4 : Int) { at_ := a, op := o, er := e }).at_, op := (mayG L (4 : Int) { at_ := a, op := o, er := e }).op, er := (mayG L (4 : Int) { at_ := a, op := o, er := e }).er }).fst.at_, op := (takeG L (1 : Int) { at_ := (mayG L (4 : Int) { at_ := a, op := o, er := e }).at_, op := (mayG L (4 : Int) { at_ := a, op := o, er := e }).op, er := (mayG L (4 : Int) { at_ := a, op := o, er := e }).er }).fst.op, er := (takeG L (1 : Int) { at_ := (mayG L (4 : Int) { at_ := a, op := o, er := e }).at_, op := (mayG L (4 : Int) { at_ := a, op := o, er := e }).op, er := (mayG L (4 : Int) { at_ := a, op := o, er := e }).er }).fst.er }).er }).fst.op)), (.er ((takeG L (1 : Int) { at_ := (mayG L (5 : Int) { at_ := (takeG L (1 : Int) { at_ := (mayG L (4 : Int) { at_ := a, op := o, er := e }).at_, op := (mayG L (4 : Int) { at_ := a, op := o, er := e }).op, er := (mayG L (4 : Int) { at_ := a, op := o, er := e }).er }).fst.at_, op := (takeG L (1 : Int) { at_ := (mayG L (4 : Int) { at_ := a, op := o, er := e }).at_, op := (mayG L (4 : Int) { at_ := a, op := o, er := e }).op, er := (mayG L (4 : Int) { at_ := a, op := o, er := e }).er }).fst.op, er := (takeG L (1 : Int) { at_ := (mayG L (4 : Int) { at_ := a, op := o, er := e }).at_, op := (mayG L (4 : Int) { at_ := a, op := o, er := e }).op, er := (mayG L (4 : Int) { at_ := a, op := o, er := e }).er }).fst.er }).at_, op := (mayG L (5 : Int) { at_ := (takeG L (1 : Int) { at_ := (mayG L (4 : Int) { at_ := a, op := o, er := e }).at_, op := (mayG L (4 : Int) { at_ := a, op := o, er := e }).op, er := (mayG L (4 : Int) { at_ := a, op := o, er := e }).er }).fst.at_, op := (takeG L (1 : Int) { at_ := (mayG L (4 : Int) { at_ := a, op := o, er := e }).at_, op := (mayG L (4 : Int) { at_ := a, op := o, er := e }).op, er := (mayG L (4 : Int) { at_ := a, op := o, er := e }).er }).fst.op, er := (takeG L (1 : Int) { at_ := (mayG L (4 : Int) { at_ := a, op := o, er := e }).at_, op := (mayG L (4 : Int) { at_ := a, op := o, er := e }).op, er := (mayG L (4 : Int) { at_ := a, op := o, er := e }).er }).fst.er }).op, er := (mayG L (5 : Int) { at_ := (takeG L (1 : Int) { at_ := (mayG L (4 : Int) { at_ := a, op := o, er := e }).at_, op := (mayG L (4 : Int) { at_ := a, op := o, er := e }).op, er := (mayG L (4 : Int) { at_ := a, op := o, er := e }).er }).fst.at_, op := (takeG L (1 : Int) { at_ := (mayG L (4 : Int) { at_ := a, op := o, er := e }).at_, op := (mayG L (4 : Int) { at_ := a, op := o, er := e }).op, er := (mayG L (4 : Int) { at_ := a, op := o, er := e }).er }).fst.op, er := (takeG L (1 : Int) { at_ := (mayG L (4 : Int) { at_ := a, op := o, er := e }).at_, op := (mayG L (4 : Int) { at_ := a, op := o, er := e }).op, er := (mayG L (4 : Int) { at_ := a, op := o, er := e }).er }).fst.er }).er }).fst.er) 172 [0, 1])], [], 6⟩))]
                  else none)
                else k (.t (.agg ⟨[(.int .i64 2), (.str ((takeG L (1 : Int) { at_ := (mayG L (4 : Int) { at_ := a, op := o, er := e }).at_, op := (mayG L (4 : Int) { at_ := a, op := o, er := e }).op, er := (mayG L (4 : Int) { at_ := a, op := o, er := e }).er }).snd)), (.str ByteArray.empty), (.sl 4 [])], [], 4⟩)) [(some (.cells ⟨[(.sl 4 L), (.int .i64 el), (.int .i64 ec), (.int .i64 ((mayG L (5 : Int) { at_ := (takeG L (1 : Int) { at_ := (mayG L (4 : Int) { at_ := a, op := o, er := e }).at_, op := (mayG L (4 : Int) { at_ := a, op := o, er := e }).op, er := (mayG L (4 : Int) { at_ := a, op := o, er := e }).er }).fst.at_, op := (takeG L (1 : Int) { at_ := (mayG L (4 : Int) { at_ := a, op := o, er := e }).at_, op := (mayG L (4 : Int) { at_ := a, op := o, er := e }).op, er := (mayG L (4 : Int) { at_ := a, op := o, er := e }).er }).fst.op, er := (takeG L (1 : Int) { at_ := (mayG L (4 : Int) { at_ := a, op := o, er := e }).at_, op := (mayG L (4 : Int) { at_ := a, op := o, er := e }).op, er := (mayG L (4 : Int) { at_ := a, op := o, er := e }).er }).fst.er }).at_)), (.int .i64 ((mayG L (5 : Int) { at_ := (takeG L (1 : Int) { at_ := (mayG L (4 : Int) { at_ := a, op := o, er := e }).at_, op := (mayG L (4 : Int) { at_ := a, op := o, er := e }).op, er := (mayG L (4 : Int) { at_ := a, op := o, er := e }).er }).fst.at_, op := (takeG L (1 : Int) { at_ := (mayG L (4 : Int) { at_ := a, op := o, er := e }).at_, op := (mayG L (4 : Int) { at_ := a, op := o, er := e }).op, er := (mayG L (4 : Int) { at_ := a, op := o, er := e }).er }).fst.op, er := (takeG L (1 : Int) { at_ := (mayG L (4 : Int) { at_ := a, op := o, er := e }).at_, op := (mayG L (4 : Int) { at_ := a, op := o, er := e }).op, er := (mayG L (4 : Int) { at_ := a, op := o, er := e }).er }).fst.er }).op)), (.er ((mayG L (5 : Int) { at_ := (takeG L (1 : Int) { at_ := (mayG L (4 : Int) { at_ := a, op := o, er := e }).at_, op := (mayG L (4 : Int) { at_ := a, op := o, er := e }).op, er := (mayG L (4 : Int) { at_ := a, op := o, er := e }).er }).fst.at_, op := (takeG L (1 : Int) { at_ := (mayG L (4 : Int) { at_ := a, op := o, er := e }).at_, op := (mayG L (4 : Int) { at_ := a, op := o, er := e }).op, er := (mayG L (4 : Int) { at_ := a, op := o, er := e }).er }).fst.op, er := (takeG L (1 : Int) { at_ := (mayG L (4 : Int) { at_ := a, op := o, er := e }).at_, op := (mayG L (4 : Int) { at_ := a, op := o, er := e }).op, er := (mayG L (4 : Int) { at_ := a, op := o, er := e }).er }).fst.er }).er) 172 [0, 1])], [], 6⟩))])
              else none)
            else none))
        else none))
    else none) := by kernel_rfl
noncomputable def g_less_cf (m : Int) (N : Nat) : Cfg := mkCfQ [25, 35] (globG m) vti (orcG3 N) false [] []
theorem g_less_start {R : Type} (m : Int) (N : Nat) (k : V → Bx → Option R) (F : Nat) (L : List (List C)) (el : Int) (ec : Int) (a : Int) (o : Int) (e : Nat) : runFn (g_less_cf m N) F Tryd.f84 (bd Tryd.f84) [pp] [pB L el ec { at_ := a, op := o, er := e }] k =
    (bif stOk L { at_ := a, op := o, er := e } && true && decide (lvl { at_ := a, op := o, er := e } < N) then
      (bif stOk L { at_ := (atomA L { at_ := a, op := o, er := e }).fst.at_, op := (atomA L { at_ := a, op := o, er := e }).fst.op, er := (atomA L { at_ := a, op := o, er := e }).fst.er } && true && true then
        (bif kindG L { at_ := (atomA L { at_ := a, op := o, er := e }).fst.at_, op := (atomA L { at_ := a, op := o, er := e }).fst.op, er := (atomA L { at_ := a, op := o, er := e }).fst.er } == (45 : Int) then
          (bif stOk L { at_ := (mayG L (45 : Int) { at_ := (atomA L { at_ := a, op := o, er := e }).fst.at_, op := (atomA L { at_ := a, op := o, er := e }).fst.op, er := (atomA L { at_ := a, op := o, er := e }).fst.er }).at_, op := (mayG L (45 : Int) { at_ := (atomA L { at_ := a, op := o, er := e }).fst.at_, op := (atomA L { at_ := a, op := o, er := e }).fst.op, er := (atomA L { at_ := a, op := o, er := e }).fst.er }).op, er := (mayG L (45 : Int) { at_ := (atomA L { at_ := a, op := o, er := e }).fst.at_, op := (atomA L { at_ := a, op := o, er := e }).fst.op, er := (atomA L { at_ := a, op := o, er := e }).fst.er }).er } && true && decide (lvl { at_ := (mayG L (45 : Int) { at_ := (atomA L { at_ := a, op := o, er := e }).fst.at_, op := (atomA L { at_ := a, op := o, er := e }).fst.op, er := (atomA L { at_ := a, op := o, er := e }).fst.er }).at_, op := (mayG L (45 : Int) { at_ := (atomA L { at_ := a, op := o, er := e }).fst.at_, op := (atomA L { at_ := a, op := o, er := e }).fst.op, er := (atomA L { at_ := a, op := o, er := e }).fst.er }).op, er := (mayG L (45 : Int) { at_ := (atomA L { at_ := a, op := o, er := e }).fst.at_, op := (atomA L { at_ := a, op := o, er := e }).fst.op, er := (atomA L { at_ := a, op := o, er := e }).fst.er }).er } < N) then
            (bif [(atomA L { at_ := a, op := o, er := e }).snd, (atomA L { at_ := (mayG L (45 : Int) { at_ := (atomA L { at_ := a, op := o, er := e }).fst.at_, op := (atomA L { at_ := a, op := o, er := e }).fst.op, er := (atomA L { at_ := a, op := o, er := e }).fst.er }).at_, op := (mayG L (45 : Int) { at_ := (atomA L { at_ := a, op := o, er := e }).fst.at_, op := (atomA L { at_ := a, op := o, er := e }).fst.op, er := (atomA L { at_ := a, op := o, er := e }).fst.er }).op, er := (mayG L (45 : Int) { at_ := (atomA L { at_ := a, op := o, er := e }).fst.at_, op := (atomA L { at_ := a, op := o, er := e }).fst.op, er := (atomA L { at_ := a, op := o, er := e }).fst.er }).er }).snd].all isNd && true then
              k (.t (.agg ⟨[(.int .i64 6), (.str bE), (.str bE), (.sl 4 [((atomA L { at_ := a, op := o, er := e }).snd), ((atomA L { at_ := (mayG L (45 : Int) { at_ := (atomA L { at_ := a, op := o, er := e }).fst.at_, op := (atomA L { at_ := a, op := o, er := e }).fst.op, er := (atomA L { at_ := a, op := o, er := e }).fst.er }).at_, op := (mayG L (45 : Int) { at_ := (atomA L { at_ := a, op := o, er := e }).fst.at_, op := (atomA L { at_ := a, op := o, er := e }).fst.op, er := (atomA L { at_ := a, op := o, er := e }).fst.er }).op, er := (mayG L (45 : Int) { at_ := (atomA L { at_ := a, op := o, er := e }).fst.at_, op := (atomA L { at_ := a, op := o, er := e }).fst.op, er := (atomA L { at_ := a, op := o, er := e }).fst.er }).er }).snd)])], [], 4⟩)) [(some (.cells ⟨[(.sl 4 L), (.int .i64 el), (.int .i64 ec), (.int .i64 ((atomA L { at_ := (mayG L (45 : Int) { at_ := (atomA L { at_ := a, op := o, er := e }).fst.at_, op := (atomA L { at_ := a, op := o, er := e }).fst.op, er := (atomA L { at_ := a, op := o, er := e }).fst.er }).at_, op := (mayG L (45 : Int) { at_ := (atomA L { at_ := a, op := o, er := e }).fst.at_, op := (atomA L { at_ := a, op := o, er := e }).fst.op, er := (atomA L { at_ := a, op := o, er := e }).fst.er }).op, er := (mayG L (45 : Int) { at_ := (atomA L { at_ := a, op := o, er := e }).fst.at_, op := (atomA L { at_ := a, op := o, er := e }).fst.op, er := (atomA L { at_ := a, op := o, er := e }).fst.er }).er }).fst.at_)), (.int .i64 ((atomA L { at_ := (mayG L (45 : Int) { at_ := (atomA L { at_ := a, op := o, er := e }).fst.at_, op := (atomA L { at_ := a, op := o, er := e }).fst.op, er := (atomA L { at_ := a, op := o, er := e }).fst.er }).at_, op := (mayG L (45 : Int) { at_ := (atomA L { at_ := a, op := o, er := e }).fst.at_, op := (atomA L { at_ := a, op := o, er := e }).fst.op, er := (atomA L { at_ := a, op := o, er := e }).fst.er }).op, er := (mayG L (45 : Int) { at_ := (atomA L { at_ := a, op := o, er := e }).fst.at_, op := (atomA L { at_ := a, op := o, er := e }).fst.op, er := (atomA L { at_ := a, op := o, er := e }).fst.er }).er }).fst.op)), (.er ((atomA L { at_ := (mayG L (45 : Int) { at_ := (atomA L { at_ := a, op := o, er := e }).fst.at_, op := (atomA L { at_ := a, op := o, er := e }).fst.op, er := (atomA L { at_ := a, op := o, er := e }).fst.er }).at_, op := (mayG L (45 : Int) { at_ := (atomA L { at_ := a, op := o, er := e }).fst.at_, op := (atomA L { at_ := a, op := o, er := e }).fst.op, er := (atomA L { at_ := a, op := o, er := e }).fst.er }).op, er := (mayG L (45 : Int) { at_ := (atomA L { at_ := a, op := o, er := e }).fst.at_, op := (atomA L { at_ := a, op := o, er := e }).fst.op, er := (atomA L { at_ := a, op := o, er := e }).fst.er }).er }).fst.er) 172 [0, 1])], [], 6⟩))]
            else none)
          else none)
        else (bif [(atomA L { at_ := a, op := o, er := e }).snd].all isNd && true then
            k (.t (.agg ⟨(List.take (4 : Nat) (ofG (6 : Int) [(atomA L { at_ := a, op := o, er := e }).snd] ++ [])), [], 4⟩)) [(some (.cells ⟨[(.sl 4 L), (.int .i64 el), (.int .i64 ec), (.int .i64 ((mayG L (45 : Int) { at_ := (atomA L { at_ := a, op := o, er := e }).fst.at_, op := (atomA L { at_ := a, op := o, er := e }).fst.op, er := (atomA L { at_ := a, op := o, er := e }).fst.er }).at_)), (.int .i64 ((mayG L (45 : Int) { at_ := (atomA L { at_ := a, op := o, er := e }).fst.at_, op := (atomA L { at_ := a, op := o, er := e }).fst.op, er := (atomA L { at_ := a, op := o, er := e }).fst.er }).op)), (.er ((mayG L (45 : Int) { at_ := (atomA L { at_ := a, op := o, er := e }).fst.at_, op := (atomA L { at_ := a, op := o, er := e }).fst.op, er := (atomA L { at_ := a, op := o, er := e }).fst.er }).er) 172 [0, 1])], [], 6⟩))]
          else none))
      else none)
    else none) := by kernel_rfl
noncomputable def g_list1_cf (m : Int) (N : Nat) : Cfg := mkCfQ [25, 35] (globG m) vti (orcG4 N) false [] [(2, 135), (999, 64), (1000, 128)]
noncomputable def g_list1_m0 : List Bool := [true, true, true, false, false, false, false, true, false, false, false, false, false, false, false, false, false, false, false, false, false, false]
noncomputable def g_list1_b0 : Code := (cA (cA (cA (cB (cB (bd Tryd.f68))))))
noncomputable def g_list1_S0 (sg : Int) (v1 : Int) (v2 : Int) (v3 : Nat) (L4 : List (List C)) (el5 : Int) (ec6 : Int) (v7 : List (List C)) : St := { env := [(.t (.w (.ptr 0 0))), (vi sg), (vc (.fn 84 [])), vu, vu, vu, vu, (.t (.w (.arr 1))), vu, vu, vu, vu, vu, vu, vu, vu, vu, vu, vu, vu, vu, vu], bx := [(some (.cells ⟨[(.sl 4 L4), (.int .i64 el5), (.int .i64 ec6), (.int .i64 v1), (.int .i64 v2), (.er v3 172 [0, 1])], [], 6⟩)), (some (.arr true (some 47) 4 v7))], np := 1 }
noncomputable def g_list1_L0 {R : Type} (m : Int) (N : Nat) (K : X → St → Option R) (F n : Nat) (sg : Int) (v1 : Int) (v2 : Int) (v3 : Nat) (L4 : List (List C)) (el5 : Int) (ec6 : Int) (v7 : List (List C)) : Option R := loopV (headM g_list1_m0) (exec (g_list1_cf m N) F g_list1_b0) (exitK (g_list1_cf m N) K) n (g_list1_S0 sg v1 v2 v3 L4 el5 ec6 v7)
noncomputable def g_list1_K0 {R : Type} (m : Int) (N : Nat) (k : V → Bx → Option R) (F : Nat) : X → St → Option R := (blockK 0 (seqK (g_list1_cf m N) F (cB (cB (cB (bd Tryd.f68)))) (finK (g_list1_cf m N) Tryd.f68 k)))
noncomputable def g_list1_E1 (sg : Int) (v1 : Int) (v2 : Int) (v3 : Nat) (L4 : List (List C)) (el5 : Int) (ec6 : Int) (v7 : List (List C)) : St := { env := [vu, vu, vu, vu, vu, vu, vu, (.t (.w (.arr 1))), vu, vu, vu, vu, vu, vu, vu, vu, vu, vu, vu, vu, vu, vu], bx := [(some (.cells ⟨[(.sl 4 L4), (.int .i64 el5), (.int .i64 ec6), (.int .i64 ((mayG L4 sg { at_ := v1, op := v2, er := v3 }).at_)), (.int .i64 ((mayG L4 sg { at_ := v1, op := v2, er := v3 }).op)), (.er ((mayG L4 sg { at_ := v1, op := v2, er := v3 }).er) 172 [0, 1])], [], 6⟩)), (some (.arr true (some 47) 4 v7))], np := 1 }
theorem g_list1_c1 {R : Type} (m : Int) (N : Nat) (k : V → Bx → Option R) (F : Nat) (sg : Int) (v1 : Int) (v2 : Int) (v3 : Nat) (L4 : List (List C)) (el5 : Int) (ec6 : Int) (v7 : List (List C)) : g_list1_K0 m N k F (.ex 0) (g_list1_E1 sg v1 v2 v3 L4 el5 ec6 v7) =
    k (vc (.sl 4 v7)) [(some (.cells ⟨[(.sl 4 L4), (.int .i64 el5), (.int .i64 ec6), (.int .i64 ((mayG L4 sg { at_ := v1, op := v2, er := v3 }).at_)), (.int .i64 ((mayG L4 sg { at_ := v1, op := v2, er := v3 }).op)), (.er ((mayG L4 sg { at_ := v1, op := v2, er := v3 }).er) 172 [0, 1])], [], 6⟩))] := by kernel_rfl
theorem g_list1_r0 {R : Type} (m : Int) (N : Nat) (K : X → St → Option R) (F n : Nat) (sg : Int) (v1 : Int) (v2 : Int) (v3 : Nat) (L4 : List (List C)) (el5 : Int) (ec6 : Int) (v7 : List (List C)) : g_list1_L0 m N K F (n + 1) sg v1 v2 v3 L4 el5 ec6 v7 =
    (bif stOk L4 { at_ := v1, op := v2, er := v3 } && true && decide (sg ≠ (0 : Int)) then
      (bif kindG L4 { at_ := v1, op := v2, er := v3 } == sg then
        (bif stOk L4 { at_ := (mayG L4 sg { at_ := v1, op := v2, er := v3 }).at_, op := (mayG L4 sg { at_ := v1, op := v2, er := v3 }).op, er := (mayG L4 sg { at_ := v1, op := v2, er := v3 }).er } && true && decide (lvl { at_ := (mayG L4 sg { at_ := v1, op := v2, er := v3 }).at_, op := (mayG L4 sg { at_ := v1, op := v2, er := v3 }).op, er := (mayG L4 sg { at_ := v1, op := v2, er := v3 }).er } < N) then
          (bif decide ((v7.length + (1 : Nat)) * (64 : Nat) ≤ (140737488355328 : Nat) ∧ v7.length + (1 : Nat) ≤ (9223372036854775807 : Nat)) then
            g_list1_L0 m N K F n sg ((lessA L4 { at_ := (mayG L4 sg { at_ := v1, op := v2, er := v3 }).at_, op := (mayG L4 sg { at_ := v1, op := v2, er := v3 }).op, er := (mayG L4 sg { at_ := v1, op := v2, er := v3 }).er }).fst.at_) ((lessA L4 { at_ := (mayG L4 sg { at_ := v1, op := v2, er := v3 }).at_, op := (mayG L4 sg { at_ := v1, op := v2, er := v3 }).op, er := (mayG L4 sg { at_ := v1, op := v2, er := v3 }).er }).fst.op) ((lessA L4 { at_ := (mayG L4 sg { at_ := v1, op := v2, er := v3 }).at_, op := (mayG L4 sg { at_ := v1, op := v2, er := v3 }).op, er := (mayG L4 sg { at_ := v1, op := v2, er := v3 }).er }).fst.er) L4 el5 ec6 (v7 ++ [(lessA L4 { at_ := (mayG L4 sg { at_ := v1, op := v2, er := v3 }).at_, op := (mayG L4 sg { at_ := v1, op := v2, er := v3 }).op, er := (mayG L4 sg { at_ := v1, op := v2, er := v3 }).er }).snd])
          else none)
        else none)
      else K (.ex 0) (g_list1_E1 sg v1 v2 v3 L4 el5 ec6 v7))
    else none) := by kernel_rfl
theorem g_list1_start {R : Type} (m : Int) (N : Nat) (k : V → Bx → Option R) (F : Nat) (L : List (List C)) (el : Int) (ec : Int) (a : Int) (o : Int) (e : Nat) (sg : Int) : runFn (g_list1_cf m N) F Tryd.f68 (bd Tryd.f68) [pp, vi sg, vc (C.fn (84 : FuncId) [])] [pB L el ec { at_ := a, op := o, er := e }] k =
    (bif stOk L { at_ := a, op := o, er := e } && true && decide (lvl { at_ := a, op := o, er := e } < N) then
      g_list1_L0 m N (g_list1_K0 m N k F) F F sg ((lessA L { at_ := a, op := o, er := e }).fst.at_) ((lessA L { at_ := a, op := o, er := e }).fst.op) ((lessA L { at_ := a, op := o, er := e }).fst.er) L el ec [((lessA L { at_ := a, op := o, er := e }).snd)]
    else none) := by kernel_rfl
noncomputable def g_meet_cf (m : Int) (N : Nat) : Cfg := mkCfQ [25, 35] (globG m) vti (orcG5 N) false [] []
theorem g_meet_start {R : Type} (m : Int) (N : Nat) (k : V → Bx → Option R) (F : Nat) (L : List (List C)) (el : Int) (ec : Int) (a : Int) (o : Int) (e : Nat) : runFn (g_meet_cf m N) F Tryd.f69 (bd Tryd.f69) [pp] [pB L el ec { at_ := a, op := o, er := e }] k =
    (bif stOk L { at_ := a, op := o, er := e } && true && decide (lvl { at_ := a, op := o, er := e } < N) && true then
      (bif (listLess L (38 : Int) { at_ := a, op := o, er := e }).snd.all isNd && decide ((listLess L (38 : Int) { at_ := a, op := o, er := e }).snd.length < (2000000 : Nat)) then
        k (.t (.agg ⟨(List.take (4 : Nat) (ofG (5 : Int) (listLess L (38 : Int) { at_ := a, op := o, er := e }).snd ++ [])), [], 4⟩)) [(some (.cells ⟨[(.sl 4 L), (.int .i64 el), (.int .i64 ec), (.int .i64 ((listLess L (38 : Int) { at_ := a, op := o, er := e }).fst.at_)), (.int .i64 ((listLess L (38 : Int) { at_ := a, op := o, er := e }).fst.op)), (.er ((listLess L (38 : Int) { at_ := a, op := o, er := e }).fst.er) 172 [0, 1])], [], 6⟩))]
      else none)
    else none) := by kernel_rfl
noncomputable def g_list2_cf (m : Int) (N : Nat) : Cfg := mkCfQ [25, 35] (globG m) vti (orcG6 N) false [] [(2, 135), (999, 64), (1000, 128)]
noncomputable def g_list2_m0 : List Bool := [true, true, true, false, false, false, false, true, false, false, false, false, false, false, false, false, false, false, false, false, false, false]
noncomputable def g_list2_b0 : Code := (cA (cA (cA (cB (cB (bd Tryd.f68))))))
noncomputable def g_list2_S0 (sg : Int) (v1 : Int) (v2 : Int) (v3 : Nat) (L4 : List (List C)) (el5 : Int) (ec6 : Int) (v7 : List (List C)) : St := { env := [(.t (.w (.ptr 0 0))), (vi sg), (vc (.fn 69 [])), vu, vu, vu, vu, (.t (.w (.arr 1))), vu, vu, vu, vu, vu, vu, vu, vu, vu, vu, vu, vu, vu, vu], bx := [(some (.cells ⟨[(.sl 4 L4), (.int .i64 el5), (.int .i64 ec6), (.int .i64 v1), (.int .i64 v2), (.er v3 172 [0, 1])], [], 6⟩)), (some (.arr true (some 47) 4 v7))], np := 1 }
noncomputable def g_list2_L0 {R : Type} (m : Int) (N : Nat) (K : X → St → Option R) (F n : Nat) (sg : Int) (v1 : Int) (v2 : Int) (v3 : Nat) (L4 : List (List C)) (el5 : Int) (ec6 : Int) (v7 : List (List C)) : Option R := loopV (headM g_list2_m0) (exec (g_list2_cf m N) F g_list2_b0) (exitK (g_list2_cf m N) K) n (g_list2_S0 sg v1 v2 v3 L4 el5 ec6 v7)
noncomputable def g_list2_K0 {R : Type} (m : Int) (N : Nat) (k : V → Bx → Option R) (F : Nat) : X → St → Option R := (blockK 0 (seqK (g_list2_cf m N) F (cB (cB (cB (bd Tryd.f68)))) (finK (g_list2_cf m N) Tryd.f68 k)))
noncomputable def g_list2_E1 (sg : Int) (v1 : Int) (v2 : Int) (v3 : Nat) (L4 : List (List C)) (el5 : Int) (ec6 : Int) (v7 : List (List C)) : St := { env := [vu, vu, vu, vu, vu, vu, vu, (.t (.w (.arr 1))), vu, vu, vu, vu, vu, vu, vu, vu, vu, vu, vu, vu, vu, vu], bx := [(some (.cells ⟨[(.sl 4 L4), (.int .i64 el5), (.int .i64 ec6), (.int .i64 ((mayG L4 sg { at_ := v1, op := v2, er := v3 }).at_)), (.int .i64 ((mayG L4 sg { at_ := v1, op := v2, er := v3 }).op)), (.er ((mayG L4 sg { at_ := v1, op := v2, er := v3 }).er) 172 [0, 1])], [], 6⟩)), (some (.arr true (some 47) 4 v7))], np := 1 }
theorem g_list2_c1 {R : Type} (m : Int) (N : Nat) (k : V → Bx → Option R) (F : Nat) (sg : Int) (v1 : Int) (v2 : Int) (v3 : Nat) (L4 : List (List C)) (el5 : Int) (ec6 : Int) (v7 : List (List C)) : g_list2_K0 m N k F (.ex 0) (g_list2_E1 sg v1 v2 v3 L4 el5 ec6 v7) =
    k (vc (.sl 4 v7)) [(some (.cells ⟨[(.sl 4 L4), (.int .i64 el5), (.int .i64 ec6), (.int .i64 ((mayG L4 sg { at_ := v1, op := v2, er := v3 }).at_)), (.int .i64 ((mayG L4 sg { at_ := v1, op := v2, er := v3 }).op)), (.er ((mayG L4 sg { at_ := v1, op := v2, er := v3 }).er) 172 [0, 1])], [], 6⟩))] := by kernel_rfl
theorem g_list2_r0 {R : Type} (m : Int) (N : Nat) (K : X → St → Option R) (F n : Nat) (sg : Int) (v1 : Int) (v2 : Int) (v3 : Nat) (L4 : List (List C)) (el5 : Int) (ec6 : Int) (v7 : List (List C)) : g_list2_L0 m N K F (n + 1) sg v1 v2 v3 L4 el5 ec6 v7 =
    (bif stOk L4 { at_ := v1, op := v2, er := v3 } && true && decide (sg ≠ (0 : Int)) then
      (bif kindG L4 { at_ := v1, op := v2, er := v3 } == sg then
        (bif stOk L4 { at_ := (mayG L4 sg { at_ := v1, op := v2, er := v3 }).at_, op := (mayG L4 sg { at_ := v1, op := v2, er := v3 }).op, er := (mayG L4 sg { at_ := v1, op := v2, er := v3 }).er } && true && decide (lvl { at_ := (mayG L4 sg { at_ := v1, op := v2, er := v3 }).at_, op := (mayG L4 sg { at_ := v1, op := v2, er := v3 }).op, er := (mayG L4 sg { at_ := v1, op := v2, er := v3 }).er } < N) then
          (bif decide ((v7.length + (1 : Nat)) * (64 : Nat) ≤ (140737488355328 : Nat) ∧ v7.length + (1 : Nat) ≤ (9223372036854775807 : Nat)) then
            g_list2_L0 m N K F n sg ((meetA L4 { at_ := (mayG L4 sg { at_ := v1, op := v2, er := v3 }).at_, op := (mayG L4 sg { at_ := v1, op := v2, er := v3 }).op, er := (mayG L4 sg { at_ := v1, op := v2, er := v3 }).er }).fst.at_) ((meetA L4 { at_ := (mayG L4 sg { at_ := v1, op := v2, er := v3 }).at_, op := (mayG L4 sg { at_ := v1, op := v2, er := v3 }).op, er := (mayG L4 sg { at_ := v1, op := v2, er := v3 }).er }).fst.op) ((meetA L4 { at_ := (mayG L4 sg { at_ := v1, op := v2, er := v3 }).at_, op := (mayG L4 sg { at_ := v1, op := v2, er := v3 }).op, er := (mayG L4 sg { at_ := v1, op := v2, er := v3 }).er }).fst.er) L4 el5 ec6 (v7 ++ [(meetA L4 { at_ := (mayG L4 sg { at_ := v1, op := v2, er := v3 }).at_, op := (mayG L4 sg { at_ := v1, op := v2, er := v3 }).op, er := (mayG L4 sg { at_ := v1, op := v2, er := v3 }).er }).snd])
          else none)
        else none)
      else K (.ex 0) (g_list2_E1 sg v1 v2 v3 L4 el5 ec6 v7))
    else none) := by kernel_rfl
theorem g_list2_start {R : Type} (m : Int) (N : Nat) (k : V → Bx → Option R) (F : Nat) (L : List (List C)) (el : Int) (ec : Int) (a : Int) (o : Int) (e : Nat) (sg : Int) : runFn (g_list2_cf m N) F Tryd.f68 (bd Tryd.f68) [pp, vi sg, vc (C.fn (69 : FuncId) [])] [pB L el ec { at_ := a, op := o, er := e }] k =
    (bif stOk L { at_ := a, op := o, er := e } && true && decide (lvl { at_ := a, op := o, er := e } < N) then
      g_list2_L0 m N (g_list2_K0 m N k F) F F sg ((meetA L { at_ := a, op := o, er := e }).fst.at_) ((meetA L { at_ := a, op := o, er := e }).fst.op) ((meetA L { at_ := a, op := o, er := e }).fst.er) L el ec [((meetA L { at_ := a, op := o, er := e }).snd)]
    else none) := by kernel_rfl
noncomputable def g_union_cf (m : Int) (N : Nat) : Cfg := mkCfQ [25, 35] (globG m) vti (orcG7 N) false [] []
theorem g_union_start {R : Type} (m : Int) (N : Nat) (k : V → Bx → Option R) (F : Nat) (L : List (List C)) (el : Int) (ec : Int) (a : Int) (o : Int) (e : Nat) : runFn (g_union_cf m N) F Tryd.f46 (bd Tryd.f46) [pp] [pB L el ec { at_ := a, op := o, er := e }] k =
    (bif stOk L { at_ := a, op := o, er := e } && true && decide (lvl { at_ := a, op := o, er := e } < N) && true then
      (bif (listMeet L (124 : Int) { at_ := a, op := o, er := e }).snd.all isNd && decide ((listMeet L (124 : Int) { at_ := a, op := o, er := e }).snd.length < (2000000 : Nat)) then
        k (.t (.agg ⟨(List.take (4 : Nat) (ofG (4 : Int) (listMeet L (124 : Int) { at_ := a, op := o, er := e }).snd ++ [])), [], 4⟩)) [(some (.cells ⟨[(.sl 4 L), (.int .i64 el), (.int .i64 ec), (.int .i64 ((listMeet L (124 : Int) { at_ := a, op := o, er := e }).fst.at_)), (.int .i64 ((listMeet L (124 : Int) { at_ := a, op := o, er := e }).fst.op)), (.er ((listMeet L (124 : Int) { at_ := a, op := o, er := e }).fst.er) 172 [0, 1])], [], 6⟩))]
      else none)
    else none) := by kernel_rfl
end Go.Proofs.YtniiimpcakmkbaaDoor

/- grammar: the parts of the expression's parser answer by their trees -/
set_option linter.unusedVariables false
namespace Go.Proofs.YtniiimpcakmkbaaDoor
open Go Vm Go.RowKit
theorem gs_eq {gs : List Nat} (h : gsOk gs = true) : gs = [0, 1] := by simpa [gsOk] using h
theorem tok_at {L : List (List C)} (h : L.all isTok = true) {i : Nat} (hi : i < L.length) : ∃ (k : Int) (t : ByteArray) (l c : Int), L[i]? = some [.int .i64 k, .str t, .int .i64 l, .int .i64 c] ∧ tkK L i = k ∧ tkT L i = t := by
  have h1 := List.all_eq_true.1 h L[i] (List.getElem_mem hi)
  have h2 : L[i]? = some L[i] := List.getElem?_eq_getElem hi
  generalize L[i] = x at h1 h2
  unfold isTok at h1
  split at h1
  · rename_i k t l c
    refine ⟨k, t, l, c, h2, ?_, ?_⟩
    · unfold tkK; rw [Int.toNat_natCast, List.getD_eq_getElem?_getD (l := L), h2]; rfl
    · unfold tkT; rw [Int.toNat_natCast, List.getD_eq_getElem?_getD (l := L), h2]; rfl
  · cases h1
theorem gkind_ok (m : Int) : SpecOk Tryd.prog (globG m) 73 gKindS := by
  intro a b v b' h
  unfold gKindS at h
  split at h
  · rename_i L el ec a o e gs
    rcases run_ite h with ⟨hl, hx⟩ | ⟨_, hx⟩ <;> clear h <;> have h := hx <;> clear hx
    · rw [Bool.and_eq_true, stOk_iff] at hl
      obtain ⟨hs, hg⟩ := hl
      obtain rfl := gs_eq hg
      refine specAtQ eqs_ok mix vti_ok Tryd.func73 rfl (by kernel_rfl) .nil 0 (Eq.trans (g_kind_start m fin2 0 L el ec a o e) ?_)
      unfold kindG at h
      cases he : Nat.beq e 0 with
      | false => rw [he] at h; exact h
      | true =>
        rw [he] at h
        simp only [Bool.not_true, cond_false] at h ⊢
        by_cases hlt : a ≥ (L.length : Int)
        · rw [decide_eq_true hlt, cond_true] at h ⊢; exact h
        · rw [decide_eq_false hlt, cond_false] at h ⊢
          have h0 := hs.a0
          simp only at h0
          obtain ⟨i, rfl⟩ : ∃ i : Nat, a = i := ⟨a.toNat, by omega⟩
          obtain ⟨k, t, l, c, hL, hk, _⟩ := tok_at hs.tk (i := i) (by omega)
          rw [decide_eq_true (by omega), cond_true, getT_at rfl hL, getT_some (x := C.int .i64 k) rfl]
          rw [hk] at h
          exact h
    · exact (run_no h).elim
  · cases h
theorem gfailS_ok (m : Int) : SpecOk Tryd.prog (globG m) 64 gFailS := by
  intro a b v b' h
  unfold gFailS at h
  split at h
  · rename_i x gs' L el ec a o e gs
    rcases run_ite h with ⟨hl, hx⟩ | ⟨_, hx⟩ <;> clear h <;> have h := hx <;> clear hx
    · rw [Bool.and_eq_true] at hl
      obtain rfl := gs_eq hl.1
      obtain rfl := gs_eq hl.2
      refine specAtQ eqs_ok mix vti_ok Tryd.func64 rfl (by kernel_rfl) .nil 0 (Eq.trans (g_fail_start m fin2 0 L el ec a o e x) ?_)
      unfold failG at h
      cases he : Nat.beq e 0 with
      | false => rw [he] at h; exact h
      | true => rw [he] at h; exact h
    · exact (run_no h).elim
  · cases h
theorem tabGA_ok (m : Int) : TabS Tryd.prog (globG m) tabGA := .cons (gkind_ok m) (.cons (gfailS_ok m) .nil)
theorem gtakeS_ok (m : Int) : SpecOk Tryd.prog (globG m) 90 gTakeS := by
  intro a b v b' h
  unfold gTakeS at h
  split at h
  · rename_i k L el ec a o e gs
    rcases run_ite h with ⟨hl, hx⟩ | ⟨_, hx⟩ <;> clear h <;> have h := hx <;> clear hx
    · rw [Bool.and_eq_true, Bool.and_eq_true, stOk_iff, decide_eq_true_eq] at hl
      obtain ⟨⟨hs, hg⟩, hk⟩ := hl
      obtain rfl := gs_eq hg
      refine specAtQ eqs_ok mix vti_ok Tryd.func90 rfl (by kernel_rfl) (tabGA_ok m) 0 (Eq.trans (g_take_start m fin2 0 L el ec a o e k) ?_)
      rw [stOk_iff.2 hs, Bool.and_self, cond_true]
      unfold takeG at h
      cases hc : kindG L ⟨a, o, e⟩ == k with
      | false =>
        have : (kindG L ⟨a, o, e⟩ != k) = true := by unfold bne; rw [hc]; rfl
        rw [this, cond_true]
        rw [hc] at h
        exact h
      | true =>
        have : (kindG L ⟨a, o, e⟩ != k) = false := by unfold bne; rw [hc]; rfl
        rw [this, cond_false]
        rw [hc, cond_true] at h
        obtain ⟨_, hlt, _⟩ := kind_some hk hc
        have h0 := hs.a0
        have hlen := hs.len
        simp only at h0 hlt
        obtain ⟨i, rfl⟩ : ∃ i : Nat, a = i := ⟨a.toNat, by omega⟩
        obtain ⟨k', t, l, c, hL, _, ht⟩ := tok_at hs.tk (i := i) (by omega)
        have w1 : IntKind.i64.wrap ((i : Int) + 1) = (i : Int) + 1 := w64 _ (by omega) (by omega)
        have w2 : IntKind.i64.wrap ((i : Int) + 1 - 1) = (i : Int) := by rw [w64 _ (by omega) (by omega)]; omega
        rw [w1, w2, decide_eq_true (by omega), cond_true, getT_at rfl hL, getT_some (x := C.str t) rfl]
        simp only [nextG, ht] at h
        exact h
    · exact (run_no h).elim
  · cases h
theorem gmayS_ok (m : Int) : SpecOk Tryd.prog (globG m) 83 gMayS := by
  intro a b v b' h
  unfold gMayS at h
  split at h
  · rename_i k L el ec a o e gs
    rcases run_ite h with ⟨hl, hx⟩ | ⟨_, hx⟩ <;> clear h <;> have h := hx <;> clear hx
    · rw [Bool.and_eq_true, Bool.and_eq_true, stOk_iff, decide_eq_true_eq] at hl
      obtain ⟨⟨hs, hg⟩, hk⟩ := hl
      obtain rfl := gs_eq hg
      refine specAtQ eqs_ok mix vti_ok Tryd.func83 rfl (by kernel_rfl) (tabGA_ok m) 0 (Eq.trans (g_may_start m fin2 0 L el ec a o e k) ?_)
      rw [stOk_iff.2 hs, Bool.and_self, cond_true]
      unfold mayG at h
      cases hc : kindG L ⟨a, o, e⟩ == k with
      | false =>
        have : (kindG L ⟨a, o, e⟩ != k) = true := by unfold bne; rw [hc]; rfl
        rw [this, cond_true]
        rw [hc] at h
        exact h
      | true =>
        have : (kindG L ⟨a, o, e⟩ != k) = false := by unfold bne; rw [hc]; rfl
        rw [this, cond_false]
        rw [hc] at h
        obtain ⟨_, hlt, _⟩ := kind_some hk hc
        have h0 := hs.a0
        have hlen := hs.len
        simp only at h0 hlt
        rw [w64 (a + 1) (by omega) (by omega)]
        exact h
    · exact (run_no h).elim
  · cases h
theorem isNd_parts {x : Nde} (h : isNd x = true) : ∃ (k : Int) (a b : ByteArray) (l : List (List C)), x = ndC k a b l := by
  unfold isNd at h
  split at h
  · exact ⟨_, _, _, _, rfl⟩
  · cases h
theorem gofS_ok (m : Int) : SpecOk Tryd.prog (globG m) 67 gOfS := by
  intro a b v b' h
  unfold gOfS at h
  split at h
  · rename_i k l
    rcases run_ite h with ⟨hl, hx⟩ | ⟨_, hx⟩ <;> clear h <;> have h := hx <;> clear hx
    · rw [Bool.and_eq_true] at hl
      refine specAtQ eqs_ok mix vti_ok Tryd.func67 rfl (by kernel_rfl) .nil 0 (Eq.trans (g_of_start m fin2 0 l k) ?_)
      unfold ofG at h
      cases h1 : l.length == 1 with
      | false =>
        have : ((l.length : Int) == 1) = false := by rw [beq_eq_false_iff_ne] at h1 ⊢; omega
        rw [this, cond_false]
        rw [h1] at h
        exact h
      | true =>
        have : ((l.length : Int) == 1) = true := by rw [beq_iff_eq] at h1 ⊢; omega
        rw [this, cond_true]
        rw [h1, cond_true] at h
        match l, h1, hl, h with
        | [x], _, hl, h =>
          obtain ⟨k', a, b, l', rfl⟩ := isNd_parts (show isNd x = true by simpa using hl.1)
          rw [getT_some (x := ndC k' a b l') rfl]
          exact h
    · exact (run_no h).elim
  · cases h
theorem tabGB_ok (m : Int) : TabS Tryd.prog (globG m) tabGB := .cons (gkind_ok m) (.cons (gfailS_ok m) (.cons (gtakeS_ok m) (.cons (gmayS_ok m) (.cons (gofS_ok m) .nil))))
theorem take4 {x : Nde} (h : isNd x = true) : List.take 4 (x ++ []) = x := by
  obtain ⟨_, _, _, _, rfl⟩ := isNd_parts h; rfl
/-- what the state's tests want -/
theorem st_t {L : List (List C)} {s : PS} (h : St8 L s) : stOk L s = true := stOk_iff.2 h
theorem rd_ok {m : Int} {fn : FuncId} {N : Nat} {f : List (List C) → PS → PS × Nde}
    (h : ∀ (L : List (List C)) (el ec a o : Int) (e : Nat), St8 L ⟨a, o, e⟩ → lvl ⟨a, o, e⟩ < N → FnRes Tryd.prog (globG m) fn [pp] [pB L el ec ⟨a, o, e⟩] (ndV (f L ⟨a, o, e⟩).2) [pB L el ec (f L ⟨a, o, e⟩).1]) : SpecOk Tryd.prog (globG m) fn (rdS f N) := by
  intro a b v b' hr
  unfold rdS at hr
  split at hr
  · rename_i L el ec a o e gs
    rcases run_ite hr with ⟨hl, hx⟩ | ⟨_, hx⟩ <;> clear hr <;> have hr := hx <;> clear hx
    · rw [Bool.and_eq_true, Bool.and_eq_true, stOk_iff, decide_eq_true_eq] at hl
      obtain ⟨⟨hs, hg⟩, hlv⟩ := hl
      obtain rfl := gs_eq hg
      obtain ⟨rfl, rfl⟩ := run_ret hr
      exact h L el ec a o e hs hlv
    · exact (run_no hr).elim
  · cases hr
/-- brackets, where what they hold is read by its spec -/
theorem gbr_ok (m : Int) (N : Nat) (hu : SpecOk Tryd.prog (globG m) 46 (rdS unionA N)) : SpecOk Tryd.prog (globG m) 101 (brS (N + 1)) := by
  intro a b v b' h
  unfold brS at h
  split at h
  · rename_i L el ec a o e gs
    rcases run_ite h with ⟨hl, hx⟩ | ⟨_, hx⟩ <;> clear h <;> have h := hx <;> clear hx
    · rw [Bool.and_eq_true, Bool.and_eq_true, Bool.and_eq_true, stOk_iff, decide_eq_true_eq] at hl
      obtain ⟨⟨⟨hs, hg⟩, hlv⟩, hk⟩ := hl
      obtain rfl := gs_eq hg
      refine specAtQ eqs_ok mix vti_ok Tryd.func101 rfl (by kernel_rfl) (.cons hu (tabGB_ok m)) 0 (Eq.trans (g_brackets_start m N fin2 0 L el ec a o e) ?_)
      rw [atomA_eq] at h
      unfold atomG at h
      rw [hk, cond_true] at h
      by_cases h8 : o ≥ 8
      · rw [decide_eq_true h8, cond_true] at h ⊢; exact h
      · rw [decide_eq_false h8, cond_false] at h ⊢
        have ho := hs.o0
        simp only at ho
        have w1 : IntKind.i64.wrap (o + 1) = o + 1 := w64 _ (by omega) (by omega)
        have h1 : St8 L ⟨a, o + 1, e⟩ := ⟨hs.tk, hs.len, hs.a0, hs.a1, by simp only; omega, by simp only; omega, hs.e2⟩
        rw [w1]
        simp only [Bool.and_true]
        obtain ⟨h2, f2⟩ := gtake_ok h1 (k := 40) (by decide)
        obtain ⟨d', hd, hl⟩ : ∃ d', lvl ⟨a, o, e⟩ = d' + 1 ∧ lvl (takeG L 40 ⟨a, o + 1, e⟩).1 = d' := by
          refine ⟨(7 - o).toNat, ?_, ?_⟩
          · unfold lvl; simp only; omega
          · rw [lvl_fol f2]; unfold lvl; simp only; omega
        have hun : innerN L (lvl ⟨a, o, e⟩) (takeG L 40 ⟨a, o + 1, e⟩).1 = unionA L (takeG L 40 ⟨a, o + 1, e⟩).1 := by
          rw [hd, unionA_eq, hl]; exact congrFun (unionN_eq L d') _
        simp only [hun] at h
        obtain ⟨h3, f3, n3⟩ := unionA_good h2
        obtain ⟨h4, f4⟩ := gtake_ok h3 (k := 41) (by decide)
        have f5 := (f2.trans f3).trans f4
        have e5 : (takeG L 41 (unionA L (takeG L 40 ⟨a, o + 1, e⟩).1).1).1.op = o + 1 := f5.o
        rw [st_t h1, cond_true, st_t h2, Bool.true_and, decide_eq_true (by rw [hl]; omega), cond_true, st_t h3, cond_true, take4 (x := List.take 4 ((unionA L (takeG L 40 ⟨a, o + 1, e⟩).1).2 ++ [])) (by rw [take4 n3]; exact n3), take4 n3,
          w64 _ (by rw [e5]; omega) (by rw [e5]; omega)]
        exact h
    · exact (run_no h).elim
  · cases h
theorem gatom_ok (m : Int) (N : Nat) (hb : SpecOk Tryd.prog (globG m) 101 (brS N)) : SpecOk Tryd.prog (globG m) 94 (rdS atomA N) := by
  refine rd_ok fun L el ec a o e hs hlv => ?_
  refine specAtQ eqs_ok mix vti_ok Tryd.func94 rfl (by kernel_rfl) (.cons hb (tabGB_ok m)) 0 (Eq.trans (g_atom_start m N fin2 0 L el ec a o e) ?_)
  simp only [Bool.and_true]
  obtain ⟨g1, gf, gn⟩ := atomA_good hs
  rw [st_t hs, cond_true]
  cases h40 : kindG L ⟨a, o, e⟩ == 40 with
  | true =>
    rw [cond_true, decide_eq_true hlv, Bool.and_self, Bool.and_self, cond_true, take4 gn]
  | false =>
    have hat : atomA L ⟨a, o, e⟩ = bif kindG L ⟨a, o, e⟩ == 4 then (nextG ⟨a, o, e⟩, ndC 1 bE bE []) else bif kindG L (takeG L 1 ⟨a, o, e⟩).1 == 5 then ((takeG L 1 (nextG (takeG L 1 ⟨a, o, e⟩).1)).1, ndC 3 (takeG L 1 ⟨a, o, e⟩).2 (takeG L 1 (nextG (takeG L 1 ⟨a, o, e⟩).1)).2 []) else ((takeG L 1 ⟨a, o, e⟩).1, ndC 2 (takeG L 1 ⟨a, o, e⟩).2 bE []) := by
      rw [atomA_eq]; unfold atomG; rw [h40]; rfl
    rw [cond_false, cond_true, hat]
    cases h4 : kindG L ⟨a, o, e⟩ == 4 with
    | true => rw [cond_true, cond_true, may_yes h4]; rfl
    | false =>
      rw [cond_false, cond_false, may_no h4, st_t hs, cond_true]
      obtain ⟨h1, f1⟩ := gtake_ok hs (k := 1) (by decide)
      rw [st_t h1, cond_true]
      cases h5 : kindG L (takeG L 1 ⟨a, o, e⟩).1 == 5 with
      | true =>
        obtain ⟨h2, f2⟩ := gnext_ok h1 (kind_some (by decide) h5).2.1
        rw [cond_true, cond_true, may_yes h5, st_t h2, cond_true]
      | false => rw [cond_false, cond_false, may_no h5]; rfl
theorem gless_ok (m : Int) (N : Nat) (ha : SpecOk Tryd.prog (globG m) 94 (rdS atomA N)) : SpecOk Tryd.prog (globG m) 84 (rdS lessA N) := by
  refine rd_ok fun L el ec a o e hs hlv => ?_
  refine specAtQ eqs_ok mix vti_ok Tryd.func84 rfl (by kernel_rfl) (.cons ha (tabGB_ok m)) 0 (Eq.trans (g_less_start m N fin2 0 L el ec a o e) ?_)
  simp only [Bool.and_true]
  obtain ⟨g1, f1, n1⟩ := atomA_good hs
  rw [st_t hs, Bool.true_and, decide_eq_true hlv, cond_true, st_t g1, cond_true, lessA_step hs]
  cases hk : kindG L (atomA L ⟨a, o, e⟩).1 == 45 with
  | true =>
    obtain ⟨g2, f2⟩ := gnext_ok g1 (kind_some (by decide) hk).2.1
    obtain ⟨g3, f3, n3⟩ := atomA_good g2
    have hlv2 : lvl (nextG (atomA L ⟨a, o, e⟩).1) < N := by rw [lvl_fol (f1.trans f2)]; exact hlv
    rw [cond_true, cond_true, may_yes hk, st_t g2, Bool.true_and, decide_eq_true hlv2, cond_true]
    have : ([(atomA L ⟨a, o, e⟩).2, (atomA L (nextG (atomA L ⟨a, o, e⟩).1)).2].all isNd) = true := by simp [n1, n3]
    rw [this, cond_true]
  | false =>
    have : ([(atomA L ⟨a, o, e⟩).2].all isNd) = true := by simp [n1]
    have e1 : ofG 6 [(atomA L ⟨a, o, e⟩).2] = (atomA L ⟨a, o, e⟩).2 := rfl
    rw [cond_false, cond_false, this, cond_true, may_no hk, e1, take4 n1]
/-- the loop of list -/
theorem glist1_loop {R : Type} (m : Int) (N : Nat) (k : V → Bx → Option R) (F : Nat) (L : List (List C)) (el ec sg : Int) (hsg : sg ≠ 0) (d : Nat) (hd : d < N) : ∀ (n n' : Nat) (s : PS) (out : List Nde), St8 L s → lvl s = d → (L.length : Int) - s.at_ < n → (L.length : Int) - s.at_ < n' → (out.length : Int) + (L.length - s.at_) < 2000000 →
    g_list1_L0 m N (g_list1_K0 m N k F) F n sg s.at_ s.op s.er L el ec out = k (vc (.sl 4 (moreG L (lessG L (innerN L d)) sg n' s out).2)) [pB L el ec (moreG L (lessG L (innerN L d)) sg n' s out).1] := by
  intro n
  induction n with
  | zero => intro n' s out h _ h1; have := h.a1; omega
  | succ n ih =>
    intro n' s out h hl h1 h2 h3
    cases n' with
    | zero => have := h.a1; omega
    | succ n' =>
      rw [g_list1_r0]
      simp only [PS.eta, Bool.and_true]
      unfold moreG
      rw [st_t h, Bool.true_and, decide_eq_true hsg, cond_true]
      cases hk : kindG L s == sg with
      | false => rw [cond_false, cond_false, g_list1_c1]; simp only [PS.eta, may_no hk]
      | true =>
        obtain ⟨_, hlt, _⟩ := kind_some hsg hk
        obtain ⟨g2, f2⟩ := gnext_ok h hlt
        obtain ⟨g3, f3, n3⟩ := lessA_good g2
        have hl2 : lvl (nextG s) = d := (lvl_fol f2).trans hl
        have e1 := f3.a
        have e2 : (nextG s).at_ = s.at_ + 1 := rfl
        have hls : lessA L (nextG s) = lessG L (innerN L d) (nextG s) := by rw [lessA_eq, hl2]
        have ha1 := g3.a1
        rw [cond_true, cond_true, may_yes hk, st_t g2, Bool.true_and, decide_eq_true (by rw [hl2]; exact hd), cond_true, decide_eq_true ⟨by omega, by omega⟩, cond_true, ← hls]
        exact ih n' _ _ g3 ((lvl_fol f3).trans hl2) (by push_cast at h1; omega) (by push_cast at h2; omega) (by simp only [List.length_append, List.length_cons, List.length_nil]; push_cast; omega)
theorem glist1_ok (m : Int) (N : Nat) (hb : SpecOk Tryd.prog (globG m) 84 (rdS lessA N)) : SpecOk Tryd.prog (globG m) 68 (listS1 N) := by
  intro a b v b' h
  unfold listS1 at h
  split at h
  · rename_i sg L el ec a o e gs
    rcases run_ite h with ⟨hl, hx⟩ | ⟨_, hx⟩ <;> clear h <;> have h := hx <;> clear hx
    · rw [Bool.and_eq_true, Bool.and_eq_true, Bool.and_eq_true, stOk_iff, decide_eq_true_eq, decide_eq_true_eq] at hl
      obtain ⟨⟨⟨hs, hg⟩, hlv⟩, hsg⟩ := hl
      obtain rfl := gs_eq hg
      obtain ⟨rfl, rfl⟩ := run_ret h
      refine specAtQ eqs_ok mix vti_ok Tryd.func68 rfl (by kernel_rfl) (.cons hb (tabGB_ok m)) (L.length + 1) (Eq.trans (g_list1_start m N fin2 _ L el ec a o e sg) ?_)
      obtain ⟨g1, f1, n1⟩ := lessA_good hs
      have ha1 := g1.a0
      have hlen := hs.len
      simp only [Bool.and_true]
      rw [st_t hs, Bool.true_and, decide_eq_true hlv, cond_true, glist1_loop m N fin2 _ L el ec sg hsg _ hlv (L.length + 1) (L.length + 1) _ _ g1 (lvl_fol f1) (by push_cast; omega) (by push_cast; omega) (by simp only [List.length_cons, List.length_nil]; push_cast; omega)]
      rw [listLess_eq, lessA_eq]
      rfl
    · exact (run_no h).elim
  · cases h
theorem gmeet_ok (m : Int) (N : Nat) (hb : SpecOk Tryd.prog (globG m) 68 (listS1 N)) : SpecOk Tryd.prog (globG m) 69 (rdS meetA N) := by
  refine rd_ok fun L el ec a o e hs hlv => ?_
  refine specAtQ eqs_ok mix vti_ok Tryd.func69 rfl (by kernel_rfl) (.cons hb (tabGB_ok m)) 0 (Eq.trans (g_meet_start m N fin2 0 L el ec a o e) ?_)
  obtain ⟨x1, x2, x3, x4⟩ := listLess_good hs (sg := 38) (by decide)
  simp only [Bool.and_true]
  rw [st_t hs, Bool.true_and, decide_eq_true hlv, cond_true, x3, Bool.true_and, decide_eq_true (by omega), cond_true, take4 (of_nd x3), meetA_step]
theorem glist2_loop {R : Type} (m : Int) (N : Nat) (k : V → Bx → Option R) (F : Nat) (L : List (List C)) (el ec sg : Int) (hsg : sg ≠ 0) (d : Nat) (hd : d < N) : ∀ (n n' : Nat) (s : PS) (out : List Nde), St8 L s → lvl s = d → (L.length : Int) - s.at_ < n → (L.length : Int) - s.at_ < n' → (out.length : Int) + (L.length - s.at_) < 2000000 →
    g_list2_L0 m N (g_list2_K0 m N k F) F n sg s.at_ s.op s.er L el ec out = k (vc (.sl 4 (moreG L (meetG L (innerN L d)) sg n' s out).2)) [pB L el ec (moreG L (meetG L (innerN L d)) sg n' s out).1] := by
  intro n
  induction n with
  | zero => intro n' s out h _ h1; have := h.a1; omega
  | succ n ih =>
    intro n' s out h hl h1 h2 h3
    cases n' with
    | zero => have := h.a1; omega
    | succ n' =>
      rw [g_list2_r0]
      simp only [PS.eta, Bool.and_true]
      unfold moreG
      rw [st_t h, Bool.true_and, decide_eq_true hsg, cond_true]
      cases hk : kindG L s == sg with
      | false => rw [cond_false, cond_false, g_list2_c1]; simp only [PS.eta, may_no hk]
      | true =>
        obtain ⟨_, hlt, _⟩ := kind_some hsg hk
        obtain ⟨g2, f2⟩ := gnext_ok h hlt
        obtain ⟨g3, f3, n3⟩ := meetA_good g2
        have hl2 : lvl (nextG s) = d := (lvl_fol f2).trans hl
        have e1 := f3.a
        have e2 : (nextG s).at_ = s.at_ + 1 := rfl
        have hls : meetA L (nextG s) = meetG L (innerN L d) (nextG s) := by rw [meetA_eq, hl2]
        have ha1 := g3.a1
        rw [cond_true, cond_true, may_yes hk, st_t g2, Bool.true_and, decide_eq_true (by rw [hl2]; exact hd), cond_true, decide_eq_true ⟨by omega, by omega⟩, cond_true, ← hls]
        exact ih n' _ _ g3 ((lvl_fol f3).trans hl2) (by push_cast at h1; omega) (by push_cast at h2; omega) (by simp only [List.length_append, List.length_cons, List.length_nil]; push_cast; omega)
theorem glist2_ok (m : Int) (N : Nat) (hb : SpecOk Tryd.prog (globG m) 69 (rdS meetA N)) : SpecOk Tryd.prog (globG m) 68 (listS2 N) := by
  intro a b v b' h
  unfold listS2 at h
  split at h
  · rename_i sg L el ec a o e gs
    rcases run_ite h with ⟨hl, hx⟩ | ⟨_, hx⟩ <;> clear h <;> have h := hx <;> clear hx
    · rw [Bool.and_eq_true, Bool.and_eq_true, Bool.and_eq_true, stOk_iff, decide_eq_true_eq, decide_eq_true_eq] at hl
      obtain ⟨⟨⟨hs, hg⟩, hlv⟩, hsg⟩ := hl
      obtain rfl := gs_eq hg
      obtain ⟨rfl, rfl⟩ := run_ret h
      refine specAtQ eqs_ok mix vti_ok Tryd.func68 rfl (by kernel_rfl) (.cons hb (tabGB_ok m)) (L.length + 1) (Eq.trans (g_list2_start m N fin2 _ L el ec a o e sg) ?_)
      obtain ⟨g1, f1, n1⟩ := meetA_good hs
      have ha1 := g1.a0
      have hlen := hs.len
      simp only [Bool.and_true]
      rw [st_t hs, Bool.true_and, decide_eq_true hlv, cond_true, glist2_loop m N fin2 _ L el ec sg hsg _ hlv (L.length + 1) (L.length + 1) _ _ g1 (lvl_fol f1) (by push_cast; omega) (by push_cast; omega) (by simp only [List.length_cons, List.length_nil]; push_cast; omega)]
      rw [listMeet_eq, meetA_eq]
      rfl
    · exact (run_no h).elim
  · cases h
theorem gunion_ok (m : Int) (N : Nat) (hb : SpecOk Tryd.prog (globG m) 68 (listS2 N)) : SpecOk Tryd.prog (globG m) 46 (rdS unionA N) := by
  refine rd_ok fun L el ec a o e hs hlv => ?_
  refine specAtQ eqs_ok mix vti_ok Tryd.func46 rfl (by kernel_rfl) (.cons hb (tabGB_ok m)) 0 (Eq.trans (g_union_start m N fin2 0 L el ec a o e) ?_)
  obtain ⟨x1, x2, x3, x4⟩ := listMeet_good hs (sg := 124) (by decide)
  simp only [Bool.and_true]
  rw [st_t hs, Bool.true_and, decide_eq_true hlv, cond_true, x3, Bool.true_and, decide_eq_true (by omega), cond_true, take4 (of_nd x3), unionA_step]
/-- all of the expression's parser, to whatever depth -/
theorem gunion_all (m : Int) : ∀ N, SpecOk Tryd.prog (globG m) 46 (rdS unionA N) := by
  intro N
  induction N with
  | zero => exact rd_ok fun L el ec a o e hs hlv => by omega
  | succ N ih => exact gunion_ok m _ (glist2_ok m _ (gmeet_ok m _ (glist1_ok m _ (gless_ok m _ (gatom_ok m _ (gbr_ok m N ih))))))
end Go.Proofs.YtniiimpcakmkbaaDoor
