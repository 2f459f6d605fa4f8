/- grammar: specs -/
import Derived.Test.YtniiimpcakmkbaaDoorSgK
set_option linter.unusedVariables false
namespace Go.Proofs.YtniiimpcakmkbaaDoor
open Go Vm
/-- the package variables that are read, the two errors by labels -/
def globG (m : Int) : Nat → Option (List C) := fun g => bif Nat.beq g 0 then some [.er 1 172 [0, 1]] else bif Nat.beq g 1 then some [.er 2 172 [0, 1]] else globT m g
def isTok : List C → Bool
  | [.int .i64 _, .str _, .int .i64 _, .int .i64 _] => true
  | _ => false
structure PS where
  at_ : Int
  op : Int
  er : Nat
abbrev pM (L : List (List C)) (el ec : Int) (s : PS) : M := ⟨[.sl 4 L, .int .i64 el, .int .i64 ec, .int .i64 s.at_, .int .i64 s.op, .er s.er 172 [0, 1]], [], 6⟩
abbrev pB (L : List (List C)) (el ec : Int) (s : PS) : Option Box := some (.cells (pM L el ec s))
def tkK (L : List (List C)) (i : Int) : Int := ((L.getD i.toNat []).getD 0 .nf).toInt
def tkT (L : List (List C)) (i : Int) : ByteArray := ((L.getD i.toNat []).getD 1 .nf).toStr
def stOk (L : List (List C)) (s : PS) : Bool := L.all isTok && decide (L.length < 1000000) && decide (0 ≤ s.at_) && decide (s.at_ ≤ L.length) && decide (0 ≤ s.op) && decide (s.op ≤ 8) && decide (s.er ≤ 2)
def gsOk (gs : List Nat) : Bool := gs == [0, 1]
def kindG (L : List (List C)) (s : PS) : Int := bif !(Nat.beq s.er 0) then 0 else bif decide (s.at_ ≥ (L.length : Int)) then 0 else tkK L s.at_
def nextG (s : PS) : PS := ⟨s.at_ + 1, s.op, s.er⟩
def failG (n : Nat) (s : PS) : PS := ⟨s.at_, s.op, bif Nat.beq s.er 0 then n else s.er⟩
def bE : ByteArray := ByteArray.empty
def takeG (L : List (List C)) (k : Int) (s : PS) : PS × ByteArray := bif kindG L s == k then (nextG s, tkT L s.at_) else (failG 1 s, bE)
def mayG (L : List (List C)) (k : Int) (s : PS) : PS := bif kindG L s == k then nextG s else s
abbrev pp : V := .t (.w (.ptr 0 0))
/-- a spec over the parser's state -/
def gKindS : List V → Bx → Tr
  | [.t (.w (.ptr 0 0))], [some (.cells ⟨[.sl 4 L, .int .i64 el, .int .i64 ec, .int .i64 a, .int .i64 o, .er e 172 gs], [], 6⟩)] =>
    .ite (stOk L ⟨a, o, e⟩ && gsOk gs) (.ret (vi (kindG L ⟨a, o, e⟩)) [pB L el ec ⟨a, o, e⟩]) .no
  | _, _ => .no
def gFailS : List V → Bx → Tr
  | [.t (.w (.ptr 0 0)), .t (.w (.d (.er n 172 gs')))], [some (.cells ⟨[.sl 4 L, .int .i64 el, .int .i64 ec, .int .i64 a, .int .i64 o, .er e 172 gs], [], 6⟩)] =>
    .ite (gsOk gs && gsOk gs') (.ret (.tup []) [pB L el ec (failG n ⟨a, o, e⟩)]) .no
  | _, _ => .no
def gTakeS : List V → Bx → Tr
  | [.t (.w (.ptr 0 0)), .t (.w (.d (.int .i64 k)))], [some (.cells ⟨[.sl 4 L, .int .i64 el, .int .i64 ec, .int .i64 a, .int .i64 o, .er e 172 gs], [], 6⟩)] =>
    .ite (stOk L ⟨a, o, e⟩ && gsOk gs && decide (k ≠ 0)) (.ret (vs (takeG L k ⟨a, o, e⟩).2) [pB L el ec (takeG L k ⟨a, o, e⟩).1]) .no
  | _, _ => .no
def gMayS : List V → Bx → Tr
  | [.t (.w (.ptr 0 0)), .t (.w (.d (.int .i64 k)))], [some (.cells ⟨[.sl 4 L, .int .i64 el, .int .i64 ec, .int .i64 a, .int .i64 o, .er e 172 gs], [], 6⟩)] =>
    .ite (stOk L ⟨a, o, e⟩ && gsOk gs && decide (k ≠ 0)) (.ret (vb (kindG L ⟨a, o, e⟩ == k)) [pB L el ec (mayG L k ⟨a, o, e⟩)]) .no
  | _, _ => .no
def tabGA : List (FuncId × (List V → Bx → Tr)) := [(73, gKindS), (64, gFailS)]
def orcGA : FuncId → List V → Bx → Tr := orcOf tabGA
/-! nodes: rows of four cells -/
abbrev ndC (k : Int) (a b : ByteArray) (l : List (List C)) : List C := [.int .i64 k, .str a, .str b, .sl 4 l]
abbrev Nde := List C
def zeroN : Nde := ndC 0 bE bE []
def ofG (k : Int) (l : List Nde) : Nde := bif l.length == 1 then l.getD 0 [] else ndC k bE bE l
abbrev ndV (x : Nde) : V := .t (.agg ⟨x, [], 4⟩)
def isNd : List C → Bool
  | [.int .i64 _, .str _, .str _, .sl 4 _] => true
  | _ => false
def gOfS : List V → Bx → Tr
  | [.t (.w (.d (.int .i64 k))), .t (.w (.d (.sl 4 l)))], [] => .ite (l.all isNd && decide (l.length < 2000000)) (.ret (ndV (ofG k l)) []) .no
  | _, _ => .no
/-! the grammar's parts -/
abbrev Rd := PS → PS × Nde
def atomG (L : List (List C)) (un : Rd) : Rd := fun s =>
  bif kindG L s == 40 then
    (bif decide (s.op ≥ 8) then (failG 2 s, zeroN)
     else
      (⟨(takeG L 41 (un (takeG L 40 ⟨s.at_, s.op + 1, s.er⟩).1).1).1.at_, (takeG L 41 (un (takeG L 40 ⟨s.at_, s.op + 1, s.er⟩).1).1).1.op - 1, (takeG L 41 (un (takeG L 40 ⟨s.at_, s.op + 1, s.er⟩).1).1).1.er⟩,
       (un (takeG L 40 ⟨s.at_, s.op + 1, s.er⟩).1).2))
  else bif kindG L s == 4 then (nextG s, ndC 1 bE bE [])
  else bif kindG L (takeG L 1 s).1 == 5 then ((takeG L 1 (nextG (takeG L 1 s).1)).1, ndC 3 (takeG L 1 s).2 (takeG L 1 (nextG (takeG L 1 s).1)).2 [])
  else ((takeG L 1 s).1, ndC 2 (takeG L 1 s).2 bE [])
def lessG (L : List (List C)) (un : Rd) : Rd := fun s =>
  bif kindG L (atomG L un s).1 == 45 then ((atomG L un (nextG (atomG L un s).1)).1, ndC 6 bE bE [(atomG L un s).2, (atomG L un (nextG (atomG L un s).1)).2])
  else ((atomG L un s).1, (atomG L un s).2)
def moreG (L : List (List C)) (one : Rd) (sg : Int) : Nat → PS → List Nde → PS × List Nde
  | 0, s, out => (s, out)
  | n + 1, s, out => bif kindG L s == sg then moreG L one sg n (one (nextG s)).1 (out ++ [(one (nextG s)).2]) else (s, out)
def listG (L : List (List C)) (one : Rd) (sg : Int) (s : PS) : PS × List Nde := moreG L one sg (L.length + 1) (one s).1 [(one s).2]
def meetG (L : List (List C)) (un : Rd) : Rd := fun s => ((listG L (lessG L un) 38 s).1, ofG 5 (listG L (lessG L un) 38 s).2)
def unionL (L : List (List C)) (un : Rd) : Rd := fun s => ((listG L (meetG L un) 124 s).1, ofG 4 (listG L (meetG L un) 124 s).2)
def unionN (L : List (List C)) : Nat → Rd
  | 0 => unionL L fun s => (s, zeroN)
  | d + 1 => unionL L (unionN L d)
/-- what is read within brackets -/
def innerN (L : List (List C)) : Nat → Rd
  | 0 => fun s => (s, zeroN)
  | d + 1 => unionN L d
theorem unionN_eq (L : List (List C)) (d : Nat) : unionN L d = unionL L (innerN L d) := by cases d <;> rfl
def lvl (s : PS) : Nat := (8 - s.op).toNat
theorem partEx (f : Rd → Rd) (L : List (List C)) (s : PS) : ∃ x : PS × Nde, x = f (innerN L (lvl s)) s := ⟨_, rfl⟩
/-- sealed -/
noncomputable def atomA (L : List (List C)) (s : PS) : PS × Nde := Classical.choose (partEx (atomG L) L s)
theorem atomA_eq (L : List (List C)) (s : PS) : atomA L s = atomG L (innerN L (lvl s)) s := Classical.choose_spec (partEx (atomG L) L s)
noncomputable def lessA (L : List (List C)) (s : PS) : PS × Nde := Classical.choose (partEx (lessG L) L s)
theorem lessA_eq (L : List (List C)) (s : PS) : lessA L s = lessG L (innerN L (lvl s)) s := Classical.choose_spec (partEx (lessG L) L s)
noncomputable def meetA (L : List (List C)) (s : PS) : PS × Nde := Classical.choose (partEx (meetG L) L s)
theorem meetA_eq (L : List (List C)) (s : PS) : meetA L s = meetG L (innerN L (lvl s)) s := Classical.choose_spec (partEx (meetG L) L s)
noncomputable def unionA (L : List (List C)) (s : PS) : PS × Nde := Classical.choose (partEx (unionL L) L s)
theorem unionA_eq (L : List (List C)) (s : PS) : unionA L s = unionL L (innerN L (lvl s)) s := Classical.choose_spec (partEx (unionL L) L s)
theorem listEx (f : Rd → Rd) (L : List (List C)) (sg : Int) (s : PS) : ∃ x : PS × List Nde, x = listG L (f (innerN L (lvl s))) sg s := ⟨_, rfl⟩
noncomputable def listLess (L : List (List C)) (sg : Int) (s : PS) : PS × List Nde := Classical.choose (listEx (lessG L) L sg s)
theorem listLess_eq (L : List (List C)) (sg : Int) (s : PS) : listLess L sg s = listG L (lessG L (innerN L (lvl s))) sg s := Classical.choose_spec (listEx (lessG L) L sg s)
noncomputable def listMeet (L : List (List C)) (sg : Int) (s : PS) : PS × List Nde := Classical.choose (listEx (meetG L) L sg s)
theorem listMeet_eq (L : List (List C)) (sg : Int) (s : PS) : listMeet L sg s = listG L (meetG L (innerN L (lvl s))) sg s := Classical.choose_spec (listEx (meetG L) L sg s)
/-- the spec of one that reads a node, within so many brackets -/
noncomputable def rdS (f : List (List C) → PS → PS × Nde) (N : Nat) : List V → Bx → Tr
  | [.t (.w (.ptr 0 0))], [some (.cells ⟨[.sl 4 L, .int .i64 el, .int .i64 ec, .int .i64 a, .int .i64 o, .er e 172 gs], [], 6⟩)] =>
    .ite (stOk L ⟨a, o, e⟩ && gsOk gs && decide (lvl ⟨a, o, e⟩ < N)) (.ret (ndV (f L ⟨a, o, e⟩).2) [pB L el ec (f L ⟨a, o, e⟩).1]) .no
  | _, _ => .no
noncomputable def listS1 (N : Nat) : List V → Bx → Tr
  | [.t (.w (.ptr 0 0)), .t (.w (.d (.int .i64 sg))), .t (.w (.d (.fn 84 [])))], [some (.cells ⟨[.sl 4 L, .int .i64 el, .int .i64 ec, .int .i64 a, .int .i64 o, .er e 172 gs], [], 6⟩)] =>
    .ite (stOk L ⟨a, o, e⟩ && gsOk gs && decide (lvl ⟨a, o, e⟩ < N) && decide (sg ≠ 0)) (.ret (vc (.sl 4 (listLess L sg ⟨a, o, e⟩).2)) [pB L el ec (listLess L sg ⟨a, o, e⟩).1]) .no
  | _, _ => .no
noncomputable def listS2 (N : Nat) : List V → Bx → Tr
  | [.t (.w (.ptr 0 0)), .t (.w (.d (.int .i64 sg))), .t (.w (.d (.fn 69 [])))], [some (.cells ⟨[.sl 4 L, .int .i64 el, .int .i64 ec, .int .i64 a, .int .i64 o, .er e 172 gs], [], 6⟩)] =>
    .ite (stOk L ⟨a, o, e⟩ && gsOk gs && decide (lvl ⟨a, o, e⟩ < N) && decide (sg ≠ 0)) (.ret (vc (.sl 4 (listMeet L sg ⟨a, o, e⟩).2)) [pB L el ec (listMeet L sg ⟨a, o, e⟩).1]) .no
  | _, _ => .no
def tabGB : List (FuncId × (List V → Bx → Tr)) := [(73, gKindS), (64, gFailS), (90, gTakeS), (83, gMayS), (67, gOfS)]
noncomputable def tabGN (N : Nat) : List (FuncId × (List V → Bx → Tr)) := (46, rdS unionA N) :: tabGB
/-- brackets: at an opening one -/
noncomputable def brS (N : Nat) : List V → Bx → Tr
  | [.t (.w (.ptr 0 0))], [some (.cells ⟨[.sl 4 L, .int .i64 el, .int .i64 ec, .int .i64 a, .int .i64 o, .er e 172 gs], [], 6⟩)] =>
    .ite (stOk L ⟨a, o, e⟩ && gsOk gs && decide (lvl ⟨a, o, e⟩ < N) && (kindG L ⟨a, o, e⟩ == 40)) (.ret (ndV (atomA L ⟨a, o, e⟩).2) [pB L el ec (atomA L ⟨a, o, e⟩).1]) .no
  | _, _ => .no
noncomputable def orcG1 (N : Nat) : FuncId → List V → Bx → Tr := orcOf (tabGN N)
noncomputable def orcG2 (N : Nat) : FuncId → List V → Bx → Tr := orcOf ((101, brS N) :: tabGB)
noncomputable def orcG3 (N : Nat) : FuncId → List V → Bx → Tr := orcOf ((94, rdS atomA N) :: tabGB)
noncomputable def orcG4 (N : Nat) : FuncId → List V → Bx → Tr := orcOf ((84, rdS lessA N) :: tabGB)
noncomputable def orcG5 (N : Nat) : FuncId → List V → Bx → Tr := orcOf ((68, listS1 N) :: tabGB)
noncomputable def orcG6 (N : Nat) : FuncId → List V → Bx → Tr := orcOf ((69, rdS meetA N) :: tabGB)
noncomputable def orcG7 (N : Nat) : FuncId → List V → Bx → Tr := orcOf ((68, listS2 N) :: tabGB)
end Go.Proofs.YtniiimpcakmkbaaDoor
