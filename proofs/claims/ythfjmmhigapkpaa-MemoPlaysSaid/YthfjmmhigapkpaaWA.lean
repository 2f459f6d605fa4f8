/- Vm, part A: an interpreter of the model's code over plain values: definitions only. -/
import Derived.Calls
import Derived.LoopN
import Derived.Orders
import Derived.Below
import Derived.Laws.Sem
import Derived.Laws.World
import Derived.Laws.Cells
import Derived.Laws.Rows
import Derived.Laws.AppendOwn
import Derived.Maps.AppendAt
namespace Vm
open Go
noncomputable section

/-- Cells whose meaning rests on memory that never changes any more. -/
inductive C where
  | int (k : IntKind) (n : Int)
  | bool (b : Bool)
  | str (s : ByteArray)
  | sl (sz : Nat) (els : List (List C))
  | ni
  | ifc (t : TypeId) (ag : Bool) (l : List C)
  | fn (f : FuncId) (caps : List C)
  | nf
  | np
  | nm
  | ip (l : List C)
  /-- an interface: 0: none; n + 1: what the n-th of these package variables holds, a pointer of this type -/
  | er (n : Nat) (t : TypeId) (gs : List Nat)
  deriving Inhabited

/-- Cells of a running call: stable ones; by names of boxes: pointers into a box of cells, a row of elements as a slice, a pointer into one of its elements, cells of a box as a slice; a slice without elements and without room. -/
inductive W where
  | u
  | d (c : C)
  | ptr (b off : Nat)
  | arr (b : Nat)
  | ea (b i sz off : Nat)
  | pv (b off n : Nat)
  | es (sz : Nat)
  /-- elements of a row as a slice; up to 'mx' it may grow in place -/
  | vw (b lo hi mx sz : Nat)
  /-- a map -/
  | mp (b : Nat)
  /-- a function with variables that lie in these boxes -/
  | clo (f : FuncId) (bs : List Nat)
  deriving Inhabited

/-- a row of cells: stable ones, and by places those that aren't; how many -/
structure M where
  l : List C
  lk : List (Nat × W)
  n : Nat
  deriving Inhabited

inductive T where
  | w (x : W)
  | agg (m : M)
  deriving Inhabited

inductive V where
  | u
  | t (x : T)
  | tup (l : List T)
  deriving Inhabited

/-- what a cell of a type is -/
inductive Sh where
  | any
  | int (k : IntKind)
  | bool
  | str
  | sl (sz : Nat)
  | run (n : Nat)

/-- 'mt': its elements may still be written; 'e': it may be appended to -/
inductive Box where
  | cells (m : M)
  | arr (mt : Bool) (e : Option TypeId) (sz : Nat) (els : List (List C))
  | iter (s : ByteArray) (pos : Nat)
  /-- a map: of which kinds its keys are; are keys and elements aggregates? -/
  | map (ksh : List Sh) (ka va : Bool) (vn : Nat) (es : List (List C × List C))
  deriving Inhabited

abbrev Bx := List (Option Box)

structure St where
  env : List V
  bx : Bx
  np : Nat

abbrev vu : V := .u
abbrev vc (c : C) : V := .t (.w (.d c))
abbrev vi (n : Int) : V := vc (.int .i64 n)
abbrev vb (b : Bool) : V := vc (.bool b)
abbrev vs (s : ByteArray) : V := vc (.str s)
abbrev va (l : List C) : V := .t (.agg ⟨l, [], l.length⟩)

def C.toInt : C → Int
  | .int _ n => n
  | _ => 0
def C.toBool : C → Bool
  | .bool b => b
  | _ => false
def C.toStr : C → ByteArray
  | .str s => s
  | _ => ByteArray.empty
def C.toEls : C → List (List C)
  | .sl _ l => l
  | _ => []
def Sh.ok : Sh → C → Bool
  | .any, _ => true
  | .int k, .int k' _ => decide (k = k')
  | .bool, .bool _ => true
  | .str, .str _ => true
  | .sl n, .sl m _ => n == m
  | .run _, _ => true
  | _, _ => false
def Sh.canon : Sh → C → C
  | .any, c => c
  | .int k, c => .int k c.toInt
  | .bool, c => .bool c.toBool
  | .str, c => .str c.toStr
  | .sl n, c => .sl n c.toEls
  | .run _, c => c
def Sh.len : Sh → Nat
  | .run n => n
  | _ => 1
def shLen : List Sh → Nat
  | [] => 0
  | s :: r => s.len + shLen r
def shOkGo (l : List C) : Nat → List Sh → Bool
  | _, [] => true
  | j, .run n :: r => shOkGo l (j + n) r
  | j, s :: r => s.ok (l.getD j .nf) && shOkGo l (j + 1) r
def shOk (sh : List Sh) (l : List C) : Bool := l.length == shLen sh && shOkGo l 0 sh
def shCanon (l : List C) : Nat → List Sh → List C
  | _, [] => []
  | j, .run n :: r => (l.drop j).take n ++ shCanon l (j + n) r
  | j, s :: r => s.canon (l.getD j .nf) :: shCanon l (j + 1) r
/-- cells of a type, with what is done with them -/
def eta {β : Type} (sh : Option (List Sh)) (l : List C) (k : List C → Option β) : Option β :=
  match sh with
  | some sh => bif shOk sh l then k (shCanon l 0 sh) else none
  | none => k l

inductive Z where
  | c (c : C)
  | s (e : TypeId) (sz : Nat)

structure TI where
  desc : TypeDesc
  size : Nat
  bytes : Nat
  ag : Bool
  zero : List Z
  sh : Option (List Sh)

structure Cfg where
  ti : TypeId → Option TI
  glob : Nat → Option (List C)
  pc : {R : Type} → FuncId → List V → Bx → (V → Bx → Option R) → Option R
  /-- results aren't frozen -/
  keep : Bool
  /-- calls that borrow rows of elements, by the slot of their answer -/
  bor : Nat → Bool
  /-- slots that aren't looked at behind the head of a loop -/
  drop : Nat → Nat → Bool
  /-- slots are forgotten where loops end as well -/
  xm : Bool
  /-- types of structs that may be compared -/
  eqs : TypeId → Bool

def lkGet : List (Nat × W) → Nat → Option W
  | [], _ => none
  | (i, x) :: r, j => bif i == j then some x else lkGet r j
def lkDel (j : Nat) : List (Nat × W) → List (Nat × W)
  | [] => []
  | (i, x) :: r => bif i == j then lkDel j r else (i, x) :: lkDel j r
def lkSub (off n : Nat) : List (Nat × W) → List (Nat × W)
  | [] => []
  | (i, x) :: r => bif Nat.ble off i && Nat.blt i (off + n) then (i - off, x) :: lkSub off n r else lkSub off n r
def lkOut (off n : Nat) : List (Nat × W) → List (Nat × W)
  | [] => []
  | (i, x) :: r => bif Nat.ble off i && Nat.blt i (off + n) then lkOut off n r else (i, x) :: lkOut off n r
def lkAdd (off : Nat) : List (Nat × W) → List (Nat × W)
  | [] => []
  | (i, x) :: r => (off + i, x) :: lkAdd off r
def lkMap (f : W → W) : List (Nat × W) → List (Nat × W)
  | [] => []
  | (i, x) :: r => (i, f x) :: lkMap f r

def lkIns (i : Nat) (x : W) : List (Nat × W) → List (Nat × W)
  | [] => [(i, x)]
  | (j, y) :: r => bif Nat.blt i j then (i, x) :: (j, y) :: r else (j, y) :: lkIns i x r
def lkInsAll : List (Nat × W) → List (Nat × W) → List (Nat × W)
  | [], l => l
  | (i, x) :: r, l => lkIns i x (lkDel i (lkInsAll r l))

def M.get (m : M) (j : Nat) : Option W :=
  match lkGet m.lk j with
  | some x => some x
  | none => (match m.l[j]? with | some c => some (.d c) | none => none)
def M.sub (m : M) (off n : Nat) : M := ⟨(m.l.drop off).take n, lkSub off n m.lk, n⟩
def M.put (m : M) (off : Nat) (x : M) : M := ⟨m.l.take off ++ x.l ++ m.l.drop (off + x.n), lkInsAll (lkAdd off (lkSub 0 x.n x.lk)) (lkOut off x.n m.lk), m.n⟩
def M.mapW (f : W → W) (m : M) : M := ⟨m.l, lkMap f m.lk, m.n⟩

def W.isD : W → Bool
  | .d _ => true
  | _ => false
def T.toM : T → M
  | .w (.d c) => ⟨[c], [], 1⟩
  | .w x => ⟨[.nf], [(0, x)], 1⟩
  | .agg m => m
def T.isAgg : T → Bool
  | .w _ => false
  | .agg _ => true
def T.mapW (f : W → W) : T → T
  | .w x => .w (f x)
  | .agg m => .agg (m.mapW f)
def V.mapW (f : W → W) : V → V
  | .u => .u
  | .t x => .t (x.mapW f)
  | .tup l => .tup (l.map (T.mapW f))
def Box.mapW (f : W → W) : Box → Box
  | .cells m => .cells (m.mapW f)
  | b => b

/-- a cell that is to be handed on: rows of elements become stable; 'dr': nothing may turn -/
def passW (dr : Bool) (x : W) (bx : Bx) : Option (W × Bx) :=
  match x with
  | .arr b =>
    (match bx.getD b none with
     | some (.arr mt e sz els) =>
       bif mt then (bif dr then none else some (.d (.sl sz els), bx.set b (some (.arr false e sz els)))) else some (.d (.sl sz els), bx)
     | _ => none)
  | .d c => some (.d c, bx)
  | .es sz => some (.d (.sl sz []), bx)
  | .ptr b off => some (.ptr b off, bx)
  | .mp b => some (.mp b, bx)
  | .clo f bs => some (.clo f bs, bx)
  | _ => none
def passLk (dr : Bool) (n : Nat) : List (Nat × W) → List C → Bx → Option (M × Bx)
  | [], l, bx => some (⟨l, [], n⟩, bx)
  | (j, x) :: r, l, bx =>
    (match passLk dr n r l bx with
     | some (m, bx) =>
       (match passW dr x bx with
        | some (y, bx) => (match y with
                           | .d c => some (⟨m.l.set j c, lkDel j m.lk, n⟩, bx)
                           | y => some (⟨m.l, (j, y) :: m.lk, n⟩, bx))
        | none => none)
     | none => none)
def passT (dr : Bool) (x : T) (bx : Bx) : Option (T × Bx) :=
  match x with
  | .w x => (match passW dr x bx with | some (y, bx) => some (.w y, bx) | none => none)
  | .agg m => (match passLk dr m.n m.lk m.l bx with | some (m, bx) => some (.agg m, bx) | none => none)
/-- stable cells -/
def T.stabC : T → Option (List C × Nat)
  | .w (.d c) => some ([c], 1)
  | .agg ⟨l, [], n⟩ => some (l, n)
  | _ => none
def frzT (dr : Bool) (x : T) (bx : Bx) : Option ((List C × Nat) × Bx) :=
  match passT dr x bx with
  | some (y, bx) => (match y.stabC with | some l => some (l, bx) | none => none)
  | none => none
def passV (dr : Bool) (x : V) (bx : Bx) : Option (V × Bx) :=
  match x with
  | .t x => (match passT dr x bx with | some (y, bx) => some (.t y, bx) | none => none)
  | _ => none
def passVs (dr : Bool) : List V → Bx → Option (List V × Bx)
  | [], bx => some ([], bx)
  | x :: r, bx =>
    (match passV dr x bx with
     | some (y, bx) => (match passVs dr r bx with | some (l, bx) => some (y :: l, bx) | none => none)
     | none => none)
def passTs (dr : Bool) : List T → Bx → Option (List T × Bx)
  | [], bx => some ([], bx)
  | x :: r, bx =>
    (match passT dr x bx with
     | some (y, bx) => (match passTs dr r bx with | some (l, bx) => some (y :: l, bx) | none => none)
     | none => none)

/-! the slots: by recursors, which the kernel does fast -/
def setV (l : List V) : Nat → V → List V :=
  List.rec (motive := fun _ => Nat → V → List V) (fun _ _ => []) (fun h t ih n v => Nat.rec (motive := fun _ => List V) (v :: t) (fun m _ => h :: ih m v) n) l
theorem setV_eq : ∀ (l : List V) (n : Nat) (v : V), setV l n v = l.set n v
  | [], _, _ => rfl
  | _ :: _, 0, _ => rfl
  | h :: t, n + 1, v => congrArg (h :: ·) (setV_eq t n v)
def getV (l : List V) : Nat → V :=
  List.rec (motive := fun _ => Nat → V) (fun _ => .u) (fun h _ ih n => Nat.rec (motive := fun _ => V) h (fun m _ => ih m) n) l
theorem getV_eq : ∀ (l : List V) (n : Nat), getV l n = l.getD n .u
  | [], _ => rfl
  | _ :: _, 0 => rfl
  | _ :: t, n + 1 => getV_eq t n
def getO (l : List V) : Nat → Option V :=
  List.rec (motive := fun _ => Nat → Option V) (fun _ => none) (fun h _ ih n => Nat.rec (motive := fun _ => Option V) (some h) (fun m _ => ih m) n) l
theorem getO_eq : ∀ (l : List V) (n : Nat), getO l n = l[n]?
  | [], _ => rfl
  | _ :: _, 0 => rfl
  | _ :: t, n + 1 => getO_eq t n
def St.set (st : St) (dst : Option Nat) (v : V) : St :=
  match dst with
  | some d => { st with env := setV st.env d v }
  | none => st
/-- a box under a new name, which is the number of the boxes that were -/
def St.boxNew (st : St) (x : Box) : St := { st with bx := st.bx ++ [some x] }

/-! names -/
def W.names : W → List Nat
  | .ptr b _ => [b]
  | .arr b => [b]
  | .ea b _ _ _ => [b]
  | .pv b _ _ => [b]
  | .vw b _ _ _ _ => [b]
  | .mp b => [b]
  | .clo _ bs => bs
  | _ => []
def lkNames : List (Nat × W) → List Nat
  | [] => []
  | (_, x) :: r => x.names ++ lkNames r
def T.names : T → List Nat
  | .w x => x.names
  | .agg m => lkNames m.lk
def tsNames : List T → List Nat
  | [] => []
  | x :: r => x.names ++ tsNames r
def V.names : V → List Nat
  | .u => []
  | .t x => x.names
  | .tup l => tsNames l
def vsNames : List V → List Nat
  | [] => []
  | x :: r => x.names ++ vsNames r
def Box.names : Box → List Nat
  | .cells m => lkNames m.lk
  | _ => []
def memN (b : Nat) : List Nat → Bool
  | [] => false
  | c :: r => c == b || memN b r
/-- names that are new and of boxes that are -/
def addNames (bx : Bx) : List Nat → List Nat → List Nat
  | acc, [] => acc
  | acc, b :: r => bif memN b acc then addNames bx acc r else (match bx.getD b none with | some _ => addNames bx (acc ++ [b]) r | none => addNames bx acc r)
/-- and those that their boxes lead to: the place up to which it is done -/
def reach (bx : Bx) : Nat → Nat → List Nat → List Nat
  | 0, _, acc => acc
  | n + 1, i, acc =>
    (match acc[i]? with
     | some b => reach bx n (i + 1) (match bx.getD b none with | some x => addNames bx acc x.names | none => acc)
     | none => acc)
def reachAll (bx : Bx) (acc roots : List Nat) : List Nat := reach bx bx.length 0 (addNames bx acc roots)
def idx (b : Nat) : List Nat → Option Nat
  | [] => none
  | c :: r => bif c == b then some 0 else (match idx b r with | some k => some (k + 1) | none => none)
def renAll (f : Nat → Option Nat) : List Nat → Option (List Nat)
  | [] => some []
  | b :: r => (match f b, renAll f r with | some k, some l => some (k :: l) | _, _ => none)
def W.ren (f : Nat → Option Nat) : W → W
  | .ptr b off => (match f b with | some k => .ptr k off | none => .u)
  | .arr b => (match f b with | some k => .arr k | none => .u)
  | .ea b i sz off => (match f b with | some k => .ea k i sz off | none => .u)
  | .pv b off n => (match f b with | some k => .pv k off n | none => .u)
  | .vw b lo hi mx sz => (match f b with | some k => .vw k lo hi mx sz | none => .u)
  | .mp b => (match f b with | some k => .mp k | none => .u)
  | .clo g bs => (match renAll f bs with | some l => .clo g l | none => .u)
  | x => x
def renBx (order : List Nat) (bx : Bx) : Bx := order.map fun b => (match bx.getD b none with | some x => some (x.mapW (.ren fun b => idx b order)) | none => none)
def renVs (order : List Nat) (l : List V) : List V := l.map (V.mapW (.ren fun b => idx b order))

def constV : Value → V
  | .bool b => vb b
  | .int k n => vc (.int k n)
  | .string s => vs s
  | .nilIface => vc .ni
  | .nilFunc => vc .nf
  | .pointer none => vc .np
  | .map none => vc .nm
  | _ => vu

def eszE (cf : Cfg) (t : TypeId) : Option (TypeId × Nat) :=
  match cf.ti t with
  | some { desc := .slice e, .. } => (match cf.ti e with | some i => some (e, i.size) | none => none)
  | _ => none
def esz (cf : Cfg) (t : TypeId) : Option Nat := (match eszE cf t with | some x => some x.2 | none => none)

def St.ev (cf : Cfg) (st : St) : Operand → V
  | .tmp t => getV st.env t
  | .const v => constV v
  | .func f => vc (.fn f [])
  | .global g => (match cf.glob g with | some l => vc (.ip l) | none => vu)

def isNilSlice : Operand → Bool
  | .const (.slice none n c) => n == 0 && c == 0
  | _ => false

def St.evT (cf : Cfg) (st : St) (t : TypeId) (x : Operand) : V :=
  bif isNilSlice x then (match esz cf t with | some sz => vc (.sl sz []) | none => vu) else st.ev cf x

def St.evs (cf : Cfg) (st : St) : List TypeId → List Operand → List V
  | t :: ts, x :: xs => st.evT cf t x :: st.evs cf ts xs
  | _, _ => []

/-- the parts of a value by a type -/
def cut (ag : Bool) (size : Nat) (m : M) (off : Nat) : Option T :=
  bif ag then (bif Nat.ble (off + size) m.n then some (.agg (m.sub off size)) else none)
  else (bif Nat.blt off m.n then (match m.get off with | some x => some (.w x) | none => none) else none)
/-- those of stable cells, with what is done with them -/
def cutK {β : Type} (i : TI) (l : List C) (k : T → Option β) : Option β :=
  bif i.ag then (bif (l.take i.size).length == i.size then eta i.sh (l.take i.size) fun l => k (.agg ⟨l, [], i.size⟩) else none)
  else (match l[0]? with | some c => eta i.sh [c] fun l => (match l with | c :: _ => k (.w (.d c)) | [] => none) | none => none)

/-- of a row, with what is done with them -/
def cutX {β : Type} (i : TI) (m : M) (off : Nat) (k : T → Option β) : Option β :=
  match m with
  | ⟨l, [], _⟩ => cutK i (l.drop off) k
  | m => (match cut i.ag i.size m off with | some v => k v | none => none)

/-- zero cells, nil slices under new names; 'dr': without -/
def zeroM (dr : Bool) (a : Nat) : List Z → Nat → List C × List (Nat × W) × Bx
  | [], _ => ([], [], [])
  | .c c :: r, j => (match zeroM dr a r (j + 1) with | (l, lk, b) => (c :: l, lk, b))
  | .s e sz :: r, j =>
    bif dr then (match zeroM dr a r (j + 1) with | (l, lk, b) => (.sl sz [] :: l, lk, b))
    else (match zeroM dr (a + 1) r (j + 1) with | (l, lk, b) => (.nf :: l, (j, .arr a) :: lk, some (.arr true (some e) sz []) :: b))
def St.zero (dr : Bool) (st : St) (z : List Z) : M × St :=
  match zeroM dr st.bx.length z 0 with
  | (l, lk, b) => (⟨l, lk, z.length⟩, { st with bx := st.bx ++ b })

/-- the parts of a composite: offsets and sizes by field or index -/
def fillW (place : Nat → Option (Nat × Nat)) (m : M) : List (Nat × V) → Option M
  | [] => some m
  | (i, .t x) :: r =>
    (match place i with
     | some (off, size) => bif x.toM.n == size && Nat.ble (off + size) m.n then fillW place (m.put off x.toM) r else none
     | none => none)
  | _ :: _ => none

def fieldOf (fs : List Field) (i : Nat) : Option Field := fs[i]?
def sizeOfT (cf : Cfg) (t : TypeId) : Option Nat := (match cf.ti t with | some i => some i.size | none => none)
def placesV (cf : Cfg) : List Field → Option (List (Nat × Nat))
  | [] => some []
  | f :: r => (match sizeOfT cf f.type, placesV cf r with | some n, some l => some ((f.offset, n) :: l) | _, _ => none)

def St.evParts (cf : Cfg) (st : St) (ty : Nat → Option TypeId) : List (Nat × Operand) → Option (List (Nat × V))
  | [] => some []
  | (i, x) :: r =>
    (match ty i, st.evParts cf ty r with
     | some t, some l => some ((i, st.evT cf t x) :: l)
     | _, _ => none)

/-- the elements of a slice's literal: each given, in order, each stable -/
def elemsOf (dr : Bool) (size : Nat) : Nat → List (Nat × V) → Bx → Option (List (List C) × Bx)
  | _, [], bx => some ([], bx)
  | k, (i, .t x) :: r, bx =>
    (match frzT dr x bx with
     | some (cs, bx) =>
       (match elemsOf dr size (k + 1) r bx with
        | some (l, bx) => bif i == k && cs.2 == size then some (cs.1 :: l, bx) else none
        | none => none)
     | none => none)
  | _, _ :: _, _ => none

def byteEls (s : ByteArray) : List (List C) := s.data.toList.map fun b => [C.int .u8 b.toNat]

def intOp (op : BinOp) (k : IntKind) (x y : Int) : Option C :=
  match op with
  | .add => some (.int k (k.wrap (x + y)))
  | .sub => some (.int k (k.wrap (x - y)))
  | .mul => some (.int k (k.wrap (x * y)))
  | .eql => some (.bool (x == y))
  | .neq => some (.bool (x != y))
  | .lss => some (.bool (decide (x < y)))
  | .leq => some (.bool (decide (x ≤ y)))
  | .gtr => some (.bool (decide (x > y)))
  | .geq => some (.bool (decide (x ≥ y)))
  | .quo => bif y == 0 then none else some (.int k (k.wrap (x.tdiv y)))
  | .rem => bif y == 0 then none else some (.int k (x.tmod y))
  | _ => none

/-- the same, with what is done with it -/
def intOpK {α : Type} (op : BinOp) (k : IntKind) (x y : Int) (K : C → Option α) : Option α :=
  match op with
  | .quo => bif y == 0 then none else K (.int k (k.wrap (x.tdiv y)))
  | .rem => bif y == 0 then none else K (.int k (x.tmod y))
  | op => (match intOp op k x y with | some c => K c | none => none)
theorem intOpK_eq {α : Type} (op : BinOp) (k : IntKind) (x y : Int) (K : C → Option α) : intOpK op k x y K = (match intOp op k x y with | some c => K c | none => none) := by
  cases op <;> first | rfl | skip
  · show (bif y == 0 then none else K (.int k (k.wrap (x.tdiv y)))) = (match (bif y == 0 then none else some (C.int k (k.wrap (x.tdiv y)))) with | some c => K c | none => none)
    cases y == 0 <;> rfl
  · show (bif y == 0 then none else K (.int k (x.tmod y))) = (match (bif y == 0 then none else some (C.int k (x.tmod y))) with | some c => K c | none => none)
    cases y == 0 <;> rfl

def strOp (op : BinOp) (x y : ByteArray) : Option C :=
  match op with
  | .add => bif decide (((x.size + y.size : Nat) : Int) > IntKind.i64.max) then none else some (.str (x ++ y))
  | .eql => some (.bool (x.toList == y.toList))
  | .neq => some (.bool (!(x.toList == y.toList)))
  | .lss => some (.bool (Op.bytesLess x.toList y.toList))
  | .leq => some (.bool (Op.bytesLess x.toList y.toList || x.toList == y.toList))
  | .gtr => some (.bool (!(Op.bytesLess x.toList y.toList || x.toList == y.toList)))
  | .geq => some (.bool (!(Op.bytesLess x.toList y.toList)))
  | _ => none

/-- the same, with what is done with it -/
def strOpK {α : Type} (op : BinOp) (x y : ByteArray) (k : C → Option α) : Option α :=
  match op with
  | .add => bif decide (((x.size + y.size : Nat) : Int) > 9223372036854775807) then none else k (.str (x ++ y))
  | op => (match strOp op x y with | some c => k c | none => none)
theorem strOpK_eq {α : Type} (op : BinOp) (x y : ByteArray) (k : C → Option α) : strOpK op x y k = (match strOp op x y with | some c => k c | none => none) := by
  cases op <;> first | rfl | skip
  show (bif decide (((x.size + y.size : Nat) : Int) > 9223372036854775807) then none else k (.str (x ++ y))) = (match (bif decide (((x.size + y.size : Nat) : Int) > IntKind.i64.max) then none else some (C.str (x ++ y))) with | some c => k c | none => none)
  have e : IntKind.i64.max = 9223372036854775807 := by decide
  rw [e]
  cases decide (((x.size + y.size : Nat) : Int) > 9223372036854775807) <;> rfl
def optIs (o : Option TypeId) (e : TypeId) : Bool := match o with | some x => x == e | none => false

/-- 'x[i]' of a list, with what is done with it -/
def getT {α β : Type} (xs : List α) (i : Nat) (k : α → Option β) : Option β :=
  match xs[i]? with
  | some x => k x
  | none => none

def putL (l : List C) (off : Nat) (xs : List C) : List C := l.take off ++ xs ++ l.drop (off + xs.length)

section ops
variable {R : Type} (cf : Cfg)

def borOf (o : Oper) : Bool := match o.dst with | some d => cf.bor d | none => false
/-- slots whose nil is a stable row: named in the list by 100000 more -/
def nilOf (o : Oper) : Bool := match o.dst with | some d => cf.bor (d + 100000) | none => false

def vLoad (o : Oper) (t : TypeId) (x : Operand) (k : St → Option R) (st : St) : Option R :=
  match cf.ti t with
  | some i =>
    (match st.ev cf x with
     | .t (.w (.ptr b off)) =>
       (match st.bx.getD b none with
        | some (.cells m) => (match cut i.ag i.size m off with | some v => k (st.set o.dst (.t v)) | none => none)
        | _ => none)
     | .t (.w (.ea b n sz0 off)) =>
       (match st.bx.getD b none with
        | some (.arr _ _ sz els) => bif sz0 == sz then getT els n fun e => cutK i (e.drop off) fun v => k (st.set o.dst (.t v)) else none
        | _ => none)
     | .t (.w (.d (.ip l))) => cutK i l fun v => k (st.set o.dst (.t v))
     | _ => none)
  | none => none

/-- a slice of a row, as a row of its own -/
def narrowT (dr : Bool) (x : T) (bx : Bx) : Option (T × Bx) :=
  match x with
  | .w (.vw b lo hi _ sz0) =>
    bif dr then none else
    (match bx.getD b none with
     | some (.arr mt e sz els) => bif mt && Nat.beq sz sz0 then some (.w (.arr bx.length), bx.set b none ++ [some (.arr true e sz ((els.drop lo).take (hi - lo)))]) else none
     | _ => none)
  | x => some (x, bx)
def narrowTs : List T → Bx → Option (List T × Bx)
  | [], bx => some ([], bx)
  | x :: r, bx => (match narrowT false x bx with | some (y, bx) => (match narrowTs r bx with | some (l, bx) => some (y :: l, bx) | none => none) | none => none)

def vStore (dr : Bool) (t : TypeId) (x y : Operand) (k : St → Option R) (st : St) : Option R :=
  bif isNilSlice y && !dr then
    (match eszE cf t, cf.ti t, st.ev cf x with
     | some (e, sz), some i, .t (.w (.ptr b off)) =>
       (match st.bx.getD b none with
        | some (.cells m) =>
          bif i.size == 1 && Nat.ble (off + 1) m.n && Nat.ble 1 sz
          then k { st with bx := st.bx.set b (some (.cells (m.put off ⟨[.nf], [(0, .arr st.bx.length)], 1⟩))) ++ [some (.arr true (some e) sz [])] } else none
        | _ => none)
     | _, _, _ => none)
  else
  match cf.ti t, st.evT cf t y with
  | some i, .t v =>
    (match st.ev cf x with
     | .t (.w (.ptr b off)) =>
       (match narrowT dr v st.bx with
        | some (v, bx) =>
          (match bx.getD b none with
           | some (.cells m) =>
             bif v.toM.n == i.size && Nat.ble (off + i.size) m.n
             then k { st with bx := bx.set b (some (.cells (m.put off v.toM))) } else none
           | _ => none)
        | none => none)
     | .t (.w (.ea b n sz0 off)) =>
       (match frzT dr v st.bx with
        | some (cs, bx) =>
          (match bx.getD b none with
           | some (.arr mt e sz els) =>
             bif mt && sz0 == sz then
               getT els n fun el => bif cs.2 == i.size && Nat.ble (off + i.size) sz
                 then k { st with bx := bx.set b (some (.arr true e sz (els.set n (putL el off cs.1)))) } else none
             else none
           | _ => none)
        | none => none)
     | _ => none)
  | _, _ => none

def vAlloc (o : Oper) (t : TypeId) (k : St → Option R) (st : St) : Option R :=
  match cf.ti t with
  | some i => (match st.zero false i.zero with | (m, st) => k ((st.boxNew (.cells m)).set o.dst (.t (.w (.ptr st.bx.length 0)))))
  | none => none

def vBox (o : Oper) (t : TypeId) (x : Operand) (k : St → Option R) (st : St) : Option R :=
  match st.evT cf t x with
  | .t v => k ((st.boxNew (.cells v.toM)).set o.dst (.t (.w (.ptr st.bx.length 0))))
  | _ => none

def vBuild (dr : Bool) (o : Oper) (t : TypeId) (parts : Array (Nat × Operand)) (k : St → Option R) (st : St) : Option R :=
  match cf.ti t with
  | some { desc := .struct fs, zero := z, .. } =>
    (match placesV cf fs.toList, st.evParts cf (fun i => (fieldOf fs.toList i).map (·.type)) parts.toList with
     | some pl, some ps =>
       (match st.zero dr z with
        | (m, st) => (match fillW (fun i => pl[i]?) m ps with | some m => k (st.set o.dst (.t (.agg m))) | none => none))
     | _, _ => none)
  | some { desc := .array _ e, zero := z, .. } =>
    (match sizeOfT cf e, st.evParts cf (fun _ => some e) parts.toList with
     | some n, some ps =>
       (match st.zero dr z with
        | (m, st) => (match fillW (fun i => some (i * n, n)) m ps with | some m => k (st.set o.dst (.t (.agg m))) | none => none))
     | _, _ => none)
  | _ => none

/-- a literal within a statement whose order is open -/
def bsV (sz : Nat) : List (List C) → V
  | [] => .t (.w (.es sz))
  | e :: r => vc (.sl sz (e :: r))
def vBuildSlice (dr : Bool) (o : Oper) (t : TypeId) (len : Nat) (parts : Array (Nat × Operand)) (k : St → Option R) (st : St) : Option R :=
  match cf.ti t with
  | some { desc := .slice e, .. } =>
    (match sizeOfT cf e, st.evParts cf (fun _ => some e) parts.toList with
     | some n, some ps =>
       (match elemsOf dr n 0 ps st.bx with
        | some (els, bx) => bif els.length == len && Nat.ble (len * n) 16777216 && Nat.ble 1 n
                      then (bif dr then k (({ st with bx := bx } : St).set o.dst (bsV n els)) else k ((({ st with bx := bx } : St).boxNew (.arr true (some e) n els)).set o.dst (.t (.w (.arr bx.length))))) else none
        | none => none)
     | _, _ => none)
  | _ => none

/-- '==' of pointers and interfaces, one of them nil -/
def eqW (d : TypeDesc) (y : Operand) (a b : W) : Option Bool :=
  match d, a, b with
  | .pointer _, .ptr _ _, .d .np => some false
  | .pointer _, .ea _ _ _ _, .d .np => some false
  | .pointer _, .d (.ip _), .d .np => some false
  | .pointer _, .d .np, .d .np => some true
  | .interface _, .d (.ifc _ _ _), .d .ni => some false
  | .interface _, .d .ni, .d .ni => (match y with | .const _ => some true | _ => none)
  | .interface _, .d (.er n _ _), .d .ni => (match y with | .const _ => some (Nat.beq n 0) | _ => none)
  | _, _, _ => none

def vBinP (o : Oper) (op : BinOp) (t : TypeId) (y : Operand) (a b : V) (k : St → Option R) (st : St) : Option R :=
  match cf.ti t, a, b with
  | some i, .t (.w a), .t (.w b) =>
    (match eqW i.desc y a b with
     | some e =>
       (match op with
        | .eql => k (st.set o.dst (vb e))
        | .neq => k (st.set o.dst (vb (!e)))
        | _ => none)
     | none => none)
  | _, _, _ => none

/-- two cells are the same -/
def eqC : TypeDesc → C → C → Option Bool
  | .int _, .int k a, .int j b => bif decide (k = j) then some (a == b) else none
  | .bool, .bool a, .bool b => some (a == b)
  | .string, .str a, .str b => some (a.toList == b.toList)
  | _, _, _ => none
/-- fields of one plain cell each, compared one by one -/
def eqCs : Nat → List Field → List C → List C → Option Bool
  | _, [], [], [] => some true
  | j, f :: fs, a :: r, b :: q =>
    bif f.name != "_" && Nat.beq f.offset j then
      (match cf.ti f.type with
       | some i =>
         bif i.ag then none
         else (match eqC i.desc a b, eqCs (j + 1) fs r q with | some x, some y => some (x && y) | _, _ => none)
       | none => none)
    else none
  | _, _, _, _ => none
def vBinS (o : Oper) (op : BinOp) (t : TypeId) (la lb : List C) (k : St → Option R) (st : St) : Option R :=
  match cf.ti t with
  | some { desc := .struct fs, .. } =>
    bif cf.eqs t then
      (match eqCs cf 0 fs.toList la lb with
       | some e =>
         (match op with
          | .eql => k (st.set o.dst (vb e))
          | .neq => k (st.set o.dst (vb (!e)))
          | _ => none)
       | none => none)
    else none
  | _ => none

def vBin (o : Oper) (op : BinOp) (t : TypeId) (x y : Operand) (k : St → Option R) (st : St) : Option R :=
  match st.ev cf x, st.ev cf y with
  | .t (.w (.d (.int kx a))), .t (.w (.d (.int ky b))) =>
    bif decide (kx = ky) then intOpK op kx a b (fun c => k (st.set o.dst (vc c))) else none
  | .t (.w (.d (.str a))), .t (.w (.d (.str b))) => strOpK op a b fun c => k (st.set o.dst (vc c))
  | .t (.w (.d (.bool a))), .t (.w (.d (.bool b))) =>
    (match cf.ti t, op with
     | some { desc := .bool, .. }, .eql => k (st.set o.dst (vb (a == b)))
     | some { desc := .bool, .. }, .neq => k (st.set o.dst (vb (!(a == b))))
     | _, _ => none)
  | .t (.agg ⟨la, [], _⟩), .t (.agg ⟨lb, [], _⟩) => vBinS cf o op t la lb k st
  | a, b => vBinP cf o op t y a b k st

def vUn (o : Oper) (op : UnOp) (x : Operand) (k : St → Option R) (st : St) : Option R :=
  match op, st.ev cf x with
  | .not, .t (.w (.d (.bool b))) => k (st.set o.dst (vb (!b)))
  | .neg, .t (.w (.d (.int kx n))) => k (st.set o.dst (vc (.int kx (kx.wrap (0 - n)))))
  | _, _ => none

def okBytes : List (List C) → Bool
  | [] => true
  | [.int .u8 n] :: r => decide (0 ≤ n ∧ n < 256) && okBytes r
  | _ => false
def bytesOf (els : List (List C)) : ByteArray := ⟨(els.map fun e => UInt8.ofNat ((e.getD 0 .nf).toInt.toNat)).toArray⟩
def isBytes (cf : Cfg) (e : TypeId) : Bool := match cf.ti e with | some { desc := .int .u8, .. } => true | _ => false

/-- the elements that are read of a slice, of so many cells each -/
def elsOf (bx : Bx) : V → Option (Nat × List (List C))
  | .t (.w (.d (.sl sz els))) => some (sz, els)
  | .t (.w (.es sz)) => some (sz, [])
  | .t (.w (.arr b)) => (match bx.getD b none with | some (.arr _ _ sz els) => some (sz, els) | _ => none)
  | .t (.w (.pv b off n)) => (match bx.getD b none with | some (.cells ⟨l, [], ln⟩) => bif Nat.ble (off + n) ln then some (1, ((l.drop off).take n).map fun c => [c]) else none | _ => none)
  | .t (.w (.vw b lo hi _ sz0)) => (match bx.getD b none with | some (.arr _ _ sz els) => bif Nat.beq sz sz0 then some (sz, (els.drop lo).take (hi - lo)) else none | _ => none)
  | _ => none

def vConvB (o : Oper) (src dst : TypeId) (v : V) (k : St → Option R) (st : St) : Option R :=
  match cf.ti src with
  | some { desc := .slice e, .. } =>
    (match cf.ti dst, elsOf st.bx v with
     | some { desc := .string, .. }, some (1, els) => bif isBytes cf e && okBytes els then k (st.set o.dst (vs (bytesOf els))) else none
     | _, _ => none)
  | some { desc := .string, .. } =>
    (match cf.ti dst, v with
     | some { desc := .slice e, .. }, .t (.w (.d (.str s))) =>
       bif isBytes cf e && decide (s.size ≤ 9223372036854775807) then k (st.set o.dst (vc (.sl 1 (byteEls s)))) else none
     | _, _ => none)
  | _ => none
/-- a row of bytes of the call's own, to its own type: it is marked as one that comes of a string: stable -/
def vConvS (o : Oper) (src : TypeId) (v : V) (k : St → Option R) (st : St) : Option R :=
  match cf.ti src, v with
  | some { desc := .slice e, .. }, .t (.w (.arr b)) =>
    (match st.bx.getD b none with
     | some (.arr _ _ 1 els) => bif isBytes cf e && Nat.ble 1 els.length then k (({ st with bx := st.bx.set b none } : St).set o.dst (vc (.sl 1 els))) else none
     | _ => none)
  | _, _ => none
def vConvert (dr : Bool) (o : Oper) (src dst : TypeId) (x : Operand) (k : St → Option R) (st : St) : Option R :=
  match cf.ti src, cf.ti dst, st.ev cf x with
  | some _, some { desc := .int kd, .. }, .t (.w (.d (.int _ n))) => k (st.set o.dst (vc (.int kd (kd.wrap n))))
  | some _, some { desc := .string, .. }, .t (.w (.d (.int _ n))) => k (st.set o.dst (vs (Utf8.encode n)))
  | some { desc := .string, .. }, some { desc := .string, .. }, .t (.w (.d (.str s))) => k (st.set o.dst (vs s))
  | _, _, v => bif !dr && src == dst then vConvS cf o src v k st else vConvB cf o src dst v k st

def zeroC : List Z → List C
  | [] => []
  | .c c :: r => c :: zeroC r
  | .s _ sz :: r => .sl sz [] :: zeroC r
def mkOk (l m : Int) (b : Nat) : Bool := decide (l = m ∧ 0 ≤ l ∧ b * l ≤ 281474976710656 ∧ l ≤ 9223372036854775807)
def vMakeSlice (dr : Bool) (o : Oper) (t : TypeId) (n c : Operand) (k : St → Option R) (st : St) : Option R :=
  match cf.ti t, st.ev cf n, st.ev cf c with
  | some { desc := .slice e, .. }, .t (.w (.d (.int _ l))), .t (.w (.d (.int _ m))) =>
    (match cf.ti e with
     | some i =>
       bif mkOk l m i.bytes && Nat.ble 1 i.size && !dr
       then k ((st.boxNew (.arr true (some e) i.size (List.replicate l.toNat (zeroC i.zero)))).set o.dst (.t (.w (.arr st.bx.length)))) else none
     | none => none)
  | _, _, _ => none

def bnd (st : St) (d : Nat) : Option Operand → Option Int
  | none => some d
  | some x => (match st.ev cf x with | .t (.w (.d (.int _ n))) => some n | _ => none)

/-- a row as a slice of itself: the box, from, to, up to where it may grow, cells an element -/
def viewOf (bx : Bx) : V → Option (Nat × Nat × Nat × Nat × Nat)
  | .t (.w (.arr b)) => (match bx.getD b none with | some (.arr true _ sz els) => some (b, 0, els.length, els.length, sz) | _ => none)
  | .t (.w (.vw b lo hi mx sz0)) => (match bx.getD b none with | some (.arr true _ sz _) => bif Nat.beq sz sz0 then some (b, lo, hi, mx, sz) else none | _ => none)
  | _ => none
def vSlice (dr : Bool) (o : Oper) (t : TypeId) (x : Operand) (lo hi mx : Option Operand) (k : St → Option R) (st : St) : Option R :=
  match cf.ti t, mx with
  | some { desc := .string, .. }, none =>
    (match st.ev cf x with
     | .t (.w (.d (.str s))) =>
       (match bnd cf st 0 lo, bnd cf st s.size hi with
        | some l, some h => bif decide (0 ≤ l ∧ l ≤ h ∧ h ≤ s.size) then k (st.set o.dst (vs (s.extract l.toNat h.toNat))) else none
        | _, _ => none)
     | _ => none)
  | some { desc := .slice _, .. }, mx =>
    bif borOf cf o then
      (match viewOf st.bx (st.ev cf x) with
       | some (b, lo0, hi0, mx0, sz) =>
         (match esz cf t, bnd cf st 0 lo, bnd cf st (hi0 - lo0) hi, bnd cf st (mx0 - lo0) mx with
          | some n, some l, some h, some c =>
            bif n == sz && (mx.isNone || hi.isSome) && decide (0 ≤ l ∧ l ≤ h ∧ h ≤ c ∧ c ≤ (mx0 - lo0 : Nat)) then k (st.set o.dst (.t (.w (.vw b (lo0 + l.toNat) (lo0 + h.toNat) (lo0 + c.toNat) sz)))) else none
          | _, _, _, _ => none)
       | none => none)
    else bif mx.isSome then none else
    (match passV dr (st.ev cf x) st.bx with
     | some (.t (.w (.d (.sl sz els))), bx) =>
       (match esz cf t, bnd cf st 0 lo, bnd cf st els.length hi with
        | some n, some l, some h =>
          bif n == sz && decide (0 ≤ l ∧ l ≤ h ∧ h ≤ els.length) then k (({ st with bx := bx } : St).set o.dst (vc (.sl sz ((els.drop l.toNat).take (h.toNat - l.toNat))))) else none
        | _, _, _ => none)
     | _ => none)
  | some { desc := .array n e, .. }, none =>
    (match st.ev cf x, lo, hi, sizeOfT cf e with
     | .t (.w (.ptr b off)), none, none, some 1 =>
       bif borOf cf o then
         (match st.bx.getD b none with
          | some (.cells ⟨l, [], ln⟩) =>
            bif Nat.beq off 0 && ln == n && !dr && decide (n ≤ 9223372036854775807) then k ((({ st with bx := st.bx.set b none } : St).boxNew (.arr true none 1 (l.map fun c => [c]))).set o.dst (.t (.w (.arr st.bx.length)))) else none
          | _ => none)
       else k (st.set o.dst (.t (.w (.pv b off n))))
     | _, _, _, _ => none)
  | _, _ => none

def vFieldAddr (o : Oper) (s : TypeId) (x : Operand) (f : Nat) (k : St → Option R) (st : St) : Option R :=
  match cf.ti s with
  | some { desc := .struct fs, .. } =>
    (match fieldOf fs.toList f with
     | some fd =>
       (match sizeOfT cf fd.type, st.ev cf x with
        | some (_ + 1), .t (.w (.ptr b off)) => k (st.set o.dst (.t (.w (.ptr b (off + fd.offset)))))
        | some (_ + 1), .t (.w (.ea b n sz off)) => k (st.set o.dst (.t (.w (.ea b n sz (off + fd.offset)))))
        | some (_ + 1), .t (.w (.d (.ip l))) => k (st.set o.dst (vc (.ip (l.drop fd.offset))))
        | _, _ => none)
     | none => none)
  | _ => none

def vField (o : Oper) (s : TypeId) (x : Operand) (f : Nat) (k : St → Option R) (st : St) : Option R :=
  match cf.ti s, st.ev cf x with
  | some { desc := .struct fs, .. }, .t (.agg m) =>
    (match fieldOf fs.toList f with
     | some fd => (match cf.ti fd.type with
                   | some i => (match cut i.ag i.size m fd.offset with | some v => k (st.set o.dst (.t v)) | none => none)
                   | none => none)
     | none => none)
  | _, _ => none

def vIndexAddr (o : Oper) (t : TypeId) (x ix : Operand) (k : St → Option R) (st : St) : Option R :=
  match st.ev cf ix with
  | .t (.w (.d (.int _ i))) =>
    (match cf.ti t, st.ev cf x with
     | some { desc := .slice _, .. }, .t (.w (.d (.sl sz els))) =>
       (match esz cf t with
        | some n => bif n == sz && decide (0 ≤ i) then getT els i.toNat fun e => k (st.set o.dst (vc (.ip e))) else none
        | none => none)
     | some { desc := .slice _, .. }, .t (.w (.arr b)) =>
       (match esz cf t, st.bx.getD b none with
        | some n, some (.arr mt _ sz els) =>
          bif n == sz && decide (0 ≤ i) then getT els i.toNat fun e => (bif mt then k (st.set o.dst (.t (.w (.ea b i.toNat sz 0)))) else k (st.set o.dst (vc (.ip e)))) else none
        | _, _ => none)
     | some { desc := .slice _, .. }, .t (.w (.vw b lo hi _ sz0)) =>
       (match esz cf t, st.bx.getD b none with
        | some n, some (.arr true _ sz els) =>
          bif n == sz && Nat.beq sz sz0 && decide (0 ≤ i ∧ i < (hi - lo : Nat)) then getT els (lo + i.toNat) fun _ => k (st.set o.dst (.t (.w (.ea b (lo + i.toNat) sz 0)))) else none
        | _, _ => none)
     | some { desc := .array len e, .. }, .t (.w (.ptr b off)) =>
       (match sizeOfT cf e with
        | some n => bif decide (0 ≤ i ∧ i < len) then k (st.set o.dst (.t (.w (.ptr b (off + i.toNat * n))))) else none
        | none => none)
     | some { desc := .array len e, .. }, .t (.w (.ea b n sz off)) =>
       (match sizeOfT cf e with
        | some es => bif decide (0 ≤ i ∧ i < len) then k (st.set o.dst (.t (.w (.ea b n sz (off + i.toNat * es))))) else none
        | none => none)
     | some { desc := .array len e, .. }, .t (.w (.d (.ip l))) =>
       (match sizeOfT cf e with
        | some es => bif decide (0 ≤ i ∧ i < len) then k (st.set o.dst (vc (.ip (l.drop (i.toNat * es))))) else none
        | none => none)
     | _, _ => none)
  | _ => none

def vIndex (o : Oper) (t : TypeId) (x ix : Operand) (k : St → Option R) (st : St) : Option R :=
  match st.ev cf ix with
  | .t (.w (.d (.int _ i))) =>
    (match cf.ti t, st.ev cf x with
     | some { desc := .string, .. }, .t (.w (.d (.str s))) =>
       bif decide (0 ≤ i) then getT s.data.toList i.toNat fun b => k (st.set o.dst (vc (.int .u8 b.toNat))) else none
     | some { desc := .array len e, .. }, .t (.agg m) =>
       (match cf.ti e with
        | some ti => bif decide (0 ≤ i ∧ i < len) then cutX ti m (i.toNat * ti.size) (fun v => k (st.set o.dst (.t v))) else none
        | none => none)
     | _, _ => none)
  | _ => none

def vRange (o : Oper) (t : TypeId) (x : Operand) (k : St → Option R) (st : St) : Option R :=
  match cf.ti t, st.ev cf x with
  | some { desc := .string, .. }, .t (.w (.d (.str s))) => k ((st.boxNew (.iter s 0)).set o.dst (.t (.w (.ptr st.bx.length 0))))
  | _, _ => none

def vNext (o : Oper) (x : Operand) (k : St → Option R) (st : St) : Option R :=
  match st.ev cf x with
  | .t (.w (.ptr b 0)) =>
    (match st.bx.getD b none with
     | some (.iter s pos) =>
       bif decide (pos < s.size)
       then k (({ st with bx := st.bx.set b (some (.iter s (pos + (Utf8.decode s pos).2))) } : St).set o.dst
              (.tup [.w (.d (.bool true)), .w (.d (.int .i64 pos)), .w (.d (.int .i32 (Utf8.decode s pos).1))]))
       else k (st.set o.dst (.tup [.w (.d (.bool false))]))
     | _ => none)
  | _ => none

/-- the zero value of a type -/
def vZero (dr : Bool) (i : TI) (k : T → St → Option R) (st : St) : Option R :=
  match st.zero dr i.zero with
  | (m, st) => (match cut i.ag i.size m 0 with | some v => k v st | none => none)

def vAssert (dr : Bool) (o : Oper) (t : TypeId) (x : Operand) (ok : Bool) (k : St → Option R) (st : St) : Option R :=
  match cf.ti t with
  | some i =>
    (match i.desc, st.ev cf x with
     | .interface _, _ => none
     | _, .t (.w (.d (.ifc t' ag l))) =>
       bif t' == t then
         (bif ag == i.ag && l.length == (bif ag then i.size else 1) then cutK i l fun v => (bif ok then k (st.set o.dst (.tup [v, .w (.d (.bool true))])) else k (st.set o.dst (.t v))) else none)
       else bif ok then vZero dr i (fun v st => k (st.set o.dst (.tup [v, .w (.d (.bool false))]))) st
       else none
     | _, .t (.w (.d .ni)) =>
       bif ok then vZero dr i (fun v st => k (st.set o.dst (.tup [v, .w (.d (.bool false))]))) st
       else none
     | _, _ => none)
  | none => none

def vExtract (o : Oper) (x : Operand) (i : Nat) (k : St → Option R) (st : St) : Option R :=
  match st.ev cf x with
  | .tup l => (match l[i]? with | some v => k (st.set o.dst (.t v)) | none => none)
  | _ => none

def vMakeIface (dr : Bool) (o : Oper) (t : TypeId) (x : Operand) (k : St → Option R) (st : St) : Option R :=
  match cf.ti t, st.evT cf t x with
  | some i, .t v =>
    (match i.desc, frzT dr v st.bx with
     | .interface _, _ => none
     | _, some (l, bx) => k (({ st with bx := bx } : St).set o.dst (vc (.ifc t v.isAgg l.1)))
     | _, none => none)
  | _, _ => none

/-- how many elements a slice has -/
def slLen (bx : Bx) : V → Option Nat
  | .t (.w (.d (.sl _ els))) => some els.length
  | .t (.w (.es _)) => some 0
  | .t (.w (.arr b)) => (match bx.getD b none with | some (.arr _ _ _ els) => some els.length | _ => none)
  | .t (.w (.vw _ lo hi _ _)) => some (hi - lo)
  | _ => none

def vLen (o : Oper) (ts : Array TypeId) (xs : Array Operand) (k : St → Option R) (st : St) : Option R :=
  match ts.toList, xs.toList with
  | [t], [x] =>
    (match cf.ti t with
     | some { desc := .string, .. } => (match st.ev cf x with | .t (.w (.d (.str s))) => k (st.set o.dst (vi s.size)) | _ => none)
     | some { desc := .slice _, .. } => (match slLen st.bx (st.evT cf t x) with | some n => k (st.set o.dst (vi n)) | none => none)
     | some { desc := .array n _, .. } => k (st.set o.dst (vi n))
     | some { desc := .map _ _, .. } => (match st.ev cf x with | .t (.w (.mp b)) => (match st.bx.getD b none with | some (.map _ _ _ _ es) => k (st.set o.dst (vi es.length)) | _ => none) | _ => none)
     | _ => none)
  | _, _ => none

def vMinMax (o : Oper) (isMax : Bool) (xs : Array Operand) (k : St → Option R) (st : St) : Option R :=
  match xs.toList with
  | [x, y] =>
    (match st.ev cf x, st.ev cf y with
     | .t (.w (.d (.int kx a))), .t (.w (.d (.int ky b))) =>
       bif decide (kx = ky) then k (st.set o.dst (vc (.int kx (bif isMax then (if a < b then b else a) else (if b < a then b else a))))) else none
     | _, _ => none)
  | _ => none

/-- what is appended: elements, of so many cells each -/
def appSrc (cf : Cfg) (t t2 : TypeId) (bx : Bx) : V → Option (Nat × List (List C))
  | .t (.w (.d (.str s))) => (match cf.ti t2 with | some { desc := .string, .. } => some (1, byteEls s) | _ => none)
  | v => bif t2 == t then elsOf bx v else none

/-- onto a slice without elements and without room -/
def vAppendE (o : Oper) (e : TypeId) (i : TI) (sz sz2 : Nat) (els2 : List (List C)) (k : St → Option R) (st : St) : Option R :=
  bif i.size == sz && sz2 == sz && Nat.blt 0 sz && decide (els2.length * i.bytes ≤ 140737488355328 ∧ els2.length ≤ 9223372036854775807)
  then (bif els2.isEmpty then k (st.set o.dst (.t (.w (.es sz)))) else k ((st.boxNew (.arr true (some e) sz els2)).set o.dst (.t (.w (.arr st.bx.length)))))
  else none

def vAppend (o : Oper) (ts : Array TypeId) (xs : Array Operand) (k : St → Option R) (st : St) : Option R :=
  match ts.toList, xs.toList with
  | [t, t2], [x, y] =>
    (match cf.ti t with
     | some { desc := .slice e, .. } =>
       (match cf.ti e, (bif isNilSlice x then (match esz cf t with | some sz => .t (.w (.es sz)) | none => vu) else st.ev cf x), appSrc cf t t2 st.bx (st.evT cf t2 y) with
        | some i, .t (.w (.arr b)), some (sz2, els2) =>
          (match st.bx.getD b none with
           | some (.arr mt e2 sz els) =>
             bif optIs e2 e && i.size == sz && sz2 == sz && decide ((els.length + els2.length) * i.bytes ≤ 140737488355328 ∧ els.length + els2.length ≤ 9223372036854775807)
             then k ((({ st with bx := st.bx.set b none } : St).boxNew (.arr mt (some e) sz (els ++ els2))).set o.dst (.t (.w (.arr st.bx.length))))
             else none
           | _ => none)
        | some i, .t (.w (.es sz)), some (sz2, els2) => bif t2 == t then vAppendE o e i sz sz2 els2 k st else none
        | some i, .t (.w (.vw b lo hi mx sz0)), some (sz2, els2) =>
          (match st.bx.getD b none with
           | some (.arr true e2 sz els) =>
             bif t2 == t && optIs e2 e && i.size == sz && sz2 == sz && Nat.beq sz sz0 && decide (lo ≤ hi ∧ hi + els2.length ≤ mx ∧ mx ≤ els.length ∧ 0 < els.length)
             then k (({ st with bx := st.bx.set b (some (.arr true e2 sz (els.take hi ++ els2 ++ els.drop (hi + els2.length)))) } : St).set o.dst (.t (.w (.vw b lo (hi + els2.length) mx sz))))
             else none
           | _ => none)
        | _, _, _ => none)
     | _ => none)
  | _, _ => none


def vCopy (o : Oper) (ts : Array TypeId) (xs : Array Operand) (k : St → Option R) (st : St) : Option R :=
  match ts.toList, xs.toList with
  | [t, t2], [x, y] =>
    (match eszE cf t, elsOf st.bx (st.evT cf t2 y) with
     | some (_, 1), some (1, els2) =>
       (match st.ev cf x with
        | .t (.w (.pv b off n)) =>
          (match st.bx.getD b none with
           | some (.cells m) =>
             bif Nat.ble (off + n) m.n then
               k (({ st with bx := st.bx.set b (some (.cells (m.put off ⟨(els2.take n).map (fun e => e.getD 0 .nf), [], Nat.min els2.length n⟩))) } : St).set o.dst (vi (Nat.min els2.length n)))
             else none
           | _ => none)
        | _ => none)
     | _, _ => none)
  | _, _ => none

/-! maps -/
def eqK1 : C → C → Bool
  | .int k a, .int j b => decide (k = j) && (a == b)
  | .bool a, .bool b => a == b
  | .str a, .str b => a.toList == b.toList
  | _, _ => false
def eqK : List C → List C → Bool
  | [], [] => true
  | a :: r, b :: q => eqK1 a b && eqK r q
  | _, _ => false
def mapGet (k : List C) : List (List C × List C) → Option (List C)
  | [] => none
  | (a, v) :: r => bif eqK k a then some v else mapGet k r
def mapPut (k v : List C) : List (List C × List C) → List (List C × List C)
  | [] => [(k, v)]
  | (a, x) :: r => bif eqK k a then (k, v) :: r else (a, x) :: mapPut k v r
def mapDel (k : List C) : List (List C × List C) → List (List C × List C)
  | [] => []
  | (a, x) :: r => bif eqK k a then r else (a, x) :: mapDel k r

/-- of which kinds a key's cells are -/
def keySh (cf : Cfg) (kt : TypeId) : Option (List Sh) :=
  match cf.ti kt with
  | some i =>
    (match i.desc with
     | .string => bif i.ag then none else some [.str]
     | .int k => bif i.ag then none else some [.int k]
     | _ => none)
  | none => none
def shEq : Sh → Sh → Bool
  | .str, .str => true
  | .int k, .int j => decide (k = j)
  | _, _ => false
def shsEq : List Sh → List Sh → Bool
  | [], [] => true
  | a :: r, b :: q => shEq a b && shsEq r q
  | _, _ => false

def vMakeMap (o : Oper) (t : TypeId) (n : Option Operand) (k : St → Option R) (st : St) : Option R :=
  match cf.ti t, n with
  | some { desc := .map kt vt, .. }, none =>
    (match keySh cf kt, cf.ti vt with
     | some sh, some vi => k ((st.boxNew (.map sh false vi.ag vi.size [])).set o.dst (.t (.w (.mp st.bx.length))))
     | _, _ => none)
  | _, _ => none

def keyOf (v : V) : Option (List C) :=
  match v with
  | .t (.w (.d c)) => some [c]
  | _ => none

def vLookup (o : Oper) (t : TypeId) (x y : Operand) (ok : Bool) (k : St → Option R) (st : St) : Option R :=
  match cf.ti t with
  | some { desc := .map kt vt, .. } =>
    (match keySh cf kt, cf.ti vt, st.ev cf x, keyOf (st.ev cf y) with
     | some sh, some i, .t (.w (.mp b)), some kc =>
       (match st.bx.getD b none with
        | some (.map ksh false va vn es) =>
          bif shsEq sh ksh && shOk sh kc && (va == i.ag) && Nat.beq vn i.size then
            cutK i ((mapGet kc es).getD (zeroC i.zero)) fun v =>
              (bif ok then k (st.set o.dst (.tup [v, .w (.d (.bool (mapGet kc es).isSome))])) else k (st.set o.dst (.t v)))
          else none
        | _ => none)
     | _, _, _, _ => none)
  | _ => none

def vMapUpdate (t : TypeId) (m x y : Operand) (k : St → Option R) (st : St) : Option R :=
  match cf.ti t with
  | some { desc := .map kt vt, .. } =>
    (match keySh cf kt, cf.ti vt, st.ev cf m, keyOf (st.ev cf x), st.evT cf vt y with
     | some sh, some i, .t (.w (.mp b)), some kc, .t v =>
       (match v.stabC with
        | some cs =>
          (match st.bx.getD b none with
           | some (.map ksh false va vn es) =>
             bif shsEq sh ksh && shOk sh kc && (va == i.ag) && (v.isAgg == va) && Nat.beq cs.2 i.size && Nat.beq vn i.size then k { st with bx := st.bx.set b (some (.map ksh false va vn (mapPut kc cs.1 es))) } else none
           | _ => none)
        | none => none)
     | _, _, _, _, _ => none)
  | _ => none

def vDelete (o : Oper) (ts : Array TypeId) (xs : Array Operand) (k : St → Option R) (st : St) : Option R :=
  match ts.toList, xs.toList with
  | t :: _, [m, x] =>
    (match cf.ti t with
     | some { desc := .map kt _, .. } =>
       (match keySh cf kt, st.ev cf m, keyOf (st.ev cf x) with
        | some sh, .t (.w (.mp b)), some kc =>
          (match st.bx.getD b none with
           | some (.map ksh false va vn es) => bif shsEq sh ksh && shOk sh kc then k (({ st with bx := st.bx.set b (some (.map ksh false va vn (mapDel kc es))) } : St).set o.dst (.tup [])) else none
           | _ => none)
        | _, _, _ => none)
     | _ => none)
  | _, _ => none

def vClear (o : Oper) (ts : Array TypeId) (xs : Array Operand) (k : St → Option R) (st : St) : Option R :=
  match ts.toList, xs.toList with
  | [t], [x] =>
    (match cf.ti t with
     | some { desc := .map _ _, .. } =>
       (match st.ev cf x with
        | .t (.w (.mp b)) =>
          (match st.bx.getD b none with
           | some (.map ksh ka va vn _) => k (({ st with bx := st.bx.set b (some (.map ksh ka va vn [])) } : St).set o.dst (.tup []))
           | _ => none)
        | _ => none)
     | some { desc := .slice e, .. } =>
       (match cf.ti e, st.ev cf x with
        | some i, .t (.w (.vw b lo hi mx sz0)) =>
          (match st.bx.getD b none with
           | some (.arr true e2 sz els) =>
             bif optIs e2 e && i.size == sz && Nat.beq sz sz0 && Nat.ble 1 sz && decide (lo ≤ hi ∧ hi ≤ mx ∧ mx ≤ els.length ∧ 0 < els.length)
             then k (({ st with bx := st.bx.set b (some (.arr true e2 sz (els.take lo ++ List.replicate (hi - lo) (zeroC i.zero) ++ els.drop hi))) } : St).set o.dst (.tup []))
             else none
           | _ => none)
        | _, _ => none)
     | _ => none)
  | _, _ => none

/-- boxes that a closure looks at become stable -/
def W.freeze (b : Nat) (l : List C) : W → W
  | .ptr c off => bif c == b then .d (.ip (l.drop off)) else .ptr c off
  | x => x
def St.mapW (f : W → W) (st : St) : St := { st with env := st.env.map (V.mapW f), bx := st.bx.map (Option.map (Box.mapW f)) }

def freezeCaps (cf : Cfg) : List Operand → St → Option (List C × St)
  | [], st => some ([], st)
  | x :: r, st =>
    (match st.ev cf x with
     | .t (.w (.ptr b 0)) =>
       (match st.bx.getD b none with
        | some (.cells m) =>
          (match passLk false m.n m.lk m.l st.bx with
           | some (⟨cs, [], _⟩, bx) =>
             let st := { st with bx := bx.set b none }.mapW (.freeze b cs)
             (match freezeCaps cf r st with
              | some (l, st) => some (.ip cs :: l, st)
              | none => none)
           | _ => none)
        | _ => none)
     | .t (.w (.d c)) => (match freezeCaps cf r st with | some (l, st) => some (c :: l, st) | none => none)
     | _ => none)

/-- boxes that a closure shares -/
def shareCaps (cf : Cfg) (st : St) : List Operand → Option (List Nat)
  | [] => some []
  | x :: r =>
    (match st.ev cf x, shareCaps cf st r with
     | .t (.w (.ptr b 0)), some l => some (b :: l)
     | _, _ => none)

def vMakeFunc (dr : Bool) (o : Oper) (fn : Fn) (first captured : Array Operand) (k : St → Option R) (st : St) : Option R :=
  match fn, first.toList with
  | .func f, [] =>
    bif borOf cf o then (match shareCaps cf st captured.toList with | some l => k (st.set o.dst (.t (.w (.clo f l)))) | none => none)
    else bif dr then none
    else (match freezeCaps cf captured.toList st with | some (l, st) => k (st.set o.dst (vc (.fn f l))) | none => none)
  | _, _ => none

/-- boxes as they come back from a call, and the new ones -/
def back (order : List Nat) (n : Nat) (k : Nat) : Option Nat :=
  match order[k]? with
  | some b => some b
  | none => some (n + (k - order.length))
def setAll : List Nat → Bx → Bx → Bx
  | b :: r, x :: q, bx => setAll r q (bx.set b x)
  | _, _, bx => bx
def St.return (st : St) (order : List Nat) (bxs : Bx) : St :=
  { st with bx := setAll order (bxs.map (Option.map (Box.mapW (.ren (back order st.bx.length))))) st.bx ++ (bxs.drop order.length).map (Option.map (Box.mapW (.ren (back order st.bx.length)))) }

def isArr : V → Bool
  | .t (.w (.arr _)) => true
  | _ => false
/-- arguments; with 'b' rows of elements go as they are -/
def passArgs (dr b : Bool) : List V → Bx → Option (List V × Bx)
  | [], bx => some ([], bx)
  | x :: r, bx =>
    (match (bif b && isArr x then some (x, bx) else passV dr x bx) with
     | some (y, bx) => (match passArgs dr b r bx with | some (l, bx) => some (y :: l, bx) | none => none)
     | none => none)

def callWith (dr : Bool) (o : Oper) (id : FuncId) (args : List V) (k : St → Option R) (st : St) : Option R :=
  bif dr then
    (cf.pc id (args.map (V.mapW (.ren fun _ => none))) [] (fun v bxs => some (v, bxs))).bind fun p => (match p.2 with | [] => k (st.set o.dst (p.1.mapW (.ren fun _ => none))) | _ => none)
  else
    let order := reachAll st.bx [] (vsNames args)
    cf.pc id (renVs order args) (renBx order st.bx) fun v bxs =>
      bif Nat.ble order.length bxs.length then k ((st.return order bxs).set o.dst (v.mapW (.ren (back order st.bx.length)))) else none

def vCall (dr : Bool) (o : Oper) (c : Call) (k : St → Option R) (st : St) : Option R :=
  match c.callee with
  | .value f =>
    (match st.ev cf f, passArgs dr (borOf cf o) (st.evs cf c.argTypes.toList c.args.toList) st.bx with
     | .t (.w (.d (.fn id caps))), some (vs, bx) => bif vs.length == c.args.size then callWith cf dr o id (vs ++ caps.map vc) k { st with bx := bx } else none
     | .t (.w (.clo id bs)), some (vs, bx) => bif vs.length == c.args.size && !dr then callWith cf dr o id (vs ++ bs.map fun b => .t (.w (.ptr b 0))) k { st with bx := bx } else none
     | _, _ => none)
  | .builtin .len => vLen cf o c.argTypes c.args k st
  | .builtin .append => vAppend cf o c.argTypes c.args k st
  | .builtin .copy => bif dr then none else vCopy cf o c.argTypes c.args k st
  | .builtin .delete => bif dr then none else vDelete cf o c.argTypes c.args k st
  | .builtin .clear => bif dr then none else vClear cf o c.argTypes c.args k st
  | .builtin .max => vMinMax cf o true c.args k st
  | .builtin .min => vMinMax cf o false c.args k st
  | _ => none

def vop (dr : Bool) (o : Oper) (k : St → Option R) (st : St) : Option R :=
  match o.op with
  | .move x => k (st.set o.dst (st.evT cf o.type x))
  | .assign x =>
    bif isNilSlice x then
      (match eszE cf o.type with
       | some (e, sz) => bif Nat.ble 1 sz then (bif dr || nilOf cf o then k (st.set o.dst (vc (.sl sz []))) else k ((st.boxNew (.arr true (some e) sz [])).set o.dst (.t (.w (.arr st.bx.length))))) else none
       | none => none)
    else k (st.set o.dst (st.ev cf x))
  | .pick c a b =>
    (match st.ev cf c with
     | .t (.w (.d (.bool t))) => k (st.set o.dst (bif t then st.evT cf o.type a else st.evT cf o.type b))
     | _ => none)
  | .alloc t => vAlloc cf o t k st
  | .box t x => vBox cf o t x k st
  | .build t ps => vBuild cf dr o t ps k st
  | .buildSlice t n ps => vBuildSlice cf dr o t n ps k st
  | .load t x => vLoad cf o t x k st
  | .store t x y => vStore cf dr t x y (fun st => k (st.set o.dst (.tup []))) st
  | .nilCheck x =>
    (match st.ev cf x with
     | .t (.w (.ptr b off)) => k (st.set o.dst (.t (.w (.ptr b off))))
     | .t (.w (.ea b n sz off)) => k (st.set o.dst (.t (.w (.ea b n sz off))))
     | .t (.w (.d (.ip l))) => k (st.set o.dst (vc (.ip l)))
     | .t (.w (.d (.fn f l))) => k (st.set o.dst (vc (.fn f l)))
     | .t (.w (.clo f l)) => k (st.set o.dst (.t (.w (.clo f l))))
     | _ => none)
  | .binOp op t x y _ => vBin cf o op t x y k st
  | .unOp op _ x => vUn cf o op x k st
  | .convert s d x => vConvert cf dr o s d x k st
  | .makeSlice t n c => vMakeSlice cf dr o t n c k st
  | .makeInterface t x => vMakeIface cf dr o t x k st
  | .makeFunc fn first cap => vMakeFunc cf dr o fn first cap k st
  | .makeMap t n => bif dr then none else vMakeMap cf o t n k st
  | .lookup t x i ok => vLookup cf o t x i ok k st
  | .mapUpdate t m x y => bif dr then none else vMapUpdate cf t m x y (fun st => k (st.set o.dst (.tup []))) st
  | .slice t x lo hi mx => vSlice cf dr o t x lo hi mx k st
  | .fieldAddr s x f => vFieldAddr cf o s x f k st
  | .field s x f => vField cf o s x f k st
  | .indexAddr t x i => vIndexAddr cf o t x i k st
  | .index t x i => vIndex cf o t x i k st
  | .range t x => vRange cf o t x k st
  | .next x true => vNext cf o x k st
  | .typeAssert x _ t ok => vAssert cf dr o t x ok k st
  | .extract x i => vExtract cf o x i k st
  | .call c => vCall cf dr o c k st
  | _ => none

/-- is an operation's answer a later one's guard? -/
def isGuard (ops : List Oper) (dst : Option Nat) : List Oper → Bool
  | [] => false
  | o :: r =>
    (match o.guard, dst with
     | some (j, _), some d => (match ops[j]? with | some g => (match g.dst with | some e => e == d | none => false) | none => false)
     | _, _ => false) || isGuard ops dst r

def split (st : St) (dst : Option Nat) (k : St → Option R) : Option R :=
  match dst with
  | some d =>
    (match getV st.env d with
     | .t (.w (.d (.bool b))) => bif b then k (st.set (some d) (vb true)) else k (st.set (some d) (vb false))
     | _ => k st)
  | none => k st

def wantedV (ops : List Oper) (st : St) (o : Oper) : Option Bool :=
  match o.guard with
  | none => some true
  | some (j, want) =>
    (match ops[j]? with
     | some g =>
       (match g.dst with
        | some d =>
          (match getO st.env d with
           | some (.t (.w (.d (.bool b)))) => some (b == want)
           | some (.tup _) => some false
           | _ => none)
        | none => none)
     | none => none)

def runOps (dr : Bool) (ops : List Oper) : List Oper → (St → Option R) → St → Option R
  | [], k, st => k st
  | o :: r, k, st =>
    (match wantedV ops st o with
     | some true => vop cf dr o (fun st => bif isGuard ops o.dst r then split st o.dst (runOps dr ops r k) else runOps dr ops r k st) st
     | some false => runOps dr ops r k (st.set o.dst (.tup []))
     | none => none)

/-- operations that don't mind boxes behind -/
def farOp : Op → Bool
  | .store .. | .alloc _ | .box .. => false
  | .call { callee := .builtin .append, .. } | .call { callee := .builtin .max, .. } | .call { callee := .builtin .min, .. } => false
  | .slice .. | .convert .. => false
  | _ => true
/-- an operand that stands for a slice without elements and without room -/
def isFresh (ops : List Oper) : Operand → Bool
  | .tmp t => ops.any fun o => (match o.dst with | some d => d == t | none => false) && (match o.op with | .buildSlice _ 0 _ => true | _ => false)
  | x => isNilSlice x
/-- what is appended to it makes a row of its own -/
def isCr (ops : List Oper) (o : Oper) : Bool :=
  match o.op with
  | .alloc _ | .box .. => true
  | .call { callee := .builtin .append, args := xs, .. } => (match xs.toList with | x :: _ => isFresh ops x | [] => false)
  | _ => false
def isEs (o : Oper) (st : St) : Bool :=
  match o.op with
  | .alloc _ | .box .. => true
  | .call { callee := .builtin .append, args := xs, .. } =>
    (match xs.toList with
     | x :: _ => isNilSlice x || (match st.ev cf x with | .t (.w (.es _)) => true | _ => false)
     | [] => false)
  | _ => false
/-- one of a statement whose order is open: 'N': how many boxes there were ahead of it -/
def vopN (N : Nat) (ops : List Oper) (o : Oper) (k : St → Option R) (st : St) : Option R :=
  bif farOp o.op then vop cf true o (fun s => k { s with bx := st.bx }) { st with bx := st.bx.take N }
  else bif isCr ops o then (bif isEs cf o st && Nat.ble N st.bx.length then vop cf true o k st else none)
  else vop cf true o k st
/-- with those that stand between all others as they are -/
def runOpsB (N : Nat) (ops : List Oper) : List Oper → List Bool → (St → Option R) → St → Option R
  | [], _, k, st => k st
  | o :: r, bs, k, st =>
    (match wantedV ops st o with
     | some true =>
       (bif bs.headD false then vop cf false o (fun st => bif isGuard ops o.dst r then split st o.dst (runOpsB N ops r bs.tail k) else runOpsB N ops r bs.tail k st) st
        else vopN cf N ops o (fun st => bif isGuard ops o.dst r then split st o.dst (runOpsB N ops r bs.tail k) else runOpsB N ops r bs.tail k st) st)
     | some false => runOpsB N ops r bs.tail k (st.set o.dst (.tup []))
     | none => none)

end ops

/-! a statement whose order is open -/
def isWr : Op → Bool
  | .store .. | .alloc _ | .box .. => true
  | .call { callee := .builtin .append, .. } => true
  | _ => false
def isRd : Op → Bool
  | .load .. | .indexAddr .. | .slice .. | .convert .. | .call .. | .makeInterface .. | .buildSlice .. | .lookup .. => true
  | _ => false
def okOp : Op → Bool
  | .range .. | .next .. | .makeSlice .. | .makeMap .. | .mapUpdate .. => false
  | _ => true
/-- what one writes the other one sees -/
def hits (ops : Array Oper) (x y : Oper) : Bool := isWr x.op && (isWr y.op || (isRd y.op && !(farOp y.op && isCr ops.toList x)))
/-- the order of two operations doesn't matter -/
def indep (ops : Array Oper) (x y : Oper) : Bool :=
  x.apart ops y && !hits ops x y && !hits ops y x
/-- which operations stand before one, whatever the order: as bits -/
def mask (o : Oper) (acc : List Nat) : Nat :=
  o.after.toList.foldl (fun m e => bif Region.binds .any e then Nat.lor m (Nat.lor (2 ^ e.on) (acc.getD e.on 0)) else m) 0
def ancGo : List Oper → List Nat → List Nat
  | [], acc => acc
  | o :: r, acc => ancGo r (acc ++ [mask o acc])
def anc (ops : List Oper) : List Nat := ancGo ops []
def pairOk (ops : Array Oper) (m : Nat) (y : Oper) : Nat → List Oper → Bool
  | _, [] => true
  | i, x :: r => (m.testBit i || indep ops x y) && pairOk ops m y (i + 1) r
/-- all of the first so many bits -/
def hasAll (m : Nat) : Nat → Bool
  | 0 => true
  | i + 1 => m.testBit i && hasAll m i
/-- every other operation stands before this one or behind it, whatever the order -/
def barr (as : List Nat) (i : Nat) : Bool := hasAll (as.getD i 0) i && (as.drop (i + 1)).all (fun m => m.testBit i)
def barrs (ops : List Oper) : List Bool := (List.range (anc ops).length).map (barr (anc ops))
/-- 'pre': those before, 'j': how many -/
def drawGo (ops : Array Oper) (as : List Nat) (bs : List Bool) (pre : List Oper) : Nat → List Oper → Bool
  | _, [] => true
  | j, y :: r => (bs.getD j false || okOp y.op) && y.after.toList.all (fun e => !Region.binds .any e || Nat.blt e.on j) && pairOk ops (as.getD j 0) y 0 pre && drawGo ops as bs (pre ++ [y]) (j + 1) r
def drawOk (ops : Array Oper) : Bool := drawGo ops (anc ops.toList) (barrs ops.toList) [] 0 ops.toList

/-! operations that hang on each other may stand in any order: each is looked at -/
/-- a call of a function: it runs as it is -/
def isFn : Op → Bool
  | .call { callee := .value _, .. } => true
  | _ => false
def touch (op : Op) : Bool := isRd op || isWr op
def indepL (ops : Array Oper) (x y : Oper) : Bool :=
  bif isFn x.op || isFn y.op then x.apart ops y && !(touch x.op && touch y.op) else indep ops x y
def posOf : List Nat → Nat → Nat
  | [], _ => 0
  | x :: r, n => bif Nat.beq x n then 0 else posOf r n + 1
def memB (n : Nat) : List Nat → Bool
  | [] => false
  | x :: r => Nat.beq x n || memB n r
/-- the pairs that hang on each other, with neither of them ahead -/
def conflGo (ops : Array Oper) (as : List Nat) : Nat → List Oper → List (Nat × Nat)
  | _, [] => []
  | j, y :: r =>
    ((List.range j).filter fun i => !((as.getD j 0).testBit i) && (match ops[i]? with | some x => !indepL ops x y | none => false)).map (fun i => (i, j)) ++ conflGo ops as (j + 1) r
def hasPr (a b : Nat) : List (Nat × Nat) → Bool
  | [] => false
  | q :: r => (Nat.beq q.1 a && Nat.beq q.2 b) || hasPr a b r
/-- an order in which these pairs stand so -/
def topo (as : List Nat) (ex : List (Nat × Nat)) : Nat → List Nat → List Nat → List Nat
  | 0, acc, _ => acc
  | f + 1, acc, rest =>
    (match rest.find? (fun x => rest.all fun p => Nat.beq p x || (!((as.getD x 0).testBit p) && !(hasPr p x ex))) with
     | some x => topo as ex f (acc ++ [x]) (rest.filter fun p => !(Nat.beq p x))
     | none => acc)
def signs : List (Nat × Nat) → List (List (Nat × Nat))
  | [] => [[]]
  | q :: r => (signs r).map (fun l => q :: l) ++ (signs r).map (fun l => (q.2, q.1) :: l)
def prw (f : Nat → Nat) : List Nat → Bool
  | [] => true
  | x :: r => r.all (fun y => Nat.blt (f x) (f y)) && prw f r
/-- an order in which all operations may run, if the pairs are as they are in it -/
def ordOk (ops : Array Oper) (as : List Nat) (bs : List Bool) (cps : List (Nat × Nat)) (L : List Nat) : Bool :=
  prw (posOf L) L && (List.range ops.size).all (fun x => memB x L) && L.all fun x =>
    match ops[x]? with
    | some y =>
      !(bs.getD x false) && okOp y.op && y.after.toList.all (fun e => !Region.binds .any e || (Nat.blt e.on x && Nat.blt (posOf L e.on) (posOf L x))) &&
        L.all (fun p => !(Nat.blt (posOf L p) (posOf L x)) || (!((as.getD p 0).testBit x) && ((as.getD x 0).testBit p || (match ops[p]? with | some q => indepL ops q y | none => false) || hasPr p x cps || hasPr x p cps)))
    | none => false
def permOps (ops : Array Oper) (L : List Nat) : List Oper := L.filterMap fun x => ops[x]?
def permBs (bs : List Bool) (L : List Nat) : List Bool := L.map fun x => bs.getD x false
/-- ahead of, or the same -/
def leA (as : List Nat) (b c : Nat) : Bool := Nat.beq b c || (as.getD c 0).testBit b
/-- the pairs can't stand so -/
def badS (as : List Nat) (s : List (Nat × Nat)) : Bool := s.any fun q => s.any fun p => leA as q.2 p.1 && leA as p.2 q.1
/-- the orders: one for each way in which the pairs may stand -/
def alts (ops : Array Oper) : Option (List (List Nat)) :=
  let as := anc ops.toList
  let cps := conflGo ops as 0 ops.toList
  let ss := (signs cps).filter fun s => !badS as s
  let Ls := ss.map fun s => topo as s ops.size [] (List.range ops.size)
  bif Nat.blt cps.length 8 && cps.all (fun q => !(Nat.beq q.1 q.2) && (Nat.blt q.1 ops.size && Nat.blt q.2 ops.size)) && !Ls.isEmpty && Ls.all (fun L => cps.all (fun q => !(Nat.beq (posOf L q.1) (posOf L q.2))) && ordOk ops as [] cps L) &&
    ss.all (fun s => Ls.any fun L => s.all fun q => Nat.blt (posOf L q.1) (posOf L q.2)) then some Ls else none
open Classical in
/-- both come to the same -/
def both {R : Type} (a b : Option R) : Option R := if a = b then a else none
def bothL {R : Type} : List (Option R) → Option R
  | [] => none
  | [a] => a
  | a :: r => both a (bothL r)
def dup {R : Type} (n : Nat) (a : Option R) : Option R := bothL (List.replicate n a)

inductive X where
  | nm
  | ex (id : Nat)
  | rt
  deriving Inhabited

/-- what a loop's round begins with: slots of the round's own are forgotten; boxes get the names of their places -/
def maskEnv (drop : Nat → Bool) (i : Nat) (l : List V) : List Bool :=
  List.rec (motive := fun _ => Nat → List Bool) (fun _ => []) (fun v _ ih i => (match v with | .u => false | .tup [] => false | _ => !drop i) :: ih (i + 1)) l i
def maskV : List Bool → List V → List V
  | true :: r, v :: q => v :: maskV r q
  | false :: r, _ :: q => vu :: maskV r q
  | [], q => q
  | _, [] => []
def maskR (m : List Bool) : List V → List V :=
  List.rec (motive := fun _ => List V → List V) (fun q => q) (fun b _ ih q => List.rec (motive := fun _ => List V) [] (fun v q' _ => (bif b then v else vu) :: ih q') q) m
theorem maskR_eq : ∀ (m : List Bool) (l : List V), maskR m l = maskV m l
  | [], l => by cases l <;> rfl
  | b :: _, [] => by cases b <;> rfl
  | true :: r, v :: q => congrArg (v :: ·) (maskR_eq r q)
  | false :: r, _ :: q => congrArg (vu :: ·) (maskR_eq r q)
def appR (a b : List Nat) : List Nat := List.rec (motive := fun _ => List Nat) b (fun h _ ih => h :: ih) a
theorem appR_eq : ∀ (a b : List Nat), appR a b = a ++ b
  | [], _ => rfl
  | h :: t, b => congrArg (h :: ·) (appR_eq t b)
def namesR (l : List V) : List Nat := List.rec (motive := fun _ => List Nat) [] (fun x _ ih => appR x.names ih) l
theorem namesR_eq : ∀ (l : List V), namesR l = vsNames l
  | [] => rfl
  | x :: r => by show appR x.names (namesR r) = _; rw [appR_eq, namesR_eq r]; rfl
def renR (f : W → W) (l : List V) : List V := List.rec (motive := fun _ => List V) [] (fun x _ ih => x.mapW f :: ih) l
theorem renR_eq (f : W → W) : ∀ (l : List V), renR f l = l.map (V.mapW f)
  | [] => rfl
  | x :: r => congrArg (x.mapW f :: ·) (renR_eq f r)
def canonSt (st : St) : St :=
  let order := reachAll st.bx (List.range st.np) (namesR st.env)
  { env := renR (.ren fun b => idx b order) st.env, bx := renBx order st.bx, np := st.np }
theorem canonSt_eq (st : St) : canonSt st = (let order := reachAll st.bx (List.range st.np) (vsNames st.env); { env := renVs order st.env, bx := renBx order st.bx, np := st.np }) := by
  unfold canonSt; simp only [namesR_eq, renR_eq]; rfl
def headM (m : List Bool) (st : St) : St := canonSt { st with env := maskR m st.env }
theorem headM_eq (m : List Bool) (st : St) : headM m st = canonSt { st with env := maskV m st.env } := by unfold headM; rw [maskR_eq]

def loopV {R : Type} (hd : St → St) (body : (X → St → Option R) → St → Option R) (k : X → St → Option R) : Nat → St → Option R
  | 0, _ => none
  | n + 1, st => body (fun x st' => match x with
      | .nm => loopV hd body k n (hd st')
      | .ex id => k (.ex id) st'
      | .rt => k .rt st') st

/-- rows that are handed on within a statement whose order is open become stable ahead of it -/
def preV (x : V) (bx : Bx) : Bx := match passV false x bx with | some (_, bx) => bx | none => bx
def preOp (cf : Cfg) (st : St) (o : Oper) (bx : Bx) : Bx :=
  match o.op with
  | .call { callee := .value _, args := xs, .. } => xs.toList.foldl (fun bx x => preV (st.ev cf x) bx) bx
  | .makeInterface _ x => preV (st.ev cf x) bx
  | .slice _ x _ _ _ => preV (st.ev cf x) bx
  | .buildSlice _ _ ps => ps.toList.foldl (fun bx p => preV (st.ev cf p.2) bx) bx
  | _ => bx
def pre (cf : Cfg) (ops : List Oper) (st : St) : St := { st with bx := ops.foldl (fun bx o => preOp cf st o bx) st.bx }

def notB : List Oper → List Bool → List Oper
  | o :: r, b :: q => bif b then notB r q else o :: notB r q
  | l, [] => l
  | [], _ => []

section
variable {R : Type} (cf : Cfg)
/-- one after the other; calls as they are -/
def runOpsL (N : Nat) (ops : List Oper) : List Oper → (St → Option R) → St → Option R
  | [], k, st => k st
  | o :: r, k, st =>
    (match wantedV ops st o with
     | some true =>
       (bif isFn o.op then vop cf false o (fun st => bif isGuard ops o.dst r then split st o.dst (runOpsL N ops r k) else runOpsL N ops r k st) st
        else vopN cf N ops o (fun st => bif isGuard ops o.dst r then split st o.dst (runOpsL N ops r k) else runOpsL N ops r k st) st)
     | some false => runOpsL N ops r k (st.set o.dst (.tup []))
     | none => none)
def runL (ops : Array Oper) (L : List Nat) (k : St → Option R) (st : St) : Option R :=
  runOpsL cf st.bx.length ops.toList (permOps ops L) k st
end

/-- a statement's first region -/
def firstReg : Code → Nat
  | .region id _ _ => id
  | .seq a _ => firstReg a
  | .block _ c => firstReg c
  | .loop c => firstReg c
  | .cond _ a _ => firstReg a
  | _ => 0
/-- slots that are looked at behind a loop's head, by the loop's first region -/
def liveAt : List (Nat × Nat) → Nat → Nat → Bool
  | [], _, _ => true
  | (r, m) :: q, n, i => bif Nat.beq r n then Nat.beq (Nat.land (Nat.shiftRight m i) 1) 1 else liveAt q n i

/-- where a loop ends: slots that aren't looked at behind it are forgotten -/
def exitM (cf : Cfg) (x : X) (st : St) : St :=
  bif cf.xm then
    (match x with
     | .nm => st
     | .ex id => headM (maskEnv (cf.drop (1000 + id)) 0 st.env) st
     | .rt => headM (maskEnv (cf.drop 999) 0 st.env) st)
  else st
def exitK {R : Type} (cf : Cfg) (k : X → St → Option R) : X → St → Option R := fun x st => k x (exitM cf x st)

def exec {R : Type} (cf : Cfg) (fuel : Nat) : Code → (X → St → Option R) → St → Option R
  | .skip, k, st => k .nm st
  | .region _ ops draw, k, st =>
    bif draw then
      (bif drawOk ops && !(ops.toList.any fun o => isFn o.op && borOf cf o) then runOpsB cf (pre cf (notB ops.toList (barrs ops.toList)) st).bx.length ops.toList ops.toList (barrs ops.toList) (k .nm) (pre cf (notB ops.toList (barrs ops.toList)) st)
       else (match alts ops with
         | some Ls => bothL (Ls.map fun L => runL cf ops L (k .nm) (pre cf (ops.toList.filter fun o => !isFn o.op) st))
         | none => none))
    else runOps cf false ops.toList ops.toList (k .nm) st
  | .seq a b, k, st => exec cf fuel a (fun x st' => match x with
      | .nm => exec cf fuel b k st'
      | .ex id => k (.ex id) st'
      | .rt => k .rt st') st
  | .cond c a b, k, st =>
    (match st.ev cf c with
     | .t (.w (.d (.bool t))) => bif t then exec cf fuel a k st else exec cf fuel b k st
     | _ => none)
  | .block id c, k, st => exec cf fuel c (fun x st' => match x with
      | .nm => k .nm st'
      | .ex i => bif i == id then k .nm st' else k (.ex i) st'
      | .rt => k .rt st') st
  | .loop c, k, st => loopV (headM (maskEnv (cf.drop (firstReg c)) 0 st.env)) (exec cf fuel c) (exitK cf k) fuel (headM (maskEnv (cf.drop (firstReg c)) 0 st.env) st)
  | .exit id, k, st => k (.ex id) st
  | .ret, k, st => k .rt st
  | _, _, _ => none

/-- a function's results -/
def resOf (cf : Cfg) (st : St) : ResultVar → Option T
  | .tmp t => (match getV st.env t with | .t x => some x | _ => none)
  | .cell a t =>
    (match cf.ti t, getV st.env a with
     | some i, .t (.w (.ptr b off)) =>
       (match st.bx.getD b none with
        | some (.cells m) => cut i.ag i.size m off
        | _ => none)
     | _, _ => none)
def resAll (cf : Cfg) (st : St) : List ResultVar → Option (List T)
  | [] => some []
  | r :: rs => (match resOf cf st r, resAll cf st rs with | some x, some l => some (x :: l) | _, _ => none)
def resV : List T → V
  | [x] => .t x
  | l => .tup l

/-- how a call ends: its results, its boxes -/
def finish {R : Type} (cf : Cfg) (rs : List ResultVar) (k : V → Bx → Option R) (st : St) : Option R :=
  match resAll cf st rs with
  | some l =>
    (match (bif cf.keep then narrowTs l st.bx else passTs false l st.bx) with
     | some (l, bx) =>
       let order := reachAll bx (List.range st.np) (tsNames l)
       k ((resV l).mapW (.ren fun b => idx b order)) (renBx order bx)
     | none => none)
  | none => none

def entry (ntmps : Nat) (args : List V) (bxs : Bx) : St :=
  { env := args ++ List.replicate (ntmps - args.length) (.tup []), bx := bxs, np := bxs.length }

def runFn {R : Type} (cf : Cfg) (fuel : Nat) (fn : Func) (c : Code) (args : List V) (bxs : Bx) (k : V → Bx → Option R) : Option R :=
  exec cf fuel c (fun x st => match x with
    | .ex _ => none
    | _ => finish cf fn.results.toList k st) (entry fn.ntmps args bxs)

end
end Vm
