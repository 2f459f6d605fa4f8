/- Vm, part M: a statement whose order is open: whatever order the machine takes, it comes to the text's. -/
import Derived.Test.YtniiimpcakmkbaaDoorWK
namespace Vm
open Go

section
variable {R : Type} {cf : Cfg}

theorem eta_bind {α β : Type} (sh : Option (List Sh)) (l : List C) (f : List C → Option α) (k : α → Option β) : eta sh l (fun x => (f x).bind k) = (eta sh l f).bind k := by
  unfold eta; simp only [Bool.cond_eq_ite]; repeat' (first | rfl | split)
theorem cutK_bind {α β : Type} (i : TI) (l : List C) (f : T → Option α) (k : α → Option β) : cutK i l (fun x => (f x).bind k) = (cutK i l f).bind k := by
  unfold cutK; simp only [Bool.cond_eq_ite]
  split
  · split
    · exact eta_bind _ _ (fun l => f (.agg ⟨l, [], i.size⟩)) k
    · rfl
  · split
    · rename_i c _
      rw [← eta_bind]
      congr 1; funext l; cases l <;> rfl
    · rfl
theorem getT_bind {α β γ : Type} (l : List γ) (i : Nat) (f : γ → Option α) (k : α → Option β) : getT l i (fun x => (f x).bind k) = (getT l i f).bind k := by
  unfold getT; split <;> rfl
theorem vLoad_bind (o : Oper) (t : TypeId) (x : Operand) (k : St → Option R) (st : St) : vLoad cf o t x k st = (vLoad cf o t x some st).bind k := by
  unfold vLoad
  split
  · split
    · repeat' (first | rfl | split)
    · split
      · simp only [Bool.cond_eq_ite]
        split
        · rw [← getT_bind]; congr 1; funext e; rw [← cutK_bind]; rfl
        · rfl
      · rfl
    · rw [← cutK_bind]; rfl
    · rfl
  · rfl
theorem vStore_bind (dr : Bool) (t : TypeId) (x y : Operand) (f : St → Option St) (k : St → Option R) (st : St) : vStore cf dr t x y (fun s => (f s).bind k) st = (vStore cf dr t x y f st).bind k := by
  unfold vStore getT; simp only [Bool.cond_eq_ite]; repeat' (first | rfl | split)
theorem vAlloc_bind (o : Oper) (t : TypeId) (k : St → Option R) (st : St) : vAlloc cf o t k st = (vAlloc cf o t some st).bind k := by
  unfold vAlloc; repeat' (first | rfl | split)
theorem vBox_bind (o : Oper) (t : TypeId) (x : Operand) (k : St → Option R) (st : St) : vBox cf o t x k st = (vBox cf o t x some st).bind k := by
  unfold vBox; repeat' (first | rfl | split)
theorem vBuild_bind (dr : Bool) (o : Oper) (t : TypeId) (ps : Array (Nat × Operand)) (k : St → Option R) (st : St) : vBuild cf dr o t ps k st = (vBuild cf dr o t ps some st).bind k := by
  unfold vBuild; repeat' (first | rfl | split)
theorem vBuildSlice_bind (dr : Bool) (o : Oper) (t : TypeId) (n : Nat) (ps : Array (Nat × Operand)) (k : St → Option R) (st : St) : vBuildSlice cf dr o t n ps k st = (vBuildSlice cf dr o t n ps some st).bind k := by
  unfold vBuildSlice; simp only [Bool.cond_eq_ite]; repeat' (first | rfl | split)
theorem vBinP_bind (o : Oper) (op : BinOp) (t : TypeId) (y : Operand) (a b : V) (k : St → Option R) (st : St) : vBinP cf o op t y a b k st = (vBinP cf o op t y a b some st).bind k := by
  unfold vBinP; repeat' (first | rfl | split)
theorem vBinS_bind (o : Oper) (op : BinOp) (t : TypeId) (la lb : List C) (k : St → Option R) (st : St) : vBinS cf o op t la lb k st = (vBinS cf o op t la lb some st).bind k := by
  unfold vBinS; simp only [Bool.cond_eq_ite]; repeat' (first | rfl | split)
theorem vBin_bind (o : Oper) (op : BinOp) (t : TypeId) (x y : Operand) (k : St → Option R) (st : St) : vBin cf o op t x y k st = (vBin cf o op t x y some st).bind k := by
  unfold vBin; simp only [Bool.cond_eq_ite, strOpK_eq]
  split
  · repeat' (first | rfl | split)
  · repeat' (first | rfl | split)
  · repeat' (first | rfl | split)
  · exact vBinS_bind ..
  · exact vBinP_bind ..
theorem vUn_bind (o : Oper) (op : UnOp) (x : Operand) (k : St → Option R) (st : St) : vUn cf o op x k st = (vUn cf o op x some st).bind k := by
  unfold vUn; repeat' (first | rfl | split)
theorem vConvB_bind (o : Oper) (a d : TypeId) (v : V) (k : St → Option R) (st : St) : vConvB cf o a d v k st = (vConvB cf o a d v some st).bind k := by
  unfold vConvB; simp only [Bool.cond_eq_ite]; repeat' (first | rfl | split)
theorem vConvert_bind (o : Oper) (s d : TypeId) (x : Operand) (k : St → Option R) (st : St) : vConvert cf true o s d x k st = (vConvert cf true o s d x some st).bind k := by
  unfold vConvert
  split
  · rfl
  · rfl
  · rfl
  · exact vConvB_bind ..
theorem vMakeSlice_bind (dr : Bool) (o : Oper) (t : TypeId) (x y : Operand) (k : St → Option R) (st : St) : vMakeSlice cf dr o t x y k st = (vMakeSlice cf dr o t x y some st).bind k := by
  unfold vMakeSlice; simp only [Bool.cond_eq_ite]; repeat' (first | rfl | split)
theorem vSlice_bind (dr : Bool) (o : Oper) (t : TypeId) (x : Operand) (lo hi mx : Option Operand) (k : St → Option R) (st : St) : vSlice cf dr o t x lo hi mx k st = (vSlice cf dr o t x lo hi mx some st).bind k := by
  unfold vSlice; simp only [Bool.cond_eq_ite]; repeat' (first | rfl | split)
theorem vFieldAddr_bind (o : Oper) (s : TypeId) (x : Operand) (f : Nat) (k : St → Option R) (st : St) : vFieldAddr cf o s x f k st = (vFieldAddr cf o s x f some st).bind k := by
  unfold vFieldAddr; repeat' (first | rfl | split)
theorem vField_bind (o : Oper) (s : TypeId) (x : Operand) (f : Nat) (k : St → Option R) (st : St) : vField cf o s x f k st = (vField cf o s x f some st).bind k := by
  unfold vField; repeat' (first | rfl | split)
theorem vIndexAddr_bind (o : Oper) (t : TypeId) (x i : Operand) (k : St → Option R) (st : St) : vIndexAddr cf o t x i k st = (vIndexAddr cf o t x i some st).bind k := by
  unfold vIndexAddr getT; simp only [Bool.cond_eq_ite]; repeat' (first | rfl | split)
theorem cutX_bind {α β : Type} (i : TI) (m : M) (off : Nat) (f : T → Option α) (k : α → Option β) : cutX i m off (fun x => (f x).bind k) = (cutX i m off f).bind k := by
  unfold cutX
  split
  · exact cutK_bind ..
  · split <;> rfl
theorem vIndex_bind (o : Oper) (t : TypeId) (x i : Operand) (k : St → Option R) (st : St) : vIndex cf o t x i k st = (vIndex cf o t x i some st).bind k := by
  unfold vIndex getT; simp only [Bool.cond_eq_ite]; repeat' (first | rfl | (rw [← cutX_bind]; rfl) | split)
theorem vRange_bind (o : Oper) (t : TypeId) (x : Operand) (k : St → Option R) (st : St) : vRange cf o t x k st = (vRange cf o t x some st).bind k := by
  unfold vRange; repeat' (first | rfl | split)
theorem vNext_bind (o : Oper) (x : Operand) (k : St → Option R) (st : St) : vNext cf o x k st = (vNext cf o x some st).bind k := by
  unfold vNext; simp only [Bool.cond_eq_ite]; repeat' (first | rfl | split)
theorem vZero_bind {α β : Type} (dr : Bool) (i : TI) (f : T → St → Option α) (k : α → Option β) (st : St) : vZero dr i (fun v s => (f v s).bind k) st = (vZero dr i f st).bind k := by
  unfold vZero; repeat' (first | rfl | split)
theorem vAssert_bind (dr : Bool) (o : Oper) (t : TypeId) (x : Operand) (ok : Bool) (k : St → Option R) (st : St) : vAssert cf dr o t x ok k st = (vAssert cf dr o t x ok some st).bind k := by
  unfold vAssert; simp only [Bool.cond_eq_ite]
  split
  · split
    · rfl
    · have key : ∀ (b : Bool) (i : TI) (l : List C), (if b = true then cutK i l fun v => if ok = true then k (st.set o.dst (V.tup [v, T.w (W.d (C.bool true))])) else k (st.set o.dst (V.t v)) else none) =
          (if b = true then cutK i l fun v => if ok = true then some (st.set o.dst (V.tup [v, T.w (W.d (C.bool true))])) else some (st.set o.dst (V.t v)) else none).bind k := by
        intro b i l
        cases b with
        | false => rfl
        | true => simp only [if_true]; rw [← cutK_bind]; congr 1; funext v; cases ok <;> rfl
      split
      · exact key _ _ _
      · split
        · rw [← vZero_bind]; rfl
        · rfl
    · split
      · rw [← vZero_bind]; rfl
      · rfl
    · rfl
  · rfl
theorem vExtract_bind (o : Oper) (x : Operand) (i : Nat) (k : St → Option R) (st : St) : vExtract cf o x i k st = (vExtract cf o x i some st).bind k := by
  unfold vExtract; repeat' (first | rfl | split)
theorem vMakeIface_bind (dr : Bool) (o : Oper) (t : TypeId) (x : Operand) (k : St → Option R) (st : St) : vMakeIface cf dr o t x k st = (vMakeIface cf dr o t x some st).bind k := by
  unfold vMakeIface; repeat' (first | rfl | split)
theorem vLen_bind (o : Oper) (ts : Array TypeId) (xs : Array Operand) (k : St → Option R) (st : St) : vLen cf o ts xs k st = (vLen cf o ts xs some st).bind k := by
  unfold vLen; repeat' (first | rfl | split)
theorem vMinMax_bind (o : Oper) (b : Bool) (xs : Array Operand) (k : St → Option R) (st : St) : vMinMax cf o b xs k st = (vMinMax cf o b xs some st).bind k := by
  unfold vMinMax; simp only [Bool.cond_eq_ite]; repeat' (first | rfl | split)
theorem vAppendE_bind (o : Oper) (e : TypeId) (i : TI) (a b : Nat) (l : List (List C)) (k : St → Option R) (st : St) : vAppendE o e i a b l k st = (vAppendE o e i a b l some st).bind k := by
  unfold vAppendE; simp only [Bool.cond_eq_ite]; repeat' (first | rfl | split)
theorem vAppend_bind (o : Oper) (ts : Array TypeId) (xs : Array Operand) (k : St → Option R) (st : St) : vAppend cf o ts xs k st = (vAppend cf o ts xs some st).bind k := by
  unfold vAppend; simp only [Bool.cond_eq_ite]; repeat' (first | rfl | exact vAppendE_bind .. | split)
theorem vMakeFunc_bind (o : Oper) (fn : Fn) (a b : Array Operand) (k : St → Option R) (st : St) : vMakeFunc cf o fn a b k st = (vMakeFunc cf o fn a b some st).bind k := by
  unfold vMakeFunc; repeat' (first | rfl | split)
theorem vCall_bind (o : Oper) (c : Call) (k : St → Option R) (st : St) : vCall cf true o c k st = (vCall cf true o c some st).bind k := by
  unfold vCall callWith; simp only [Bool.cond_eq_ite, if_true]
  split
  · split
    · split
      · rw [Option.bind_assoc]
        congr 1; funext p; repeat' (first | rfl | split)
      · rfl
    · rfl
  · exact vLen_bind ..
  · exact vAppend_bind ..
  · rfl
  · exact vMinMax_bind ..
  · exact vMinMax_bind ..
  · rfl

theorem vop_bind (o : Oper) (k : St → Option R) (st : St) : vop cf true o k st = (vop cf true o some st).bind k := by
  unfold vop
  cases o.op with
  | move x => rfl
  | assign x => simp only [Bool.cond_eq_ite]; repeat' (first | rfl | split)
  | pick c a b => simp only; repeat' (first | rfl | split)
  | alloc t => exact vAlloc_bind ..
  | box t x => exact vBox_bind ..
  | build t ps => exact vBuild_bind ..
  | buildSlice t n ps => exact vBuildSlice_bind ..
  | load t x => exact vLoad_bind ..
  | store t x y => exact vStore_bind true t x y (fun st => some (st.set o.dst (.tup []))) k st
  | nilCheck x => simp only; repeat' (first | rfl | split)
  | binOp op t x y t2 => exact vBin_bind ..
  | unOp op t x => exact vUn_bind ..
  | convert s d x => exact vConvert_bind ..
  | makeSlice t n c => exact vMakeSlice_bind ..
  | makeInterface t x => exact vMakeIface_bind ..
  | makeFunc fn a b => exact vMakeFunc_bind ..
  | slice t x lo hi mx => exact vSlice_bind ..
  | fieldAddr s x f => exact vFieldAddr_bind ..
  | field s x f => exact vField_bind ..
  | indexAddr t x i => exact vIndexAddr_bind ..
  | index t x i => exact vIndex_bind ..
  | range t x => exact vRange_bind ..
  | next x b => cases b with
                | true => exact vNext_bind ..
                | false => rfl
  | typeAssert x xt t ok => exact vAssert_bind ..
  | extract x i => exact vExtract_bind ..
  | call c => exact vCall_bind ..
  | _ => rfl
end
end Vm
