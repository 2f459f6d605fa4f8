/- sigil: the small functions answer by their trees -/
import Derived.Test.YtniiimpcakmkbaaDoorSgA
import Derived.Lib.RuneCount
import Derived.Lib.ValidLaws
import Derived.Lib.SpaceUEq
set_option linter.unusedVariables false
namespace Go.Proofs.YtniiimpcakmkbaaDoor
open Go Vm Go.RowKit
theorem mix : Tryd.prog.follows .mixedOrders = true := by kernel_rfl

/-! the library's functions, by the shelf -/
theorem glob_cells {g : G} {w : World} {m : Int} (hS : ∀ a u, g.S a = some u → w.cell? a = some u) {g' : Nat} {l : List C} (h : RelC g.S (.ip l) (.pointer (some ⟨g', 0, none⟩))) :
    ∀ (j : Nat) k n, l[j]? = some (C.int k n) → w.cell? ⟨g', j, none⟩ = some (.int k n) := by
  intro j k n hj
  cases h with
  | ip l a uf hsp hc hr =>
    have h1 := hS _ _ (hc j _ hj)
    have h2 := hr j _ hj
    generalize uf j = u at h1 h2
    cases h2
    have e : (⟨g', 0, none⟩ : Addr).add j = ⟨g', j, none⟩ := by rw [add_plain', Nat.zero_add]
    rw [e] at h1
    exact h1
theorem tabs_of {g : G} {w : World} {m : Int} (hS : ∀ a u, g.S a = some u → w.cell? a = some u) (hg : ∀ g' l, globT m g' = some l → RelC g.S (.ip l) (.pointer (some ⟨g', 0, none⟩))) : Go.Lib.Utf8Tabs 3 4 w := by
  have h3 := glob_cells (m := m) hS (hg 3 firstC rfl)
  have h4 := glob_cells (m := m) hS (hg 4 accC rfl)
  refine ⟨fun c hc => h3 c _ _ ?_, fun i hi => ?_⟩
  · simp [firstC, hc]
  · have hk : accC[2 * i]? = some (C.int .u8 (Go.Lib.accLo i)) ∧ accC[2 * i + 1]? = some (C.int .u8 (Go.Lib.accHi i)) := by
      have : i = 0 ∨ i = 1 ∨ i = 2 ∨ i = 3 ∨ i = 4 ∨ i = 5 ∨ i = 6 ∨ i = 7 ∨ i = 8 ∨ i = 9 ∨ i = 10 ∨ i = 11 ∨ i = 12 ∨ i = 13 ∨ i = 14 ∨ i = 15 := by omega
      rcases this with rfl | rfl | rfl | rfl | rfl | rfl | rfl | rfl | rfl | rfl | rfl | rfl | rfl | rfl | rfl | rfl <;> exact ⟨rfl, rfl⟩
    exact ⟨h4 _ _ _ hk.1, h4 _ _ _ hk.2⟩
theorem dec_ok (m : Int) : SpecOk Tryd.prog (globT m) 93 decS := by
  intro a b v b' h
  unfold decS at h
  split at h
  · rename_i s
    obtain ⟨rfl, rfl⟩ := run_ret h
    refine known_res ⟨_, _, Tryd.func93, rfl, by kernel_rfl⟩ (fun g w cargs hS hg ha => ?_) []
    match cargs, ha with
    | [x], ha =>
      have hx := relC_str ha.head
      subst hx
      exact ⟨_, ⟨[_, _], rfl, .cons (RelC.int _ _) (.cons (RelC.int _ _) .nil)⟩, Tryd.utf8_DecodeRuneInString s w (tabs_of hS hg)⟩
    | [], ha => exact absurd ha.1 (by simp)
    | _ :: _ :: _, ha => exact absurd ha.1 (by simp)
  · cases h
theorem contains_ok (m : Int) : SpecOk Tryd.prog (globT m) 24 containsS := by
  intro a b v b' h
  unfold containsS at h
  split at h
  · rename_i s p
    rcases run_ite h with ⟨hl, h⟩ | ⟨_, h⟩
    · obtain ⟨rfl, rfl⟩ := run_ret h
      refine known_res ⟨_, _, Tryd.func24, rfl, by kernel_rfl⟩ (fun g w cargs hS hg ha => ?_) []
      match cargs, ha with
      | [x, y], ha =>
        have hx := relC_str ha.head
        have hy := relC_str ha.tail.head
        subst hx hy
        have h2 := glob_cells (m := m) hS (hg 2 [.int .i64 m] rfl)
        have hs : s.size < 4294967281 := by
          have := shortB_len _ _ hl
          have e : s.size = s.data.toList.length := rfl
          omega
        refine ⟨_, RelC.bool _, (Tryd.strings_Contains s p m w hs (h2 0 _ _ rfl)).mono fun e w' ⟨he, hw⟩ => ⟨by rw [he, hasSub_eq], hw ▸ Below.refl _ _⟩⟩
      | [], ha => exact absurd ha.1 (by simp)
      | [_], ha => exact absurd ha.1 (by simp)
      | _ :: _ :: _ :: _, ha => exact absurd ha.1 (by simp)
    · exact (run_no h).elim
  · cases h
end Go.Proofs.YtniiimpcakmkbaaDoor

/- the reference of sigil: among, place, part, text answer by their trees -/
set_option linter.unusedVariables false
namespace Go.Proofs.YtniiimpcakmkbaaDoor
open Go Vm Go.RowKit
theorem isI_parts {e : List C} (h : isI e = true) : ∃ n : Int, e = [C.int .i64 n] := by
  match e, h with
  | [.int .i64 n], _ => exact ⟨n, rfl⟩
theorem drop_get {α : Type} {l : List α} {i : Nat} {x : α} (h : l[i]? = some x) : l.drop i = x :: l.drop (i + 1) := by
  have hlt := (List.getElem?_eq_some_iff.1 h).1
  rw [List.drop_eq_getElem_cons hlt]
  have := (List.getElem?_eq_some_iff.1 h).2
  rw [this]
theorem r_among_loop {R : Type} (m : Int) (K : X → St → Option R) (F : Nat) (v : Int) (l : List (List C)) (hI : l.all isI = true) (hl : l.length < 1000000) : ∀ (n i : Nat), i ≤ l.length → l.length - i < n →
    r_among_L0 m K F n v l i = bif amongP v (l.drop i) then K .rt r_among_E1 else K (.ex 0) r_among_E2 := by
  intro n
  induction n with
  | zero => intro i _ h; omega
  | succ n ih =>
    intro i hi h
    rw [r_among_r0]
    by_cases hlt : i < l.length
    · have hget : l[i]? = some l[i] := List.getElem?_eq_getElem hlt
      obtain ⟨x, hx⟩ := isI_parts (List.all_eq_true.1 hI _ (List.getElem_mem hlt))
      rw [hx] at hget
      rw [drop_get hget]
      have d1 : decide ((i : Int) < (l.length : Int)) = true := by simpa using hlt
      have d2 : decide ((0 : Int) ≤ (i : Int)) = true := by simp
      have e1 : ∀ {γ : Type} (k : C → Option γ), getT [C.int .i64 x] 0 k = k (C.int .i64 x) := fun k => rfl
      have e2 : shOk [Sh.int IntKind.i64] [C.int .i64 x] = true := rfl
      have e3 : ([C.int IntKind.i64 x].getD 0 C.nf).toInt = x := rfl
      have e4 : numE [C.int IntKind.i64 x] = x := rfl
      rw [d1, cond_true, d2, cond_true, getT_at rfl hget, e1, e2, cond_true, e3, w64 _ (by omega) (by omega)]
      simp only [amongP, e4]
      cases hv : x == v with
      | true => simp only [Bool.true_or, cond_true]
      | false => simp only [Bool.false_or, cond_false]; exact ih (i + 1) (by omega) (by omega)
    · have : i = l.length := by omega
      subst this
      have d1 : decide ((l.length : Int) < (l.length : Int)) = false := by simp
      rw [d1, cond_false, List.drop_length]; rfl
theorem among_ok (m : Int) : SpecOk Tryd.prog (globT m) 33 amongS := by
  intro a b v b' h
  unfold amongS at h
  split at h
  · rename_i x l
    rcases run_ite h with ⟨hl, h⟩ | ⟨_, h⟩
    · simp only [Bool.and_eq_true, decide_eq_true_eq] at hl
      obtain ⟨rfl, rfl⟩ := run_ret h
      refine specAtG mix vti_ok Tryd.func33 rfl (by kernel_rfl) .nil (l.length + 1) ((r_among_start m fin2 _ x l).trans ?_)
      rw [show (0 : Int) = ((0 : Nat) : Int) from rfl, r_among_loop m _ _ x l hl.1 hl.2 _ 0 (by omega) (by omega), List.drop_zero]
      cases amongP x l with
      | true => rw [cond_true, r_among_c1]
      | false => rw [cond_false, r_among_c2]
    · exact (run_no h).elim
  · cases h
theorem part_ok (m : Int) : SpecOk Tryd.prog (globT m) 35 partS := by
  intro a b v b' h
  unfold partS at h
  split at h
  · rename_i r f
    refine specAtG mix vti_ok Tryd.func35 rfl (by kernel_rfl) .nil 0 ((r_part_start m fin2 0 r f).trans ?_)
    unfold letterP at h
    cases h1 : decide (r ≥ 97) <;> cases h2 : decide (r ≤ 122) <;> cases h3 : decide (r ≥ 48) <;> cases h4 : decide (r ≤ 57) <;> cases f <;> rw [h1, h2, h3, h4] at h <;> cases h5 : r == 95 <;> rw [h5] at h <;> exact h
  · cases h
theorem r_place_loop {R : Type} (m : Int) (K : X → St → Option R) (F : Nat) (l : List (List C)) (hI : l.all isI = true) (hl : l.length < 1000000) (at_ : Nat) (hat : at_ ≤ l.length) : ∀ (n i : Nat) (x y : Int), i ≤ at_ → at_ - i < n →
    r_place_L0 m K F n l at_ x y i = K (.ex 0) (r_place_E1 (placeP ((l.take at_).drop i) x y).1 (placeP ((l.take at_).drop i) x y).2) := by
  intro n
  induction n with
  | zero => intro i x y _ h; omega
  | succ n ih =>
    intro i x y hi h
    rw [r_place_r0]
    by_cases hlt : i < at_
    · have hget : l[i]? = some l[i] := List.getElem?_eq_getElem (by omega)
      obtain ⟨z, hz⟩ := isI_parts (List.all_eq_true.1 hI _ (List.getElem_mem (by omega : i < l.length)))
      rw [hz] at hget
      have hget2 : (l.take at_)[i]? = some [C.int .i64 z] := by rw [List.getElem?_take, if_pos hlt]; exact hget
      rw [drop_get hget2]
      have d1 : decide ((i : Int) < (at_ : Int)) = true := by simpa using hlt
      have d2 : decide ((0 : Int) ≤ (i : Int)) = true := by simp
      have e1 : ∀ {γ : Type} (k : C → Option γ), getT [C.int .i64 z] 0 k = k (C.int .i64 z) := fun k => rfl
      have e2 : shOk [Sh.int IntKind.i64] [C.int .i64 z] = true := rfl
      have e3 : ([C.int IntKind.i64 z].getD 0 C.nf).toInt = z := rfl
      have e4 : numE [C.int IntKind.i64 z] = z := rfl
      rw [d1, cond_true, d2, cond_true, getT_at rfl hget, e1, e2, cond_true, e3, w64 ((i : Int) + 1) (by omega) (by omega)]
      simp only [placeP, e4, nextL, nextC]
      cases hv : z == 10 with
      | true => simp only [cond_true]; exact ih (i + 1) _ _ (by omega) (by omega)
      | false => simp only [cond_false]; exact ih (i + 1) _ _ (by omega) (by omega)
    · have : i = at_ := by omega
      subst this
      have d1 : decide ((i : Int) < (i : Int)) = false := by simp
      have hd : (l.take i).drop i = [] := List.drop_eq_nil_of_le (by rw [List.length_take]; omega)
      rw [d1, cond_false, hd]; rfl
theorem place_ok (m : Int) : SpecOk Tryd.prog (globT m) 34 placeS := by
  intro a b v b' h
  unfold placeS at h
  split at h
  · rename_i l at_
    rcases run_ite h with ⟨hl, h⟩ | ⟨_, h⟩
    · simp only [Bool.and_eq_true, decide_eq_true_eq] at hl
      obtain ⟨⟨⟨h1, h2⟩, h3⟩, h4⟩ := hl
      obtain ⟨rfl, rfl⟩ := run_ret h
      obtain ⟨k, rfl⟩ : ∃ k : Nat, at_ = k := ⟨at_.toNat, by omega⟩
      rw [Int.toNat_natCast]
      refine specAtG mix vti_ok Tryd.func34 rfl (by kernel_rfl) .nil (k + 1) ((r_place_start m fin2 _ l k).trans ?_)
      rw [show (0 : Int) = ((0 : Nat) : Int) from rfl, r_place_loop m _ _ l h1 h2 k (by omega) _ 0 _ _ (by omega) (by omega), List.drop_zero, r_place_c1]
    · exact (run_no h).elim
  · cases h
theorem okBytes_u8 : ∀ (l : List (List C)), okBytes (l.map u8E) = true := by
  intro l
  induction l with
  | nil => rfl
  | cons e r ih =>
    have hw : 0 ≤ IntKind.u8.wrap (numE e) ∧ IntKind.u8.wrap (numE e) < 256 := by
      have : IntKind.u8.wrap (numE e) = numE e % 256 := by simp [IntKind.wrap, IntKind.bits, IntKind.signed]
      rw [this]; omega
    simp only [List.map_cons, u8E, okBytes, decide_eq_true hw, Bool.true_and]; exact ih
theorem r_text_loop {R : Type} (m : Int) (K : X → St → Option R) (F : Nat) (l : List (List C)) (hI : l.all isI = true) (hl : l.length < 1000000) : ∀ (n i : Nat) (out : List (List C)), i ≤ l.length → l.length - i < n → out.length + (l.length - i) < 2000000 →
    r_text_L0 m K F n l out i = K (.ex 0) (r_text_E1 (out ++ (l.drop i).map u8E)) := by
  intro n
  induction n with
  | zero => intro i out _ h; omega
  | succ n ih =>
    intro i out hi h ho
    rw [r_text_r0]
    by_cases hlt : i < l.length
    · have hget : l[i]? = some l[i] := List.getElem?_eq_getElem hlt
      obtain ⟨z, hz⟩ := isI_parts (List.all_eq_true.1 hI _ (List.getElem_mem hlt))
      rw [hz] at hget
      rw [drop_get hget]
      have d1 : decide ((i : Int) < (l.length : Int)) = true := by simpa using hlt
      have d2 : decide ((0 : Int) ≤ (i : Int)) = true := by simp
      have e1 : ∀ {γ : Type} (k : C → Option γ), getT [C.int .i64 z] 0 k = k (C.int .i64 z) := fun k => rfl
      have e2 : shOk [Sh.int IntKind.i64] [C.int .i64 z] = true := rfl
      have e3 : ([C.int IntKind.i64 z].getD 0 C.nf).toInt = z := rfl
      have d3 : decide ((out.length + 1) * 1 ≤ 140737488355328 ∧ out.length + 1 ≤ 9223372036854775807) = true := by simp only [decide_eq_true_eq]; omega
      rw [d1, cond_true, d2, cond_true, getT_at rfl hget, e1, e2, cond_true, e3, d3, cond_true, w64 ((i : Int) + 1) (by omega) (by omega)]
      have := ih (i + 1) (out ++ [[C.int IntKind.u8 (IntKind.u8.wrap z)]]) (by omega) (by omega) (by simp; omega)
      rw [show ((i + 1 : Nat) : Int) = (i : Int) + 1 from rfl] at this
      rw [this, List.map_cons, List.append_assoc]
      rfl
    · have : i = l.length := by omega
      subst this
      have d1 : decide ((l.length : Int) < (l.length : Int)) = false := by simp
      rw [d1, cond_false, List.drop_length, List.map_nil, List.append_nil]
theorem text_ok (m : Int) : SpecOk Tryd.prog (globT m) 36 textS := by
  intro a b v b' h
  unfold textS at h
  split at h
  · rename_i l
    rcases run_ite h with ⟨hl, h⟩ | ⟨_, h⟩
    · simp only [Bool.and_eq_true, decide_eq_true_eq] at hl
      obtain ⟨rfl, rfl⟩ := run_ret h
      refine specAtG mix vti_ok Tryd.func36 rfl (by kernel_rfl) .nil (l.length + 1) ((r_text_start m fin2 _ l).trans ?_)
      rw [show (0 : Int) = ((0 : Nat) : Int) from rfl, r_text_loop m _ _ l hl.1 hl.2 _ 0 [] (by omega) (by omega) (by simp; omega), List.drop_zero, r_text_c1, List.nil_append, okBytes_u8, cond_true]
    · exact (run_no h).elim
  · cases h
end Go.Proofs.YtniiimpcakmkbaaDoor

/- the reference's Rune answers by its tree -/
set_option linter.unusedVariables false
namespace Go.Proofs.YtniiimpcakmkbaaDoor
open Go Vm Go.RowKit
def byteN (s : ByteArray) (i : Nat) : Nat := (s.data.toList.getD i 0).toNat
/-- so many bytes that go on with a rune, laid behind what is there -/
def accR (s : ByteArray) (at_ : Nat) : Nat → Nat → Int → Option Int
  | _, 0, r => some r
  | k, n + 1, r => bif decide (byteN s (at_ + k) < 128) || decide (byteN s (at_ + k) > 191) then none else accR s at_ (k + 1) n (r * 64 + byteN s (at_ + k) - 128)
def finR (r size least : Int) : Int × Int := bif decide (r < least) || decide (r > 1114111) || (decide (r ≥ 55296) && decide (r ≤ 57343)) then (0, 0) else (r, size)
def multiR (s : ByteArray) (at_ : Nat) (size : Nat) (r0 least : Int) : Int × Int :=
  bif decide (s.size < at_ + size) then (0, 0) else (match accR s at_ 1 (size - 1) r0 with | some r => finR r size least | none => (0, 0))
def runeP (s : ByteArray) (at_ : Nat) : Int × Int :=
  bif decide (byteN s at_ < 128) then ((byteN s at_ : Int), 1)
  else bif decide (192 ≤ byteN s at_) && decide (byteN s at_ < 224) then multiR s at_ 2 ((byteN s at_ : Int) - 192) 128
  else bif decide (224 ≤ byteN s at_) && decide (byteN s at_ < 240) then multiR s at_ 3 ((byteN s at_ : Int) - 224) 2048
  else bif decide (240 ≤ byteN s at_) && decide (byteN s at_ < 248) then multiR s at_ 4 ((byteN s at_ : Int) - 240) 65536
  else (0, 0)
def runeS : List V → Bx → Tr
  | [.t (.w (.d (.str s))), .t (.w (.d (.int .i64 at_)))], [] => .ite (decide (0 ≤ at_) && decide (at_ < s.size) && decide (s.size < 1000000000))
      (.ret (.tup [.w (.d (.int .i64 (runeP s at_.toNat).1)), .w (.d (.int .i64 (runeP s at_.toNat).2))]) []) .no
  | _, _ => .no
abbrev rK (k : V → Bx → Option (V × Bx)) (p : Int × Int) : Option (V × Bx) := k (.tup [.w (.d (.int .i64 p.1)), .w (.d (.int .i64 p.2))]) []
theorem r_rune_fin (m : Int) (k : V → Bx → Option (V × Bx)) (F : Nat) (r size least : Int) : r_rune_K0 m k F (.ex 1) (r_rune_E2 r size least) = rK k (finR r size least) := by
  rw [r_rune_c2]
  unfold finR
  cases decide (r < least) <;> cases decide (r > 1114111) <;> cases decide (r ≥ 55296) <;> cases decide (r ≤ 57343) <;> rfl
theorem byte_at {s : ByteArray} {i : Nat} (h : i < s.size) : ∃ z : UInt8, s.data.toList[i]? = some z ∧ byteN s i = z.toNat := by
  have hl : i < s.data.toList.length := h
  refine ⟨s.data.toList[i], List.getElem?_eq_getElem hl, ?_⟩
  unfold byteN
  rw [List.getD_eq_getElem?_getD, List.getElem?_eq_getElem hl]; rfl
theorem r_rune_loop (m : Int) (k : V → Bx → Option (V × Bx)) (F : Nat) (s : ByteArray) (hs : s.size < 1000000000) (at_ size : Nat) (hsz : at_ + size ≤ s.size) (h4 : size ≤ 4) (least : Int) : ∀ (n j : Nat) (r : Int), j ≤ size → size - j < n → 0 ≤ r → r < ((64 ^ j : Nat) : Int) →
    r_rune_L0 m (r_rune_K0 m k F) F n s at_ r size least j = rK k (match accR s at_ j (size - j) r with | some r => finR r size least | none => (0, 0)) := by
  intro n
  induction n with
  | zero => intro j r _ h _ _; omega
  | succ n ih =>
    intro j r hj h hr hb
    rw [r_rune_r0]
    by_cases hlt : j < size
    · obtain ⟨z, hz, hzn⟩ := byte_at (s := s) (i := at_ + j) (by omega)
      have hz2 : z.toNat < 256 := UInt8.toNat_lt z
      have d1 : decide ((j : Int) < (size : Int)) = true := by simpa using hlt
      have hwi : IntKind.i64.wrap ((at_ : Int) + (j : Int)) = ((at_ + j : Nat) : Int) := by rw [w64 _ (by omega) (by omega)]; omega
      have d2 : decide ((0 : Int) ≤ ((at_ + j : Nat) : Int)) = true := by simp only [decide_eq_true_eq]; omega
      have hwz : IntKind.i64.wrap (z.toNat : Int) = (z.toNat : Int) := w64 _ (by omega) (by omega)
      rw [d1, cond_true, hwi, d2, cond_true, getT_at rfl hz, hwz]
      have e : size - j = (size - (j + 1)) + 1 := by omega
      rw [e]
      simp only [accR, hzn]
      by_cases h1 : z.toNat < 128
      · have x1 : decide ((z.toNat : Int) < 128) = true := by simp only [decide_eq_true_eq]; omega
        rw [x1, cond_true, decide_eq_true h1, Bool.true_or, cond_true, r_rune_c1]
      · have x1 : decide ((z.toNat : Int) < 128) = false := by simp only [decide_eq_false_iff_not]; omega
        rw [x1, cond_false, decide_eq_false h1, Bool.false_or]
        by_cases h2 : z.toNat > 191
        · have x2 : decide ((z.toNat : Int) > 191) = true := by simp only [decide_eq_true_eq]; omega
          rw [x2, cond_true, decide_eq_true h2, cond_true, r_rune_c1]
        · have x2 : decide ((z.toNat : Int) > 191) = false := by simp only [decide_eq_false_iff_not]; omega
          rw [x2, cond_false, decide_eq_false h2, cond_false]
          have hpow : ((64 ^ (j + 1) : Nat) : Int) = ((64 ^ j : Nat) : Int) * 64 := by rw [Nat.pow_succ]; omega
          have hpj : ((64 ^ j : Nat) : Int) ≤ 262144 := by
            have : j = 0 ∨ j = 1 ∨ j = 2 ∨ j = 3 := by omega
            rcases this with rfl | rfl | rfl | rfl <;> decide
          rw [w64 (r * 64) (by omega) (by omega), w64 (r * 64 + z.toNat) (by omega) (by omega), w64 (r * 64 + z.toNat - 128) (by omega) (by omega), w64 ((j : Int) + 1) (by omega) (by omega)]
          have := ih (j + 1) (r * 64 + z.toNat - 128) (by omega) (by omega) (by omega) (by omega)
          rw [show ((j + 1 : Nat) : Int) = (j : Int) + 1 from rfl] at this
          exact this
    · have : j = size := by omega
      subst this
      have d1 : decide ((j : Int) < (j : Int)) = false := by simp
      rw [d1, cond_false, r_rune_fin, Nat.sub_self]; rfl
theorem r_multi (m : Int) (k : V → Bx → Option (V × Bx)) (F : Nat) (hF : 10 ≤ F) (s : ByteArray) (hs : s.size < 1000000000) (at_ size : Nat) (ha : at_ < s.size) (h1 : 1 ≤ size) (h4 : size ≤ 4) (r0 least : Int) (hr : 0 ≤ r0) (hr2 : r0 < 64) (sz : Int) (hsz : sz = size) :
    (bif decide (sz > IntKind.i64.wrap ((s.size : Int) - at_)) then rK k (0, 0) else r_rune_L0 m (r_rune_K0 m k F) F F s at_ r0 sz least 1) = rK k (multiR s at_ size r0 least) := by
  subst hsz
  rw [w64 _ (by omega) (by omega)]
  unfold multiR
  by_cases h : s.size < at_ + size
  · have d : decide ((size : Int) > (s.size : Int) - at_) = true := by simp only [decide_eq_true_eq]; omega
    rw [d, cond_true, decide_eq_true h, cond_true]
  · have d : decide ((size : Int) > (s.size : Int) - at_) = false := by simp only [decide_eq_false_iff_not]; omega
    rw [d, cond_false, decide_eq_false h, cond_false]
    have := r_rune_loop m k F s hs at_ size (by omega) h4 least F 1 r0 h1 (by omega) hr (by simpa using hr2)
    exact this
theorem rune_ok (m : Int) : SpecOk Tryd.prog (globT m) 38 runeS := by
  intro a b v b' h
  unfold runeS at h
  split at h
  · rename_i s at_
    rcases run_ite h with ⟨hl, h⟩ | ⟨_, h⟩
    · simp only [Bool.and_eq_true, decide_eq_true_eq] at hl
      obtain ⟨rfl, rfl⟩ := run_ret h
      obtain ⟨i, rfl⟩ : ∃ i : Nat, at_ = i := ⟨at_.toNat, by omega⟩
      rw [Int.toNat_natCast]
      refine specAtG mix vti_ok Tryd.func38 rfl (by kernel_rfl) .nil 10 ((r_rune_start m fin2 _ s i).trans ?_)
      have hi : i < s.size := by omega
      obtain ⟨z, hz, hzn⟩ := byte_at hi
      have hz2 : z.toNat < 256 := UInt8.toNat_lt z
      have d2 : decide ((0 : Int) ≤ (i : Int)) = true := by simp
      have hwz : IntKind.i64.wrap (z.toNat : Int) = (z.toNat : Int) := w64 _ (by omega) (by omega)
      rw [d2, cond_true, getT_at rfl hz, hwz]
      show _ = rK fin2 (runeP s i)
      unfold runeP
      rw [hzn]
      have e : ∀ {p q : Prop} [Decidable p] [Decidable q], (p ↔ q) → decide p = decide q := fun h => by simp [h]
      have c1 : decide ((z.toNat : Int) < 128) = decide (z.toNat < 128) := e (by omega)
      have c2 : decide ((z.toNat : Int) ≥ 192) = decide (192 ≤ z.toNat) := e (by omega)
      have c3 : decide ((z.toNat : Int) < 224) = decide (z.toNat < 224) := e (by omega)
      have c4 : decide ((z.toNat : Int) ≥ 224) = decide (224 ≤ z.toNat) := e (by omega)
      have c5 : decide ((z.toNat : Int) < 240) = decide (z.toNat < 240) := e (by omega)
      have c6 : decide ((z.toNat : Int) ≥ 240) = decide (240 ≤ z.toNat) := e (by omega)
      have c7 : decide ((z.toNat : Int) < 248) = decide (z.toNat < 248) := e (by omega)
      rw [c1, c2, c3, c4, c5, c6, c7]
      by_cases h1 : z.toNat < 128
      · rw [decide_eq_true h1, cond_true, cond_true]
      rw [decide_eq_false h1, cond_false, cond_false]
      by_cases h2 : 192 ≤ z.toNat ∧ z.toNat < 224
      · rw [decide_eq_true h2.1, decide_eq_true h2.2, Bool.true_and, cond_true, cond_true, cond_true, w64 ((z.toNat : Int) - 192) (by omega) (by omega)]
        exact r_multi m fin2 10 (by omega) s (by omega) i 2 hi (by omega) (by omega) _ _ (by omega) (by omega) 2 rfl
      by_cases h3 : 224 ≤ z.toNat ∧ z.toNat < 240
      · have y1 : decide (192 ≤ z.toNat) = true := by simp only [decide_eq_true_eq]; omega
        have y2 : decide (z.toNat < 224) = false := by simp only [decide_eq_false_iff_not]; omega
        rw [y1, y2, decide_eq_true h3.1, decide_eq_true h3.2, Bool.and_false, cond_true, cond_false, cond_false, Bool.true_and, cond_true, cond_true, cond_true, w64 ((z.toNat : Int) - 224) (by omega) (by omega)]
        exact r_multi m fin2 10 (by omega) s (by omega) i 3 hi (by omega) (by omega) _ _ (by omega) (by omega) 3 rfl
      by_cases h4 : 240 ≤ z.toNat ∧ z.toNat < 248
      · have y1 : decide (192 ≤ z.toNat) = true := by simp only [decide_eq_true_eq]; omega
        have y2 : decide (z.toNat < 224) = false := by simp only [decide_eq_false_iff_not]; omega
        have y3 : decide (224 ≤ z.toNat) = true := by simp only [decide_eq_true_eq]; omega
        have y4 : decide (z.toNat < 240) = false := by simp only [decide_eq_false_iff_not]; omega
        rw [y1, y2, y3, y4, decide_eq_true h4.1, decide_eq_true h4.2]
        rw [w64 ((z.toNat : Int) - 240) (by omega) (by omega)]
        rw [Bool.and_false, Bool.true_and, cond_true, cond_false, cond_true, cond_false, cond_true, cond_true, cond_false, cond_false, cond_true]
        exact r_multi m fin2 10 (by omega) s (by omega) i 4 hi (by omega) (by omega) _ _ (by omega) (by omega) 4 rfl
      · by_cases g1 : 192 ≤ z.toNat
        · have g2 : 248 ≤ z.toNat := by omega
          have y1 : decide (192 ≤ z.toNat) = true := by simp only [decide_eq_true_eq]; omega
          have y2 : decide (z.toNat < 224) = false := by simp only [decide_eq_false_iff_not]; omega
          have y3 : decide (224 ≤ z.toNat) = true := by simp only [decide_eq_true_eq]; omega
          have y4 : decide (z.toNat < 240) = false := by simp only [decide_eq_false_iff_not]; omega
          have y5 : decide (240 ≤ z.toNat) = true := by simp only [decide_eq_true_eq]; omega
          have y6 : decide (z.toNat < 248) = false := by simp only [decide_eq_false_iff_not]; omega
          rw [y1, y2, y3, y4, y5, y6]; rfl
        · have y1 : decide (192 ≤ z.toNat) = false := by simp only [decide_eq_false_iff_not]; omega
          have y3 : decide (224 ≤ z.toNat) = false := by simp only [decide_eq_false_iff_not]; omega
          have y5 : decide (240 ≤ z.toNat) = false := by simp only [decide_eq_false_iff_not]; omega
          rw [y1, y3, y5]; rfl
    · exact (run_no h).elim
  · cases h
end Go.Proofs.YtniiimpcakmkbaaDoor

/- the reference of sigil: tables -/
namespace Go.Proofs.YtniiimpcakmkbaaDoor
open Go Vm
def tabR1 : List (FuncId × (List V → Bx → Tr)) := [(38, runeS)]
def orcR1 : FuncId → List V → Bx → Tr := orcOf tabR1
/-- the runes as numbers; not all are -/
def runesAt (s : ByteArray) : Nat → Nat → List (List C) → Option (List (List C))
  | 0, _, _ => none
  | f + 1, i, out =>
    bif decide (i < s.size) then
      (bif (runeP s i).2 == 0 then none else runesAt s f (i + (runeP s i).2.toNat) (out ++ [[.int .i64 (runeP s i).1]]))
    else some out
def runesP (s : ByteArray) : Option (List (List C)) := runesAt s (s.size + 1) 0 []
def runesS : List V → Bx → Tr
  | [.t (.w (.d (.str s)))], [] => .ite (decide (s.size < 1000000))
      (.ret (.tup [.w (.d (.sl 1 ((runesP s).getD []))), .w (.d (.bool (runesP s).isSome))]) []) .no
  | _, _ => .no
def tabR : List (FuncId × (List V → Bx → Tr)) := [(17, runesS), (33, amongS), (34, placeS), (35, partS), (36, textS)]
def orcR : FuncId → List V → Bx → Tr := orcOf tabR
end Go.Proofs.YtniiimpcakmkbaaDoor

/- Texts as lists of runes: plain laws, no program. -/
set_option linter.unusedVariables false
namespace Go.Proofs.YtniiimpcakmkbaaDoor
open Go Vm Go.Lib
/-- a number that is a rune -/
def Sc (c : Nat) : Prop := c < 55296 ∨ (57344 ≤ c ∧ c ≤ 1114111)
/-- a rune's bytes -/
def encN (c : Nat) : List UInt8 :=
  if c < 128 then [UInt8.ofNat c]
  else if c < 2048 then [UInt8.ofNat (192 + c / 64), UInt8.ofNat (128 + c % 64)]
  else if c < 65536 then [UInt8.ofNat (224 + c / 4096), UInt8.ofNat (128 + c / 64 % 64), UInt8.ofNat (128 + c % 64)]
  else [UInt8.ofNat (240 + c / 262144), UInt8.ofNat (128 + c / 4096 % 64), UInt8.ofNat (128 + c / 64 % 64), UInt8.ofNat (128 + c % 64)]
def encs (ns : List Nat) : List UInt8 := ns.flatMap encN
theorem encs_nil : encs [] = [] := rfl
theorem encs_cons (c : Nat) (r : List Nat) : encs (c :: r) = encN c ++ encs r := by simp [encs]
theorem encs_app (a b : List Nat) : encs (a ++ b) = encs a ++ encs b := by simp [encs]
theorem encode_data (c : Nat) (h : Sc c) : (Utf8.encode (c : Int)).data.toList = encN c := by
  have hv : Utf8.valid (c : Int) = true := by
    unfold Utf8.valid
    simp only [Bool.or_eq_true, Bool.and_eq_true, decide_eq_true_eq]
    unfold Sc at h
    omega
  unfold Utf8.encode encN
  simp only [hv, if_true, Int.toNat_natCast]
  repeat' split
  all_goals first | rfl | omega
theorem encN_len (c : Nat) : 1 ≤ (encN c).length ∧ (encN c).length ≤ 4 := by
  unfold encN; repeat' split
  all_goals simp
theorem encN_low {c : Nat} (h : c < 128) : encN c = [UInt8.ofNat c] := by unfold encN; rw [if_pos h]
theorem u8 (n : Nat) (h : n < 256) : (UInt8.ofNat n).toNat = n := by simp; omega
theorem g0 (a : UInt8) (l : List UInt8) : (a :: l).getD 0 0 = a := rfl
theorem g1 (a b : UInt8) (l : List UInt8) : (a :: b :: l).getD 1 0 = b := rfl
theorem g2 (a b c : UInt8) (l : List UInt8) : (a :: b :: c :: l).getD 2 0 = c := rfl
theorem g3 (a b c d : UInt8) (l : List UInt8) : (a :: b :: c :: d :: l).getD 3 0 = d := rfl
/-- a rune's bytes are read as it -/
theorem dec_enc (c : Nat) (h : Sc c) (q : List UInt8) : decodeL (encN c ++ q) = (c, (encN c).length) := by
  unfold Sc at h
  unfold encN
  split
  · rw [decodeL_N]
    simp only [List.cons_append, List.nil_append, g0, u8 c (by omega), decodeN, List.length_cons, List.length_nil]
    rw [if_pos (by assumption)]
  split
  · rw [decodeL_N]
    simp only [List.cons_append, List.nil_append, g0, g1, u8 (192 + c / 64) (by omega), u8 (128 + c % 64) (by omega), decodeN, List.length_cons, List.length_nil]
    repeat' split
    all_goals first | (exfalso; omega) | (apply Prod.ext <;> simp only <;> omega)
  split
  · rw [decodeL_N]
    simp only [List.cons_append, List.nil_append, g0, g1, g2, u8 (224 + c / 4096) (by omega), u8 (128 + c / 64 % 64) (by omega), u8 (128 + c % 64) (by omega), decodeN, List.length_cons, List.length_nil]
    repeat' split
    all_goals first | (exfalso; omega) | (apply Prod.ext <;> simp only <;> omega)
  · rw [decodeL_N]
    simp only [List.cons_append, List.nil_append, g0, g1, g2, g3, u8 (240 + c / 262144) (by omega), u8 (128 + c / 4096 % 64) (by omega), u8 (128 + c / 64 % 64) (by omega), u8 (128 + c % 64) (by omega), decodeN, List.length_cons, List.length_nil]
    repeat' split
    all_goals first | (exfalso; omega) | (apply Prod.ext <;> simp only <;> omega)
theorem ub (x : UInt8) (n : Nat) (h : x.toNat = n) : x = UInt8.ofNat n := by subst h; simp
set_option maxRecDepth 100000 in
theorem decN_cases (n b0 b1 b2 b3 : Nat) :
    (b0 < 128 ∧ decodeN n b0 b1 b2 b3 = (b0, 1)) ∨
    (b0 / 32 = 6 ∧ 1 < n ∧ b1 / 64 = 2 ∧ 128 ≤ b0 % 32 * 64 + b1 % 64 ∧ decodeN n b0 b1 b2 b3 = (b0 % 32 * 64 + b1 % 64, 2)) ∨
    (b0 / 16 = 14 ∧ 2 < n ∧ b1 / 64 = 2 ∧ b2 / 64 = 2 ∧ 2048 ≤ b0 % 16 * 4096 + b1 % 64 * 64 + b2 % 64 ∧ Sc (b0 % 16 * 4096 + b1 % 64 * 64 + b2 % 64) ∧ decodeN n b0 b1 b2 b3 = (b0 % 16 * 4096 + b1 % 64 * 64 + b2 % 64, 3)) ∨
    (b0 / 8 = 30 ∧ 3 < n ∧ b1 / 64 = 2 ∧ b2 / 64 = 2 ∧ b3 / 64 = 2 ∧ 65536 ≤ b0 % 8 * 262144 + b1 % 64 * 4096 + b2 % 64 * 64 + b3 % 64 ∧ Sc (b0 % 8 * 262144 + b1 % 64 * 4096 + b2 % 64 * 64 + b3 % 64) ∧ decodeN n b0 b1 b2 b3 = (b0 % 8 * 262144 + b1 % 64 * 4096 + b2 % 64 * 64 + b3 % 64, 4)) ∨
    decodeN n b0 b1 b2 b3 = (65533, 1) := by
  unfold decodeN Sc
  repeat' split
  all_goals first
    | (left; exact ⟨by assumption, by rfl⟩)
    | (right; left; exact ⟨by omega, by omega, by omega, by omega, by rfl⟩)
    | (right; right; left; exact ⟨by omega, by omega, by omega, by omega, by omega, by omega, by rfl⟩)
    | (right; right; right; left; exact ⟨by omega, by omega, by omega, by omega, by omega, by omega, by omega, by rfl⟩)
    | (right; right; right; right; rfl)
theorem take4' : ∀ l : List UInt8, 3 < l.length → l.take 4 = [l.getD 0 0, l.getD 1 0, l.getD 2 0, l.getD 3 0]
  | a :: b :: c :: d :: r, _ => rfl
  | [], h | [_], h | [_, _], h | [_, _, _], h => by simp only [List.length_cons, List.length_nil] at h; omega
/-- what is read as a rune is its bytes -/
theorem enc_dec (l : List UInt8) (hne : l ≠ []) (h : ¬ decodeL l = (65533, 1)) : Sc (decodeL l).1 ∧ (decodeL l).2 = (encN (decodeL l).1).length ∧ l = encN (decodeL l).1 ++ l.drop (decodeL l).2 := by
  have hlen : 0 < l.length := List.length_pos_iff.2 hne
  rw [decodeL_N] at h ⊢
  have h0 := (l.getD 0 0).toNat_lt; have h1 := (l.getD 1 0).toNat_lt; have h2 := (l.getD 2 0).toNat_lt; have h3 := (l.getD 3 0).toNat_lt
  have key : ∀ (v w : Nat), l.take w = encN v → w ≤ l.length → w = (encN v).length ∧ l = encN v ++ l.drop w := by
    intro v w hw hle
    refine ⟨by rw [← hw, List.length_take]; omega, by rw [← hw, List.take_append_drop]⟩
  rcases decN_cases l.length (l.getD 0 0).toNat (l.getD 1 0).toNat (l.getD 2 0).toNat (l.getD 3 0).toNat with ⟨c, e⟩ | ⟨c1, c2, c3, cv, e⟩ | ⟨c1, c2, c3, c4, cv, cs, e⟩ | ⟨c1, c2, c3, c4, c5, cv, cs, e⟩ | e
  · rw [e]
    refine ⟨.inl (by simp only; omega), key _ 1 ?_ (by omega)⟩
    rw [take1 l (by omega), encN_low c, UInt8.ofNat_toNat]
  · rw [e]
    simp only
    refine ⟨.inl (by omega), key _ 2 ?_ (by omega)⟩
    rw [take2 l (by omega)]
    unfold encN
    rw [if_neg (by omega), if_pos (by omega), ← ub (l.getD 0 0) (192 + ((l.getD 0 0).toNat % 32 * 64 + (l.getD 1 0).toNat % 64) / 64) (by omega), ← ub (l.getD 1 0) (128 + ((l.getD 0 0).toNat % 32 * 64 + (l.getD 1 0).toNat % 64) % 64) (by omega)]
  · rw [e]
    simp only
    refine ⟨cs, key _ 3 ?_ (by omega)⟩
    rw [take3 l (by omega)]
    unfold encN
    rw [if_neg (by omega), if_neg (by omega), if_pos (by omega)]
    rw [← ub (l.getD 0 0) (224 + ((l.getD 0 0).toNat % 16 * 4096 + (l.getD 1 0).toNat % 64 * 64 + (l.getD 2 0).toNat % 64) / 4096) (by omega),
      ← ub (l.getD 1 0) (128 + ((l.getD 0 0).toNat % 16 * 4096 + (l.getD 1 0).toNat % 64 * 64 + (l.getD 2 0).toNat % 64) / 64 % 64) (by omega),
      ← ub (l.getD 2 0) (128 + ((l.getD 0 0).toNat % 16 * 4096 + (l.getD 1 0).toNat % 64 * 64 + (l.getD 2 0).toNat % 64) % 64) (by omega)]
  · rw [e]
    simp only
    refine ⟨cs, key _ 4 ?_ (by omega)⟩
    rw [take4' l (by omega)]
    unfold encN
    rw [if_neg (by omega), if_neg (by omega), if_neg (by omega)]
    rw [← ub (l.getD 0 0) (240 + ((l.getD 0 0).toNat % 8 * 262144 + (l.getD 1 0).toNat % 64 * 4096 + (l.getD 2 0).toNat % 64 * 64 + (l.getD 3 0).toNat % 64) / 262144) (by omega),
      ← ub (l.getD 1 0) (128 + ((l.getD 0 0).toNat % 8 * 262144 + (l.getD 1 0).toNat % 64 * 4096 + (l.getD 2 0).toNat % 64 * 64 + (l.getD 3 0).toNat % 64) / 4096 % 64) (by omega),
      ← ub (l.getD 2 0) (128 + ((l.getD 0 0).toNat % 8 * 262144 + (l.getD 1 0).toNat % 64 * 4096 + (l.getD 2 0).toNat % 64 * 64 + (l.getD 3 0).toNat % 64) / 64 % 64) (by omega),
      ← ub (l.getD 3 0) (128 + ((l.getD 0 0).toNat % 8 * 262144 + (l.getD 1 0).toNat % 64 * 4096 + (l.getD 2 0).toNat % 64 * 64 + (l.getD 3 0).toNat % 64) % 64) (by omega)]
  · exact absurd e h
/-! ### the reference's Rune -/
theorem accR_none1 (s : ByteArray) (i k n m : Nat) (r : Int) (hn : n = m + 1) (h : byteN s (i + k) < 128 ∨ byteN s (i + k) > 191) : accR s i k n r = none := by
  subst hn
  unfold accR
  have : (decide (byteN s (i + k) < 128) || decide (byteN s (i + k) > 191)) = true := by simpa using h
  rw [this, cond_true]
theorem accR_some1 (s : ByteArray) (i k n k' m : Nat) (r : Int) (hn : n = m + 1) (hk : k' = k + 1) (h1 : 128 ≤ byteN s (i + k)) (h2 : byteN s (i + k) ≤ 191) : accR s i k n r = accR s i k' m (r * 64 + byteN s (i + k) - 128) := by
  subst hn; subst hk
  conv => lhs; unfold accR
  have : (decide (byteN s (i + k) < 128) || decide (byteN s (i + k) > 191)) = false := by simp; omega
  rw [this, cond_false]
theorem finR_no (r size least : Int) (h : r < least ∨ r > 1114111 ∨ (r ≥ 55296 ∧ r ≤ 57343)) : finR r size least = (0, 0) := by
  unfold finR
  have : (decide (r < least) || decide (r > 1114111) || (decide (r ≥ 55296) && decide (r ≤ 57343))) = true := by simp; omega
  rw [this, cond_true]
theorem finR_yes (r size least : Int) (h : ¬(r < least ∨ r > 1114111 ∨ (r ≥ 55296 ∧ r ≤ 57343))) : finR r size least = (r, size) := by
  unfold finR
  have : (decide (r < least) || decide (r > 1114111) || (decide (r ≥ 55296) && decide (r ≤ 57343))) = false := by simp; omega
  rw [this, cond_false]
theorem byteN_lt (s : ByteArray) (i : Nat) : byteN s i < 256 := UInt8.toNat_lt _
theorem multi2 (s : ByteArray) (i : Nat) (r0 least : Int) : multiR s i 2 r0 least = if s.size < i + 2 ∨ byteN s (i + 1) / 64 ≠ 2 then (0, 0) else finR (r0 * 64 + byteN s (i + 1) - 128) 2 least := by
  have b1 := byteN_lt s (i + 1)
  unfold multiR
  by_cases h : s.size < i + 2
  · rw [decide_eq_true h, cond_true, if_pos (.inl h)]
  · rw [decide_eq_false h, cond_false]
    simp only [Nat.reduceSub]
    by_cases h1 : byteN s (i + 1) / 64 ≠ 2
    · rw [if_pos (.inr h1), accR_none1 s i 1 1 0 _ rfl (by omega)]
    · rw [if_neg (by omega), accR_some1 s i 1 1 2 0 _ rfl rfl (by omega) (by omega)]
      simp only [accR]; rfl
theorem multi3 (s : ByteArray) (i : Nat) (r0 least : Int) : multiR s i 3 r0 least = if s.size < i + 3 ∨ byteN s (i + 1) / 64 ≠ 2 ∨ byteN s (i + 2) / 64 ≠ 2 then (0, 0) else finR ((r0 * 64 + byteN s (i + 1) - 128) * 64 + byteN s (i + 2) - 128) 3 least := by
  have b1 := byteN_lt s (i + 1); have b2 := byteN_lt s (i + 2)
  unfold multiR
  by_cases h : s.size < i + 3
  · rw [decide_eq_true h, cond_true, if_pos (.inl h)]
  · rw [decide_eq_false h, cond_false]
    simp only [Nat.reduceSub]
    by_cases h1 : byteN s (i + 1) / 64 ≠ 2
    · rw [if_pos (.inr (.inl h1)), accR_none1 s i 1 2 1 _ rfl (by omega)]
    · rw [accR_some1 s i 1 2 2 1 _ rfl rfl (by omega) (by omega)]
      by_cases h2 : byteN s (i + 2) / 64 ≠ 2
      · rw [if_pos (.inr (.inr h2)), accR_none1 s i 2 1 0 _ rfl (by omega)]
      · rw [if_neg (by omega), accR_some1 s i 2 1 3 0 _ rfl rfl (by omega) (by omega)]
        simp only [accR]; rfl
theorem multi4 (s : ByteArray) (i : Nat) (r0 least : Int) : multiR s i 4 r0 least = if s.size < i + 4 ∨ byteN s (i + 1) / 64 ≠ 2 ∨ byteN s (i + 2) / 64 ≠ 2 ∨ byteN s (i + 3) / 64 ≠ 2 then (0, 0) else finR (((r0 * 64 + byteN s (i + 1) - 128) * 64 + byteN s (i + 2) - 128) * 64 + byteN s (i + 3) - 128) 4 least := by
  have b1 := byteN_lt s (i + 1); have b2 := byteN_lt s (i + 2); have b3 := byteN_lt s (i + 3)
  unfold multiR
  by_cases h : s.size < i + 4
  · rw [decide_eq_true h, cond_true, if_pos (.inl h)]
  · rw [decide_eq_false h, cond_false]
    simp only [Nat.reduceSub]
    by_cases h1 : byteN s (i + 1) / 64 ≠ 2
    · rw [if_pos (.inr (.inl h1)), accR_none1 s i 1 3 2 _ rfl (by omega)]
    · rw [accR_some1 s i 1 3 2 2 _ rfl rfl (by omega) (by omega)]
      by_cases h2 : byteN s (i + 2) / 64 ≠ 2
      · rw [if_pos (.inr (.inr (.inl h2))), accR_none1 s i 2 2 1 _ rfl (by omega)]
      · rw [accR_some1 s i 2 2 3 1 _ rfl rfl (by omega) (by omega)]
        by_cases h3 : byteN s (i + 3) / 64 ≠ 2
        · rw [if_pos (.inr (.inr (.inr h3))), accR_none1 s i 3 1 0 _ rfl (by omega)]
        · rw [if_neg (by omega), accR_some1 s i 3 1 4 0 _ rfl rfl (by omega) (by omega)]
          simp only [accR]; rfl
theorem bsel {α : Type} {c : Bool} {p : Prop} (h : c = true ↔ p) [Decidable p] (x y : α) : (bif c then x else y) = if p then x else y := by
  cases c with
  | true => rw [cond_true, if_pos (h.1 rfl)]
  | false => rw [cond_false, if_neg (fun hp => by cases h.2 hp)]
/-- Rune answers as the model's decoder -/
theorem rune_dec (s : ByteArray) (i : Nat) (hi : i < s.size) : (Utf8.decode s i = (65533, 1) ∧ (runeP s i).2 = 0) ∨ (¬ Utf8.decode s i = (65533, 1) ∧ runeP s i = (((Utf8.decode s i).1 : Int), ((Utf8.decode s i).2 : Int))) := by
  rw [decode_N]
  have e : s.data.toList.length = s.size := rfl
  rw [e]
  have f : ∀ j, (s.data.toList.getD j 0).toNat = byteN s j := fun j => rfl
  rw [f, f, f, f]
  have a0 := byteN_lt s i; have a1 := byteN_lt s (i + 1); have a2 := byteN_lt s (i + 2); have a3 := byteN_lt s (i + 3)
  unfold runeP
  rw [multi2, multi3, multi4]
  rw [bsel (p := byteN s i < 128) (by simp), bsel (p := 192 ≤ byteN s i ∧ byteN s i < 224) (by simp), bsel (p := 224 ≤ byteN s i ∧ byteN s i < 240) (by simp), bsel (p := 240 ≤ byteN s i ∧ byteN s i < 248) (by simp)]
  generalize byteN s i = b0 at *
  generalize byteN s (i + 1) = b1 at *
  generalize byteN s (i + 2) = b2 at *
  generalize byteN s (i + 3) = b3 at *
  by_cases c0 : b0 < 128
  · rw [decodeN_ascii _ _ _ _ _ c0, if_pos c0]
    exact .inr ⟨by intro h; cases h; omega, rfl⟩
  rw [if_neg c0]
  by_cases c1 : 192 ≤ b0 ∧ b0 < 224
  · rw [if_pos c1]
    by_cases h : s.size < i + 2 ∨ b1 / 64 ≠ 2
    · rw [if_pos h]
      refine .inl ⟨?_, rfl⟩
      unfold decodeN; rw [if_neg c0, if_neg (by omega), if_neg (by omega), if_neg (by omega)]
    · rw [if_neg h]
      unfold decodeN; rw [if_neg c0, if_pos (by omega)]
      by_cases g : b0 % 32 * 64 + b1 % 64 ≥ 128
      · rw [if_pos g, finR_yes _ _ _ (by omega)]
        exact .inr ⟨by intro h; have := congrArg Prod.snd h; simp at this, by ext <;> simp only <;> omega⟩
      · rw [if_neg g, finR_no _ _ _ (by omega)]
        exact .inl ⟨rfl, rfl⟩
  rw [if_neg c1]
  by_cases c2 : 224 ≤ b0 ∧ b0 < 240
  · rw [if_pos c2]
    by_cases h : s.size < i + 3 ∨ b1 / 64 ≠ 2 ∨ b2 / 64 ≠ 2
    · rw [if_pos h]
      refine .inl ⟨?_, rfl⟩
      unfold decodeN; rw [if_neg c0, if_neg (by omega), if_neg (by omega), if_neg (by omega)]
    · rw [if_neg h]
      unfold decodeN; rw [if_neg c0, if_neg (by omega), if_pos (by omega)]
      by_cases g : b0 % 16 * 4096 + b1 % 64 * 64 + b2 % 64 ≥ 2048 ∧ (b0 % 16 * 4096 + b1 % 64 * 64 + b2 % 64 < 55296 ∨ (57344 ≤ b0 % 16 * 4096 + b1 % 64 * 64 + b2 % 64 ∧ b0 % 16 * 4096 + b1 % 64 * 64 + b2 % 64 ≤ 1114111))
      · rw [if_pos g, finR_yes _ _ _ (by omega)]
        exact .inr ⟨by intro h; have := congrArg Prod.snd h; simp at this, by ext <;> simp only <;> omega⟩
      · rw [if_neg g, finR_no _ _ _ (by omega)]
        exact .inl ⟨rfl, rfl⟩
  rw [if_neg c2]
  by_cases c3 : 240 ≤ b0 ∧ b0 < 248
  · rw [if_pos c3]
    by_cases h : s.size < i + 4 ∨ b1 / 64 ≠ 2 ∨ b2 / 64 ≠ 2 ∨ b3 / 64 ≠ 2
    · rw [if_pos h]
      refine .inl ⟨?_, rfl⟩
      unfold decodeN; rw [if_neg c0, if_neg (by omega), if_neg (by omega), if_neg (by omega)]
    · rw [if_neg h]
      unfold decodeN; rw [if_neg c0, if_neg (by omega), if_neg (by omega), if_pos (by omega)]
      by_cases g : b0 % 8 * 262144 + b1 % 64 * 4096 + b2 % 64 * 64 + b3 % 64 ≥ 65536 ∧ (b0 % 8 * 262144 + b1 % 64 * 4096 + b2 % 64 * 64 + b3 % 64 < 55296 ∨ (57344 ≤ b0 % 8 * 262144 + b1 % 64 * 4096 + b2 % 64 * 64 + b3 % 64 ∧ b0 % 8 * 262144 + b1 % 64 * 4096 + b2 % 64 * 64 + b3 % 64 ≤ 1114111))
      · rw [if_pos g, finR_yes _ _ _ (by omega)]
        exact .inr ⟨by intro h; have := congrArg Prod.snd h; simp at this, by ext <;> simp only <;> omega⟩
      · rw [if_neg g, finR_no _ _ _ (by omega)]
        exact .inl ⟨rfl, rfl⟩
  · rw [if_neg c3]
    refine .inl ⟨?_, rfl⟩
    unfold decodeN; rw [if_neg c0, if_neg (by omega), if_neg (by omega), if_neg (by omega)]
end Go.Proofs.YtniiimpcakmkbaaDoor
