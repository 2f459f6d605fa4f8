/- Texts as lists of runes: plain laws, no program. -/
import Derived.Test.YtniiimpcakmkbaaDoorSgQ
import Derived.Lib.ValidLaws
import Derived.Lib.SpaceUEq
set_option linter.unusedVariables false
namespace Go.Proofs.YtniiimpcakmkbaaDoor
open Go Vm Go.Lib
/-- a number that is a rune -/
def Sc (c : Nat) : Prop := c < 55296 ∨ (57344 ≤ c ∧ c ≤ 1114111)
/-- a rune's bytes -/
def encN (c : Nat) : List UInt8 :=
  if c < 128 then [UInt8.ofNat c]
  else if c < 2048 then [UInt8.ofNat (192 + c / 64), UInt8.ofNat (128 + c % 64)]
  else if c < 65536 then [UInt8.ofNat (224 + c / 4096), UInt8.ofNat (128 + c / 64 % 64), UInt8.ofNat (128 + c % 64)]
  else [UInt8.ofNat (240 + c / 262144), UInt8.ofNat (128 + c / 4096 % 64), UInt8.ofNat (128 + c / 64 % 64), UInt8.ofNat (128 + c % 64)]
def encs (ns : List Nat) : List UInt8 := ns.flatMap encN
theorem encs_nil : encs [] = [] := rfl
theorem encs_cons (c : Nat) (r : List Nat) : encs (c :: r) = encN c ++ encs r := by simp [encs]
theorem encs_app (a b : List Nat) : encs (a ++ b) = encs a ++ encs b := by simp [encs]
theorem encode_data (c : Nat) (h : Sc c) : (Utf8.encode (c : Int)).data.toList = encN c := by
  have hv : Utf8.valid (c : Int) = true := by
    unfold Utf8.valid
    simp only [Bool.or_eq_true, Bool.and_eq_true, decide_eq_true_eq]
    unfold Sc at h
    omega
  unfold Utf8.encode encN
  simp only [hv, if_true, Int.toNat_natCast]
  repeat' split
  all_goals first | rfl | omega
theorem encN_len (c : Nat) : 1 ≤ (encN c).length ∧ (encN c).length ≤ 4 := by
  unfold encN; repeat' split
  all_goals simp
theorem encN_low {c : Nat} (h : c < 128) : encN c = [UInt8.ofNat c] := by unfold encN; rw [if_pos h]
theorem u8 (n : Nat) (h : n < 256) : (UInt8.ofNat n).toNat = n := by simp; omega
theorem g0 (a : UInt8) (l : List UInt8) : (a :: l).getD 0 0 = a := rfl
theorem g1 (a b : UInt8) (l : List UInt8) : (a :: b :: l).getD 1 0 = b := rfl
theorem g2 (a b c : UInt8) (l : List UInt8) : (a :: b :: c :: l).getD 2 0 = c := rfl
theorem g3 (a b c d : UInt8) (l : List UInt8) : (a :: b :: c :: d :: l).getD 3 0 = d := rfl
/-- a rune's bytes are read as it -/
theorem dec_enc (c : Nat) (h : Sc c) (q : List UInt8) : decodeL (encN c ++ q) = (c, (encN c).length) := by
  unfold Sc at h
  unfold encN
  split
  · rw [decodeL_N]
    simp only [List.cons_append, List.nil_append, g0, u8 c (by omega), decodeN, List.length_cons, List.length_nil]
    rw [if_pos (by assumption)]
  split
  · rw [decodeL_N]
    simp only [List.cons_append, List.nil_append, g0, g1, u8 (192 + c / 64) (by omega), u8 (128 + c % 64) (by omega), decodeN, List.length_cons, List.length_nil]
    repeat' split
    all_goals first | (exfalso; omega) | (apply Prod.ext <;> simp only <;> omega)
  split
  · rw [decodeL_N]
    simp only [List.cons_append, List.nil_append, g0, g1, g2, u8 (224 + c / 4096) (by omega), u8 (128 + c / 64 % 64) (by omega), u8 (128 + c % 64) (by omega), decodeN, List.length_cons, List.length_nil]
    repeat' split
    all_goals first | (exfalso; omega) | (apply Prod.ext <;> simp only <;> omega)
  · rw [decodeL_N]
    simp only [List.cons_append, List.nil_append, g0, g1, g2, g3, u8 (240 + c / 262144) (by omega), u8 (128 + c / 4096 % 64) (by omega), u8 (128 + c / 64 % 64) (by omega), u8 (128 + c % 64) (by omega), decodeN, List.length_cons, List.length_nil]
    repeat' split
    all_goals first | (exfalso; omega) | (apply Prod.ext <;> simp only <;> omega)
theorem ub (x : UInt8) (n : Nat) (h : x.toNat = n) : x = UInt8.ofNat n := by subst h; simp
set_option maxRecDepth 100000 in
theorem decN_cases (n b0 b1 b2 b3 : Nat) :
    (b0 < 128 ∧ decodeN n b0 b1 b2 b3 = (b0, 1)) ∨
    (b0 / 32 = 6 ∧ 1 < n ∧ b1 / 64 = 2 ∧ 128 ≤ b0 % 32 * 64 + b1 % 64 ∧ decodeN n b0 b1 b2 b3 = (b0 % 32 * 64 + b1 % 64, 2)) ∨
    (b0 / 16 = 14 ∧ 2 < n ∧ b1 / 64 = 2 ∧ b2 / 64 = 2 ∧ 2048 ≤ b0 % 16 * 4096 + b1 % 64 * 64 + b2 % 64 ∧ Sc (b0 % 16 * 4096 + b1 % 64 * 64 + b2 % 64) ∧ decodeN n b0 b1 b2 b3 = (b0 % 16 * 4096 + b1 % 64 * 64 + b2 % 64, 3)) ∨
    (b0 / 8 = 30 ∧ 3 < n ∧ b1 / 64 = 2 ∧ b2 / 64 = 2 ∧ b3 / 64 = 2 ∧ 65536 ≤ b0 % 8 * 262144 + b1 % 64 * 4096 + b2 % 64 * 64 + b3 % 64 ∧ Sc (b0 % 8 * 262144 + b1 % 64 * 4096 + b2 % 64 * 64 + b3 % 64) ∧ decodeN n b0 b1 b2 b3 = (b0 % 8 * 262144 + b1 % 64 * 4096 + b2 % 64 * 64 + b3 % 64, 4)) ∨
    decodeN n b0 b1 b2 b3 = (65533, 1) := by
  unfold decodeN Sc
  repeat' split
  all_goals first
    | (left; exact ⟨by assumption, by rfl⟩)
    | (right; left; exact ⟨by omega, by omega, by omega, by omega, by rfl⟩)
    | (right; right; left; exact ⟨by omega, by omega, by omega, by omega, by omega, by omega, by rfl⟩)
    | (right; right; right; left; exact ⟨by omega, by omega, by omega, by omega, by omega, by omega, by omega, by rfl⟩)
    | (right; right; right; right; rfl)
theorem take4' : ∀ l : List UInt8, 3 < l.length → l.take 4 = [l.getD 0 0, l.getD 1 0, l.getD 2 0, l.getD 3 0]
  | a :: b :: c :: d :: r, _ => rfl
  | [], h | [_], h | [_, _], h | [_, _, _], h => by simp only [List.length_cons, List.length_nil] at h; omega
/-- what is read as a rune is its bytes -/
theorem enc_dec (l : List UInt8) (hne : l ≠ []) (h : ¬ decodeL l = (65533, 1)) : Sc (decodeL l).1 ∧ (decodeL l).2 = (encN (decodeL l).1).length ∧ l = encN (decodeL l).1 ++ l.drop (decodeL l).2 := by
  have hlen : 0 < l.length := List.length_pos_iff.2 hne
  rw [decodeL_N] at h ⊢
  have h0 := (l.getD 0 0).toNat_lt; have h1 := (l.getD 1 0).toNat_lt; have h2 := (l.getD 2 0).toNat_lt; have h3 := (l.getD 3 0).toNat_lt
  have key : ∀ (v w : Nat), l.take w = encN v → w ≤ l.length → w = (encN v).length ∧ l = encN v ++ l.drop w := by
    intro v w hw hle
    refine ⟨by rw [← hw, List.length_take]; omega, by rw [← hw, List.take_append_drop]⟩
  rcases decN_cases l.length (l.getD 0 0).toNat (l.getD 1 0).toNat (l.getD 2 0).toNat (l.getD 3 0).toNat with ⟨c, e⟩ | ⟨c1, c2, c3, cv, e⟩ | ⟨c1, c2, c3, c4, cv, cs, e⟩ | ⟨c1, c2, c3, c4, c5, cv, cs, e⟩ | e
  · rw [e]
    refine ⟨.inl (by simp only; omega), key _ 1 ?_ (by omega)⟩
    rw [take1 l (by omega), encN_low c, UInt8.ofNat_toNat]
  · rw [e]
    simp only
    refine ⟨.inl (by omega), key _ 2 ?_ (by omega)⟩
    rw [take2 l (by omega)]
    unfold encN
    rw [if_neg (by omega), if_pos (by omega), ← ub (l.getD 0 0) (192 + ((l.getD 0 0).toNat % 32 * 64 + (l.getD 1 0).toNat % 64) / 64) (by omega), ← ub (l.getD 1 0) (128 + ((l.getD 0 0).toNat % 32 * 64 + (l.getD 1 0).toNat % 64) % 64) (by omega)]
  · rw [e]
    simp only
    refine ⟨cs, key _ 3 ?_ (by omega)⟩
    rw [take3 l (by omega)]
    unfold encN
    rw [if_neg (by omega), if_neg (by omega), if_pos (by omega)]
    rw [← ub (l.getD 0 0) (224 + ((l.getD 0 0).toNat % 16 * 4096 + (l.getD 1 0).toNat % 64 * 64 + (l.getD 2 0).toNat % 64) / 4096) (by omega),
      ← ub (l.getD 1 0) (128 + ((l.getD 0 0).toNat % 16 * 4096 + (l.getD 1 0).toNat % 64 * 64 + (l.getD 2 0).toNat % 64) / 64 % 64) (by omega),
      ← ub (l.getD 2 0) (128 + ((l.getD 0 0).toNat % 16 * 4096 + (l.getD 1 0).toNat % 64 * 64 + (l.getD 2 0).toNat % 64) % 64) (by omega)]
  · rw [e]
    simp only
    refine ⟨cs, key _ 4 ?_ (by omega)⟩
    rw [take4' l (by omega)]
    unfold encN
    rw [if_neg (by omega), if_neg (by omega), if_neg (by omega)]
    rw [← ub (l.getD 0 0) (240 + ((l.getD 0 0).toNat % 8 * 262144 + (l.getD 1 0).toNat % 64 * 4096 + (l.getD 2 0).toNat % 64 * 64 + (l.getD 3 0).toNat % 64) / 262144) (by omega),
      ← ub (l.getD 1 0) (128 + ((l.getD 0 0).toNat % 8 * 262144 + (l.getD 1 0).toNat % 64 * 4096 + (l.getD 2 0).toNat % 64 * 64 + (l.getD 3 0).toNat % 64) / 4096 % 64) (by omega),
      ← ub (l.getD 2 0) (128 + ((l.getD 0 0).toNat % 8 * 262144 + (l.getD 1 0).toNat % 64 * 4096 + (l.getD 2 0).toNat % 64 * 64 + (l.getD 3 0).toNat % 64) / 64 % 64) (by omega),
      ← ub (l.getD 3 0) (128 + ((l.getD 0 0).toNat % 8 * 262144 + (l.getD 1 0).toNat % 64 * 4096 + (l.getD 2 0).toNat % 64 * 64 + (l.getD 3 0).toNat % 64) % 64) (by omega)]
  · exact absurd e h
/-! ### the reference's Rune -/
theorem accR_none1 (s : ByteArray) (i k n m : Nat) (r : Int) (hn : n = m + 1) (h : byteN s (i + k) < 128 ∨ byteN s (i + k) > 191) : accR s i k n r = none := by
  subst hn
  unfold accR
  have : (decide (byteN s (i + k) < 128) || decide (byteN s (i + k) > 191)) = true := by simpa using h
  rw [this, cond_true]
theorem accR_some1 (s : ByteArray) (i k n k' m : Nat) (r : Int) (hn : n = m + 1) (hk : k' = k + 1) (h1 : 128 ≤ byteN s (i + k)) (h2 : byteN s (i + k) ≤ 191) : accR s i k n r = accR s i k' m (r * 64 + byteN s (i + k) - 128) := by
  subst hn; subst hk
  conv => lhs; unfold accR
  have : (decide (byteN s (i + k) < 128) || decide (byteN s (i + k) > 191)) = false := by simp; omega
  rw [this, cond_false]
theorem finR_no (r size least : Int) (h : r < least ∨ r > 1114111 ∨ (r ≥ 55296 ∧ r ≤ 57343)) : finR r size least = (0, 0) := by
  unfold finR
  have : (decide (r < least) || decide (r > 1114111) || (decide (r ≥ 55296) && decide (r ≤ 57343))) = true := by simp; omega
  rw [this, cond_true]
theorem finR_yes (r size least : Int) (h : ¬(r < least ∨ r > 1114111 ∨ (r ≥ 55296 ∧ r ≤ 57343))) : finR r size least = (r, size) := by
  unfold finR
  have : (decide (r < least) || decide (r > 1114111) || (decide (r ≥ 55296) && decide (r ≤ 57343))) = false := by simp; omega
  rw [this, cond_false]
theorem byteN_lt (s : ByteArray) (i : Nat) : byteN s i < 256 := UInt8.toNat_lt _
theorem multi2 (s : ByteArray) (i : Nat) (r0 least : Int) : multiR s i 2 r0 least = if s.size < i + 2 ∨ byteN s (i + 1) / 64 ≠ 2 then (0, 0) else finR (r0 * 64 + byteN s (i + 1) - 128) 2 least := by
  have b1 := byteN_lt s (i + 1)
  unfold multiR
  by_cases h : s.size < i + 2
  · rw [decide_eq_true h, cond_true, if_pos (.inl h)]
  · rw [decide_eq_false h, cond_false]
    simp only [Nat.reduceSub]
    by_cases h1 : byteN s (i + 1) / 64 ≠ 2
    · rw [if_pos (.inr h1), accR_none1 s i 1 1 0 _ rfl (by omega)]
    · rw [if_neg (by omega), accR_some1 s i 1 1 2 0 _ rfl rfl (by omega) (by omega)]
      simp only [accR]; rfl
theorem multi3 (s : ByteArray) (i : Nat) (r0 least : Int) : multiR s i 3 r0 least = if s.size < i + 3 ∨ byteN s (i + 1) / 64 ≠ 2 ∨ byteN s (i + 2) / 64 ≠ 2 then (0, 0) else finR ((r0 * 64 + byteN s (i + 1) - 128) * 64 + byteN s (i + 2) - 128) 3 least := by
  have b1 := byteN_lt s (i + 1); have b2 := byteN_lt s (i + 2)
  unfold multiR
  by_cases h : s.size < i + 3
  · rw [decide_eq_true h, cond_true, if_pos (.inl h)]
  · rw [decide_eq_false h, cond_false]
    simp only [Nat.reduceSub]
    by_cases h1 : byteN s (i + 1) / 64 ≠ 2
    · rw [if_pos (.inr (.inl h1)), accR_none1 s i 1 2 1 _ rfl (by omega)]
    · rw [accR_some1 s i 1 2 2 1 _ rfl rfl (by omega) (by omega)]
      by_cases h2 : byteN s (i + 2) / 64 ≠ 2
      · rw [if_pos (.inr (.inr h2)), accR_none1 s i 2 1 0 _ rfl (by omega)]
      · rw [if_neg (by omega), accR_some1 s i 2 1 3 0 _ rfl rfl (by omega) (by omega)]
        simp only [accR]; rfl
theorem multi4 (s : ByteArray) (i : Nat) (r0 least : Int) : multiR s i 4 r0 least = if s.size < i + 4 ∨ byteN s (i + 1) / 64 ≠ 2 ∨ byteN s (i + 2) / 64 ≠ 2 ∨ byteN s (i + 3) / 64 ≠ 2 then (0, 0) else finR (((r0 * 64 + byteN s (i + 1) - 128) * 64 + byteN s (i + 2) - 128) * 64 + byteN s (i + 3) - 128) 4 least := by
  have b1 := byteN_lt s (i + 1); have b2 := byteN_lt s (i + 2); have b3 := byteN_lt s (i + 3)
  unfold multiR
  by_cases h : s.size < i + 4
  · rw [decide_eq_true h, cond_true, if_pos (.inl h)]
  · rw [decide_eq_false h, cond_false]
    simp only [Nat.reduceSub]
    by_cases h1 : byteN s (i + 1) / 64 ≠ 2
    · rw [if_pos (.inr (.inl h1)), accR_none1 s i 1 3 2 _ rfl (by omega)]
    · rw [accR_some1 s i 1 3 2 2 _ rfl rfl (by omega) (by omega)]
      by_cases h2 : byteN s (i + 2) / 64 ≠ 2
      · rw [if_pos (.inr (.inr (.inl h2))), accR_none1 s i 2 2 1 _ rfl (by omega)]
      · rw [accR_some1 s i 2 2 3 1 _ rfl rfl (by omega) (by omega)]
        by_cases h3 : byteN s (i + 3) / 64 ≠ 2
        · rw [if_pos (.inr (.inr (.inr h3))), accR_none1 s i 3 1 0 _ rfl (by omega)]
        · rw [if_neg (by omega), accR_some1 s i 3 1 4 0 _ rfl rfl (by omega) (by omega)]
          simp only [accR]; rfl
theorem bsel {α : Type} {c : Bool} {p : Prop} (h : c = true ↔ p) [Decidable p] (x y : α) : (bif c then x else y) = if p then x else y := by
  cases c with
  | true => rw [cond_true, if_pos (h.1 rfl)]
  | false => rw [cond_false, if_neg (fun hp => by cases h.2 hp)]
/-- Rune answers as the model's decoder -/
theorem rune_dec (s : ByteArray) (i : Nat) (hi : i < s.size) : (Utf8.decode s i = (65533, 1) ∧ (runeP s i).2 = 0) ∨ (¬ Utf8.decode s i = (65533, 1) ∧ runeP s i = (((Utf8.decode s i).1 : Int), ((Utf8.decode s i).2 : Int))) := by
  rw [decode_N]
  have e : s.data.toList.length = s.size := rfl
  rw [e]
  have f : ∀ j, (s.data.toList.getD j 0).toNat = byteN s j := fun j => rfl
  rw [f, f, f, f]
  have a0 := byteN_lt s i; have a1 := byteN_lt s (i + 1); have a2 := byteN_lt s (i + 2); have a3 := byteN_lt s (i + 3)
  unfold runeP
  rw [multi2, multi3, multi4]
  rw [bsel (p := byteN s i < 128) (by simp), bsel (p := 192 ≤ byteN s i ∧ byteN s i < 224) (by simp), bsel (p := 224 ≤ byteN s i ∧ byteN s i < 240) (by simp), bsel (p := 240 ≤ byteN s i ∧ byteN s i < 248) (by simp)]
  generalize byteN s i = b0 at *
  generalize byteN s (i + 1) = b1 at *
  generalize byteN s (i + 2) = b2 at *
  generalize byteN s (i + 3) = b3 at *
  by_cases c0 : b0 < 128
  · rw [decodeN_ascii _ _ _ _ _ c0, if_pos c0]
    exact .inr ⟨by intro h; cases h; omega, rfl⟩
  rw [if_neg c0]
  by_cases c1 : 192 ≤ b0 ∧ b0 < 224
  · rw [if_pos c1]
    by_cases h : s.size < i + 2 ∨ b1 / 64 ≠ 2
    · rw [if_pos h]
      refine .inl ⟨?_, rfl⟩
      unfold decodeN; rw [if_neg c0, if_neg (by omega), if_neg (by omega), if_neg (by omega)]
    · rw [if_neg h]
      unfold decodeN; rw [if_neg c0, if_pos (by omega)]
      by_cases g : b0 % 32 * 64 + b1 % 64 ≥ 128
      · rw [if_pos g, finR_yes _ _ _ (by omega)]
        exact .inr ⟨by intro h; have := congrArg Prod.snd h; simp at this, by ext <;> simp only <;> omega⟩
      · rw [if_neg g, finR_no _ _ _ (by omega)]
        exact .inl ⟨rfl, rfl⟩
  rw [if_neg c1]
  by_cases c2 : 224 ≤ b0 ∧ b0 < 240
  · rw [if_pos c2]
    by_cases h : s.size < i + 3 ∨ b1 / 64 ≠ 2 ∨ b2 / 64 ≠ 2
    · rw [if_pos h]
      refine .inl ⟨?_, rfl⟩
      unfold decodeN; rw [if_neg c0, if_neg (by omega), if_neg (by omega), if_neg (by omega)]
    · rw [if_neg h]
      unfold decodeN; rw [if_neg c0, if_neg (by omega), if_pos (by omega)]
      by_cases g : b0 % 16 * 4096 + b1 % 64 * 64 + b2 % 64 ≥ 2048 ∧ (b0 % 16 * 4096 + b1 % 64 * 64 + b2 % 64 < 55296 ∨ (57344 ≤ b0 % 16 * 4096 + b1 % 64 * 64 + b2 % 64 ∧ b0 % 16 * 4096 + b1 % 64 * 64 + b2 % 64 ≤ 1114111))
      · rw [if_pos g, finR_yes _ _ _ (by omega)]
        exact .inr ⟨by intro h; have := congrArg Prod.snd h; simp at this, by ext <;> simp only <;> omega⟩
      · rw [if_neg g, finR_no _ _ _ (by omega)]
        exact .inl ⟨rfl, rfl⟩
  rw [if_neg c2]
  by_cases c3 : 240 ≤ b0 ∧ b0 < 248
  · rw [if_pos c3]
    by_cases h : s.size < i + 4 ∨ b1 / 64 ≠ 2 ∨ b2 / 64 ≠ 2 ∨ b3 / 64 ≠ 2
    · rw [if_pos h]
      refine .inl ⟨?_, rfl⟩
      unfold decodeN; rw [if_neg c0, if_neg (by omega), if_neg (by omega), if_neg (by omega)]
    · rw [if_neg h]
      unfold decodeN; rw [if_neg c0, if_neg (by omega), if_neg (by omega), if_pos (by omega)]
      by_cases g : b0 % 8 * 262144 + b1 % 64 * 4096 + b2 % 64 * 64 + b3 % 64 ≥ 65536 ∧ (b0 % 8 * 262144 + b1 % 64 * 4096 + b2 % 64 * 64 + b3 % 64 < 55296 ∨ (57344 ≤ b0 % 8 * 262144 + b1 % 64 * 4096 + b2 % 64 * 64 + b3 % 64 ∧ b0 % 8 * 262144 + b1 % 64 * 4096 + b2 % 64 * 64 + b3 % 64 ≤ 1114111))
      · rw [if_pos g, finR_yes _ _ _ (by omega)]
        exact .inr ⟨by intro h; have := congrArg Prod.snd h; simp at this, by ext <;> simp only <;> omega⟩
      · rw [if_neg g, finR_no _ _ _ (by omega)]
        exact .inl ⟨rfl, rfl⟩
  · rw [if_neg c3]
    refine .inl ⟨?_, rfl⟩
    unfold decodeN; rw [if_neg c0, if_neg (by omega), if_neg (by omega), if_neg (by omega)]
end Go.Proofs.YtniiimpcakmkbaaDoor
