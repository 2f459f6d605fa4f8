/- grammar: the parts of the expression's parser answer by their trees -/
import Derived.Test.YtniiimpcakmkbaaDoorGrW
import Derived.Test.YtniiimpcakmkbaaDoorSgU
set_option linter.unusedVariables false
namespace Go.Proofs.YtniiimpcakmkbaaDoor
open Go Vm Go.RowKit
theorem gs_eq {gs : List Nat} (h : gsOk gs = true) : gs = [0, 1] := by simpa [gsOk] using h
theorem tok_at {L : List (List C)} (h : L.all isTok = true) {i : Nat} (hi : i < L.length) : ∃ (k : Int) (t : ByteArray) (l c : Int), L[i]? = some [.int .i64 k, .str t, .int .i64 l, .int .i64 c] ∧ tkK L i = k ∧ tkT L i = t := by
  have h1 := List.all_eq_true.1 h L[i] (List.getElem_mem hi)
  have h2 : L[i]? = some L[i] := List.getElem?_eq_getElem hi
  generalize L[i] = x at h1 h2
  unfold isTok at h1
  split at h1
  · rename_i k t l c
    refine ⟨k, t, l, c, h2, ?_, ?_⟩
    · unfold tkK; rw [Int.toNat_natCast, List.getD_eq_getElem?_getD (l := L), h2]; rfl
    · unfold tkT; rw [Int.toNat_natCast, List.getD_eq_getElem?_getD (l := L), h2]; rfl
  · cases h1
theorem gkind_ok (m : Int) : SpecOk Tryd.prog (globG m) 73 gKindS := by
  intro a b v b' h
  unfold gKindS at h
  split at h
  · rename_i L el ec a o e gs
    rcases run_ite h with ⟨hl, hx⟩ | ⟨_, hx⟩ <;> clear h <;> have h := hx <;> clear hx
    · rw [Bool.and_eq_true, stOk_iff] at hl
      obtain ⟨hs, hg⟩ := hl
      obtain rfl := gs_eq hg
      refine specAtQ eqs_ok mix vti_ok Tryd.func73 rfl (by kernel_rfl) .nil 0 (Eq.trans (g_kind_start m fin2 0 L el ec a o e) ?_)
      unfold kindG at h
      cases he : Nat.beq e 0 with
      | false => rw [he] at h; exact h
      | true =>
        rw [he] at h
        simp only [Bool.not_true, cond_false] at h ⊢
        by_cases hlt : a ≥ (L.length : Int)
        · rw [decide_eq_true hlt, cond_true] at h ⊢; exact h
        · rw [decide_eq_false hlt, cond_false] at h ⊢
          have h0 := hs.a0
          simp only at h0
          obtain ⟨i, rfl⟩ : ∃ i : Nat, a = i := ⟨a.toNat, by omega⟩
          obtain ⟨k, t, l, c, hL, hk, _⟩ := tok_at hs.tk (i := i) (by omega)
          rw [decide_eq_true (by omega), cond_true, getT_at rfl hL, getT_some (x := C.int .i64 k) rfl]
          rw [hk] at h
          exact h
    · exact (run_no h).elim
  · cases h
theorem gfailS_ok (m : Int) : SpecOk Tryd.prog (globG m) 64 gFailS := by
  intro a b v b' h
  unfold gFailS at h
  split at h
  · rename_i x gs' L el ec a o e gs
    rcases run_ite h with ⟨hl, hx⟩ | ⟨_, hx⟩ <;> clear h <;> have h := hx <;> clear hx
    · rw [Bool.and_eq_true] at hl
      obtain rfl := gs_eq hl.1
      obtain rfl := gs_eq hl.2
      refine specAtQ eqs_ok mix vti_ok Tryd.func64 rfl (by kernel_rfl) .nil 0 (Eq.trans (g_fail_start m fin2 0 L el ec a o e x) ?_)
      unfold failG at h
      cases he : Nat.beq e 0 with
      | false => rw [he] at h; exact h
      | true => rw [he] at h; exact h
    · exact (run_no h).elim
  · cases h
theorem tabGA_ok (m : Int) : TabS Tryd.prog (globG m) tabGA := .cons (gkind_ok m) (.cons (gfailS_ok m) .nil)
theorem gtakeS_ok (m : Int) : SpecOk Tryd.prog (globG m) 90 gTakeS := by
  intro a b v b' h
  unfold gTakeS at h
  split at h
  · rename_i k L el ec a o e gs
    rcases run_ite h with ⟨hl, hx⟩ | ⟨_, hx⟩ <;> clear h <;> have h := hx <;> clear hx
    · rw [Bool.and_eq_true, Bool.and_eq_true, stOk_iff, decide_eq_true_eq] at hl
      obtain ⟨⟨hs, hg⟩, hk⟩ := hl
      obtain rfl := gs_eq hg
      refine specAtQ eqs_ok mix vti_ok Tryd.func90 rfl (by kernel_rfl) (tabGA_ok m) 0 (Eq.trans (g_take_start m fin2 0 L el ec a o e k) ?_)
      rw [stOk_iff.2 hs, Bool.and_self, cond_true]
      unfold takeG at h
      cases hc : kindG L ⟨a, o, e⟩ == k with
      | false =>
        have : (kindG L ⟨a, o, e⟩ != k) = true := by unfold bne; rw [hc]; rfl
        rw [this, cond_true]
        rw [hc] at h
        exact h
      | true =>
        have : (kindG L ⟨a, o, e⟩ != k) = false := by unfold bne; rw [hc]; rfl
        rw [this, cond_false]
        rw [hc, cond_true] at h
        obtain ⟨_, hlt, _⟩ := kind_some hk hc
        have h0 := hs.a0
        have hlen := hs.len
        simp only at h0 hlt
        obtain ⟨i, rfl⟩ : ∃ i : Nat, a = i := ⟨a.toNat, by omega⟩
        obtain ⟨k', t, l, c, hL, _, ht⟩ := tok_at hs.tk (i := i) (by omega)
        have w1 : IntKind.i64.wrap ((i : Int) + 1) = (i : Int) + 1 := w64 _ (by omega) (by omega)
        have w2 : IntKind.i64.wrap ((i : Int) + 1 - 1) = (i : Int) := by rw [w64 _ (by omega) (by omega)]; omega
        rw [w1, w2, decide_eq_true (by omega), cond_true, getT_at rfl hL, getT_some (x := C.str t) rfl]
        simp only [nextG, ht] at h
        exact h
    · exact (run_no h).elim
  · cases h
theorem gmayS_ok (m : Int) : SpecOk Tryd.prog (globG m) 83 gMayS := by
  intro a b v b' h
  unfold gMayS at h
  split at h
  · rename_i k L el ec a o e gs
    rcases run_ite h with ⟨hl, hx⟩ | ⟨_, hx⟩ <;> clear h <;> have h := hx <;> clear hx
    · rw [Bool.and_eq_true, Bool.and_eq_true, stOk_iff, decide_eq_true_eq] at hl
      obtain ⟨⟨hs, hg⟩, hk⟩ := hl
      obtain rfl := gs_eq hg
      refine specAtQ eqs_ok mix vti_ok Tryd.func83 rfl (by kernel_rfl) (tabGA_ok m) 0 (Eq.trans (g_may_start m fin2 0 L el ec a o e k) ?_)
      rw [stOk_iff.2 hs, Bool.and_self, cond_true]
      unfold mayG at h
      cases hc : kindG L ⟨a, o, e⟩ == k with
      | false =>
        have : (kindG L ⟨a, o, e⟩ != k) = true := by unfold bne; rw [hc]; rfl
        rw [this, cond_true]
        rw [hc] at h
        exact h
      | true =>
        have : (kindG L ⟨a, o, e⟩ != k) = false := by unfold bne; rw [hc]; rfl
        rw [this, cond_false]
        rw [hc] at h
        obtain ⟨_, hlt, _⟩ := kind_some hk hc
        have h0 := hs.a0
        have hlen := hs.len
        simp only at h0 hlt
        rw [w64 (a + 1) (by omega) (by omega)]
        exact h
    · exact (run_no h).elim
  · cases h
theorem isNd_parts {x : Nde} (h : isNd x = true) : ∃ (k : Int) (a b : ByteArray) (l : List (List C)), x = ndC k a b l := by
  unfold isNd at h
  split at h
  · exact ⟨_, _, _, _, rfl⟩
  · cases h
theorem gofS_ok (m : Int) : SpecOk Tryd.prog (globG m) 67 gOfS := by
  intro a b v b' h
  unfold gOfS at h
  split at h
  · rename_i k l
    rcases run_ite h with ⟨hl, hx⟩ | ⟨_, hx⟩ <;> clear h <;> have h := hx <;> clear hx
    · rw [Bool.and_eq_true] at hl
      refine specAtQ eqs_ok mix vti_ok Tryd.func67 rfl (by kernel_rfl) .nil 0 (Eq.trans (g_of_start m fin2 0 l k) ?_)
      unfold ofG at h
      cases h1 : l.length == 1 with
      | false =>
        have : ((l.length : Int) == 1) = false := by rw [beq_eq_false_iff_ne] at h1 ⊢; omega
        rw [this, cond_false]
        rw [h1] at h
        exact h
      | true =>
        have : ((l.length : Int) == 1) = true := by rw [beq_iff_eq] at h1 ⊢; omega
        rw [this, cond_true]
        rw [h1, cond_true] at h
        match l, h1, hl, h with
        | [x], _, hl, h =>
          obtain ⟨k', a, b, l', rfl⟩ := isNd_parts (show isNd x = true by simpa using hl.1)
          rw [getT_some (x := ndC k' a b l') rfl]
          exact h
    · exact (run_no h).elim
  · cases h
theorem tabGB_ok (m : Int) : TabS Tryd.prog (globG m) tabGB := .cons (gkind_ok m) (.cons (gfailS_ok m) (.cons (gtakeS_ok m) (.cons (gmayS_ok m) (.cons (gofS_ok m) .nil))))
theorem take4 {x : Nde} (h : isNd x = true) : List.take 4 (x ++ []) = x := by
  obtain ⟨_, _, _, _, rfl⟩ := isNd_parts h; rfl
/-- what the state's tests want -/
theorem st_t {L : List (List C)} {s : PS} (h : St8 L s) : stOk L s = true := stOk_iff.2 h
theorem rd_ok {m : Int} {fn : FuncId} {N : Nat} {f : List (List C) → PS → PS × Nde}
    (h : ∀ (L : List (List C)) (el ec a o : Int) (e : Nat), St8 L ⟨a, o, e⟩ → lvl ⟨a, o, e⟩ < N → FnRes Tryd.prog (globG m) fn [pp] [pB L el ec ⟨a, o, e⟩] (ndV (f L ⟨a, o, e⟩).2) [pB L el ec (f L ⟨a, o, e⟩).1]) : SpecOk Tryd.prog (globG m) fn (rdS f N) := by
  intro a b v b' hr
  unfold rdS at hr
  split at hr
  · rename_i L el ec a o e gs
    rcases run_ite hr with ⟨hl, hx⟩ | ⟨_, hx⟩ <;> clear hr <;> have hr := hx <;> clear hx
    · rw [Bool.and_eq_true, Bool.and_eq_true, stOk_iff, decide_eq_true_eq] at hl
      obtain ⟨⟨hs, hg⟩, hlv⟩ := hl
      obtain rfl := gs_eq hg
      obtain ⟨rfl, rfl⟩ := run_ret hr
      exact h L el ec a o e hs hlv
    · exact (run_no hr).elim
  · cases hr
/-- brackets, where what they hold is read by its spec -/
theorem gbr_ok (m : Int) (N : Nat) (hu : SpecOk Tryd.prog (globG m) 46 (rdS unionA N)) : SpecOk Tryd.prog (globG m) 101 (brS (N + 1)) := by
  intro a b v b' h
  unfold brS at h
  split at h
  · rename_i L el ec a o e gs
    rcases run_ite h with ⟨hl, hx⟩ | ⟨_, hx⟩ <;> clear h <;> have h := hx <;> clear hx
    · rw [Bool.and_eq_true, Bool.and_eq_true, Bool.and_eq_true, stOk_iff, decide_eq_true_eq] at hl
      obtain ⟨⟨⟨hs, hg⟩, hlv⟩, hk⟩ := hl
      obtain rfl := gs_eq hg
      refine specAtQ eqs_ok mix vti_ok Tryd.func101 rfl (by kernel_rfl) (.cons hu (tabGB_ok m)) 0 (Eq.trans (g_brackets_start m N fin2 0 L el ec a o e) ?_)
      rw [atomA_eq] at h
      unfold atomG at h
      rw [hk, cond_true] at h
      by_cases h8 : o ≥ 8
      · rw [decide_eq_true h8, cond_true] at h ⊢; exact h
      · rw [decide_eq_false h8, cond_false] at h ⊢
        have ho := hs.o0
        simp only at ho
        have w1 : IntKind.i64.wrap (o + 1) = o + 1 := w64 _ (by omega) (by omega)
        have h1 : St8 L ⟨a, o + 1, e⟩ := ⟨hs.tk, hs.len, hs.a0, hs.a1, by simp only; omega, by simp only; omega, hs.e2⟩
        rw [w1]
        simp only [Bool.and_true]
        obtain ⟨h2, f2⟩ := gtake_ok h1 (k := 40) (by decide)
        obtain ⟨d', hd, hl⟩ : ∃ d', lvl ⟨a, o, e⟩ = d' + 1 ∧ lvl (takeG L 40 ⟨a, o + 1, e⟩).1 = d' := by
          refine ⟨(7 - o).toNat, ?_, ?_⟩
          · unfold lvl; simp only; omega
          · rw [lvl_fol f2]; unfold lvl; simp only; omega
        have hun : innerN L (lvl ⟨a, o, e⟩) (takeG L 40 ⟨a, o + 1, e⟩).1 = unionA L (takeG L 40 ⟨a, o + 1, e⟩).1 := by
          rw [hd, unionA_eq, hl]; exact congrFun (unionN_eq L d') _
        simp only [hun] at h
        obtain ⟨h3, f3, n3⟩ := unionA_good h2
        obtain ⟨h4, f4⟩ := gtake_ok h3 (k := 41) (by decide)
        have f5 := (f2.trans f3).trans f4
        have e5 : (takeG L 41 (unionA L (takeG L 40 ⟨a, o + 1, e⟩).1).1).1.op = o + 1 := f5.o
        rw [st_t h1, cond_true, st_t h2, Bool.true_and, decide_eq_true (by rw [hl]; omega), cond_true, st_t h3, cond_true, take4 (x := List.take 4 ((unionA L (takeG L 40 ⟨a, o + 1, e⟩).1).2 ++ [])) (by rw [take4 n3]; exact n3), take4 n3,
          w64 _ (by rw [e5]; omega) (by rw [e5]; omega)]
        exact h
    · exact (run_no h).elim
  · cases h
theorem gatom_ok (m : Int) (N : Nat) (hb : SpecOk Tryd.prog (globG m) 101 (brS N)) : SpecOk Tryd.prog (globG m) 94 (rdS atomA N) := by
  refine rd_ok fun L el ec a o e hs hlv => ?_
  refine specAtQ eqs_ok mix vti_ok Tryd.func94 rfl (by kernel_rfl) (.cons hb (tabGB_ok m)) 0 (Eq.trans (g_atom_start m N fin2 0 L el ec a o e) ?_)
  simp only [Bool.and_true]
  obtain ⟨g1, gf, gn⟩ := atomA_good hs
  rw [st_t hs, cond_true]
  cases h40 : kindG L ⟨a, o, e⟩ == 40 with
  | true =>
    rw [cond_true, decide_eq_true hlv, Bool.and_self, Bool.and_self, cond_true, take4 gn]
  | false =>
    have hat : atomA L ⟨a, o, e⟩ = bif kindG L ⟨a, o, e⟩ == 4 then (nextG ⟨a, o, e⟩, ndC 1 bE bE []) else bif kindG L (takeG L 1 ⟨a, o, e⟩).1 == 5 then ((takeG L 1 (nextG (takeG L 1 ⟨a, o, e⟩).1)).1, ndC 3 (takeG L 1 ⟨a, o, e⟩).2 (takeG L 1 (nextG (takeG L 1 ⟨a, o, e⟩).1)).2 []) else ((takeG L 1 ⟨a, o, e⟩).1, ndC 2 (takeG L 1 ⟨a, o, e⟩).2 bE []) := by
      rw [atomA_eq]; unfold atomG; rw [h40]; rfl
    rw [cond_false, cond_true, hat]
    cases h4 : kindG L ⟨a, o, e⟩ == 4 with
    | true => rw [cond_true, cond_true, may_yes h4]; rfl
    | false =>
      rw [cond_false, cond_false, may_no h4, st_t hs, cond_true]
      obtain ⟨h1, f1⟩ := gtake_ok hs (k := 1) (by decide)
      rw [st_t h1, cond_true]
      cases h5 : kindG L (takeG L 1 ⟨a, o, e⟩).1 == 5 with
      | true =>
        obtain ⟨h2, f2⟩ := gnext_ok h1 (kind_some (by decide) h5).2.1
        rw [cond_true, cond_true, may_yes h5, st_t h2, cond_true]
      | false => rw [cond_false, cond_false, may_no h5]; rfl
theorem gless_ok (m : Int) (N : Nat) (ha : SpecOk Tryd.prog (globG m) 94 (rdS atomA N)) : SpecOk Tryd.prog (globG m) 84 (rdS lessA N) := by
  refine rd_ok fun L el ec a o e hs hlv => ?_
  refine specAtQ eqs_ok mix vti_ok Tryd.func84 rfl (by kernel_rfl) (.cons ha (tabGB_ok m)) 0 (Eq.trans (g_less_start m N fin2 0 L el ec a o e) ?_)
  simp only [Bool.and_true]
  obtain ⟨g1, f1, n1⟩ := atomA_good hs
  rw [st_t hs, Bool.true_and, decide_eq_true hlv, cond_true, st_t g1, cond_true, lessA_step hs]
  cases hk : kindG L (atomA L ⟨a, o, e⟩).1 == 45 with
  | true =>
    obtain ⟨g2, f2⟩ := gnext_ok g1 (kind_some (by decide) hk).2.1
    obtain ⟨g3, f3, n3⟩ := atomA_good g2
    have hlv2 : lvl (nextG (atomA L ⟨a, o, e⟩).1) < N := by rw [lvl_fol (f1.trans f2)]; exact hlv
    rw [cond_true, cond_true, may_yes hk, st_t g2, Bool.true_and, decide_eq_true hlv2, cond_true]
    have : ([(atomA L ⟨a, o, e⟩).2, (atomA L (nextG (atomA L ⟨a, o, e⟩).1)).2].all isNd) = true := by simp [n1, n3]
    rw [this, cond_true]
  | false =>
    have : ([(atomA L ⟨a, o, e⟩).2].all isNd) = true := by simp [n1]
    have e1 : ofG 6 [(atomA L ⟨a, o, e⟩).2] = (atomA L ⟨a, o, e⟩).2 := rfl
    rw [cond_false, cond_false, this, cond_true, may_no hk, e1, take4 n1]
/-- the loop of list -/
theorem glist1_loop {R : Type} (m : Int) (N : Nat) (k : V → Bx → Option R) (F : Nat) (L : List (List C)) (el ec sg : Int) (hsg : sg ≠ 0) (d : Nat) (hd : d < N) : ∀ (n n' : Nat) (s : PS) (out : List Nde), St8 L s → lvl s = d → (L.length : Int) - s.at_ < n → (L.length : Int) - s.at_ < n' → (out.length : Int) + (L.length - s.at_) < 2000000 →
    g_list1_L0 m N (g_list1_K0 m N k F) F n sg s.at_ s.op s.er L el ec out = k (vc (.sl 4 (moreG L (lessG L (innerN L d)) sg n' s out).2)) [pB L el ec (moreG L (lessG L (innerN L d)) sg n' s out).1] := by
  intro n
  induction n with
  | zero => intro n' s out h _ h1; have := h.a1; omega
  | succ n ih =>
    intro n' s out h hl h1 h2 h3
    cases n' with
    | zero => have := h.a1; omega
    | succ n' =>
      rw [g_list1_r0]
      simp only [PS.eta, Bool.and_true]
      unfold moreG
      rw [st_t h, Bool.true_and, decide_eq_true hsg, cond_true]
      cases hk : kindG L s == sg with
      | false => rw [cond_false, cond_false, g_list1_c1]; simp only [PS.eta, may_no hk]
      | true =>
        obtain ⟨_, hlt, _⟩ := kind_some hsg hk
        obtain ⟨g2, f2⟩ := gnext_ok h hlt
        obtain ⟨g3, f3, n3⟩ := lessA_good g2
        have hl2 : lvl (nextG s) = d := (lvl_fol f2).trans hl
        have e1 := f3.a
        have e2 : (nextG s).at_ = s.at_ + 1 := rfl
        have hls : lessA L (nextG s) = lessG L (innerN L d) (nextG s) := by rw [lessA_eq, hl2]
        have ha1 := g3.a1
        rw [cond_true, cond_true, may_yes hk, st_t g2, Bool.true_and, decide_eq_true (by rw [hl2]; exact hd), cond_true, decide_eq_true ⟨by omega, by omega⟩, cond_true, ← hls]
        exact ih n' _ _ g3 ((lvl_fol f3).trans hl2) (by push_cast at h1; omega) (by push_cast at h2; omega) (by simp only [List.length_append, List.length_cons, List.length_nil]; push_cast; omega)
theorem glist1_ok (m : Int) (N : Nat) (hb : SpecOk Tryd.prog (globG m) 84 (rdS lessA N)) : SpecOk Tryd.prog (globG m) 68 (listS1 N) := by
  intro a b v b' h
  unfold listS1 at h
  split at h
  · rename_i sg L el ec a o e gs
    rcases run_ite h with ⟨hl, hx⟩ | ⟨_, hx⟩ <;> clear h <;> have h := hx <;> clear hx
    · rw [Bool.and_eq_true, Bool.and_eq_true, Bool.and_eq_true, stOk_iff, decide_eq_true_eq, decide_eq_true_eq] at hl
      obtain ⟨⟨⟨hs, hg⟩, hlv⟩, hsg⟩ := hl
      obtain rfl := gs_eq hg
      obtain ⟨rfl, rfl⟩ := run_ret h
      refine specAtQ eqs_ok mix vti_ok Tryd.func68 rfl (by kernel_rfl) (.cons hb (tabGB_ok m)) (L.length + 1) (Eq.trans (g_list1_start m N fin2 _ L el ec a o e sg) ?_)
      obtain ⟨g1, f1, n1⟩ := lessA_good hs
      have ha1 := g1.a0
      have hlen := hs.len
      simp only [Bool.and_true]
      rw [st_t hs, Bool.true_and, decide_eq_true hlv, cond_true, glist1_loop m N fin2 _ L el ec sg hsg _ hlv (L.length + 1) (L.length + 1) _ _ g1 (lvl_fol f1) (by push_cast; omega) (by push_cast; omega) (by simp only [List.length_cons, List.length_nil]; push_cast; omega)]
      rw [listLess_eq, lessA_eq]
      rfl
    · exact (run_no h).elim
  · cases h
theorem gmeet_ok (m : Int) (N : Nat) (hb : SpecOk Tryd.prog (globG m) 68 (listS1 N)) : SpecOk Tryd.prog (globG m) 69 (rdS meetA N) := by
  refine rd_ok fun L el ec a o e hs hlv => ?_
  refine specAtQ eqs_ok mix vti_ok Tryd.func69 rfl (by kernel_rfl) (.cons hb (tabGB_ok m)) 0 (Eq.trans (g_meet_start m N fin2 0 L el ec a o e) ?_)
  obtain ⟨x1, x2, x3, x4⟩ := listLess_good hs (sg := 38) (by decide)
  simp only [Bool.and_true]
  rw [st_t hs, Bool.true_and, decide_eq_true hlv, cond_true, x3, Bool.true_and, decide_eq_true (by omega), cond_true, take4 (of_nd x3), meetA_step]
theorem glist2_loop {R : Type} (m : Int) (N : Nat) (k : V → Bx → Option R) (F : Nat) (L : List (List C)) (el ec sg : Int) (hsg : sg ≠ 0) (d : Nat) (hd : d < N) : ∀ (n n' : Nat) (s : PS) (out : List Nde), St8 L s → lvl s = d → (L.length : Int) - s.at_ < n → (L.length : Int) - s.at_ < n' → (out.length : Int) + (L.length - s.at_) < 2000000 →
    g_list2_L0 m N (g_list2_K0 m N k F) F n sg s.at_ s.op s.er L el ec out = k (vc (.sl 4 (moreG L (meetG L (innerN L d)) sg n' s out).2)) [pB L el ec (moreG L (meetG L (innerN L d)) sg n' s out).1] := by
  intro n
  induction n with
  | zero => intro n' s out h _ h1; have := h.a1; omega
  | succ n ih =>
    intro n' s out h hl h1 h2 h3
    cases n' with
    | zero => have := h.a1; omega
    | succ n' =>
      rw [g_list2_r0]
      simp only [PS.eta, Bool.and_true]
      unfold moreG
      rw [st_t h, Bool.true_and, decide_eq_true hsg, cond_true]
      cases hk : kindG L s == sg with
      | false => rw [cond_false, cond_false, g_list2_c1]; simp only [PS.eta, may_no hk]
      | true =>
        obtain ⟨_, hlt, _⟩ := kind_some hsg hk
        obtain ⟨g2, f2⟩ := gnext_ok h hlt
        obtain ⟨g3, f3, n3⟩ := meetA_good g2
        have hl2 : lvl (nextG s) = d := (lvl_fol f2).trans hl
        have e1 := f3.a
        have e2 : (nextG s).at_ = s.at_ + 1 := rfl
        have hls : meetA L (nextG s) = meetG L (innerN L d) (nextG s) := by rw [meetA_eq, hl2]
        have ha1 := g3.a1
        rw [cond_true, cond_true, may_yes hk, st_t g2, Bool.true_and, decide_eq_true (by rw [hl2]; exact hd), cond_true, decide_eq_true ⟨by omega, by omega⟩, cond_true, ← hls]
        exact ih n' _ _ g3 ((lvl_fol f3).trans hl2) (by push_cast at h1; omega) (by push_cast at h2; omega) (by simp only [List.length_append, List.length_cons, List.length_nil]; push_cast; omega)
theorem glist2_ok (m : Int) (N : Nat) (hb : SpecOk Tryd.prog (globG m) 69 (rdS meetA N)) : SpecOk Tryd.prog (globG m) 68 (listS2 N) := by
  intro a b v b' h
  unfold listS2 at h
  split at h
  · rename_i sg L el ec a o e gs
    rcases run_ite h with ⟨hl, hx⟩ | ⟨_, hx⟩ <;> clear h <;> have h := hx <;> clear hx
    · rw [Bool.and_eq_true, Bool.and_eq_true, Bool.and_eq_true, stOk_iff, decide_eq_true_eq, decide_eq_true_eq] at hl
      obtain ⟨⟨⟨hs, hg⟩, hlv⟩, hsg⟩ := hl
      obtain rfl := gs_eq hg
      obtain ⟨rfl, rfl⟩ := run_ret h
      refine specAtQ eqs_ok mix vti_ok Tryd.func68 rfl (by kernel_rfl) (.cons hb (tabGB_ok m)) (L.length + 1) (Eq.trans (g_list2_start m N fin2 _ L el ec a o e sg) ?_)
      obtain ⟨g1, f1, n1⟩ := meetA_good hs
      have ha1 := g1.a0
      have hlen := hs.len
      simp only [Bool.and_true]
      rw [st_t hs, Bool.true_and, decide_eq_true hlv, cond_true, glist2_loop m N fin2 _ L el ec sg hsg _ hlv (L.length + 1) (L.length + 1) _ _ g1 (lvl_fol f1) (by push_cast; omega) (by push_cast; omega) (by simp only [List.length_cons, List.length_nil]; push_cast; omega)]
      rw [listMeet_eq, meetA_eq]
      rfl
    · exact (run_no h).elim
  · cases h
theorem gunion_ok (m : Int) (N : Nat) (hb : SpecOk Tryd.prog (globG m) 68 (listS2 N)) : SpecOk Tryd.prog (globG m) 46 (rdS unionA N) := by
  refine rd_ok fun L el ec a o e hs hlv => ?_
  refine specAtQ eqs_ok mix vti_ok Tryd.func46 rfl (by kernel_rfl) (.cons hb (tabGB_ok m)) 0 (Eq.trans (g_union_start m N fin2 0 L el ec a o e) ?_)
  obtain ⟨x1, x2, x3, x4⟩ := listMeet_good hs (sg := 124) (by decide)
  simp only [Bool.and_true]
  rw [st_t hs, Bool.true_and, decide_eq_true hlv, cond_true, x3, Bool.true_and, decide_eq_true (by omega), cond_true, take4 (of_nd x3), unionA_step]
/-- all of the expression's parser, to whatever depth -/
theorem gunion_all (m : Int) : ∀ N, SpecOk Tryd.prog (globG m) 46 (rdS unionA N) := by
  intro N
  induction N with
  | zero => exact rd_ok fun L el ec a o e hs hlv => by omega
  | succ N ih => exact gunion_ok m _ (glist2_ok m _ (gmeet_ok m _ (glist1_ok m _ (gless_ok m _ (gatom_ok m _ (gbr_ok m N ih))))))
end Go.Proofs.YtniiimpcakmkbaaDoor
