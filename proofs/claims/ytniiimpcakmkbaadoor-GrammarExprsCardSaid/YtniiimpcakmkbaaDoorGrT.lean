/- grammar: the reference's parser answers by the same parts -/
import Derived.Test.YtniiimpcakmkbaaDoorGrY
import Derived.Test.YtniiimpcakmkbaaDoorGrF
set_option linter.unusedVariables false
namespace Go.Proofs.YtniiimpcakmkbaaDoor
open Go Vm Go.RowKit
theorem okC_er (n : Nat) : okC (erC n) = true := by
  unfold okC erC
  cases Nat.beq n 0 with
  | true => rfl
  | false => cases Nat.beq n 1 <;> rfl
theorem erN_C {n : Nat} (h : n ≤ 2) : erN (erC n) = n := by rcases er3 h with h | h | h <;> subst h <;> rfl
theorem erC_N {c : Int} (h : okC c = true) : erC (erN c) = c ∧ erN c ≤ 2 := by
  unfold okC at h
  simp only [Bool.or_eq_true, beq_iff_eq] at h
  rcases h with (h | h) | h <;> subst h <;> exact ⟨rfl, by decide⟩
theorem rP_s {s : PS} (h : s.er ≤ 2) : rP s.at_ s.op (erC s.er) = s := by unfold rP; rw [erN_C h]
theorem rP_next {L : List (List C)} {s : PS} (h : St8 L s) : rP (IntKind.i64.wrap (s.at_ + 1)) s.op (erC s.er) = nextG s := by
  have := h.a0; have := h.a1; have := h.len
  unfold rP nextG; rw [erN_C h.e2, w64 _ (by omega) (by omega)]
theorem wrap_next {L : List (List C)} {s : PS} (h : St8 L s) : IntKind.i64.wrap (s.at_ + 1) = (nextG s).at_ := by
  have := h.a0; have := h.a1; have := h.len
  unfold nextG; rw [w64 _ (by omega) (by omega)]
abbrev sV (L : List (List C)) (s : PS) : V := .t (.agg (sM L s))
theorem rrd_ok {m : Int} {fn : FuncId} {N : Nat} {f : List (List C) → PS → PS × Nde}
    (h : ∀ (L : List (List C)) (s : PS), St8 L s → lvl s < N → FnRes Tryd.prog (globG m) fn [sV L s] [] (.tup [.agg (sM L (f L s).1), .agg ⟨(f L s).2, [], 4⟩]) []) : SpecOk Tryd.prog (globG m) fn (rRdS f N) := by
  intro a b v b' hr
  unfold rRdS at hr
  split at hr
  · rename_i L a o c
    rcases run_ite hr with ⟨hl, hx⟩ | ⟨_, hx⟩ <;> clear hr <;> have hr := hx <;> clear hx
    · rw [Bool.and_eq_true, Bool.and_eq_true, stOk_iff, decide_eq_true_eq] at hl
      obtain ⟨⟨hs, hg⟩, hlv⟩ := hl
      obtain ⟨rfl, rfl⟩ := run_ret hr
      obtain ⟨e1, _⟩ := erC_N hg
      have := h L (rP a o c) hs hlv
      have e2 : sV L (rP a o c) = .t (.agg ⟨[.sl 4 L, .int .i64 a, .int .i64 o, .int .i64 c], [], 4⟩) := by
        show V.t (.agg ⟨[.sl 4 L, .int .i64 a, .int .i64 o, .int .i64 (erC (erN c))], [], 4⟩) = _
        rw [e1]
      rw [e2] at this
      exact this
    · exact (run_no hr).elim
  · cases hr
theorem rkind_ok (m : Int) : SpecOk Tryd.prog (globG m) 71 rKindS := by
  intro a b v b' h
  unfold rKindS at h
  split at h
  · rename_i L a o c
    rcases run_ite h with ⟨hl, hx⟩ | ⟨_, hx⟩ <;> clear h <;> have h := hx <;> clear hx
    · rw [Bool.and_eq_true, stOk_iff] at hl
      obtain ⟨hs, hg⟩ := hl
      obtain ⟨e1, _⟩ := erC_N hg
      refine specAtQ eqs_ok mix vti_ok Tryd.func71 rfl (by kernel_rfl) .nil 0 (Eq.trans (h_kind_start m fin2 0 L a o c) ?_)
      unfold kindG at h
      have hc : (c != 0) = !(Nat.beq (erN c) 0) := by
        rw [← e1]
        have := (erC_N hg).2
        rcases er3 this with h | h | h <;> rw [h] <;> rfl
      rw [hc]
      cases he : Nat.beq (erN c) 0 with
      | false => simp only [he] at h; exact h
      | true =>
        simp only [he, Bool.not_true, cond_false] at h ⊢
        by_cases hlt : a ≥ (L.length : Int)
        · rw [decide_eq_true hlt, cond_true] at h ⊢; exact h
        · rw [decide_eq_false hlt, cond_false] at h ⊢
          have h0 := hs.a0
          simp only at h0
          obtain ⟨i, rfl⟩ : ∃ i : Nat, a = i := ⟨a.toNat, by omega⟩
          obtain ⟨k, t, l, c, hL, hk, _⟩ := tok_at hs.tk (i := i) (by omega)
          rw [decide_eq_true (by omega), cond_true, getT_at rfl hL, getT_some (x := C.int .i64 k) rfl]
          rw [hk] at h
          exact h
    · exact (run_no h).elim
  · cases h
theorem tabRA_ok (m : Int) : TabS Tryd.prog (globG m) tabRA := .cons (rkind_ok m) .nil
theorem rtake_ok (m : Int) : SpecOk Tryd.prog (globG m) 75 rTakeS := by
  intro a b v b' h
  unfold rTakeS at h
  split at h
  · rename_i L a o c k
    rcases run_ite h with ⟨hl, hx⟩ | ⟨_, hx⟩ <;> clear h <;> have h := hx <;> clear hx
    · rw [Bool.and_eq_true, Bool.and_eq_true, stOk_iff, decide_eq_true_eq] at hl
      obtain ⟨⟨hs, hg⟩, hk⟩ := hl
      obtain ⟨e1, e2⟩ := erC_N hg
      refine specAtQ eqs_ok mix vti_ok Tryd.func75 rfl (by kernel_rfl) (tabRA_ok m) 0 (Eq.trans (h_take_start m fin2 0 L a o c k) ?_)
      have hc : (c != 0) = !(Nat.beq (erN c) 0) := by
        rw [← e1]
        rcases er3 e2 with h | h | h <;> rw [h] <;> rfl
      rw [hc, dup_eq 5]
      unfold takeG at h
      cases he : Nat.beq (erN c) 0 with
      | false =>
        have hkf : (kindG L (rP a o c) == k) = false := by
          rw [← Bool.not_eq_true]; intro hx
          have := (kind_some hk hx).1
          simp only at this
          rw [this] at he; cases he
        rw [hkf] at h
        simp only [cond_false, failG, he] at h
        have h : (Tr.ret (.tup [.agg ⟨[.sl 4 L, .int .i64 a, .int .i64 o, .int .i64 (erC (erN c))], [], 4⟩, .w (.d (.str bE))]) []).run fin2 = some (v, b') := h
        rw [e1] at h
        exact h
      | true =>
        have he0 : erN c = 0 := Nat.eq_of_beq_eq_true he
        simp only [Bool.not_true, cond_false]
        rw [st_t hs, hg, Bool.and_self, cond_true]
        cases hkk : kindG L (rP a o c) == k with
        | false =>
          have : (kindG L (rP a o c) != k) = true := by unfold bne; rw [hkk]; rfl
          rw [this, cond_true]
          rw [hkk] at h
          simp only [cond_false, failG, he, cond_true] at h
          exact h
        | true =>
          have : (kindG L (rP a o c) != k) = false := by unfold bne; rw [hkk]; rfl
          rw [this, cond_false]
          rw [hkk, cond_true] at h
          obtain ⟨_, hlt, _⟩ := kind_some hk hkk
          have h0 := hs.a0
          have hlen := hs.len
          simp only at h0 hlt
          obtain ⟨i, rfl⟩ : ∃ i : Nat, a = i := ⟨a.toNat, by omega⟩
          obtain ⟨k', t, l, c', hL, _, ht⟩ := tok_at hs.tk (i := i) (by omega)
          have w1 : IntKind.i64.wrap ((i : Int) + 1) = (i : Int) + 1 := w64 _ (by omega) (by omega)
          have w2 : IntKind.i64.wrap ((i : Int) + 1 - 1) = (i : Int) := by rw [w64 _ (by omega) (by omega)]; omega
          rw [w1, w2, decide_eq_true (by omega), cond_true, getT_at rfl hL, getT_some (x := C.str t) rfl]
          simp only [nextG, ht] at h
          have h : (Tr.ret (.tup [.agg ⟨[.sl 4 L, .int .i64 ((i : Int) + 1), .int .i64 o, .int .i64 (erC (erN c))], [], 4⟩, .w (.d (.str t))]) []).run fin2 = some (v, b') := h
          rw [e1] at h
          exact h
    · exact (run_no h).elim
  · cases h
theorem tabRB_ok (m : Int) : TabS Tryd.prog (globG m) tabRB := .cons (rkind_ok m) (.cons (rtake_ok m) .nil)
theorem ratom_ok (m : Int) (N : Nat) (hu : SpecOk Tryd.prog (globG m) 47 (rRdS unionA N)) : SpecOk Tryd.prog (globG m) 95 (rRdS atomA (N + 1)) := by
  refine rrd_ok fun L s hs hlv => ?_
  refine specAtQ eqs_ok mix vti_ok Tryd.func95 rfl (by kernel_rfl) (.cons hu (tabRB_ok m)) 0 (Eq.trans (h_atom_start m N fin2 0 L s.at_ s.op (erC s.er)) ?_)
  have hoC := okC_er
  rw [rP_s hs.e2, dup2, dup2, st_t hs, okC_er, Bool.and_self, cond_true, atomA_eq]
  unfold atomG
  cases h40 : kindG L s == 40 with
  | true =>
    obtain ⟨he0, hlt, _⟩ := kind_some (by decide) h40
    rw [cond_true, cond_true]
    by_cases h8 : s.op ≥ 8
    · rw [decide_eq_true h8, cond_true, cond_true]
      have : (failG 2 s).er = 2 := by unfold failG; rw [he0]; rfl
      have e : sM L (failG 2 s) = ⟨[.sl 4 L, .int .i64 s.at_, .int .i64 s.op, .int .i64 12], [], 4⟩ := by
        show (⟨[.sl 4 L, .int .i64 s.at_, .int .i64 s.op, .int .i64 (erC (failG 2 s).er)], [], 4⟩ : M) = _
        rw [this]; rfl
      rw [e]; rfl
    · have ho := hs.o0; have ha0 := hs.a0; have hl2 := hs.len
      have h1 : St8 L ⟨s.at_, s.op + 1, s.er⟩ := ⟨hs.tk, hs.len, hs.a0, hs.a1, by simp only; omega, by simp only; omega, hs.e2⟩
      have hk1 : (kindG L ⟨s.at_, s.op + 1, s.er⟩ == 40) = true := h40
      have ht : (takeG L 40 ⟨s.at_, s.op + 1, s.er⟩).1 = ⟨s.at_ + 1, s.op + 1, s.er⟩ := by unfold takeG; rw [hk1]; rfl
      have hrp : rP (IntKind.i64.wrap (s.at_ + 1)) (IntKind.i64.wrap (s.op + 1)) (erC s.er) = (takeG L 40 ⟨s.at_, s.op + 1, s.er⟩).1 := by
        rw [ht]; unfold rP; rw [erN_C hs.e2, w64 _ (by omega) (by omega), w64 _ (by omega) (by omega)]
      obtain ⟨h2, f2⟩ := gtake_ok h1 (k := 40) (by decide)
      obtain ⟨d', hd, hl⟩ : ∃ d', lvl s = d' + 1 ∧ lvl (takeG L 40 ⟨s.at_, s.op + 1, s.er⟩).1 = d' := by
        refine ⟨(7 - s.op).toNat, ?_, ?_⟩
        · unfold lvl; omega
        · rw [lvl_fol f2]; unfold lvl; simp only; omega
      have hun : innerN L (lvl s) (takeG L 40 ⟨s.at_, s.op + 1, s.er⟩).1 = unionA L (takeG L 40 ⟨s.at_, s.op + 1, s.er⟩).1 := by
        rw [hd, unionA_eq, hl]; exact congrFun (unionN_eq L d') _
      obtain ⟨h3, f3, n3⟩ := unionA_good h2
      obtain ⟨h4, f4⟩ := gtake_ok h3 (k := 41) (by decide)
      have f5 := (f2.trans f3).trans f4
      have e5 : (takeG L 41 (unionA L (takeG L 40 ⟨s.at_, s.op + 1, s.er⟩).1).1).1.op = s.op + 1 := f5.o
      rw [decide_eq_false h8, cond_false, cond_false, hrp]
      simp only [hun]
      rw [rP_s h3.e2, st_t h2, decide_eq_true (p := lvl (takeG L 40 ⟨s.at_, s.op + 1, s.er⟩).1 < N) (by rw [hl]; omega), st_t h3]
      simp only [okC_er, Bool.and_self, cond_true]
      rw [take4 (x := List.take 4 ((unionA L (takeG L 40 ⟨s.at_, s.op + 1, s.er⟩).1).2 ++ [])) (by rw [take4 n3]; exact n3), take4 n3, w64 _ (by rw [e5]; omega) (by rw [e5]; omega)]
  | false =>
    rw [cond_false, cond_false]
    simp only [cond_true]
    cases h4 : kindG L s == 4 with
    | true => rw [cond_true, cond_true, wrap_next hs]; rfl
    | false =>
      obtain ⟨h1, f1⟩ := gtake_ok hs (k := 1) (by decide)
      rw [cond_false, cond_false, rP_s h1.e2, rP_next h1, st_t h1]
      simp only [okC_er, Bool.and_self, cond_true]
      cases h5 : kindG L (takeG L 1 s).1 == 5 with
      | true =>
        obtain ⟨h2, f2⟩ := gnext_ok h1 (kind_some (by decide) h5).2.1
        rw [cond_true, cond_true, st_t h2]; rfl
      | false => rw [cond_false, cond_false]; rfl
theorem rless_ok (m : Int) (N : Nat) (ha : SpecOk Tryd.prog (globG m) 95 (rRdS atomA N)) : SpecOk Tryd.prog (globG m) 85 (rRdS lessA N) := by
  refine rrd_ok fun L s hs hlv => ?_
  refine specAtQ eqs_ok mix vti_ok Tryd.func85 rfl (by kernel_rfl) (.cons ha (tabRB_ok m)) 0 (Eq.trans (h_less_start m N fin2 0 L s.at_ s.op (erC s.er)) ?_)
  obtain ⟨g1, f1, n1⟩ := atomA_good hs
  rw [rP_s hs.e2, dup2, dup_eq 4, st_t hs, okC_er, Bool.and_self, Bool.true_and, decide_eq_true hlv, cond_true, rP_s g1.e2, st_t g1, okC_er, Bool.and_self, cond_true, lessA_step hs]
  cases hk : kindG L (atomA L s).1 == 45 with
  | true =>
    have hb : (kindG L (atomA L s).1 != 45) = false := by unfold bne; rw [hk]; rfl
    obtain ⟨g2, f2⟩ := gnext_ok g1 (kind_some (by decide) hk).2.1
    obtain ⟨g3, f3, n3⟩ := atomA_good g2
    have hlv2 : lvl (nextG (atomA L s).1) < N := by rw [lvl_fol (f1.trans f2)]; exact hlv
    rw [hb, cond_false, cond_true, rP_next g1, st_t g2, Bool.and_self, Bool.true_and, decide_eq_true hlv2, cond_true, take4 n1, take4 n3]; rfl
  | false =>
    have hb : (kindG L (atomA L s).1 != 45) = true := by unfold bne; rw [hk]; rfl
    rw [hb, cond_true, cond_false, take4 (x := List.take 4 ((atomA L s).2 ++ [])) (by rw [take4 n1]; exact n1), take4 n1]

/-- the loop of meet -/
theorem h_meet_loop {R : Type} (m : Int) (N : Nat) (k : V → Bx → Option R) (F : Nat) (L : List (List C)) (d : Nat) (hd : d < N) (v5 v6 v7 v8 : Int) (v9 v10 : ByteArray) (v12 v13 : List (List C)) : ∀ (n n' : Nat) (s : PS) (out : List Nde) (nd : Nde), St8 L s → lvl s = d → (L.length : Int) - s.at_ < n → (L.length : Int) - s.at_ < n' → (out.length : Int) + (L.length - s.at_) < 2000000 → 0 < out.length → isNd nd = true → (out.length = 1 → nd = out.getD 0 []) →
    h_meet_L0 m N (h_meet_K0 m N k F) F n (erC s.er) L s.at_ s.op v5 v6 v7 v8 v9 v10 out v12 v13 nd = k (.tup [.agg (sM L (moreG L (lessG L (innerN L d)) 38 n' s out).1), .agg ⟨ofG 5 (moreG L (lessG L (innerN L d)) 38 n' s out).2, [], 4⟩]) [] := by
  intro n
  induction n with
  | zero => intro n' s out nd h _ h1; have := h.a1; omega
  | succ n ih =>
    intro n' s out nd h hl h1 h2 h3 h4 hnd hone
    cases n' with
    | zero => have := h.a1; omega
    | succ n' =>
      rw [h_meet_r0]
      unfold moreG
      rw [rP_s h.e2, rP_next h, st_t h, okC_er, Bool.and_self, cond_true]
      cases hk : kindG L s == 38 with
      | false =>
        rw [cond_false, cond_false, h_meet_c1, dup2]
        unfold ofG
        simp only
        cases ho : out.length == 1 with
        | true =>
          have : ((out.length : Int) == 1) = true := by rw [beq_iff_eq] at ho ⊢; omega
          have hn1 : nd = out.getD 0 [] := hone (by simpa using ho)
          rw [this, cond_true, cond_true, take4 (x := List.take 4 nd) (by
            have := take4 hnd
            rw [List.append_nil] at this
            rw [this]; exact hnd)]
          have := take4 hnd
          rw [List.append_nil] at this
          rw [this, hn1]
        | false =>
          have : ((out.length : Int) == 1) = false := by rw [beq_eq_false_iff_ne] at ho ⊢; omega
          rw [this, cond_false, cond_false]; rfl
      | true =>
        obtain ⟨_, hlt, _⟩ := kind_some (by decide) hk
        obtain ⟨g2, f2⟩ := gnext_ok h hlt
        obtain ⟨g3, f3, n3⟩ := lessA_good g2
        have hl2 : lvl (nextG s) = d := (lvl_fol f2).trans hl
        have e1 := f3.a
        have e2 : (nextG s).at_ = s.at_ + 1 := rfl
        have hls : lessA L (nextG s) = lessG L (innerN L d) (nextG s) := by rw [lessA_eq, hl2]
        have ha1 := g3.a1
        have hdr : (lessA L (nextG s)).2 ++ List.drop 4 nd = (lessA L (nextG s)).2 := by
          obtain ⟨_, _, _, _, hx⟩ := isNd_parts hnd
          rw [hx]; exact List.append_nil _
        have ht4 : List.take 4 (lessA L (nextG s)).2 = (lessA L (nextG s)).2 := by have := take4 n3; rw [List.append_nil] at this; exact this
        rw [cond_true, cond_true, st_t g2, Bool.and_self, Bool.true_and, decide_eq_true (by rw [hl2]; exact hd), cond_true, decide_eq_true ⟨by omega, by omega⟩, cond_true, hdr, ht4, ← hls]
        exact ih n' _ _ _ g3 ((lvl_fol f3).trans hl2) (by push_cast at h1; omega) (by push_cast at h2; omega) (by simp only [List.length_append, List.length_cons, List.length_nil]; push_cast; omega) (by simp) n3 (fun hh => by simp only [List.length_append, List.length_cons, List.length_nil] at hh; omega)
theorem rmeet_ok (m : Int) (N : Nat) (hb : SpecOk Tryd.prog (globG m) 85 (rRdS lessA N)) : SpecOk Tryd.prog (globG m) 70 (rRdS meetA N) := by
  refine rrd_ok fun L s hs hlv => ?_
  refine specAtQ eqs_ok mix vti_ok Tryd.func70 rfl (by kernel_rfl) (.cons hb (tabRB_ok m)) (L.length + 1) (Eq.trans (h_meet_start m N fin2 _ L s.at_ s.op (erC s.er)) ?_)
  obtain ⟨g1, f1, n1⟩ := lessA_good hs
  have ha1 := g1.a0
  have hlen := hs.len
  rw [rP_s hs.e2, st_t hs, okC_er, Bool.and_self, Bool.true_and, decide_eq_true hlv, cond_true, take4 n1, List.append_nil]
  rw [h_meet_loop m N fin2 _ L _ hlv 0 0 0 0 _ _ _ _ (L.length + 1) (L.length + 1) _ _ _ g1 (lvl_fol f1) (by push_cast; omega) (by push_cast; omega) (by simp only [List.length_cons, List.length_nil]; push_cast; omega) (by simp) n1 (fun _ => rfl)]
  rw [meetA_eq]
  unfold meetG listG
  rw [← lessA_eq]

/-- the loop of union -/
theorem h_union_loop {R : Type} (m : Int) (N : Nat) (k : V → Bx → Option R) (F : Nat) (L : List (List C)) (d : Nat) (hd : d < N) (v5 v6 v7 v8 : Int) (v9 v10 : ByteArray) (v12 v13 : List (List C)) : ∀ (n n' : Nat) (s : PS) (out : List Nde) (nd : Nde), St8 L s → lvl s = d → (L.length : Int) - s.at_ < n → (L.length : Int) - s.at_ < n' → (out.length : Int) + (L.length - s.at_) < 2000000 → 0 < out.length → isNd nd = true → (out.length = 1 → nd = out.getD 0 []) →
    h_union_L0 m N (h_union_K0 m N k F) F n (erC s.er) L s.at_ s.op v5 v6 v7 v8 v9 v10 out v12 v13 nd = k (.tup [.agg (sM L (moreG L (meetG L (innerN L d)) 124 n' s out).1), .agg ⟨ofG 4 (moreG L (meetG L (innerN L d)) 124 n' s out).2, [], 4⟩]) [] := by
  intro n
  induction n with
  | zero => intro n' s out nd h _ h1; have := h.a1; omega
  | succ n ih =>
    intro n' s out nd h hl h1 h2 h3 h4 hnd hone
    cases n' with
    | zero => have := h.a1; omega
    | succ n' =>
      rw [h_union_r0]
      unfold moreG
      rw [rP_s h.e2, rP_next h, st_t h, okC_er, Bool.and_self, cond_true]
      cases hk : kindG L s == 124 with
      | false =>
        rw [cond_false, cond_false, h_union_c1, dup2]
        unfold ofG
        simp only
        cases ho : out.length == 1 with
        | true =>
          have : ((out.length : Int) == 1) = true := by rw [beq_iff_eq] at ho ⊢; omega
          have hn1 : nd = out.getD 0 [] := hone (by simpa using ho)
          rw [this, cond_true, cond_true, take4 (x := List.take 4 nd) (by
            have := take4 hnd
            rw [List.append_nil] at this
            rw [this]; exact hnd)]
          have := take4 hnd
          rw [List.append_nil] at this
          rw [this, hn1]
        | false =>
          have : ((out.length : Int) == 1) = false := by rw [beq_eq_false_iff_ne] at ho ⊢; omega
          rw [this, cond_false, cond_false]; rfl
      | true =>
        obtain ⟨_, hlt, _⟩ := kind_some (by decide) hk
        obtain ⟨g2, f2⟩ := gnext_ok h hlt
        obtain ⟨g3, f3, n3⟩ := meetA_good g2
        have hl2 : lvl (nextG s) = d := (lvl_fol f2).trans hl
        have e1 := f3.a
        have e2 : (nextG s).at_ = s.at_ + 1 := rfl
        have hls : meetA L (nextG s) = meetG L (innerN L d) (nextG s) := by rw [meetA_eq, hl2]
        have ha1 := g3.a1
        have hdr : (meetA L (nextG s)).2 ++ List.drop 4 nd = (meetA L (nextG s)).2 := by
          obtain ⟨_, _, _, _, hx⟩ := isNd_parts hnd
          rw [hx]; exact List.append_nil _
        have ht4 : List.take 4 (meetA L (nextG s)).2 = (meetA L (nextG s)).2 := by have := take4 n3; rw [List.append_nil] at this; exact this
        rw [cond_true, cond_true, st_t g2, Bool.and_self, Bool.true_and, decide_eq_true (by rw [hl2]; exact hd), cond_true, decide_eq_true ⟨by omega, by omega⟩, cond_true, hdr, ht4, ← hls]
        exact ih n' _ _ _ g3 ((lvl_fol f3).trans hl2) (by push_cast at h1; omega) (by push_cast at h2; omega) (by simp only [List.length_append, List.length_cons, List.length_nil]; push_cast; omega) (by simp) n3 (fun hh => by simp only [List.length_append, List.length_cons, List.length_nil] at hh; omega)
theorem runion_ok (m : Int) (N : Nat) (hb : SpecOk Tryd.prog (globG m) 70 (rRdS meetA N)) : SpecOk Tryd.prog (globG m) 47 (rRdS unionA N) := by
  refine rrd_ok fun L s hs hlv => ?_
  refine specAtQ eqs_ok mix vti_ok Tryd.func47 rfl (by kernel_rfl) (.cons hb (tabRB_ok m)) (L.length + 1) (Eq.trans (h_union_start m N fin2 _ L s.at_ s.op (erC s.er)) ?_)
  obtain ⟨g1, f1, n1⟩ := meetA_good hs
  have ha1 := g1.a0
  have hlen := hs.len
  rw [rP_s hs.e2, st_t hs, okC_er, Bool.and_self, Bool.true_and, decide_eq_true hlv, cond_true, take4 n1, List.append_nil]
  rw [h_union_loop m N fin2 _ L _ hlv 0 0 0 0 _ _ _ _ (L.length + 1) (L.length + 1) _ _ _ g1 (lvl_fol f1) (by push_cast; omega) (by push_cast; omega) (by simp only [List.length_cons, List.length_nil]; push_cast; omega) (by simp) n1 (fun _ => rfl)]
  rw [unionA_eq]
  unfold unionL listG
  rw [← meetA_eq]

theorem runion_all (m : Int) : ∀ N, SpecOk Tryd.prog (globG m) 47 (rRdS unionA N) := by
  intro N
  induction N with
  | zero => exact rrd_ok fun L s hs hlv => by omega
  | succ N ih => exact runion_ok m _ (rmeet_ok m _ (rless_ok m _ (ratom_ok m N ih)))
end Go.Proofs.YtniiimpcakmkbaaDoor
