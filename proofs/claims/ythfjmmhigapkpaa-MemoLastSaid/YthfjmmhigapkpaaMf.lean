/- MemoLast: the law's run -/
import Derived.Test.YthfjmmhigapkpaaMp
import Derived.Test.YthfjmmhigapkpaaMe
set_option linter.unusedVariables false
namespace Go.Proofs.Ythfjmmhigapkpaa
open Go Vm
theorem MI.okM {clock : Int} {es : Ents} {ord : Row} (h : MI clock es ord) (hl : (es.length : Int) ≤ 1000) : okM es ord = true :=
  okM_iff.2 ⟨h.eo, h.oo, by have := h.len; omega, by omega⟩
theorem keysE_get {ord : Row} {i : Nat} {e : List C} (h : ord[i]? = some e) : (keysE ord)[i]? = some [.str (kO e)] := by
  unfold keysE; rw [List.getElem?_map, h]; rfl
/-- each key's verdict is looked at -/
theorem lLast_keys {R : Type} (K : X → St → Option R) (F : Nat) (acts : Row) (room : Int) (i : Nat) (v19 v20 : Int) (v21 : ByteArray) (v22 : Bool) (es : Ents) (ord : Row) (clock : Int)
    (ha : ∀ e ∈ acts, actOk e = true) (hal : acts.length ≤ 200) (hi : i < acts.length) (hm : MI clock es ord) (hl : (es.length : Int) ≤ 1000) (hv : VR es (acts.take (i + 1))) :
    ∀ (n j : Nat), j ≤ ord.length → ord.length - j < n →
    lLast_L1 mfC K F n acts room i (ord.length : Int) v19 v20 v21 v22 (keysE ord) es ord room clock j = K (.ex 3) (lLast_E3 acts room i v19 v20 v21 v22 es ord room clock) := by
  intro n
  induction n with
  | zero => intro j hj h; omega
  | succ n ih =>
    intro j hj hn
    have hlen := hm.len
    rw [lLast_r1]
    by_cases hlt : j < ord.length
    · have hget : ord[j]? = some ord[j] := List.getElem?_eq_getElem hlt
      have hc := cnt_vS (hm.cnt _ (List.getElem_mem hlt))
      generalize ord[j] = e at hget hc
      have hk := keysE_get hget
      have d1 : decide ((j : Int) < (ord.length : Int)) = true := by simpa using hlt
      have d2 : decide ((0 : Int) ≤ (j : Int)) = true := by simp
      have d3 : decide ((0 : Int) ≤ 0 ∧ (0 : Int) ≤ (i : Int) + 1 ∧ (i : Int) + 1 ≤ (acts.length : Int)) = true := by simp only [decide_eq_true_eq]; omega
      have et : List.take (((i : Int) + 1).toNat - 0) acts = acts.take (i + 1) := by congr 1
      have d4 : ((acts.take (i + 1)).all actOk && decide ((acts.take (i + 1)).length < 1000000)) = true := by
        rw [Bool.and_eq_true, decide_eq_true_eq]
        exact ⟨List.all_eq_true.2 (fun x hx => ha x (List.mem_of_mem_take hx)), by rw [List.length_take]; omega⟩
      have hv1 := hv _ hc.1
      have hls : mfC.ls (acts.take (i + 1)) (kO e) = true := by simp only [mfC]; rw [hv1]
      have hly : mfC.ly (acts.take (i + 1)) (kO e) = vY es (kO e) := by simp only [mfC]; rw [hv1]
      have hgs : mfC.gs es (kO e) = true := hc.1
      have hge : mfC.ge es (kO e) = vY es (kO e) := rfl
      have ek : ([C.str (kO e)].getD 0 C.nf).toStr = kO e := rfl
      rw [d1, cond_true, d2, cond_true, getT_at rfl hk, getT_at rfl hk, getT_some (x := C.str (kO e)) rfl, w64 _ (by omega) (by omega), w64 _ (by omega) (by omega), d3, et, d4, hm.okM hl, ek, hgs, hls, hly, hge]
      simp only [cond_true, beq_self_eq_true, Bool.not_true]
      exact ih (j + 1) (by omega) (by omega)
    · have : j = ord.length := by omega
      subst this
      have d1 : decide ((ord.length : Int) < (ord.length : Int)) = false := by simp
      rw [d1, cond_false]

theorem VR.put {room clock : Int} {es es' : Ents} {ord ord' : Row} {k : ByteArray} {y : Bool} {acts : Row} (h : VR es acts) (hp : PutRes room clock es ord k y es' ord') (at_ : Int) : VR es' (acts ++ [[.int .i64 1, .int .i64 at_, .str k, .bool y]]) := by
  intro k' hk'
  rw [lastG_append]
  show (bif ((1 : Int) == 1) && (k.toList == k'.toList) then (y, true) else _) = _
  rcases hp.get k' hk' with ⟨h1, h2⟩ | ⟨h1, h2, h3⟩
  · subst h1
    rw [h2]; simp
  · have : (k.toList == k'.toList) = false := by
      cases hb : k.toList == k'.toList with
      | false => rfl
      | true => exact (h1 (str_inj (eq_of_beq hb)).symm).elim
    rw [this, Bool.and_false, cond_false, h k' h2, h3]
theorem VR.same {es es' : Ents} {acts : Row} (h : VR es acts) (hs : ∀ k, vS es' k = true → vS es k = true ∧ vY es' k = vY es k) {k at_ : Int} {s : ByteArray} {y : Bool} (hk : (k == 1) = false) : VR es' (acts ++ [[.int .i64 k, .int .i64 at_, .str s, .bool y]]) := by
  intro k' hk'
  rw [lastG_append]
  show (bif (k == 1) && (s.toList == k'.toList) then (y, true) else _) = _
  rw [hk, Bool.false_and, cond_false, h k' (hs k' hk').1, (hs k' hk').2]

theorem lLast_loop {R : Type} (K : X → St → Option R) (F : Nat) (acts : Row) (room : Int) (ha : ∀ e ∈ acts, actOk e = true) (hal : acts.length ≤ 200) (hr0 : 0 ≤ room) (hr1 : room ≤ 1000) (hF : 1001 < F) :
    ∀ (n i : Nat) (clock : Int) (es : Ents) (ord : Row), i ≤ acts.length → acts.length - i < n → MI clock es ord → (es.length : Int) ≤ room → 0 ≤ clock → clock ≤ i → VR es (acts.take i) →
    lLast_L0 mfC K F n acts room room clock ord i es = K (.ex 0) lLast_E4 := by
  intro n
  induction n with
  | zero => intro i _ _ _ hi h; omega
  | succ n ih =>
    intro i clock es ord hi hn hm hl hc0 hc1 hv
    have hlen := hm.len
    have hok := hm.okM (by omega)
    rw [lLast_r0]
    by_cases hlt : i < acts.length
    · have hget : acts[i]? = some acts[i] := List.getElem?_eq_getElem hlt
      obtain ⟨k, at_, s, y, he⟩ := act_parts (ha _ (List.getElem_mem hlt))
      rw [he] at hget
      have htk : acts.take (i + 1) = acts.take i ++ [[.int .i64 k, .int .i64 at_, .str s, .bool y]] := by rw [List.take_add_one, hget]; rfl
      have d1 : decide ((i : Int) < (acts.length : Int)) = true := by simpa using hlt
      have d2 : decide ((0 : Int) ≤ (i : Int)) = true := by simp
      -- what follows, once the memo is there
      have next : ∀ (clock' : Int) (es' : Ents) (ord' : Row), MI clock' es' ord' → (es'.length : Int) ≤ room → 0 ≤ clock' → clock' ≤ (i : Int) + 1 → VR es' (acts.take (i + 1)) → (k == 1 → room > 0 → vS es' s = true) →
          (bif okM es' ord' then (bif decide ((es'.length : Int) > room) then K .rt lLast_E1 else (bif okM es' ord' then lLast_L1 mfC (lLast_K1 mfC K F n) F F acts room i ((keysE ord').length : Int) k at_ s y (keysE ord') es' ord' room clock' 0 else none)) else none) = K (.ex 0) lLast_E4 := by
        intro clock' es' ord' hm' hl' h0' h1' hv' hs'
        have hlen' := hm'.len
        have hok' := hm'.okM (by omega)
        have hkl : (keysE ord').length = ord'.length := by unfold keysE; exact List.length_map _
        have d3 : decide ((es'.length : Int) > room) = false := by simp; omega
        rw [hok', cond_true, d3, cond_false, cond_true, hkl, show (0 : Int) = ((0 : Nat) : Int) from rfl, lLast_keys _ _ _ _ _ _ _ _ _ _ _ _ ha hal hlt hm' (by omega) hv' _ 0 (by omega) (by omega), lLast_c3, hok', cond_true, w64 _ (by omega) (by omega)]
        have hgo : lLast_L0 mfC K F n acts room room clock' ord' ((i : Int) + 1) es' = K (.ex 0) lLast_E4 := ih (i + 1) clock' es' ord' (by omega) (by omega) hm' hl' h0' (by omega) hv'
        rw [hgo]
        cases hk : k == 1 with
        | false => rfl
        | true =>
          cases hr : decide (room > 0) with
          | false => rfl
          | true =>
            have h2 : mfC.gs es' s = true := hs' hk (of_decide_eq_true hr)
            rw [h2]; rfl
      rw [d1, cond_true, d2, cond_true, getT_at rfl hget]
      have q0 : ((List.take 4 [C.int IntKind.i64 k, C.int IntKind.i64 at_, C.str s, C.bool y]).getD 0 C.nf).toInt = k := rfl
      have q1 : ((List.take 4 [C.int IntKind.i64 k, C.int IntKind.i64 at_, C.str s, C.bool y]).getD 1 C.nf).toInt = at_ := rfl
      have q2 : ((List.take 4 [C.int IntKind.i64 k, C.int IntKind.i64 at_, C.str s, C.bool y]).getD 2 C.nf).toStr = s := rfl
      have q3 : ((List.take 4 [C.int IntKind.i64 k, C.int IntKind.i64 at_, C.str s, C.bool y]).getD 3 C.nf).toBool = y := rfl
      simp only [q0, q1, q2, q3]
      change (bif k == 1 then (bif okM es ord then (bif decide ((0 : Int) ≤ clock ∧ clock < 1000000) && mfC.pk room clock es ord s y then (bif okM (mfC.pe room clock es ord s y) (mfC.po room clock es ord s y) then _ else none) else none) else none)
        else (bif k == 3 then (bif okM es ord then (bif ord.isEmpty then _ else (bif okM (mapDel [C.str (mfC.ki ord (mfC.di at_ ord.length))] es) (ord.eraseIdx (mfC.di at_ ord.length)) then _ else none)) else none) else _)) = _
      cases hk : k == 1 with
      | true =>
        have hk1 : k = 1 := eq_of_beq hk
        obtain ⟨es', ord', hput, hres⟩ := put_res hm hr0 hl s y
        have hpe : mfC.pe room clock es ord s y = es' := by simp only [mfC]; rw [hput]
        have hpo : mfC.po room clock es ord s y = ord' := by simp only [mfC]; rw [hput]
        have hpk : mfC.pk room clock es ord s y = true := by
          simp only [mfC]; rw [hput]
          have a1 : decide (ord.length < 900000) = true := decide_eq_true (by omega)
          have a2 : decide (es.length < 900000) = true := decide_eq_true (by omega)
          rw [a1, a2]; rfl
        have d5 : decide ((0 : Int) ≤ clock ∧ clock < 1000000) = true := by simp only [decide_eq_true_eq]; omega
        rw [cond_true, hok, cond_true, d5, hpk, Bool.and_self, cond_true, hpe, hpo]
        exact next (clock + 1) es' ord' hres.mi hres.le (by omega) (by omega) (by rw [htk, hk1]; exact hv.put hres at_) (fun _ h => hres.hit h)
      | false =>
        have hsame : VR es (acts.take (i + 1)) := by rw [htk]; exact hv.same (fun k' h => ⟨h, rfl⟩) hk
        have hstay := next clock es ord hm hl hc0 (by omega) hsame (fun h => by rw [hk] at h; cases h)
        rw [cond_false]
        cases hk3 : k == 3 with
        | false => rw [cond_false]; exact hstay
        | true =>
          rw [cond_true, hok, cond_true]
          cases hoe : ord.isEmpty with
          | true => rw [cond_true]; rw [hok] at hstay; exact hstay
          | false =>
            have hne : 0 < ord.length := by
              cases ord with
              | nil => cases hoe
              | cons e r => simp
            have hm2 : mfC.di at_ ord.length < ord.length := by
              simp only [mfC, dropI]
              have hnn : 0 ≤ IntKind.u64.wrap at_ := by rw [wrapU]; omega
              rw [Int.tmod_eq_emod_of_nonneg hnn]
              have h2 := Int.emod_nonneg (IntKind.u64.wrap at_) (b := (ord.length : Int)) (by omega)
              have h3 := Int.emod_lt_of_pos (IntKind.u64.wrap at_) (b := (ord.length : Int)) (by omega)
              omega
            rw [cond_false]
            generalize mfC.di at_ ord.length = m at *
            have hgo : ord[m]? = some ord[m] := List.getElem?_eq_getElem hm2
            have hki : mfC.ki ord m = kO ord[m] := by
              have : ord.getD m [] = ord[m] := by rw [List.getD_eq_getElem?_getD, hgo]; rfl
              show ((ord.getD m []).getD 0 .nf).toStr = _
              rw [this]; rfl
            rw [hki]
            generalize ord[m] = e at hgo
            have hsplit : ord = ord.take m ++ e :: ord.drop (m + 1) := by rw [← drop_cons hgo, List.take_append_drop]
            have hm' : MI clock (mapDel [.str (kO e)] es) (ord.eraseIdx m) := by
              rw [List.eraseIdx_eq_take_drop_succ]
              rw [hsplit] at hm
              exact hm.del
            have hvd : VR (mapDel [.str (kO e)] es) (acts.take (i + 1)) := by
              rw [htk]
              exact hv.same (fun k' h => by obtain ⟨_, h2, h3⟩ := del_get hm (kO e) k' h; exact ⟨h2, h3⟩) hk
            have hdl := (del_sub (k := [C.str (kO e)]) es).length_le
            exact next clock _ _ hm' (by omega) hc0 (by omega) hvd (fun h => by rw [hk] at h; cases h)
    · have : i = acts.length := by omega
      subst this
      have d1 : decide ((acts.length : Int) < (acts.length : Int)) = false := by simp
      rw [d1, cond_false]
theorem lLast_run (rm : Int) (acts : Row) (h0 : 0 ≤ rm) (h1 : rm ≤ 255) (ha : ∀ e ∈ acts, actOk e = true) : runFn (lLast_cf mfC) 1002 Try.f3 (bd Try.f3) [vc (C.int IntKind.u8 rm), vc (C.sl (4 : Nat) acts)] [] fin2 = some (vb true, []) := by
  rw [lLast_start]
  have hm0 : 0 ≤ rm.tmod 12 := by rw [Int.tmod_eq_emod_of_nonneg h0]; omega
  have hm1 : rm.tmod 12 < 12 := by rw [Int.tmod_eq_emod_of_nonneg h0]; omega
  rw [w64 _ (by omega) (by omega), decide_eq_true ⟨hm0, by omega⟩, cond_true]
  by_cases hl : (acts.length : Int) > 200
  · rw [decide_eq_true hl]; rfl
  · rw [decide_eq_false hl, cond_false]
    have h := lLast_loop (lLast_K0 mfC fin2 1002) 1002 acts (rm.tmod 12) ha (by omega) hm0 (by omega) (by omega) 1002 0 0 [] [] (by omega) (by omega) MI.nil (by simpa using hm0) (by omega) (by omega) (fun k h => by cases h)
    exact h.trans (lLast_c4 _ _ _)
end Go.Proofs.Ythfjmmhigapkpaa
