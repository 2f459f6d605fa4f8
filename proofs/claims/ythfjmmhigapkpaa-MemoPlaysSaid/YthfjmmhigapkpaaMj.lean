/- MemoPlays: the law's run -/
import Derived.Test.YthfjmmhigapkpaaMq
import Derived.Test.YthfjmmhigapkpaaMk
import Derived.Test.YthfjmmhigapkpaaMe
set_option linter.unusedVariables false
namespace Go.Proofs.Ythfjmmhigapkpaa
open Go Vm
/-- what is looked at behind each act -/
noncomputable def restB (N : MF) {R : Type} (K : X → St → Option R) (F n : Nat) (room : Int) (acts : List (List C)) (room1 : Int) (v2 : Int) (v3 : List (List C)) (v4 : Int) (v13 : List (List C)) (v14 : List (List C × List C)) (key : ByteArray) : Option R :=
  (bif !((bif N.gs v14 key then (0 : Int) else (19 : Int)) == (0 : Int)) == decide (N.fi v13 key ≥ (0 : Int)) then
                          K .rt (lPlays_E1)
                        else (bif decide (N.fi v13 key ≥ (0 : Int)) then
                            (bif decide ((0 : Int) ≤ N.fi v13 key) then
                              (getT v13 ((N.fi v13 key).toNat) fun z19 =>
                                (getT (List.drop (1 : Nat) z19) 0 fun z20 =>
                                  (bif shOk [Sh.bool] [z20] then
                                    (bif !N.ge v14 key == ([z20].getD (0 : Nat) C.nf).toBool then
                                      K .rt (lPlays_E1)
                                    else (bif decide (N.fi v13 key < (0 : Int)) then
                                        (bif N.ge v14 key then
                                          K .rt (lPlays_E1)
                                        else (bif (bif N.gs v14 key then (0 : Int) else (19 : Int)) != (19 : Int) then
                                            K .rt (lPlays_E1)
                                          else (bif okM v14 v3 then
                                              (bif (↑v14.length : Int) != (↑v13.length : Int) then
                                                K .rt (lPlays_E1)
                                              else (bif okM v14 v3 then
                                                  (bif (↑(List.length (N.ks v3)) : Int) != (↑v13.length : Int) then
                                                    K .rt (lPlays_E1)
                                                  else (lPlays_L1 N) ((lPlays_K1 N) K F n) F F room acts v4 v13 ((↑(List.length (N.ks v3)) : Int)) (N.ks v3) v14 v3 room1 v2 0)
                                                else none))
                                            else none)))
                                      else (bif okM v14 v3 then
                                          (bif (↑v14.length : Int) != (↑v13.length : Int) then
                                            K .rt (lPlays_E1)
                                          else (bif okM v14 v3 then
                                              (bif (↑(List.length (N.ks v3)) : Int) != (↑v13.length : Int) then
                                                K .rt (lPlays_E1)
                                              else (lPlays_L1 N) ((lPlays_K1 N) K F n) F F room acts v4 v13 ((↑(List.length (N.ks v3)) : Int)) (N.ks v3) v14 v3 room1 v2 0)
                                            else none))
                                        else none)))
                                  else none)))
                            else none)
                          else (bif decide (N.fi v13 key < (0 : Int)) then
                              (bif N.ge v14 key then
                                K .rt (lPlays_E1)
                              else (bif (bif N.gs v14 key then (0 : Int) else (19 : Int)) != (19 : Int) then
                                  K .rt (lPlays_E1)
                                else (bif okM v14 v3 then
                                    (bif (↑v14.length : Int) != (↑v13.length : Int) then
                                      K .rt (lPlays_E1)
                                    else (bif okM v14 v3 then
                                        (bif (↑(List.length (N.ks v3)) : Int) != (↑v13.length : Int) then
                                          K .rt (lPlays_E1)
                                        else (lPlays_L1 N) ((lPlays_K1 N) K F n) F F room acts v4 v13 ((↑(List.length (N.ks v3)) : Int)) (N.ks v3) v14 v3 room1 v2 0)
                                      else none))
                                  else none)))
                            else (bif okM v14 v3 then
                                (bif (↑v14.length : Int) != (↑v13.length : Int) then
                                  K .rt (lPlays_E1)
                                else (bif okM v14 v3 then
                                    (bif (↑(List.length (N.ks v3)) : Int) != (↑v13.length : Int) then
                                      K .rt (lPlays_E1)
                                    else (lPlays_L1 N) ((lPlays_K1 N) K F n) F F room acts v4 v13 ((↑(List.length (N.ks v3)) : Int)) (N.ks v3) v14 v3 room1 v2 0)
                                  else none))
                              else none))))
theorem MI.okM' {clock : Int} {es : Ents} {ord : Row} (h : MI clock es ord) (hl : (es.length : Int) ≤ 1000) : okM es ord = true :=
  okM_iff.2 ⟨h.eo, h.oo, by have := h.len; omega, by omega⟩
theorem lPlays_keys {R : Type} (K : X → St → Option R) (F : Nat) (room : Int) (acts : Row) (i : Nat) (es : Ents) (ord : Row) (clock : Int) (hl : ord.length ≤ 1000) :
    ∀ (n j : Nat) (v17 : Row), j ≤ ord.length → ord.length - j < n → v17.length = ord.length → v17.drop j = keysE (ord.drop j) →
    lPlays_L1 mfC K F n room acts i (refL es ord) (ord.length : Int) v17 es ord room clock j = K (.ex 3) (lPlays_E3 room acts i (refL es ord) es ord room clock) := by
  intro n
  induction n with
  | zero => intro j v17 hj h; omega
  | succ n ih =>
    intro j v17 hj hn hvl hd
    rw [lPlays_r1]
    by_cases hlt : j < ord.length
    · have hget : ord[j]? = some ord[j] := List.getElem?_eq_getElem hlt
      generalize ord[j] = e at hget
      rw [drop_cons hget] at hd
      have hd : v17.drop j = [.str (kO e)] :: keysE (ord.drop (j + 1)) := hd
      have hk : v17[j]? = some [.str (kO e)] := by
        have h1 : (v17.drop j)[0]? = some [.str (kO e)] := by rw [hd]; rfl
        rw [List.getElem?_drop, Nat.add_zero] at h1; exact h1
      have hd1 : v17.drop (j + 1) = keysE (ord.drop (j + 1)) := by
        rw [drop_cons hk] at hd; exact (List.cons.inj hd).2
      have hr : (refL es ord)[j]? = some [.str (kO e), .bool (vY es (kO e))] := by unfold refL; rw [List.getElem?_map, hget]; rfl
      have d1 : decide ((j : Int) < (ord.length : Int)) = true := by simpa using hlt
      have d2 : decide ((0 : Int) ≤ (j : Int)) = true := by simp
      rw [d1, cond_true, d2, cond_true, getT_at rfl hk, getT_at rfl hk, getT_some (x := C.str (kO e)) rfl, getT_at rfl hr, getT_some (x := C.str (kO e)) rfl]
      change (bif !((kO e).toList == (kO e).toList) then _ else _) = _
      rw [beq_self_eq_true, Bool.not_true, cond_false, cond_true, getT_at rfl hk, getT_at rfl hk, w64 _ (by omega) (by omega), getD1]
      refine ih (j + 1) _ (by omega) (by omega) (by rw [List.length_set]; exact hvl) ?_
      rw [List.drop_set_of_lt (by omega)]; exact hd1
    · have : j = ord.length := by omega
      subst this
      have d1 : decide ((ord.length : Int) < (ord.length : Int)) = false := by simp
      rw [d1, cond_false]
theorem rest_ok {R : Type} (K : X → St → Option R) (F n : Nat) (room : Int) (acts : Row) (i : Nat) (es : Ents) (ord : Row) (clock : Int) (key : ByteArray) (hm : MI clock es ord) (hl : (es.length : Int) ≤ 1000) (hF : 1001 < F) (hi : i < 1000000) :
    restB mfC K F n room acts room clock ord i (refL es ord) es key = lPlays_L0 mfC K F n room acts room clock ord ((i : Int) + 1) (refL es ord) es := by
  have hlen := hm.len
  have hok := hm.okM' hl
  have hfi : mfC.fi (refL es ord) key = findL key (refL es ord) 0 := rfl
  have hgs : mfC.gs es key = vS es key := rfl
  have hge : mfC.ge es key = vY es key := rfl
  have hks : mfC.ks ord = keysE ord := rfl
  have hkl : (keysE ord).length = ord.length := by unfold keysE; exact List.length_map _
  have hend : lPlays_L1 mfC (lPlays_K1 mfC K F n) F F room acts i (refL es ord) (ord.length : Int) (keysE ord) es ord room clock 0 = lPlays_L0 mfC K F n room acts room clock ord ((i : Int) + 1) (refL es ord) es := by
    have h := lPlays_keys (lPlays_K1 mfC K F n) F room acts i es ord clock (by omega) F 0 (keysE ord) (by omega) (by omega) hkl rfl
    refine Eq.trans (Eq.trans (by rfl) h) ?_
    rw [lPlays_c3, w64 _ (by omega) (by omega)]
  have e1 : ((es.length : Int) != ((refL es ord).length : Int)) = false := by rw [refL_len, hlen]; simp
  have e2 : (((keysE ord).length : Int) != ((refL es ord).length : Int)) = false := by rw [refL_len, hkl]; simp
  have tail : (bif okM es ord then (bif (es.length : Int) != ((refL es ord).length : Int) then K .rt lPlays_E1 else (bif okM es ord then (bif ((keysE ord).length : Int) != ((refL es ord).length : Int) then K .rt lPlays_E1 else lPlays_L1 mfC (lPlays_K1 mfC K F n) F F room acts i (refL es ord) ((keysE ord).length : Int) (keysE ord) es ord room clock 0) else none)) else none) = lPlays_L0 mfC K F n room acts room clock ord ((i : Int) + 1) (refL es ord) es := by
    rw [hok, cond_true, e1, cond_false, cond_true, e2, cond_false, hkl]; exact hend
  unfold restB
  rw [hfi, hgs, hge, hks]
  rcases ref_find hm key with ⟨h1, h2, h3⟩ | ⟨h1, j, h2, h3⟩
  · rw [h1, h2, h3]
    exact tail
  · have d1 : decide ((j : Int) ≥ 0) = true := by simp
    have d3 : decide ((j : Int) < 0) = false := by simp
    rw [h1, h2, d1, d3, getT_at rfl h3]
    have aux : ∀ (T : Option R), T = lPlays_L0 mfC K F n room acts room clock ord ((i : Int) + 1) (refL es ord) es → (bif !(vY es key == vY es key) then K .rt lPlays_E1 else T) = lPlays_L0 mfC K F n room acts room clock ord ((i : Int) + 1) (refL es ord) es := by
      intro T hT; rw [beq_self_eq_true]; exact hT
    exact aux _ tail

theorem lPlays_loop {R : Type} (K : X → St → Option R) (F : Nat) (acts : Row) (room : Int) (ha : ∀ e ∈ acts, actOk e = true) (hal : acts.length ≤ 200) (hr0 : 0 ≤ room) (hr1 : room ≤ 1000) (hF : 1001 < F) :
    ∀ (n i : Nat) (clock : Int) (es : Ents) (ord : Row), i ≤ acts.length → acts.length - i < n → MI clock es ord → (es.length : Int) ≤ room → 0 ≤ clock → clock ≤ i →
    ∃ clock' es' ord', MI clock' es' ord' ∧ (es'.length : Int) ≤ room ∧ lPlays_L0 mfC K F n room acts room clock ord i (refL es ord) es = K (.ex 0) (lPlays_E4 room clock' ord' (refL es' ord') es') := by
  intro n
  induction n with
  | zero => intro i _ _ _ hi h; omega
  | succ n ih =>
    intro i clock es ord hi hn hm hl hc0 hc1
    have hlen := hm.len
    have hok := hm.okM' (by omega)
    have hrl := refL_len es ord
    have hokl : okL (refL es ord) = true := refL_ok es ord (by omega)
    rw [lPlays_r0]
    by_cases hlt : i < acts.length
    · have hget : acts[i]? = some acts[i] := List.getElem?_eq_getElem hlt
      obtain ⟨k, at_, s, y, he⟩ := act_parts (ha _ (List.getElem_mem hlt))
      rw [he] at hget
      have d1 : decide ((i : Int) < (acts.length : Int)) = true := by simpa using hlt
      have d2 : decide ((0 : Int) ≤ (i : Int)) = true := by simp
      have next : ∀ (clock' : Int) (es' : Ents) (ord' : Row), MI clock' es' ord' → (es'.length : Int) ≤ room → 0 ≤ clock' → clock' ≤ (i : Int) + 1 →
          ∃ c2 e2 o2, MI c2 e2 o2 ∧ (e2.length : Int) ≤ room ∧ restB mfC K F n room acts room clock' ord' i (refL es' ord') es' s = K (.ex 0) (lPlays_E4 room c2 o2 (refL e2 o2) e2) := by
        intro clock' es' ord' hm' hl' h0' h1'
        obtain ⟨c2, e2, o2, a1, a2, a3⟩ := ih (i + 1) clock' es' ord' (by omega) (by omega) hm' hl' h0' (by omega)
        exact ⟨c2, e2, o2, a1, a2, (rest_ok K F n room acts i es' ord' clock' s hm' (by omega) hF (by omega)).trans a3⟩
      rw [d1, cond_true, d2, cond_true, getT_at rfl hget]
      have q0 : ((List.take 4 [C.int IntKind.i64 k, C.int IntKind.i64 at_, C.str s, C.bool y]).getD 0 C.nf).toInt = k := rfl
      have q1 : ((List.take 4 [C.int IntKind.i64 k, C.int IntKind.i64 at_, C.str s, C.bool y]).getD 1 C.nf).toInt = at_ := rfl
      have q2 : ((List.take 4 [C.int IntKind.i64 k, C.int IntKind.i64 at_, C.str s, C.bool y]).getD 2 C.nf).toStr = s := rfl
      have q3 : ((List.take 4 [C.int IntKind.i64 k, C.int IntKind.i64 at_, C.str s, C.bool y]).getD 3 C.nf).toBool = y := rfl
      simp only [q0, q1, q2, q3]
      change ∃ c2 e2 o2, _ ∧ _ ∧ (bif k == 1 then (bif okM es ord then (bif decide ((0 : Int) ≤ clock ∧ clock < 1000000) && mfC.pk room clock es ord s y then (bif okL (refL es ord) then (bif okM (mfC.pe room clock es ord s y) (mfC.po room clock es ord s y) then (bif okL (mfC.rp (refL es ord) room s y) then
            restB mfC K F n room acts room (clock + 1) (mfC.po room clock es ord s y) i (mfC.rp (refL es ord) room s y) (mfC.pe room clock es ord s y) s else none) else none) else none) else none) else none)
        else (bif k == 3 then (bif okM es ord then (bif ord.isEmpty then (bif !(false == decide (((refL es ord).length : Int) > 0)) then _ else (bif decide (((refL es ord).length : Int) > 0) then _ else (bif okM es ord then (bif okL (refL es ord) then restB mfC K F n room acts room clock ord i (refL es ord) es s else none) else none)))
            else (bif !(true == decide (((refL es ord).length : Int) > 0)) then _ else (bif decide (((refL es ord).length : Int) > 0) then (bif IntKind.u64.wrap ((refL es ord).length : Int) == 0 then none else (bif decide ((0 : Int) ≤ IntKind.i64.wrap ((IntKind.u64.wrap at_).tmod (IntKind.u64.wrap ((refL es ord).length : Int))) ∧ IntKind.i64.wrap ((IntKind.u64.wrap at_).tmod (IntKind.u64.wrap ((refL es ord).length : Int))) < ((refL es ord).length : Int)) && okL (refL es ord) then
                (bif okM (mapDel [C.str (mfC.ki ord (mfC.di at_ ord.length))] es) (ord.eraseIdx (mfC.di at_ ord.length)) then (bif okL ((refL es ord).eraseIdx (IntKind.i64.wrap ((IntKind.u64.wrap at_).tmod (IntKind.u64.wrap ((refL es ord).length : Int)))).toNat) then
                  restB mfC K F n room acts room clock (ord.eraseIdx (mfC.di at_ ord.length)) i ((refL es ord).eraseIdx (IntKind.i64.wrap ((IntKind.u64.wrap at_).tmod (IntKind.u64.wrap ((refL es ord).length : Int)))).toNat) (mapDel [C.str (mfC.ki ord (mfC.di at_ ord.length))] es) s
                  else none) else none) else none)) else _))) else none)
          else (bif k == 4 then (bif okM es ord then lPlays_L1 mfC (lPlays_K1 mfC K F n) F F room acts i [] 0 [] [] [] room clock 0 else none) else (bif okM es ord then (bif okL (refL es ord) then restB mfC K F n room acts room clock ord i (refL es ord) es s else none) else none)))) = _
      cases hk : k == 1 with
      | true =>
        obtain ⟨es', ord', hput, hres⟩ := put_res hm hr0 hl s y
        have hpe : mfC.pe room clock es ord s y = es' := by simp only [mfC]; rw [hput]
        have hpo : mfC.po room clock es ord s y = ord' := by simp only [mfC]; rw [hput]
        have hpk : mfC.pk room clock es ord s y = true := by
          simp only [mfC]; rw [hput]
          have a1 : decide (ord.length < 900000) = true := decide_eq_true (by omega)
          have a2 : decide (es.length < 900000) = true := decide_eq_true (by omega)
          rw [a1, a2]; rfl
        have hrp : mfC.rp (refL es ord) room s y = refL es' ord' := ref_put hm hres
        have hle' := hres.le
        have hlen' := hres.mi.len
        have d5 : decide ((0 : Int) ≤ clock ∧ clock < 1000000) = true := by simp only [decide_eq_true_eq]; omega
        rw [cond_true, hok, cond_true, d5, hpk, Bool.and_self, cond_true, hokl, cond_true, hpe, hpo, hrp, hres.mi.okM' (by omega), cond_true, refL_ok es' ord' (by omega), cond_true]
        exact next (clock + 1) es' ord' hres.mi hres.le (by omega) (by omega)
      | false =>
        have hstay := next clock es ord hm hl hc0 (by omega)
        rw [cond_false]
        cases hk3 : k == 3 with
        | true =>
          rw [cond_true, hok, cond_true, hrl]
          cases hoe : ord.isEmpty with
          | true =>
            have : ord = [] := List.isEmpty_iff.1 hoe
            have d6 : decide ((ord.length : Int) > 0) = false := by rw [this]; rfl
            rw [cond_true, d6, hokl]
            exact hstay
          | false =>
            have hne : 0 < ord.length := by
              cases ord with
              | nil => cases hoe
              | cons e r => simp
            have d6 : decide ((ord.length : Int) > 0) = true := by simp; omega
            have hw : IntKind.u64.wrap (ord.length : Int) = ord.length := by rw [wrapU]; omega
            have d7 : ((ord.length : Int) == 0) = false := beq_eq_false_iff_ne.2 (by omega)
            have hdi : (mfC.di at_ ord.length : Int) = (IntKind.u64.wrap at_).tmod ord.length ∧ mfC.di at_ ord.length < ord.length := by
              have hnn : 0 ≤ IntKind.u64.wrap at_ := by rw [wrapU]; omega
              have h1 : (IntKind.u64.wrap at_).tmod ord.length = (IntKind.u64.wrap at_) % ord.length := Int.tmod_eq_emod_of_nonneg hnn
              have h2 := Int.emod_nonneg (IntKind.u64.wrap at_) (b := (ord.length : Int)) (by omega)
              have h3 := Int.emod_lt_of_pos (IntKind.u64.wrap at_) (b := (ord.length : Int)) (by omega)
              simp only [mfC, dropI]; rw [h1]; omega
            obtain ⟨hd1, hd2⟩ := hdi
            rw [cond_false, d6, hw, d7, ← hd1]
            generalize mfC.di at_ ord.length = m at *
            have hgo : ord[m]? = some ord[m] := List.getElem?_eq_getElem hd2
            have hki : mfC.ki ord m = kO ord[m] := by
              have : ord.getD m [] = ord[m] := by rw [List.getD_eq_getElem?_getD, hgo]; rfl
              show ((ord.getD m []).getD 0 .nf).toStr = _
              rw [this]; rfl
            rw [hki, w64 _ (by omega) (by omega), getD1]
            generalize ord[m] = e at hgo
            obtain ⟨hm', href⟩ := ref_drop hm hgo
            have hdl := (del_sub (k := [C.str (kO e)]) es).length_le
            have hlen' := hm'.len
            have d8 : decide ((0 : Int) ≤ (m : Int) ∧ (m : Int) < (ord.length : Int)) = true := by simp only [decide_eq_true_eq]; omega
            rw [d8, hokl, hm'.okM' (by omega), ← href, refL_ok _ (ord.eraseIdx m) (by omega)]
            exact next clock _ _ hm' (by omega) hc0 (by omega)
        | false =>
          rw [cond_false]
          cases hk4 : k == 4 with
          | true =>
            rw [cond_true, hok, cond_true]
            have hm0 : MI clock [] [] := ⟨fun _ h => (by cases h), fun _ h => (by cases h), fun _ h => (by cases h), List.nodup_nil, List.nodup_nil, rfl, fun k h => (by cases h), fun _ h => (by cases h)⟩
            obtain ⟨c2, e2, o2, a1, a2, a3⟩ := ih (i + 1) clock [] [] (by omega) (by omega) hm0 (by simpa using hr0) hc0 (by omega)
            refine ⟨c2, e2, o2, a1, a2, ?_⟩
            have h := lPlays_keys (lPlays_K1 mfC K F n) F room acts i [] [] clock (by simp) F 0 [] (by simp) (by simp; omega) rfl rfl
            refine Eq.trans (Eq.trans (by rfl) h) ?_
            rw [lPlays_c3, w64 _ (by omega) (by omega)]
            exact a3
          | false =>
            rw [cond_false, hok, cond_true, hokl, cond_true]; exact hstay
    · have : i = acts.length := by omega
      subst this
      have d1 : decide ((acts.length : Int) < (acts.length : Int)) = false := by simp
      rw [d1, cond_false]
      exact ⟨clock, es, ord, hm, hl, rfl⟩
theorem lPlays_run (room : Int) (acts : Row) (ha : ∀ e ∈ acts, actOk e = true) : runFn (lPlays_cf mfC) 1002 Try.f4 (bd Try.f4) [vi room, vc (C.sl (4 : Nat) acts)] [] fin2 = some (vb true, []) := by
  rw [lPlays_start]
  by_cases hl : (acts.length : Int) > 200
  · rw [decide_eq_true hl]; rfl
  · rw [decide_eq_false hl, cond_false]
    by_cases h0 : 0 ≤ room
    · by_cases h1 : room ≤ 1000
      · have d1 : decide ((0 : Int) ≤ room ∧ room ≤ 1000) = true := decide_eq_true ⟨h0, h1⟩
        have d2 : decide (room ≥ (0 : Int)) = true := decide_eq_true h0
        have d3 : decide (room ≤ (1000 : Int)) = true := decide_eq_true h1
        rw [d1, cond_true, d2, cond_true, d3]
        obtain ⟨c2, e2, o2, a1, a2, a3⟩ := lPlays_loop (lPlays_K0 mfC fin2 1002) 1002 acts room ha (by omega) h0 h1 (by omega) 1002 0 0 [] [] (by omega) (by omega) MI.nil (by simpa using h0) (by omega) (by omega)
        refine Eq.trans (Eq.trans (by rfl) a3) ?_
        rw [lPlays_c4, a1.okM' (by omega), cond_true, refL_len, a1.len]
        simp
      · have d1 : decide ((0 : Int) ≤ room ∧ room ≤ 1000) = false := decide_eq_false (fun h => h1 h.2)
        have d2 : decide (room ≥ (0 : Int)) = true := decide_eq_true h0
        have d3 : decide (room ≤ (1000 : Int)) = false := decide_eq_false h1
        rw [d1, cond_false, d2, cond_true, d3]; rfl
    · have d1 : decide ((0 : Int) ≤ room ∧ room ≤ 1000) = false := decide_eq_false (fun h => h0 h.1)
      have d2 : decide (room ≥ (0 : Int)) = false := decide_eq_false h0
      rw [d1, cond_false, d2]; rfl
end Go.Proofs.Ythfjmmhigapkpaa
