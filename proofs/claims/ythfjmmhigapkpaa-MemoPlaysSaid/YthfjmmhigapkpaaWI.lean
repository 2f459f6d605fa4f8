/- Vm, part I: each operation of the interpreter is the model's (4): append. -/
import Derived.Test.YthfjmmhigapkpaaWF
import Derived.Laws.IdiomCopy
import Derived.Lib.Strings
namespace Vm
open Go

section
variable {P : Program} (w : World)

/-- what append onto a slice of the call's own comes to: written in place, or a new row -/
def AppEnd (e : TypeId) (sz : Nat) (v : Value) (n : Nat) (xs : List Value) (w w' : World) (v' : Value) : Prop :=
  OwnR w' e sz v' n xs ∧ ((v'.ownBlock = v.ownBlock ∧ Value.base v' = Value.base v ∧ w.grownBy w' v.ownBlock) ∨ (v'.ownBlock = some w.heap.size ∧ w.grownBy w' none))

theorem app_new {e : TypeId} {sz n cap : Nat} {v : Value} {all : List Value} {zs : Array Value} (hl : all.length = n * sz) (hcap : n ≤ cap) (hm : cap ≤ maxLen) (hz : zs.size = (cap - n) * sz) :
    AppEnd e sz v n all w (w.drew.alloc (.cells (all.toArray ++ zs) e)) (.slice (some ⟨w.heap.size, 0, none⟩) n cap) := by
  refine ⟨⟨hl, .inr ⟨w.heap.size, 0, cap, _, rfl, heap_alloc_new w.drew _, hcap, hm, ?_, ?_⟩⟩, .inr ⟨rfl, ⟨rfl, rfl, rfl, by simp, fun k hk _ => heap_alloc_old w.drew _ k hk⟩⟩⟩
  · simp only [Array.size_append, List.size_toArray, hl, hz]
    rw [← Nat.add_mul, Nat.zero_add]; apply Nat.le_of_eq; congr 1; omega
  · simp only [Array.toList_append, List.drop_zero]
    rw [← hl]; exact List.take_left

theorem app_room {e : TypeId} {sz n m cap g o : Nat} {cur : Array Value} {xs news : List Value} (hh : w.heap[g]? = some (.cells cur e (0, 0))) (hl : xs.length = n * sz) (hn : news.length = m * sz)
    (hroom : n + m ≤ cap) (hm : cap ≤ maxLen) (hcs : o + cap * sz ≤ cur.size) (ht : (cur.toList.drop o).take (n * sz) = xs) :
    AppEnd e sz (.slice (some ⟨g, o, none⟩) n cap) (n + m) (xs ++ news) w (w.setRow g (cur.toList.take (o + n * sz) ++ news ++ cur.toList.drop (o + n * sz + news.length)).toArray) (.slice (some ⟨g, o, none⟩) (n + m) cap) := by
  have hle : n * sz + m * sz ≤ cap * sz := by rw [← Nat.add_mul]; exact Nat.mul_le_mul_right _ hroom
  have hcl : cur.toList.length = cur.size := by simp
  refine ⟨⟨by simp [hl, hn, Nat.add_mul], .inr ⟨g, o, cap, _, rfl, setRow_heap w g cur _ e (0, 0) hh, hroom, hm, ?_, ?_⟩⟩,
    .inl ⟨rfl, rfl, ⟨rfl, rfl, rfl, by simp, fun k _ hk => setRow_other w g k _ (fun e => hk (by simp [Value.ownBlock, e]))⟩⟩⟩
  · simp only [List.size_toArray, List.length_append, List.length_take, List.length_drop, hcl, hn]
    omega
  · apply List.ext_getElem?
    intro q
    have hx : ∀ q, q < n * sz → cur.toList[o + q]? = xs[q]? := fun q hq => by rw [← ht, List.getElem?_take, if_pos hq, List.getElem?_drop]
    rw [List.getElem?_take, Nat.add_mul]
    by_cases hq : q < n * sz + m * sz
    · rw [if_pos hq, List.getElem?_drop, splice_get (by omega)]
      by_cases h2 : q < n * sz
      · rw [if_neg (by omega), hx q h2, List.getElem?_append_left (by omega)]
      · rw [if_pos (by omega), List.getElem?_append_right (by omega)]
        congr 1; omega
    · rw [if_neg hq, List.getElem?_eq_none (by simp only [List.length_append]; omega)]

/-- append in place, wherever the row begins -/
theorem room_sl {t ty e : TypeId} {i : TypeInfo} (ht : P.underlying t = some (.slice e)) (hi : P.info? e = some i)
    {g o n cap : Nat} {cur : Array Value} (hg : w.heap[g]? = some (.cells cur e (0, 0)))
    {a : Addr} {m c : Nat} {news : List Value} (hl : news.length = m * i.size) (hnews : ∀ (j : Nat) u, news[j]? = some u → w.cell? (a.add j) = some u) (h1 : ∀ u ∈ news, u.oneCell' = true)
    (hroom : n + m ≤ cap) (hfit : o + n * i.size + news.length ≤ cur.size) :
    (Builtin.append_ #[t, t] ty #[.slice (some ⟨g, o, none⟩) n cap, .slice (some a) m c]).run P w =
      .ok (.slice (some ⟨g, o, none⟩) (n + m) cap) (w.setRow g (cur.toList.take (o + n * i.size) ++ news ++ cur.toList.drop (o + n * i.size + news.length)).toArray) := by
  have hf : (Builtin.firstCells i.size m (.slice (some a) m c)).run P w = .ok news.toArray w := by
    unfold Builtin.firstCells
    rw [← hl]; exact run_loadCells_list w a news hnews
  have hst := run_storeCells_at P g (o + n * i.size) e news 0 cur w hg (by simpa using hfit) h1
  simp only [Nat.add_zero] at hst
  simp [Builtin.append_, run_underlying ht, Go.sizeOf, typeInfo, hi, Builtin.lenOf, hroom, hf, add_plain', hst]
theorem room_st {t ty e : TypeId} {i : TypeInfo} (ht : P.underlying t = some (.slice e)) (hi : P.info? e = some i)
    {g o n cap : Nat} {a : Addr} {m c : Nat} {news : List Value} (hl : news.length = m * i.size) (hnews : ∀ (j : Nat) u, news[j]? = some u → w.cell? (a.add j) = some u)
    (hroom : n + m ≤ cap) {w' : World} (hst : (storeCells ⟨g, o + n * i.size, none⟩ news).run P w = .ok () w') :
    (Builtin.append_ #[t, t] ty #[.slice (some ⟨g, o, none⟩) n cap, .slice (some a) m c]).run P w = .ok (.slice (some ⟨g, o, none⟩) (n + m) cap) w' := by
  have hf : (Builtin.firstCells i.size m (.slice (some a) m c)).run P w = .ok news.toArray w := by
    unfold Builtin.firstCells
    rw [← hl]; exact run_loadCells_list w a news hnews
  simp [Builtin.append_, run_underlying ht, Go.sizeOf, typeInfo, hi, Builtin.lenOf, hroom, hf, add_plain', hst]
theorem room_zero {t ty e : TypeId} {i : TypeInfo} (ht : P.underlying t = some (.slice e)) (hi : P.info? e = some i)
    {ad : Addr} {n cap : Nat} {A : Option Addr} {c : Nat} (hroom : n ≤ cap) :
    (Builtin.append_ #[t, t] ty #[.slice (some ad) n cap, .slice A 0 c]).run P w = .ok (.slice (some ad) n cap) w := by
  cases A <;> simp [Builtin.append_, run_underlying ht, Go.sizeOf, typeInfo, hi, Builtin.lenOf, Builtin.firstCells, hroom, loadCells, loadCellsFrom, storeCells]
theorem room_str {t u ty e : TypeId} {i : TypeInfo} (ht : P.underlying t = some (.slice e)) (hu : P.underlying u = some .string) (hi : P.info? e = some i) (hs1 : i.size = 1)
    {g o n cap : Nat} {cur : Array Value} (hg : w.heap[g]? = some (.cells cur e (0, 0))) (s : ByteArray)
    (hroom : n + s.size ≤ cap) (hfit : o + n + s.size ≤ cur.size) :
    (Builtin.append_ #[t, u] ty #[.slice (some ⟨g, o, none⟩) n cap, .string s]).run P w =
      .ok (.slice (some ⟨g, o, none⟩) (n + s.size) cap) (w.setRow g (cur.toList.take (o + n) ++ Lib.strCells s ++ cur.toList.drop (o + n + (Lib.strCells s).length)).toArray) := by
  have hf := Lib.run_firstCells_string (P := P) w 1 s
  have hst := run_storeCells_at P g (o + n) e (Lib.strCells s) 0 cur w hg (by simpa [Lib.strCells_length] using hfit) (Lib.strCells_oneCell s)
  simp only [Nat.add_zero] at hst
  simp [Builtin.append_, run_underlying ht, run_underlying hu, Go.sizeOf, typeInfo, hi, hs1, Builtin.lenOf, hroom, hf, add_plain', hst]

theorem run_append_nothing {t ty e : TypeId} {i : TypeInfo} (ht : P.underlying t = some (.slice e)) (hi : P.info? e = some i)
    {v : Value} {n c : Nat} {sz : Nat} {xs : List Value} (hown : OwnR w e sz v n xs) : (Builtin.append_ #[t, t] ty #[v, .slice none 0 c]).run P w = .ok v w := by
  rcases hown.2 with ⟨rfl, rfl⟩ | ⟨g, o, cap, cur, rfl, _, hnc, _⟩
  · simp [Builtin.append_, run_underlying ht, Go.sizeOf, typeInfo, hi, Builtin.lenOf, Builtin.firstCells]
  · simp [Builtin.append_, run_underlying ht, Go.sizeOf, typeInfo, hi, Builtin.lenOf, Builtin.firstCells, hnc, storeCells]

theorem app_same {e : TypeId} {sz n : Nat} {v : Value} {xs : List Value} (hown : OwnR w e sz v n xs) : AppEnd e sz v n xs w w v :=
  ⟨hown, .inl ⟨rfl, rfl, World.grownBy.refl w _⟩⟩

theorem append_sl {t ty e : TypeId} {i : TypeInfo} {z : Value} (ht : P.underlying t = some (.slice e)) (hi : P.info? e = some i) (hz : i.zero = some z) (hzs : z.cells.size = i.size)
    {v : Value} {n : Nat} {xs : List Value} (hown : OwnR w e i.size v n xs) {A : Option Addr} {m c : Nat} (hA : 0 < m → ∃ a, A = some a) {news : List Value} (hl : news.length = m * i.size)
    (hnews : ∀ a, A = some a → ∀ (j : Nat) u, news[j]? = some u → w.cell? (a.add j) = some u) (h1 : ∀ u ∈ news, u.oneCell' = true)
    (h63 : n + m ≤ 9223372036854775807) (hbytes : (n + m) * i.bytes ≤ 140737488355328) :
    ∃ v' w', (Builtin.append_ #[t, t] ty #[v, .slice A m c]).run P w = .ok v' w' ∧ AppEnd e i.size v (n + m) (xs ++ news) w w' v' := by
  by_cases hA0 : A = none
  · have hm : m = 0 := by
      rcases Nat.eq_zero_or_pos m with h | h
      · exact h
      · obtain ⟨a, ha⟩ := hA h; rw [hA0] at ha; cases ha
    subst hm hA0
    have hn : news = [] := List.eq_nil_of_length_eq_zero (by simpa using hl)
    subst hn
    exact ⟨v, w, run_append_nothing w ht hi hown, by simpa using app_same w hown⟩
  · obtain ⟨a, rfl⟩ : ∃ a, A = some a := by cases A with | none => exact absurd rfl hA0 | some a => exact ⟨a, rfl⟩
    have hnews := hnews a rfl
    rcases hown.2 with ⟨rfl, rfl⟩ | ⟨g, o, cap, cur, rfl, hg, hnc, hcm, hcs, htake⟩
    · have hx : xs = [] := List.eq_nil_of_length_eq_zero (by simpa using hown.1)
      subst hx
      by_cases hm : m = 0
      · subst hm
        have hn : news = [] := List.eq_nil_of_length_eq_zero (by simpa using hl)
        subst hn
        refine ⟨.slice none 0 0, w, ?_, by simpa using app_same w hown⟩
        simp [Builtin.append_, run_underlying ht, Go.sizeOf, typeInfo, hi, Builtin.lenOf, Builtin.firstCells, loadCells, loadCellsFrom]
      · have hge := grownCap_ge w m 0 e
        have hcm : grownCap w m 0 e ≤ maxLen := grownCap_le_maxLen w m 0 e (by simp only [maxLen]; omega)
        have h2 : m * i.bytes ≤ 140737488355328 := by simpa using hbytes
        refine ⟨_, _, run_append_nil (P := P) w t ty e i z ht hi hz a m c news hl hnews (by omega) (by omega) (by omega), ?_⟩
        have := app_new (v := .slice none 0 0) w (e := e) (sz := i.size) (n := m) (cap := grownCap w m 0 e) (all := news) (zs := Builtin.zeroCells z.cells (grownCap w m 0 e - m)) hl hge hcm (by rw [size_zeroCells, hzs])
        simpa using this
    · by_cases hroom : n + m ≤ cap
      · have hle : n * i.size + m * i.size ≤ cap * i.size := by rw [← Nat.add_mul]; exact Nat.mul_le_mul_right _ hroom
        exact ⟨_, _, room_sl (P := P) w ht hi hg hl hnews h1 hroom (by rw [hl]; omega), app_room w hg hown.1 hl hroom hcm hcs htake⟩
      · have hge := grownCap_ge w (n + m) cap e
        have hcm' : grownCap w (n + m) cap e ≤ maxLen := grownCap_le_maxLen w (n + m) cap e (by simp only [maxLen]; omega)
        refine ⟨_, _, run_append_grow (P := P) w t ty e i z ht hi hz ⟨g, o, none⟩ n cap xs hown.1 (fun j u hj => by rw [add_plain']; exact own_cells hown (k := g) rfl j u hj) a m c news hl hnews (by omega) (by omega)
          (growslice_fits (by omega) hbytes), ?_⟩
        have := app_new (v := .slice (some ⟨g, o, none⟩) n cap) w (e := e) (sz := i.size) (n := n + m) (cap := grownCap w (n + m) cap e) (all := xs ++ news) (zs := Builtin.zeroCells z.cells (grownCap w (n + m) cap e - (n + m)))
          (by simp [hown.1, hl, Nat.add_mul]) hge hcm' (by rw [size_zeroCells, hzs])
        simpa [List.append_toArray] using this

theorem append_es {t ty e : TypeId} {i : TypeInfo} {z : Value} (ht : P.underlying t = some (.slice e)) (hi : P.info? e = some i) (hz : i.zero = some z) (hzs : z.cells.size = i.size)
    {A0 : Option Addr} {A : Option Addr} {m c : Nat} (hA : 0 < m → ∃ a, A = some a) {news : List Value} (hl : news.length = m * i.size)
    (hnews : ∀ a, A = some a → ∀ (j : Nat) u, news[j]? = some u → w.cell? (a.add j) = some u)
    (h63 : m ≤ 9223372036854775807) (hbytes : m * i.bytes ≤ 140737488355328) :
    (m = 0 → (Builtin.append_ #[t, t] ty #[.slice A0 0 0, .slice A m c]).run P w = .ok (.slice A0 0 0) w) ∧
    (0 < m → ∃ v' w', (Builtin.append_ #[t, t] ty #[.slice A0 0 0, .slice A m c]).run P w = .ok v' w' ∧ AppEnd e i.size (.slice none 0 0) m news w w' v') := by
  refine ⟨fun hm => ?_, fun hm => ?_⟩
  · subst hm
    cases A0 <;> cases A <;> simp [Builtin.append_, run_underlying ht, Go.sizeOf, typeInfo, hi, Builtin.lenOf, Builtin.firstCells, loadCells, loadCellsFrom, storeCells]
  · obtain ⟨a, rfl⟩ := hA hm
    have hnews := hnews a rfl
    cases A0 with
    | none =>
      have hge := grownCap_ge w m 0 e
      have hcm : grownCap w m 0 e ≤ maxLen := grownCap_le_maxLen w m 0 e (by simp only [maxLen]; omega)
      refine ⟨_, _, run_append_nil (P := P) w t ty e i z ht hi hz a m c news hl hnews (by omega) (by omega) (by omega), ?_⟩
      have := app_new (v := .slice none 0 0) w (e := e) (sz := i.size) (n := m) (cap := grownCap w m 0 e) (all := news) (zs := Builtin.zeroCells z.cells (grownCap w m 0 e - m)) hl hge hcm (by rw [size_zeroCells, hzs])
      simpa using this
    | some a0 =>
      have hge := grownCap_ge w (0 + m) 0 e
      have hcm' : grownCap w (0 + m) 0 e ≤ maxLen := grownCap_le_maxLen w (0 + m) 0 e (by simp only [maxLen]; omega)
      refine ⟨_, _, run_append_grow (P := P) w t ty e i z ht hi hz a0 0 0 [] (by simp) (fun j u hj => by simp at hj) a m c news hl hnews (by omega) (by omega)
        (growslice_fits (by omega) (by rw [Nat.zero_add]; exact hbytes)), ?_⟩
      have := app_new (v := .slice none 0 0) w (e := e) (sz := i.size) (n := 0 + m) (cap := grownCap w (0 + m) 0 e) (all := news) (zs := Builtin.zeroCells z.cells (grownCap w (0 + m) 0 e - (0 + m)))
        (by simp [hl]) hge hcm' (by rw [size_zeroCells, hzs])
      simpa [List.append_toArray] using this

theorem append_str {t u ty e : TypeId} {i : TypeInfo} {z : Value} (ht : P.underlying t = some (.slice e)) (hu : P.underlying u = some .string) (hi : P.info? e = some i) (hz : i.zero = some z) (hzs : z.cells.size = i.size) (hs1 : i.size = 1)
    {v : Value} {n : Nat} {xs : List Value} (hown : OwnR w e i.size v n xs) (s : ByteArray)
    (h63 : n + s.size ≤ 9223372036854775807) (hbytes : (n + s.size) * i.bytes ≤ 140737488355328) :
    ∃ v' w', (Builtin.append_ #[t, u] ty #[v, .string s]).run P w = .ok v' w' ∧ AppEnd e i.size v (n + s.size) (xs ++ Lib.strCells s) w w' v' := by
  have hl : (Lib.strCells s).length = s.size * i.size := by rw [Lib.strCells_length, hs1, Nat.mul_one]
  rcases hown.2 with ⟨rfl, rfl⟩ | ⟨g, o, cap, cur, rfl, hg, hnc, hcm, hcs, htake⟩
  · have hx : xs = [] := List.eq_nil_of_length_eq_zero (by simpa using hown.1)
    subst hx
    by_cases hm : s.size = 0
    · have hn : Lib.strCells s = [] := List.eq_nil_of_length_eq_zero (by rw [Lib.strCells_length, hm])
      rw [hn, hm]
      refine ⟨.slice none 0 0, w, ?_, by simpa using app_same w hown⟩
      simp [Builtin.append_, run_underlying ht, run_underlying hu, Go.sizeOf, typeInfo, hi, Builtin.lenOf, Builtin.firstCells, hm]
    · have hge := grownCap_ge w s.size 0 e
      have hcm : grownCap w s.size 0 e ≤ maxLen := grownCap_le_maxLen w s.size 0 e (by simp only [maxLen]; omega)
      have h2 : s.size * i.bytes ≤ 140737488355328 := by simpa using hbytes
      refine ⟨_, _, run_append_nil_string (P := P) w t u ty e i z ht hu hi hz s (by omega) (by omega) (by omega), ?_⟩
      have := app_new (v := .slice none 0 0) w (e := e) (sz := i.size) (n := s.size) (cap := grownCap w s.size 0 e) (all := Lib.strCells s) (zs := Builtin.zeroCells z.cells (grownCap w s.size 0 e - s.size)) hl hge hcm (by rw [size_zeroCells, hzs])
      have he : (Lib.strCells s).toArray = s.data.map (fun b => Value.int .u8 b.toNat) := by apply Array.ext'; simp [Lib.strCells]
      rw [he] at this
      simpa using this
  · by_cases hroom : n + s.size ≤ cap
    · have hle : n * i.size + s.size * i.size ≤ cap * i.size := by rw [← Nat.add_mul]; exact Nat.mul_le_mul_right _ hroom
      have hfit : o + n + s.size ≤ cur.size := by
        have h1 : o + cap ≤ cur.size := by simpa [hs1] using hcs
        omega
      have hr := room_str (P := P) (ty := ty) (o := o) (cap := cap) (n := n) w ht hu hi hs1 hg s hroom hfit
      refine ⟨_, _, hr, ?_⟩
      have := app_room (news := Lib.strCells s) w hg hown.1 hl hroom hcm hcs htake
      rw [hs1, Nat.mul_one] at this
      rw [hs1]; exact this
    · have hge := grownCap_ge w (n + s.size) cap e
      have hcm' : grownCap w (n + s.size) cap e ≤ maxLen := grownCap_le_maxLen w (n + s.size) cap e (by simp only [maxLen]; omega)
      refine ⟨_, _, Lib.run_append_grow_string (P := P) w t u ty e i z ht hu hi hz ⟨g, o, none⟩ n cap xs hown.1 (fun j u hj => by rw [add_plain']; exact own_cells hown (k := g) rfl j u hj) s (by omega) (by omega)
        (growslice_fits (by omega) hbytes), ?_⟩
      have := app_new (v := .slice (some ⟨g, o, none⟩) n cap) w (e := e) (sz := i.size) (n := n + s.size) (cap := grownCap w (n + s.size) cap e) (all := xs ++ Lib.strCells s) (zs := Builtin.zeroCells z.cells (grownCap w (n + s.size) cap e - (n + s.size)))
        (by simp [hown.1, hl, Nat.add_mul]) hge hcm' (by rw [size_zeroCells, hzs])
      simpa [List.append_toArray] using this
end

section
variable {P : Program} {cf : Cfg} {S0 : Addr → Option Value} {w0 : World} {O : Nat → Prop} (cx : Ctx P cf S0 w0 O)
variable {g0 g : G} {st : St} {a : Act} {w : World}
variable {R : Type} {dr : Bool} {o : Oper} {k : St → Option R} {r : R} {next : Act → World → Prop} {Q : Exit → Act → World → Prop}

/-- a box over a row of one's own -/
theorem row_arr {bx : Bx} (hm : RelM w0 S0 O g bx w) {w' : World} {v v' : Value} {e : TypeId} {sz : Nat} (hsz : 0 < sz) (mt : Bool) {els : List (List C)} {xs : List Value}
    (hfree : ∀ (n : Nat) y kk, bx[n]? = some (some y) → blk g n y = some kk → v.ownBlock ≠ some kk) (hlow : ∀ kk, v.ownBlock = some kk → w0.heap.size ≤ kk ∨ O kk)
    (hold : ∀ kk, v.ownBlock = some kk → ∀ off sp u, g.S ⟨kk, off, sp⟩ = some u → mt = false ∧ sp = none ∧ Value.base v ≤ off ∧ xs[off - Value.base v]? = some u)
    (hend : AppEnd e sz v els.length xs w w' v') (hflat : Flat g.S sz els xs) :
    ∃ g', Ext g g' ∧ RelM w0 S0 O g' (bx ++ [some (.arr mt (some e) sz els)]) w' ∧ RelW g' (.arr bx.length) v' ∧
      (mt = false → RelM w0 S0 O { g with S := g'.S } bx w' ∧ RelC g'.S (.sl sz els) v') := by
  obtain ⟨hown, hblk⟩ := hend
  -- the row that turns
  let row : Option Nat := if v'.ownBlock = v.ownBlock then v.ownBlock else none
  have hg : w.grownBy w' row := by
    rcases hblk with ⟨h1, _, h2⟩ | ⟨h1, h2⟩
    · simp only [row, h1, if_true]; exact h2
    · by_cases he : v'.ownBlock = v.ownBlock
      · simp only [row, he, if_true]; exact ⟨h2.os, h2.tape, h2.output, h2.size, fun k hk _ => h2.block k hk (by simp)⟩
      · simp only [row, he, if_false]; exact h2
  have hrow : ∀ kk, row = some kk → v.ownBlock = some kk ∧ v'.ownBlock = some kk := by
    intro kk hk
    simp only [row] at hk
    split at hk
    · rename_i he; exact ⟨hk, he.trans hk⟩
    · cases hk
  have hcell : ∀ kk, v'.ownBlock = some kk → ∀ (j : Nat) u, xs[j]? = some u → w'.cell? ⟨kk, Value.base v' + j, none⟩ = some u := fun kk hk => own_cells hown hk
  have hv'S : ∀ kk, v'.ownBlock = some kk → ∀ off sp u, g.S ⟨kk, off, sp⟩ = some u → mt = false ∧ sp = none ∧ Value.base v' ≤ off ∧ xs[off - Value.base v']? = some u := by
    intro kk hk off sp u hu
    rcases hblk with ⟨h1, h2, _⟩ | ⟨h1, _⟩
    · rw [h2]; exact hold kk (h1 ▸ hk) off sp u hu
    · rw [h1] at hk; cases hk; have := hm.S_lt hu; simp at this
  have hone : v'.oneCell' = true := by rcases hown.2 with ⟨rfl, _⟩ | ⟨gb, o, cap, cur, rfl, _⟩ <;> rfl
  let S' : Addr → Option Value := bif mt then g.S else withRow g.S v' xs
  have hS' : ∀ ad u, g.S ad = some u → S' ad = some u := by
    intro ad u hu
    cases hmt : mt with
    | true => simp only [S', hmt]; exact hu
    | false => simp only [S', hmt]; exact withRow_sub ad u hu
  have hnew : ∀ ad u, S' ad = some u → g.S ad = some u ∨ (mt = false ∧ v'.ownBlock = some ad.block ∧ ad.spot = none ∧ Value.base v' ≤ ad.off ∧ xs[ad.off - Value.base v']? = some u) := by
    intro ad u hu
    cases hmt : mt with
    | true => simp only [S', hmt] at hu; exact .inl hu
    | false =>
      simp only [S', hmt, cond_false, withRow] at hu
      cases hS : g.S ad with
      | some q => rw [hS] at hu; exact .inl hu
      | none =>
        rw [hS] at hu; simp only at hu
        split at hu
        · rename_i hc; exact .inr ⟨rfl, hc.1, hc.2.1, hc.2.2, hu⟩
        · cases hu
  have hcell' : ∀ ad : Addr, ad.spot = none → Value.base v' ≤ ad.off → (⟨ad.block, Value.base v' + (ad.off - Value.base v'), none⟩ : Addr) = ad := by
    intro ad h h2
    cases ad with
    | mk bl off sp => simp only at h h2 ⊢; subst h; congr 1; omega
  have hstable : mt = false → RelC S' (.sl sz els) v' := by
    intro hf
    subst hf
    exact row_rel hown (hflat.mono hS') (fun kk hk j u hu => by
      simp only [S', cond_false, withRow]
      cases hS : g.S ⟨kk, Value.base v' + j, none⟩ with
      | some q =>
        have := (hv'S kk hk _ none q hS).2.2.2
        rw [Nat.add_sub_cancel_left] at this
        rw [this] at hu; simp [hu]
      | none => simp only [hk]; rw [if_pos ⟨trivial, trivial, by omega⟩, Nat.add_sub_cancel_left]; exact hu)
  have hforget := hm.stepS (S' := S') hg (fun kk hk => hlow kk (hrow kk hk).1) hS' (fun ad u hu => by
      rcases hnew ad u hu with h4 | ⟨_, h4, h5, h5b, h6⟩
      · exact .inl h4
      · refine .inr ⟨by have := hcell ad.block h4 _ u h6; rwa [hcell' ad h5 h5b] at this, ?_⟩
        rcases hblk with ⟨h1, _⟩ | ⟨h1, _⟩
        · left; simp only [row, h1, if_true]; rw [← h1]; exact h4
        · right; rw [h1] at h4; simp at h4; omega) (fun ad u hu hr => by
      obtain ⟨h4, h5⟩ := hrow ad.block hr
      obtain ⟨_, h6, h6b, h7⟩ := hv'S ad.block h5 ad.off ad.spot u hu
      have := hcell ad.block h5 _ u h7; rwa [hcell' ad h6 h6b] at this) (fun n y kk hy hk hr => hfree n y kk hy hk (hrow kk hr).1)
  have hmain := hm.boxAdd (x := .arr mt (some e) sz els) (k := 0) (v := v') (S' := S') hg (fun kk hk => hlow kk (hrow kk hk).1) hS' (fun ad u hu => by
      rcases hnew ad u hu with h4 | ⟨_, h4, h5, h5b, h6⟩
      · exact .inl h4
      · refine .inr ⟨by have := hcell ad.block h4 _ u h6; rwa [hcell' ad h5 h5b] at this, ?_⟩
        rcases hblk with ⟨h1, _⟩ | ⟨h1, _⟩
        · left; simp only [row, h1, if_true]; rw [← h1]; exact h4
        · right; rw [h1] at h4; simp at h4; omega) (fun ad u hu hr => by
      obtain ⟨h4, h5⟩ := hrow ad.block hr
      obtain ⟨_, h6, h6b, h7⟩ := hv'S ad.block h5 ad.off ad.spot u hu
      have := hcell ad.block h5 _ u h7; rwa [hcell' ad h6 h6b] at this) (fun n y kk hy hk hr => hfree n y kk hy hk (hrow kk hr).1)
    (by
      have hsl : ({ g.push bx.length 0 v' with S := S' } : G).sl bx.length = v' := by simp [G.push]
      refine ⟨xs, e, fun e0 h => (by cases h; rfl), by rw [hsl]; exact hown, hflat.mono hS', hsz, fun hf => ?_⟩
      rw [hsl]
      exact hstable hf)
    (fun kk hk => by
      simp only [blk, G.push, if_true] at hk
      rcases hblk with ⟨h1, _⟩ | ⟨h1, _⟩
      · left; simp only [row, h1, if_true]; rw [← h1]; exact hk
      · right; rw [h1] at hk; simp at hk; omega)
    (fun kk hk off sp u hu => by
      simp only [blk, G.push, if_true] at hk
      have hoff : mt = false ∧ Value.base v' ≤ off ∧ off - Value.base v' < xs.length := by
        rcases hnew _ u hu with h4 | ⟨h4, _, _, h5, h6⟩
        · obtain ⟨h5, _, h5b, h6⟩ := hv'S kk hk off sp u h4; exact ⟨h5, h5b, lt_of h6⟩
        · exact ⟨h4, h5, lt_of h6⟩
      exact ⟨some e, sz, els, by rw [hoff.1], hoff.2.1, by have := hoff.2; rw [← hflat.1]; omega⟩)
  have hpe : Ext g (g.push bx.length 0 v') := G.push_ext hm.fresh
  exact ⟨{ g.push bx.length 0 v' with S := S' }, ⟨hS', hpe.bx, hpe.sl, hpe.c⟩, hmain, ⟨by simp [G.push], by simp [G.push], hone⟩, fun hf => ⟨hforget, hstable hf⟩⟩

theorem Flat.drop {S : Addr → Option Value} {sz : Nat} {els : List (List C)} {xs : List Value} (h : Flat S sz els xs) (n : Nat) : Flat S sz (els.drop n) (xs.drop (n * sz)) := by
  by_cases hn : n ≤ els.length
  · have := h.part n (els.length - n) (by omega)
    rw [List.take_of_length_le (by simp), List.take_of_length_le (by rw [List.length_drop, h.1, Nat.sub_mul]; exact Nat.le_refl _)] at this
    exact this
  · rw [List.drop_eq_nil_of_le (by omega), List.drop_eq_nil_of_le (by rw [h.1]; exact Nat.mul_le_mul_right _ (by omega))]
    exact Flat.nil _ _
theorem Flat.take {S : Addr → Option Value} {sz : Nat} {els : List (List C)} {xs : List Value} (h : Flat S sz els xs) {n : Nat} (hn : n ≤ els.length) : Flat S sz (els.take n) (xs.take (n * sz)) := by
  have := h.part 0 n (by omega)
  simpa using this
theorem Flat.splice {S : Addr → Option Value} {sz : Nat} {els els2 : List (List C)} {xs ys : List Value} (h : Flat S sz els xs) (h2 : Flat S sz els2 ys) {n : Nat} (hn : n ≤ els.length) :
    Flat S sz (els.take n ++ els2 ++ els.drop (n + els2.length)) (xs.take (n * sz) ++ ys ++ xs.drop (n * sz + ys.length)) := by
  have := ((h.take hn).append h2).append (h.drop (n + els2.length))
  rw [Nat.add_mul, ← h2.1] at this
  exact this

theorem elsOf_rel {bx : Bx} (hm : RelM w0 S0 O g bx w) {v : V} {u : Value} {sz : Nat} {els : List (List C)} (hs : elsOf bx v = some (sz, els)) (hv : RelV g v u) (hsz : 0 < sz) :
    ∃ (A : Option Addr) (cap : Nat) (xs : List Value), u = .slice A els.length cap ∧ (0 < els.length → ∃ a, A = some a) ∧ Flat g.S sz els xs ∧
      (∀ a, A = some a → ∀ (j : Nat) v, xs[j]? = some v → w.cell? (a.add j) = some v) ∧ ∀ v ∈ xs, v.oneCell' = true := by
  match v, hs, hv with
  | .t (.w (.d (.sl sz' els'))), hs, hv =>
    simp only [elsOf, Option.some.injEq, Prod.mk.injEq] at hs
    obtain ⟨rfl, rfl⟩ := hs
    obtain ⟨A, cap, xs, h1, h2, h3, h4, h5⟩ := flat_of_sl hsz hv
    exact ⟨A, cap, xs, h1, h2, h3, fun a ha j v hv => hm.mem _ _ (h4 a ha j v hv), h5⟩
  | .t (.w (.es sz')), hs, hv =>
    simp only [elsOf, Option.some.injEq, Prod.mk.injEq] at hs
    obtain ⟨rfl, rfl⟩ := hs
    obtain ⟨A, rfl⟩ := hv
    exact ⟨A, 0, [], rfl, fun h => by simp at h, ⟨by simp, fun i e h => by simp at h⟩, fun a _ j v h => by simp at h, by simp⟩
  | .t (.w (.arr b)), hs, hv =>
    simp only [elsOf] at hs
    generalize hb : bx.getD b none = bb at hs
    match bb, hs with
    | some (.arr mt e sz' els'), hs =>
      simp only [Option.some.injEq, Prod.mk.injEq] at hs
      obtain ⟨rfl, rfl⟩ := hs
      obtain ⟨_, xs, e', he', hown, hfl, hpos, _⟩ := hm.box b _ (getD_some hb)
      obtain ⟨_, hu, _⟩ := hv
      have hone : ∀ v ∈ xs, v.oneCell' = true := by
        intro v hv
        obtain ⟨j, hj, rfl⟩ := List.getElem_of_mem hv
        rw [hfl.1] at hj
        have h1 : j / sz' < els'.length := Nat.div_lt_of_lt_mul (by rw [Nat.mul_comm]; exact hj)
        obtain ⟨h2, h3⟩ := hfl.2 _ _ (List.getElem?_eq_getElem h1)
        have h4 : j % sz' < (els'[j / sz']'h1).length := by rw [h2]; exact Nat.mod_lt _ hsz
        obtain ⟨u, hu, hr⟩ := h3 (j % sz') _ (List.getElem?_eq_getElem h4)
        have h5 : j / sz' * sz' + j % sz' = j := by rw [Nat.mul_comm]; exact Nat.div_add_mod j sz'
        rw [h5] at hu
        rw [List.getElem?_eq_getElem (by rw [hfl.1]; exact hj)] at hu; cases hu
        exact RelC.one hr
      rcases hown.2 with ⟨h0, hn⟩ | ⟨gb, o, cap, cur, h0, _⟩
      · refine ⟨none, 0, xs, by rw [hu, h0, hn], fun h => by omega, hfl, fun a ha => (by simp at ha), hone⟩
      · refine ⟨some ⟨gb, o, none⟩, cap, xs, by rw [hu, h0], fun _ => ⟨_, rfl⟩, hfl, fun a ha j v hv => ?_, hone⟩
        cases ha
        rw [add_plain']
        have := own_cells hown (k := gb) (by rw [h0]; rfl) j v hv
        rw [h0] at this; exact this
  | .t (.w (.vw b lo hi mx sz0)), hs, hv =>
    simp only [elsOf] at hs
    generalize hb : bx.getD b none = bb at hs
    match bb, hs with
    | some (.arr mt e sz' els'), hs =>
      simp only at hs
      by_cases hc : Nat.beq sz' sz0 = true
      case neg => rw [Bool.not_eq_true] at hc; rw [hc] at hs; cases hs
      rw [hc, cond_true] at hs
      simp only [Option.some.injEq, Prod.mk.injEq] at hs
      obtain ⟨rfl, rfl⟩ := hs
      rw [Nat.beq_eq] at hc
      obtain ⟨_, xs, e', he', hown, hfl, hpos, _⟩ := hm.box b _ (getD_some hb)
      obtain ⟨_, hlh, hhm, A, cap, rfl, hmc, hnil, hsome⟩ := hv
      have hone : ∀ (l : List (List C)) (ys : List Value), Flat g.S sz' l ys → ∀ v ∈ ys, v.oneCell' = true := by
        intro l ys hf v hv
        obtain ⟨j, hj, rfl⟩ := List.getElem_of_mem hv
        rw [hf.1] at hj
        have h1 : j / sz' < l.length := Nat.div_lt_of_lt_mul (by rw [Nat.mul_comm]; exact hj)
        obtain ⟨h2, h3⟩ := hf.2 _ _ (List.getElem?_eq_getElem h1)
        have h4 : j % sz' < (l[j / sz']'h1).length := by rw [h2]; exact Nat.mod_lt _ hsz
        obtain ⟨u, hu, hr⟩ := h3 (j % sz') _ (List.getElem?_eq_getElem h4)
        have h5 : j / sz' * sz' + j % sz' = j := by rw [Nat.mul_comm]; exact Nat.div_add_mod j sz'
        rw [h5] at hu
        rw [List.getElem?_eq_getElem (by rw [hf.1]; exact hj)] at hu; cases hu
        exact RelC.one hr
      rcases hown.2 with ⟨h0, hn⟩ | ⟨gb, o, cc, cur, h0, _⟩
      · obtain ⟨rfl, h1, rfl⟩ := hnil h0
        have he : els' = [] := List.eq_nil_of_length_eq_zero hn
        subst he
        refine ⟨none, 0, [], by congr 1; simp; omega, fun h => by simp at h, by simp; exact Flat.nil _ _, fun a ha => (by simp at ha), by simp⟩
      · obtain ⟨h1, h2, l, h3, h4, rfl⟩ := hsome gb o _ _ h0
        have hpl : ((els'.drop lo).take (hi - lo)).length = hi - lo := by rw [List.length_take, List.length_drop]; omega
        have hpart := hfl.part lo (hi - lo) (by omega)
        refine ⟨some ⟨gb, o + l * sz', none⟩, cap, _, by rw [hpl, hc], fun _ => ⟨_, rfl⟩, hpart, fun a ha j v hv => ?_, hone _ _ hpart⟩
        cases ha
        have hj := lt_of hv
        rw [hpart.1, hpl] at hj
        have hcap : 0 < cap := by
          rcases Nat.eq_zero_or_pos (hi - lo) with h5 | h5
          · rw [h5] at hj; omega
          · omega
        have hl := h4 hcap
        subst hl
        rw [List.getElem?_take, if_pos hj, List.getElem?_drop] at hv
        rw [add_plain', Nat.add_assoc]
        have := own_cells hown (k := gb) (by rw [h0]; rfl) _ v hv
        rw [h0] at this; exact this
  | .t (.w (.pv b off n)), hs, hv =>
    simp only [elsOf] at hs
    generalize hb : bx.getD b none = bb at hs
    match bb, hs with
    | some (.cells ⟨l, [], ln⟩), hs =>
      simp only at hs
      cases hle : Nat.ble (off + n) ln with
      | false => rw [hle] at hs; cases hs
      | true =>
        rw [hle, cond_true, Option.some.injEq, Prod.mk.injEq] at hs
        obtain ⟨rfl, rfl⟩ := hs
        rw [Nat.ble_eq] at hle
        obtain ⟨_, cs, e', hh, hcs⟩ := hm.box b _ (getD_some hb)
        obtain ⟨_, rfl⟩ := hv
        have hall := all_of_relM hcs
        have hln : l.length = ln := hcs.1.2
        have hcl : cs.length = l.length := hall.1
        have hlen : (((l.drop off).take n).map fun c => [c]).length = n := by simp only [List.length_map, List.length_take, List.length_drop]; omega
        have hx := (hall.drop off).take n
        rw [hlen]
        refine ⟨some ⟨g.bx b, off, none⟩, n, (cs.drop off).take n, rfl, fun _ => ⟨_, rfl⟩, ⟨by simp only [List.length_take, List.length_drop, hlen]; omega, fun i e hi => ?_⟩, fun a ha j v hv => ?_, fun v hv => ?_⟩
        · simp only [List.getElem?_map, Option.map_eq_some_iff] at hi
          obtain ⟨c, hc, rfl⟩ := hi
          refine ⟨rfl, fun j c' hj => ?_⟩
          cases j with
          | zero =>
            simp at hj; subst hj
            obtain ⟨u, hu, hr⟩ := hx.get hc
            exact ⟨u, by rw [Nat.mul_one, Nat.add_zero]; exact hu, hr⟩
          | succ j => simp at hj
        · cases ha
          rw [add_plain', cell_of_row w (g.bx b) (off + j) cs.toArray e' (0, 0) hh]
          rw [List.getElem?_take] at hv
          split at hv
          · simpa using hv
          · cases hv
        · obtain ⟨j, hj⟩ := List.getElem?_of_mem hv
          have hjl : j < ((l.drop off).take n).length := by rw [← hx.1]; exact (List.getElem?_eq_some_iff.1 hj).1
          exact RelC.one (hx.2 j _ v (List.getElem?_eq_getElem hjl) hj)

include cx

theorem flat_src {t t2 : TypeId} {y : Operand} {sz : Nat} {els : List (List C)} (h : Rel w0 S0 O g0 g st a w) (hs : appSrc cf t t2 st.bx (st.evT cf t2 y) = some (sz, els)) :
    (t2 = t ∧ elsOf st.bx (st.evT cf t2 y) = some (sz, els)) ∨ (∃ s, sz = 1 ∧ els = byteEls s ∧ a.eval y = .string s ∧ P.underlying t2 = some .string) := by
  have he := evT_rel cx h t2 y
  generalize st.evT cf t2 y = e at hs he ⊢
  have key : (bif t2 == t then elsOf st.bx e else none) = some (sz, els) → t2 = t ∧ elsOf st.bx e = some (sz, els) := by
    intro hk
    by_cases hc : t2 = t
    · subst hc; rw [beq_self_eq_true, cond_true] at hk; exact ⟨rfl, hk⟩
    · rw [beq_false_of_ne hc] at hk; cases hk
  match e, hs, he with
  | .t (.w (.d (.str s))), hs, he =>
    simp only [appSrc] at hs
    generalize hti : cf.ti t2 = ti at hs
    match ti, hs with
    | some ⟨.string, z1, z2, z3, z4, z5⟩, hs => cases hs; exact .inr ⟨s, rfl, rfl, relC_str he, (cx.ti t2 _ hti).und⟩
  | .t (.w (.d (.sl sz' els'))), hs, he => exact .inl (key hs)
  | .t (.w (.arr b)), hs, he => exact .inl (key hs)
  | .u, hs, he => exact .inl (key hs)
  | .tup l, hs, he => exact .inl (key hs)
  | .t (.agg m), hs, he => exact .inl (key hs)
  | .t (.w .u), hs, he => exact .inl (key hs)
  | .t (.w (.ptr b f)), hs, he => exact .inl (key hs)
  | .t (.w (.ea b i s f)), hs, he => exact .inl (key hs)
  | .t (.w (.pv b i f)), hs, he => exact .inl (key hs)
  | .t (.w (.es sz)), hs, he => exact .inl (key hs)
  | .t (.w (.vw b lo hi mx sz0)), hs, he => exact .inl (key hs)
  | .t (.w (.mp b)), hs, he => exact .inl (key hs)
  | .t (.w (.clo f bs)), hs, he => exact .inl (key hs)
  | .t (.w (.d .nm)), hs, he => exact .inl (key hs)
  | .t (.w (.d (.int k1 n1))), hs, he => exact .inl (key hs)
  | .t (.w (.d (.bool b))), hs, he => exact .inl (key hs)
  | .t (.w (.d .ni)), hs, he => exact .inl (key hs)
  | .t (.w (.d (.ifc t1 ag l))), hs, he => exact .inl (key hs)
  | .t (.w (.d (.fn f q))), hs, he => exact .inl (key hs)
  | .t (.w (.d .nf)), hs, he => exact .inl (key hs)
  | .t (.w (.d .np)), hs, he => exact .inl (key hs)
  | .t (.w (.d (.er _ _ _))), hs, he => exact .inl (key hs)
  | .t (.w (.d (.ip q))), hs, he => exact .inl (key hs)

omit cx in
theorem flat_bytes (S : Addr → Option Value) (s : ByteArray) : Flat S 1 (byteEls s) (Lib.strCells s) := by
  refine ⟨by simp [byteEls, Lib.strCells], fun i e hi => ?_⟩
  simp only [byteEls, List.getElem?_map, Option.map_eq_some_iff] at hi
  obtain ⟨b, hb, rfl⟩ := hi
  refine ⟨rfl, fun j c hj => ?_⟩
  cases j with
  | zero => simp at hj; subst hj; exact ⟨.int .u8 b.toNat, by simp [Lib.strCells, hb], RelC.int _ _⟩
  | succ j => simp at hj

omit cx in
theorem run_builtin {b : Builtin} {ts : Array TypeId} {xs : Array Operand} (ho : o.op = .call { callee := .builtin b, args := xs, argTypes := ts }) :
    ∃ cs, (execOp a.eval o).run P w = (builtin b ts o.type cs (xs.map a.eval)).run P w := by
  unfold execOp
  simp only [ho, Sem.run_bind, resolve, Sem.run_pure, Result.andThen_ok, invoke]
  exact ⟨_, rfl⟩


theorem snd_append {c : Call} (ho : o.op = .call c) (hcl : c.callee = .builtin .append) (hv : vAppend cf o c.argTypes c.args k st = some r) (h : Rel w0 S0 O g0 g st a w) (hn : Hands w0 S0 O g0 k r next) : o.wp P a w next Q := by
  obtain ⟨callee, args, ts⟩ := c
  simp only at hcl; subst hcl
  simp only [vAppend] at hv
  generalize hts : ts.toList = tl at hv
  generalize hxs : args.toList = xl at hv
  match tl, xl, hv with
  | [t, t2], [x, y], hv =>
    simp only at hv
    have hts' : ts = #[t, t2] := by apply Array.ext'; simpa using hts
    have hxs' : args = #[x, y] := by apply Array.ext'; simpa using hxs
    subst hts' hxs'
    generalize hti : cf.ti t = ti at hv
    match ti, hv with
    | some ⟨.slice e, z1, z2, z3, z4, z5⟩, hv =>
      simp only at hv
      have hx : RelV g (bif isNilSlice x then (match esz cf t with | some sz => .t (.w (.es sz)) | none => vu) else st.ev cf x) (a.eval x) := by
        cases hn : isNilSlice x with
        | false => exact ev_rel cx h x
        | true =>
          simp only [cond_true]
          cases esz cf t with
          | none => trivial
          | some sz => exact ⟨none, nilSlice_eval hn a⟩
      generalize hte : cf.ti e = tie at hv
      generalize (bif isNilSlice x then (match esz cf t with | some sz => .t (.w (.es sz)) | none => vu) else st.ev cf x) = ex at hv hx
      generalize hsrc : appSrc cf t t2 st.bx (st.evT cf t2 y) = src at hv
      match tie, ex, src, hv, hx with
      | some i, .t (.w (.vw b lo hi mx sz0)), some (sz2, els2), hv, hx =>
        simp only at hv
        generalize hb : st.bx.getD b none = bb at hv
        match bb, hv with
        | some (.arr true e2 sz els), hv =>
          simp only at hv
          by_cases hc : (t2 == t && optIs e2 e && i.size == sz && sz2 == sz && Nat.beq sz sz0 && decide (lo ≤ hi ∧ hi + els2.length ≤ mx ∧ mx ≤ els.length ∧ 0 < els.length)) = true
          case neg => rw [Bool.not_eq_true] at hc; rw [hc] at hv; cases hv
          rw [hc, cond_true] at hv
          simp only [Bool.and_eq_true, beq_iff_eq, decide_eq_true_eq, Nat.beq_eq] at hc
          obtain ⟨⟨⟨⟨⟨ht2, he2⟩, hsz⟩, hs2⟩, hs0⟩, hlh, hhm, hml, hlen0⟩ := hc
          have hb' := getD_some hb
          obtain ⟨hcb, xs, e', he', hown, hflat, hpos, _⟩ := h.m.box b _ hb'
          have hee : e' = e := by
            cases e2 with
            | none => cases he2
            | some q => have : q = e := by simpa [optIs] using he2
                        rw [← this]; exact he' q rfl
          obtain ⟨_, _, _, A, cap, hea, hmc, hnil, hsome⟩ := id hx
          obtain ⟨f, hf, hf1, hf2, z, hz, hz2, hz3, _⟩ := info_of cx hte
          have hfs : f.size = sz := by rw [hf1, hsz]
          rcases hown.2 with ⟨_, h0⟩ | ⟨gb, o0, cc, cur, hsl, _⟩
          · omega
          obtain ⟨hmn, hlc, l, hll, hl0, rfl⟩ := hsome gb o0 _ _ hsl
          have hsrc' : t2 = t ∧ elsOf st.bx (st.evT cf t2 y) = some (sz2, els2) := by
            rcases flat_src cx h hsrc with h1 | ⟨s, _, _, _, hu2⟩
            · exact h1
            · rw [ht2] at hu2; rw [(cx.ti t _ hti).und] at hu2; cases hu2
          obtain ⟨A2, cap2, news, heay, hA2, hfl2, hcell2, hone2⟩ := elsOf_rel h.m hsrc'.2 (evT_rel cx h t2 y) (by rw [hs2]; exact hpos)
          rw [hs2] at hfl2
          have hnl : news.length = els2.length * f.size := by rw [hfs]; exact hfl2.1
          have hbl : ∀ v' w', (Builtin.append_ #[t, t2] o.type #[a.eval x, a.eval y]).run P w = .ok v' w' → (execOp a.eval o).run P w = .ok (.value v') w' := by
            intro v' w' hr
            obtain ⟨cs, hcs⟩ := run_builtin (P := P) (a := a) (w := w) ho
            rw [hcs]
            simp only [builtin, Sem.run_bind, Sem.run_pure, List.map_toArray, List.map_cons, List.map_nil, hr, Result.andThen_ok]
          have hrw : ∀ m : Nat, hi + m ≤ mx → RelW g (.vw b lo (hi + m) mx sz) (.slice (some ⟨gb, o0 + l * sz0, none⟩) (hi - lo + m) cap) := by
            intro m hm
            refine ⟨hcb, by omega, hm, _, cap, by congr 1; omega, hmc, fun h => by rw [hsl] at h; simp at h, fun gb' o' n' c' h => ?_⟩
            rw [hsl] at h
            simp only [Value.slice.injEq, Option.some.injEq, Addr.mk.injEq, and_true] at h
            obtain ⟨⟨rfl, rfl⟩, rfl, rfl⟩ := h
            exact ⟨hmn, hlc, l, hll, hl0, by rw [hs0]⟩
          rw [ht2] at hbl
          rcases Nat.eq_zero_or_pos els2.length with hm0 | hm0
          · have hnil2 : els2 = [] := List.eq_nil_of_length_eq_zero hm0
            subst hnil2
            have hrun := hbl _ w (by rw [hea, heay]; exact room_zero (P := P) (ty := o.type) w (cx.ti t _ hti).und hf (A := A2) (c := cap2) (by omega))
            have hse : st.bx.set b (some (.arr true e2 sz (els.take hi ++ [] ++ els.drop (hi + ([] : List (List C)).length)))) = st.bx := by
              simp only [List.append_nil, List.length_nil, Nat.add_zero, List.take_append_drop]
              exact List.set_getElem_self (by exact lt_of hb') |> fun e => by
                have h2 : st.bx[b]'(lt_of hb') = some (.arr true e2 sz els) := by
                  have := List.getElem?_eq_getElem (lt_of hb')
                  rw [hb'] at this; exact (Option.some.inj this).symm
                rw [← h2]; exact e
            rw [hse] at hv
            exact wp_val hrun (hn _ _ _ _ ((h.with (Ext.refl g) h.m).put (v := .t (.w (.vw b lo (hi + ([] : List (List C)).length) mx sz))) (hrw 0 (by simpa using hhm))) hv)
          · have hcap : 0 < cap := by omega
            have hll2 := hl0 hcap
            subst hll2
            obtain ⟨a2, rfl⟩ := hA2 hm0
            have hmulh : (hi + els2.length) * sz ≤ els.length * sz := Nat.mul_le_mul_right _ (by omega)
            rw [Nat.add_mul] at hmulh
            obtain ⟨c', hst, hown'⟩ := hown.store (P := P) hsl hone2 (p := hi * sz) (by rw [hfl2.1]; exact hmulh)
            have haddr : o0 + hi * sz = o0 + l * sz0 + (hi - l) * f.size := by
              rw [hfs, ← hs0, Nat.add_assoc, ← Nat.add_mul]; congr 2; omega
            rw [haddr] at hst
            have hrun := hbl _ _ (by rw [hea, heay]; exact room_st (P := P) (ty := o.type) w (cx.ti t _ hti).und hf hnl (fun j u hj => hcell2 a2 rfl j u hj) (by omega) hst)
            have hm2 := h.m.rowSet hb' hsl he' (els' := els.take hi ++ els2 ++ els.drop (hi + els2.length)) (by
              have : (els.take hi ++ els2 ++ els.drop (hi + els2.length)).length = els.length := splice_len (by omega)
              rw [this]; exact hown') (hflat.splice hfl2 (by omega)) hpos
            exact wp_val hrun (hn _ _ _ _ ((h.with (Ext.refl g) hm2).put (v := .t (.w (.vw b l (hi + els2.length) mx sz))) (hrw els2.length hhm)) hv)
      | some i, .t (.w (.es sz)), some (sz2, els2), hv, hx =>
        simp only at hv
        by_cases ht2 : t2 = t
        case neg => rw [beq_false_of_ne ht2] at hv; cases hv
        subst ht2
        rw [beq_self_eq_true, cond_true] at hv
        unfold vAppendE at hv
        by_cases hc : (i.size == sz && sz2 == sz && Nat.blt 0 sz && decide (els2.length * i.bytes ≤ 140737488355328 ∧ els2.length ≤ 9223372036854775807)) = true
        case neg => rw [Bool.not_eq_true] at hc; rw [hc] at hv; cases hv
        rw [hc, cond_true] at hv
        simp only [Bool.and_eq_true, beq_iff_eq, decide_eq_true_eq, Nat.blt_eq] at hc
        obtain ⟨⟨⟨hsz, rfl⟩, hpos⟩, hb1, hb2⟩ := hc
        obtain ⟨A0, hea⟩ := hx
        obtain ⟨f, hf, hf1, hf2, z, hz, hz2, hz3, _⟩ := info_of cx hte
        have hzs : z.cells.size = f.size := by rw [← Array.length_toList, hz2.1, hz3, hf1]
        have hfs : f.size = sz2 := by rw [hf1, hsz]
        rcases flat_src cx h hsrc with ⟨_, hy⟩ | ⟨s, hs1, rfl, hy, hu2⟩
        · obtain ⟨A, cap, news, he, hA, hfl, hcell, hone⟩ := elsOf_rel h.m hy (evT_rel cx h t2 y) hpos
          obtain ⟨r0, r1⟩ := append_es (P := P) w (ty := o.type) (cx.ti t2 _ hti).und hf hz hzs (A0 := A0) (A := A) (m := els2.length) (c := cap) hA (news := news) (by rw [hfs]; exact hfl.1) hcell hb2 (by rw [hf2]; exact hb1)
          obtain ⟨cs, hcs⟩ := run_builtin (P := P) (a := a) (w := w) ho
          have hbl : (builtin .append #[t2, t2] o.type cs (#[x, y].map a.eval)).run P w =
              ((Builtin.append_ #[t2, t2] o.type #[a.eval x, a.eval y]).run P w).andThen fun v w => .ok (.value v) w := by
            simp only [builtin, Sem.run_bind, Sem.run_pure, List.map_toArray, List.map_cons, List.map_nil]
          cases hem : els2.isEmpty with
          | true =>
            rw [hem, cond_true] at hv
            have hm0 : els2.length = 0 := by rw [List.isEmpty_iff] at hem; rw [hem]; rfl
            refine snd_val hv h hn ⟨.slice A0 0 0, ?_, ⟨A0, rfl⟩⟩
            rw [hcs, hbl, hea, he, r0 hm0]; rfl
          | false =>
            rw [hem, cond_false] at hv
            have hm0 : 0 < els2.length := by
              rcases Nat.eq_zero_or_pos els2.length with h0 | h0
              · rw [List.eq_nil_of_length_eq_zero h0] at hem; cases hem
              · exact h0
            obtain ⟨v', w', hr, hend⟩ := r1 hm0
            have hrow := row_arr (v := .slice none 0 0) h.m hpos true (fun n y kk hy hk hvk => by cases hvk) (fun kk hk => by cases hk) (fun kk hk => by cases hk) (hfs ▸ hend) hfl
            obtain ⟨g', hext, hM, hW, _⟩ := hrow
            refine wp_val (by rw [hcs, hbl, hea, he, hr]; rfl) (hn _ _ _ _ ((h.with hext hM).put (v := .t (.w (.arr st.bx.length))) hW) hv)
        · exfalso
          have := hu2.symm.trans (cx.ti t2 _ hti).und
          cases this
      | some i, .t (.w (.arr b)), some (sz2, els2), hv, hx =>
        simp only at hv
        generalize hb : st.bx.getD b none = bb at hv
        match bb, hv with
        | some (.arr mt e2 sz els), hv =>
          simp only at hv
          by_cases hc : (optIs e2 e && i.size == sz && sz2 == sz && decide ((els.length + els2.length) * i.bytes ≤ 140737488355328 ∧ els.length + els2.length ≤ 9223372036854775807)) = true
          case neg => rw [Bool.not_eq_true] at hc; rw [hc] at hv; cases hv
          rw [hc, cond_true] at hv
          simp only [Bool.and_eq_true, beq_iff_eq, decide_eq_true_eq] at hc
          obtain ⟨⟨⟨he2, hsz⟩, rfl⟩, hb1, hb2⟩ := hc
          have he2 : e2 = some e := by unfold optIs at he2; cases e2 <;> simp at he2; rw [he2]
          subst he2
          have hb' := getD_some hb
          obtain ⟨_, xs, e', he', hown, hflat, hpos, _⟩ := h.m.box b _ hb'
          have he'' := he' e rfl
          subst he''
          obtain ⟨_, hea, _⟩ := hx
          rw [← hea] at hown
          obtain ⟨f, hf, hf1, hf2, z, hz, hz2, hz3, _⟩ := info_of cx hte
          have hzs : z.cells.size = f.size := by rw [← Array.length_toList, hz2.1, hz3, hf1]
          have hfs : f.size = sz2 := by rw [hf1, hsz]
          have hrun : ∃ v' w' news, (execOp a.eval o).run P w = .ok (.value v') w' ∧ AppEnd e' sz2 (a.eval x) (els.length + els2.length) (xs ++ news) w w' v' ∧ Flat g.S sz2 els2 news := by
            obtain ⟨cs, hcs⟩ := run_builtin (P := P) (a := a) (w := w) ho
            have hbl : (builtin .append #[t, t2] o.type cs (#[x, y].map a.eval)).run P w =
                ((Builtin.append_ #[t, t2] o.type #[a.eval x, a.eval y]).run P w).andThen fun v w => .ok (.value v) w := by
              simp only [builtin, Sem.run_bind, Sem.run_pure, List.map_toArray, List.map_cons, List.map_nil]
            rw [hcs, hbl]
            rcases flat_src cx h hsrc with ⟨rfl, hy⟩ | ⟨s, hs1, rfl, hy, hu2⟩
            · obtain ⟨A, cap, news, he, hA, hfl, hcell, hone⟩ := elsOf_rel h.m hy (evT_rel cx h t2 y) hpos
              obtain ⟨v', w', hr, hend⟩ := append_sl (P := P) w (ty := o.type) (cx.ti t2 _ hti).und hf hz hzs (v := a.eval x) (n := els.length) (xs := xs) (by rw [hfs]; exact hown) (A := A) (m := els2.length) (c := cap) hA
                (news := news) (by rw [hfs]; exact hfl.1) hcell hone hb2 (by rw [hf2]; exact hb1)
              rw [he, hr]
              exact ⟨v', w', news, rfl, hfs ▸ hend, hfl⟩
            · obtain ⟨v', w', hr, hend⟩ := append_str (P := P) w (ty := o.type) (cx.ti t _ hti).und hu2 hf hz hzs (by rw [hfs, hs1]) (v := a.eval x) (n := els.length) (xs := xs) (by rw [hfs]; exact hown) s
                (by simpa [byteEls] using hb2) (by rw [hf2]; simpa [byteEls] using hb1)
              rw [hy, hr]
              refine ⟨v', w', _, rfl, ?_, hs1 ▸ flat_bytes g.S s⟩
              have : (byteEls s).length = s.size := by simp [byteEls]
              rw [this]; exact hfs ▸ hend
          obtain ⟨v', w', news, hrun, hend, hfl2⟩ := hrun
          have hlen : (els ++ els2).length = els.length + els2.length := List.length_append
          have hm1 : RelM w0 S0 O g (st.bx.set b none) w := h.m.less (by simp; exact h.m.c) (fun n y hy => by
            rcases set_get hy with ⟨_, e, _⟩ | ⟨_, e⟩
            · cases e
            · exact e)
          have hblk : blk g b (.arr mt (some e') sz2 els) = (a.eval x).ownBlock := by simp only [blk]; rw [hea]
          have hrow := fun (mt' : Bool) (hmt : mt = false → mt' = false) => row_arr hm1 hpos mt'
            (fun n y kk hy hk hvk => by
              rcases set_get hy with ⟨_, e, _⟩ | ⟨hne, hy⟩
              · cases e
              · exact hne (h.m.disj n b y _ kk hy hb' hk (by rw [hblk]; exact hvk)))
            (fun kk hk => h.m.low b _ kk hb' (by rw [hblk]; exact hk))
            (fun kk hk off sp u hu => by
              obtain ⟨e1, s1, l1, h1, h2⟩ := h.m.sep b _ kk hb' (by rw [hblk]; exact hk) off sp u hu
              simp only [Box.arr.injEq] at h1
              obtain ⟨rfl, rfl, rfl, rfl⟩ := h1
              have hcell := h.m.mem _ _ hu
              have hsp : sp = none := by
                cases sp with
                | none => rfl
                | some q => simp only [World.cell?] at hcell; split at hcell <;> simp at hcell
              subst hsp
              rw [← hea] at h2
              have hlt : off - Value.base (a.eval x) < xs.length := by rw [hown.1]; omega
              have := own_cells hown hk _ _ (List.getElem?_eq_getElem hlt)
              rw [show Value.base (a.eval x) + (off - Value.base (a.eval x)) = off by omega] at this
              rw [hcell] at this
              exact ⟨hmt rfl, rfl, h2.1, by rw [List.getElem?_append_left hlt, List.getElem?_eq_getElem hlt]; exact this.symm⟩)
            (hlen ▸ hend) (hflat.append hfl2)
          obtain ⟨g', hext, hM, hW, _⟩ := hrow mt id
          refine wp_val hrun (hn _ _ _ _ ((h.with hext hM).put (v := .t (.w (.arr st.bx.length))) ?_) hv)
          have e : (st.bx.set b none).length = st.bx.length := by simp
          rw [e] at hW
          exact hW
end
end Vm

/- Vm, part J: each operation of the interpreter is the model's (5): composites, lengths, assertions. -/
namespace Vm
open Go

theorem fold_put (off : Nat) : ∀ (vs : List Value) (k : Nat) (cs : Array Value), off + k + vs.length ≤ cs.size →
    (vs.zipIdx k).foldl (fun cs p => cs.setIfInBounds (off + p.2) p.1) cs = (cs.toList.take (off + k) ++ vs ++ cs.toList.drop (off + k + vs.length)).toArray := by
  intro vs
  induction vs with
  | nil => intro k cs _; simp
  | cons v r ih =>
    intro k cs h
    simp only [List.length_cons] at h
    simp only [List.zipIdx_cons, List.foldl_cons]
    rw [ih (k + 1) (cs.setIfInBounds (off + k) v) (by simp; omega)]
    apply Array.ext'
    have hlt : off + k < cs.toList.length := by simp; omega
    simp only [Array.toList_setIfInBounds]
    rw [List.set_eq_take_append_cons_drop, if_pos hlt]
    have h1 : (cs.toList.take (off + k)).length = off + k := by rw [List.length_take]; omega
    have e1 : (cs.toList.take (off + k) ++ v :: cs.toList.drop (off + k + 1)).take (off + (k + 1)) = cs.toList.take (off + k) ++ [v] := by
      rw [List.take_append, h1, List.take_of_length_le (by omega), show off + (k + 1) - (off + k) = 1 by omega]
      simp
    have e2 : (cs.toList.take (off + k) ++ v :: cs.toList.drop (off + k + 1)).drop (off + (k + 1) + r.length) = cs.toList.drop (off + k + (r.length + 1)) := by
      rw [List.drop_append, h1, List.drop_eq_nil_of_le (by rw [h1]; omega), List.nil_append, show off + (k + 1) + r.length - (off + k) = r.length + 1 by omega, List.drop_succ_cons, List.drop_drop]
      congr 1; omega
    rw [e1, e2]
    simp

theorem fill_cons {place : Nat → Option (Nat × Nat)} {cells : Array Value} {i : Nat} {v : Value} {rest : List (Nat × Value)} {off size : Nat} (hp : place i = some (off, size)) (hs : v.cells.toList.length = size)
    (hle : off + size ≤ cells.size) :
    Instr.fill place cells ((i, v) :: rest) = Instr.fill place (cells.toList.take off ++ v.cells.toList ++ cells.toList.drop (off + v.cells.toList.length)).toArray rest := by
  have hs' : v.cells.size = size := by simpa using hs
  have hf := fold_put off v.cells.toList 0 cells (by rw [hs]; omega)
  simp only [Nat.add_zero] at hf
  have hc : (decide (v.cells.size ≠ size) || decide (off + v.cells.size > cells.size)) = false := by simp [hs']; omega
  simp only [Instr.fill, hp]
  rw [if_neg (by simpa using hc)]
  congr 1
  rw [← hf, ← Array.foldl_toList, Array.toList_zipIdx]


theorem fillW_rel {g : G} {place : Nat → Option (Nat × Nat)} : ∀ (ps : List (Nat × V)) (vs : List (Nat × Value)) (l l' : M) (cells : Array Value),
    All2 (fun p q => p.1 = q.1 ∧ RelV g p.2 q.2) ps vs → RelMx g l cells.toList → fillW place l ps = some l' → ∃ cells', Instr.fill place cells vs = some cells' ∧ RelMx g l' cells'.toList := by
  intro ps
  induction ps with
  | nil =>
    intro vs l l' cells hp hl hf
    have : vs = [] := List.eq_nil_of_length_eq_zero hp.1
    subst this
    simp [fillW] at hf; subst hf
    exact ⟨cells, rfl, hl⟩
  | cons p r ih =>
    intro vs l l' cells hp hl hf
    cases vs with
    | nil => exact absurd hp.1 (by simp)
    | cons q vr =>
      obtain ⟨i, x⟩ := p
      obtain ⟨i', v⟩ := q
      obtain ⟨hi, hv⟩ := hp.head
      simp only at hi hv; subst hi
      cases x with
      | u => simp [fillW] at hf
      | tup l => simp [fillW] at hf
      | t x =>
        simp only [fillW] at hf
        cases hpl : place i with
        | none => rw [hpl] at hf; cases hf
        | some os =>
          obtain ⟨off, size⟩ := os
          rw [hpl] at hf; simp only at hf
          by_cases hc : (x.toM.n == size && Nat.ble (off + size) l.n) = true
          · rw [hc, cond_true] at hf
            simp only [Bool.and_eq_true, beq_iff_eq, Nat.ble_eq] at hc
            have hcells := RelT.cells hv
            have hlen : v.cells.toList.length = size := by rw [hcells.n]; exact hc.1
            have hle : off + size ≤ cells.size := by have := hl.n; rw [Array.length_toList] at this; omega
            rw [fill_cons hpl hlen hle]
            exact ih vr _ l' _ hp.tail (by simpa using hl.put hcells (off := off) (by omega)) hf
          · rw [Bool.not_eq_true] at hc; rw [hc] at hf; cases hf

/-- the cells of parts, one behind the other -/
def flatV : List (Nat × Value) → List Value
  | [] => []
  | p :: r => p.2.cells.toList ++ flatV r

theorem seqFill (n : Nat) : ∀ (vs : List (Nat × Value)) (k : Nat) (pre junk : List Value), pre.length = k * n → junk.length = vs.length * n →
    (∀ (j : Nat) p, vs[j]? = some p → p.1 = k + j ∧ p.2.cells.toList.length = n) → Instr.fill (fun i => some (i * n, n)) (pre ++ junk).toArray vs = some (pre ++ flatV vs).toArray := by
  intro vs
  induction vs with
  | nil =>
    intro k pre junk _ hj _
    have : junk = [] := List.eq_nil_of_length_eq_zero (by simpa using hj)
    subst this
    simp [Instr.fill, flatV]
  | cons p r ih =>
    intro k pre junk hp hj hv
    obtain ⟨i, v⟩ := p
    obtain ⟨hi, hn⟩ := hv 0 _ rfl
    simp only [Nat.add_zero] at hi hn; subst hi
    simp only [List.length_cons, Nat.add_mul, Nat.one_mul] at hj
    rw [fill_cons (off := i * n) (size := n) rfl hn (by simp; omega)]
    have e1 : (pre ++ junk).take (i * n) = pre := by rw [← hp]; exact List.take_left
    have e2 : (pre ++ junk).drop (i * n + v.cells.toList.length) = junk.drop n := by rw [hn, ← hp, List.drop_append, List.drop_eq_nil_of_le (by omega)]; simp
    simp only [e1, e2]
    have := ih (i + 1) (pre ++ v.cells.toList) (junk.drop n) (by simp [hp, Nat.add_mul]; simpa using hn) (by simp; omega) (fun j q hq => by
      obtain ⟨h1, h2⟩ := hv (j + 1) q (by simpa using hq)
      exact ⟨by omega, h2⟩)
    rw [this]
    simp [flatV]


section
variable {P : Program} {cf : Cfg} {S0 : Addr → Option Value} {w0 : World} {O : Nat → Prop} (cx : Ctx P cf S0 w0 O)
variable {g0 g : G} {st : St} {a : Act} {w : World}
variable {R : Type} {dr : Bool} {o : Oper} {k : St → Option R} {r : R} {next : Act → World → Prop} {Q : Exit → Act → World → Prop}
include cx

theorem evParts_rel (h : Rel w0 S0 O g0 g st a w) {ty : Nat → Option TypeId} : ∀ (parts : List (Nat × Operand)) (ps : List (Nat × V)), st.evParts cf ty parts = some ps →
    All2 (fun p q => p.1 = q.1 ∧ RelV g p.2 q.2) ps (parts.map fun p => (p.1, a.eval p.2)) := by
  intro parts
  induction parts with
  | nil => intro ps hp; simp [St.evParts] at hp; subst hp; exact .nil
  | cons p r ih =>
    intro ps hp
    obtain ⟨i, x⟩ := p
    simp only [St.evParts] at hp
    cases ht : ty i with
    | none => rw [ht] at hp; cases hp
    | some t =>
      cases hr : st.evParts cf ty r with
      | none => rw [ht, hr] at hp; cases hp
      | some l => rw [ht, hr] at hp; cases hp; exact .cons ⟨rfl, evT_rel cx h t x⟩ (ih l hr)

theorem placesV_info : ∀ (fs : List Field) (pl : List (Nat × Nat)), placesV cf fs = some pl → fs.mapM (fun f => (P.info? f.type).map fun i => (f.offset, i.size)) = some pl := by
  intro fs
  induction fs with
  | nil => intro pl h; simp [placesV] at h; subst h; rfl
  | cons f r ih =>
    intro pl h
    simp only [placesV] at h
    cases hs : sizeOfT cf f.type with
    | none => rw [hs] at h; cases h
    | some n =>
      cases hr : placesV cf r with
      | none => rw [hs, hr] at h; cases h
      | some l =>
        rw [hs, hr] at h; cases h
        unfold sizeOfT at hs
        cases hi : cf.ti f.type with
        | none => rw [hi] at hs; cases hs
        | some i =>
          rw [hi] at hs; cases hs
          obtain ⟨fi, hf, h1, _⟩ := info_of cx hi
          simp [List.mapM_cons, hf, ih l hr, h1]


theorem snd_build {t : TypeId} {parts : Array (Nat × Operand)} (ho : o.op = .build t parts) (hv : vop cf dr o k st = some r) (h : Rel w0 S0 O g0 g st a w) (hn : Hands w0 S0 O g0 k r next) : o.wp P a w next Q := by
  unfold vop at hv; rw [ho] at hv; simp only [vBuild] at hv
  have hexec : ∀ cells, P.built t (parts.map fun (i, x) => (i, a.eval x)).toList = some cells → (execOp a.eval o).run P w = .ok (.value (.agg cells)) w := by
    intro cells hc
    unfold execOp
    simp only [ho, Sem.run_bind, run_build w t _ cells hc, Result.andThen_ok, Sem.run_pure]
  have hmap : (parts.map fun (i, x) => (i, a.eval x)).toList = parts.toList.map fun p => (p.1, a.eval p.2) := by simp
  generalize hti : cf.ti t = ti at hv
  match ti, hv with
  | some ⟨.struct fs, z1, z2, z3, z, z5⟩, hv =>
    simp only at hv
    obtain ⟨f, hf, _, _, zv, hz, hz2, hz3, _⟩ := info_of cx hti
    cases hp : placesV cf fs.toList with
    | none => rw [hp] at hv; cases hv
    | some pl =>
      cases hps : st.evParts cf (fun i => (fieldOf fs.toList i).map (·.type)) parts.toList with
      | none => rw [hp, hps] at hv; cases hv
      | some ps =>
        rw [hp, hps] at hv; simp only at hv
        generalize hze : st.zero dr z = q at hv
        obtain ⟨m, st1⟩ := q
        simp only at hv
        obtain ⟨g1, hext, h1, h4⟩ := zero_rel (dr := dr) h hz2 hze
        cases hfi : fillW (fun i => pl[i]?) m ps with
        | none => rw [hfi] at hv; cases hv
        | some l =>
          rw [hfi] at hv; simp only at hv
          obtain ⟨cells', hc, hall⟩ := fillW_rel ps _ _ l zv.cells ((evParts_rel cx h _ ps hps).imp fun p q hpq => ⟨hpq.1, hpq.2.weak hext.weak⟩) h4 hfi
          have hb : P.built t (parts.map fun (i, x) => (i, a.eval x)).toList = some cells' := by
            rw [hmap]; unfold Program.built
            simp only [hf, (cx.ti t _ hti).und, hz, placesV_info cx _ _ hp]
            rw [← hc]; congr 1; funext x; simp
          exact wp_val (hexec cells' hb) (hn _ _ _ _ (h1.put (v := .t (.agg l)) ⟨cells'.toList, by simp, hall⟩) hv)
  | some ⟨.array len e, z1, z2, z3, z, z5⟩, hv =>
    simp only at hv
    obtain ⟨f, hf, _, _, zv, hz, hz2, hz3, _⟩ := info_of cx hti
    cases hp : sizeOfT cf e with
    | none => rw [hp] at hv; cases hv
    | some n =>
      cases hps : st.evParts cf (fun _ => some e) parts.toList with
      | none => rw [hp, hps] at hv; cases hv
      | some ps =>
        rw [hp, hps] at hv; simp only at hv
        generalize hze : st.zero dr z = q at hv
        obtain ⟨m, st1⟩ := q
        simp only at hv
        obtain ⟨g1, hext, h1, h4⟩ := zero_rel (dr := dr) h hz2 hze
        cases hfi : fillW (fun i => some (i * n, n)) m ps with
        | none => rw [hfi] at hv; cases hv
        | some l =>
          rw [hfi] at hv; simp only at hv
          obtain ⟨cells', hc, hall⟩ := fillW_rel ps _ _ l zv.cells ((evParts_rel cx h _ ps hps).imp fun p q hpq => ⟨hpq.1, hpq.2.weak hext.weak⟩) h4 hfi
          unfold sizeOfT at hp
          cases hie : cf.ti e with
          | none => rw [hie] at hp; cases hp
          | some ie =>
            rw [hie] at hp; cases hp
            obtain ⟨fe, hfe, hfe1, _⟩ := info_of cx hie
            have hb : P.built t (parts.map fun (i, x) => (i, a.eval x)).toList = some cells' := by
              rw [hmap]; unfold Program.built
              simp only [hf, (cx.ti t _ hti).und, hz, hfe, hfe1]
              exact hc
            exact wp_val (hexec cells' hb) (hn _ _ _ _ (h1.put (v := .t (.agg l)) ⟨cells'.toList, by simp, hall⟩) hv)

omit cx in
theorem elemsOf_flat {n : Nat} : ∀ (ps : List (Nat × V)) (k : Nat) (els : List (List C)) (vs : List (Nat × Value)) {bx bx' : Bx} {g : G}, elemsOf dr n k ps bx = some (els, bx') → RelM w0 S0 O g bx w →
    All2 (fun p q => p.1 = q.1 ∧ RelV g p.2 q.2) ps vs → ∃ g', More g g' ∧ RelM w0 S0 O g' bx' w ∧ (dr = true → bx' = bx) ∧ Flat g'.S n els (flatV vs) ∧ els.length = vs.length ∧ ∀ (j : Nat) p, vs[j]? = some p → p.1 = k + j ∧ p.2.cells.toList.length = n := by
  intro ps
  induction ps with
  | nil =>
    intro k els vs bx bx' g he hm ha
    have : vs = [] := List.eq_nil_of_length_eq_zero ha.1
    subst this
    simp [elemsOf] at he; obtain ⟨rfl, rfl⟩ := he
    exact ⟨g, .refl g, hm, fun _ => rfl, Flat.nil _ _, rfl, fun j p h => by simp at h⟩
  | cons p r ih =>
    intro k els vs bx bx' g he hm ha
    cases vs with
    | nil => exact absurd ha.1 (by simp)
    | cons q vr =>
      obtain ⟨i, x⟩ := p
      obtain ⟨i', v⟩ := q
      obtain ⟨hi, hv⟩ := ha.head
      simp only at hi hv; subst hi
      cases x with
      | u => simp [elemsOf] at he
      | tup l => simp [elemsOf] at he
      | t x =>
        simp only [elemsOf] at he
        cases hs : frzT dr x bx with
        | none => rw [hs] at he; cases he
        | some q =>
          obtain ⟨⟨cs, csn⟩, bx1⟩ := q
          rw [hs] at he; simp only at he
          obtain ⟨g1, hm1, hR1, hd1, _, hall0⟩ := frzT_rel hs hm
          obtain ⟨hall, hcsn⟩ := hall0 _ hv
          subst hcsn
          cases hr : elemsOf dr n (k + 1) r bx1 with
          | none => rw [hr] at he; cases he
          | some q =>
            obtain ⟨l, bx2⟩ := q
            rw [hr] at he; simp only at he
            by_cases hc : (i == k && cs.length == n) = true
            · rw [hc] at he; simp only [cond_true, Option.some.injEq, Prod.mk.injEq] at he; obtain ⟨rfl, rfl⟩ := he
              simp only [Bool.and_eq_true, beq_iff_eq] at hc
              obtain ⟨rfl, hn⟩ := hc
              obtain ⟨g2, hm2, hR2, hd2, h1, h2, h3⟩ := ih _ l vr hr hR1 (ha.tail.imp fun p q hpq => ⟨hpq.1, hpq.2.weak hm1.ext.weak⟩)
              refine ⟨g2, hm1.trans hm2, hR2, fun h => (hd2 h).trans (hd1 h), ?_, by simp [h2], fun j p hp => ?_⟩
              · have := (hn ▸ (Flat.one hall).mono hm2.S).append h1
                simpa [flatV] using this
              · cases j with
                | zero => simp at hp; subst hp; exact ⟨by simp, by rw [hall.1, hn]⟩
                | succ j => obtain ⟨h4, h5⟩ := h3 j p (by simpa using hp); exact ⟨by omega, h5⟩
            · rw [Bool.not_eq_true] at hc; rw [hc] at he; cases he

theorem snd_buildSlice {t : TypeId} {len : Nat} {parts : Array (Nat × Operand)} (ho : o.op = .buildSlice t len parts) (hv : vop cf dr o k st = some r) (h : Rel w0 S0 O g0 g st a w) (hn : Hands w0 S0 O g0 k r next) : o.wp P a w next Q := by
  unfold vop at hv; rw [ho] at hv; simp only [vBuildSlice] at hv
  generalize hti : cf.ti t = ti at hv
  match ti, hv with
  | some ⟨.slice e, z1, z2, z3, z4, z5⟩, hv =>
    simp only at hv
    cases hp : sizeOfT cf e with
    | none => rw [hp] at hv; cases hv
    | some n =>
      cases hps : st.evParts cf (fun _ => some e) parts.toList with
      | none => rw [hp, hps] at hv; cases hv
      | some ps =>
        rw [hp, hps] at hv; simp only at hv
        cases hel : elemsOf dr n 0 ps st.bx with
        | none => rw [hel] at hv; cases hv
        | some q =>
          obtain ⟨els, bx1⟩ := q
          rw [hel] at hv; simp only at hv
          by_cases hc : (els.length == len && Nat.ble (len * n) 16777216 && Nat.ble 1 n) = true
          · rw [hc, cond_true] at hv
            simp only [Bool.and_eq_true, beq_iff_eq, Nat.ble_eq] at hc
            obtain ⟨⟨rfl, hle⟩, hpos⟩ := hc
            obtain ⟨g1, hmore, hR1, _, hfl, hlen, hseq⟩ := elemsOf_flat ps 0 els _ hel h.m (evParts_rel cx h _ ps hps)
            have hu := (cx.ti t _ hti).und
            have hsz := sizeOfT_run cx hp
            unfold sizeOfT at hp
            cases hie : cf.ti e with
            | none => rw [hie] at hp; cases hp
            | some ie =>
              rw [hie] at hp; cases hp
              obtain ⟨zv, hz, _, _⟩ := zero_run cx hie w
              let vs := parts.toList.map fun p => (p.1, a.eval p.2)
              have hfill : ∀ junk : Array Value, junk.size = els.length * ie.size → Instr.fill (fun i => some (i * ie.size, ie.size)) junk (parts.map fun x => (x.fst, a.eval x.snd)).toList = some (flatV vs).toArray := by
                intro junk hj
                have := seqFill ie.size vs 0 [] junk.toList (by simp) (by rw [Array.length_toList, hj, hlen]) (fun j p hp => hseq j p hp)
                simpa [vs] using this
              have hrun : (execOp a.eval o).run P w = .ok (.value (.slice (some ⟨w.heap.size, 0, none⟩) els.length els.length)) (w.alloc (.cells (flatV vs).toArray e)) := by
                have hle' : ¬ (els.length * ie.size > 2 ^ 24) := by omega
                unfold execOp
                simp only [ho, Sem.run_bind, Instr.buildSlice, run_underlying hu, Result.andThen_ok, hsz, hle', if_false, Sem.run_pure]
                by_cases h0 : els.length * ie.size = 0
                · simp only [h0, if_true, Sem.run_bind, Sem.run_pure, Result.andThen_ok]
                  rw [hfill _ (by simp [h0])]
                  simp only [Sem.run_bind, newRow, run_newObj, Result.andThen_ok, Sem.run_pure]; rfl
                · simp only [h0, if_false, Sem.run_bind, hz, Sem.run_pure, Result.andThen_ok]
                  rw [hfill _ (by simp)]
                  simp only [Sem.run_bind, newRow, run_newObj, Result.andThen_ok, Sem.run_pure]; rfl
              have hend : AppEnd e ie.size (.slice none 0 0) els.length (flatV vs) w (w.alloc (.cells (flatV vs).toArray e)) (.slice (some ⟨w.heap.size, 0, none⟩) els.length els.length) := by
                refine ⟨⟨hfl.1, .inr ⟨w.heap.size, 0, els.length, _, rfl, heap_alloc_new w _, Nat.le_refl _, ?_, by simp [hfl.1, vs], ?_⟩⟩, .inr ⟨rfl, ⟨rfl, rfl, rfl, by simp, fun k hk _ => heap_alloc_old w _ k hk⟩⟩⟩
                · simp only [maxLen]
                  have : els.length * 1 ≤ els.length * ie.size := Nat.mul_le_mul_left _ hpos
                  omega
                · rw [List.drop_zero]; exact List.take_of_length_le (Nat.le_of_eq hfl.1)
              have hrow := fun mt => row_arr hR1 hpos mt (fun n y kk _ _ hk => by simp [Value.ownBlock] at hk) (fun kk hk => by simp [Value.ownBlock] at hk)
                (fun kk hk => by simp [Value.ownBlock] at hk) hend hfl
              cases hd : dr with
              | true =>
                rw [hd, cond_true] at hv
                obtain ⟨g', hext, _, _, hfin⟩ := hrow false
                obtain ⟨hM, hrc⟩ := hfin rfl
                have hext2 : Ext g1 { g1 with S := g'.S } := ⟨hext.S, fun _ _ => rfl, fun _ _ => rfl, fun _ h => h⟩
                by_cases hE : els = []
                · subst hE
                  exact wp_val hrun (hn _ _ _ _ (((h.more hmore hR1).with hext2 hM).put (v := .t (.w (.es ie.size))) ⟨_, rfl⟩) hv)
                · have hm : bsV ie.size els = vc (.sl ie.size els) := by
                    cases els with
                    | nil => exact absurd rfl hE
                    | cons _ _ => rfl
                  rw [hm] at hv
                  exact wp_val hrun (hn _ _ _ _ (((h.more hmore hR1).with hext2 hM).put (v := vc (.sl ie.size els)) hrc) hv)
              | false =>
              rw [hd, cond_false] at hv
              obtain ⟨g', hext, hM, hW, _⟩ := hrow true
              exact wp_val hrun (hn _ _ _ _ (((h.more hmore hR1).with hext hM).put (v := .t (.w (.arr bx1.length))) hW) hv)
          · rw [Bool.not_eq_true] at hc; rw [hc] at hv; cases hv

theorem snd_assert {x : Operand} {xt t : TypeId} {ok : Bool} (ho : o.op = .typeAssert x xt t ok) (hv : vop cf dr o k st = some r) (h : Rel w0 S0 O g0 g st a w) (hn : Hands w0 S0 O g0 k r next) : o.wp P a w next Q := by
  unfold vop at hv; rw [ho] at hv; simp only [vAssert] at hv
  have he := ev_rel cx h x
  cases hti : cf.ti t with
  | none => rw [hti] at hv; cases hv
  | some i =>
    rw [hti] at hv; simp only at hv
    have hu := (cx.ti t i hti).und
    have hd : ∀ ms, i.desc ≠ .interface ms := by intro ms hm; rw [hm] at hv; simp at hv
    -- how the entry runs
    have hyes : ∀ u, a.eval x = .iface t u → (execOp a.eval o).run P w = .ok (.value (if ok then .tuple #[u, .bool true] else u)) w := by
      intro u hx
      unfold execOp
      simp only [ho, Sem.run_bind, hx, Instr.typeAssert, run_underlying hu, Result.andThen_ok]
      generalize i.desc = dd at hd
      cases dd <;> first | (exact absurd rfl (hd _)) | (simp only [if_true, Sem.run_pure, Result.andThen_ok])
    have hno : ok = true → (a.eval x = .nilIface ∨ ∃ t' u, a.eval x = .iface t' u ∧ t' ≠ t) → ∀ z, (zeroValue t).run P w = .ok z w → (execOp a.eval o).run P w = .ok (.value (.tuple #[z, .bool false])) w := by
      intro hok hx z hz
      unfold execOp
      rcases hx with hx | ⟨t', u, hx, hne⟩
      · simp only [ho, Sem.run_bind, hx, Instr.typeAssert, run_underlying hu, Result.andThen_ok]
        generalize i.desc = dd at hd
        cases dd <;> first | (exact absurd rfl (hd _)) | (simp only [hok, if_true, Sem.run_bind, hz, Sem.run_pure, Result.andThen_ok])
      · simp only [ho, Sem.run_bind, hx, Instr.typeAssert, run_underlying hu, Result.andThen_ok]
        generalize i.desc = dd at hd
        cases dd <;> first | (exact absurd rfl (hd _)) | (simp only [hne, if_false, hok, if_true, Sem.run_bind, hz, Sem.run_pure, Result.andThen_ok])
    have hfail : ok = true → (a.eval x = .nilIface ∨ ∃ t' u, a.eval x = .iface t' u ∧ t' ≠ t) → vZero dr i (fun v st => k (st.set o.dst (.tup [v, .w (.d (.bool false))]))) st = some r → o.wp P a w next Q := by
      intro hok hx hk
      obtain ⟨z, hz, hz2, hz3, hz4⟩ := zero_run cx hti w
      unfold vZero at hk
      generalize hze : st.zero dr i.zero = q at hk
      obtain ⟨m, st1⟩ := q
      simp only at hk
      obtain ⟨g1, _, h1, h4⟩ := zero_rel h hz2 hze
      cases hc : cut i.ag i.size m 0 with
      | none => rw [hc] at hk; cases hk
      | some v =>
        rw [hc] at hk; simp only at hk
        have hw := cut_rel (i := i) h4 hc
        have hT : RelT g1 v z := by
          cases hag : i.ag with
          | true =>
            obtain ⟨h5, h6⟩ := hw.1 hag
            rw [List.drop_zero] at h5
            have : z = .agg (z.cells.toList.take i.size).toArray := by
              have h7 := hz4.1 hag
              rw [List.take_of_length_le (by rw [hz2.1, hz3]; omega), Array.toArray_toList]; exact h7
            rw [this]; exact h5
          | false =>
            obtain ⟨u, h5, h6⟩ := hw.2 hag
            rw [List.drop_zero] at h5
            have hna : z ≠ .agg z.cells := fun e => by have := hz4.2 e; rw [hag] at this; cases this
            have : u = z := by
              cases z <;> first | (simp [Value.cells] at h5; exact h5.symm) | (exact absurd rfl hna)
            rw [← this]; exact h6
        refine wp_val (hno hok hx z hz) ?_
        exact hn _ _ _ _ (h1.put (v := .tup [v, .w (.d (.bool false))]) ⟨[z, .bool false], rfl, .cons hT (.cons (RelC.bool _) .nil)⟩) hk
    generalize st.ev cf x = e at hv he
    have hv' : (∃ t' ag l, e = .t (.w (.d (.ifc t' ag l)))) ∨ e = .t (.w (.d .ni)) := by
      generalize i.desc = dd at hd hv
      match e, hv with
      | .t (.w (.d (.ifc t' ag l))), _ => exact .inl ⟨t', ag, l, rfl⟩
      | .t (.w (.d .ni)), _ => exact .inr rfl
      | .u, hv => cases dd <;> simp at hv
      | .tup l, hv => cases dd <;> simp at hv
      | .t (.agg l), hv => cases dd <;> simp at hv
      | .t (.w .u), hv => cases dd <;> simp at hv
      | .t (.w (.ptr b c)), hv => cases dd <;> simp at hv
      | .t (.w (.arr b)), hv => cases dd <;> simp at hv
      | .t (.w (.ea b c s f)), hv => cases dd <;> simp at hv
      | .t (.w (.pv b c s)), hv => cases dd <;> simp at hv
      | .t (.w (.es s)), hv => cases dd <;> simp at hv
      | .t (.w (.vw _ _ _ _ _)), hv => cases dd <;> simp at hv
      | .t (.w (.mp _)), hv => cases dd <;> simp at hv
      | .t (.w (.clo _ _)), hv => cases dd <;> simp at hv
      | .t (.w (.d .nm)), hv => cases dd <;> simp at hv
      | .t (.w (.d (.int k1 n1))), hv => cases dd <;> simp at hv
      | .t (.w (.d (.bool b))), hv => cases dd <;> simp at hv
      | .t (.w (.d (.str s))), hv => cases dd <;> simp at hv
      | .t (.w (.d (.sl s q))), hv => cases dd <;> simp at hv
      | .t (.w (.d (.fn f q))), hv => cases dd <;> simp at hv
      | .t (.w (.d .nf)), hv => cases dd <;> simp at hv
      | .t (.w (.d .np)), hv => cases dd <;> simp at hv
      | .t (.w (.d (.er _ _ _))), hv => cases dd <;> simp at hv
      | .t (.w (.d (.ip q))), hv => cases dd <;> simp at hv
    rcases hv' with ⟨t', ag, l, rfl⟩ | rfl
    · have hv2 : (bif t' == t then
         (bif ag == i.ag && l.length == (bif ag then i.size else 1) then cutK i l fun v => (bif ok then k (st.set o.dst (.tup [v, .w (.d (.bool true))])) else k (st.set o.dst (.t v))) else none)
       else bif ok then vZero dr i (fun v st => k (st.set o.dst (.tup [v, .w (.d (.bool false))]))) st
       else none) = some r := by
        generalize i.desc = dd at hd hv
        cases dd <;> first | (exact absurd rfl (hd _)) | exact hv
      have he' : RelC g.S (.ifc t' ag l) (a.eval x) := he
      by_cases ht : t' = t
      · subst ht
        rw [beq_self_eq_true, cond_true] at hv2
        by_cases hc : (ag == i.ag && l.length == (bif ag then i.size else 1)) = true
        case neg => rw [Bool.not_eq_true] at hc; rw [hc] at hv2; cases hv2
        rw [hc, cond_true] at hv2
        simp only [Bool.and_eq_true, beq_iff_eq] at hc
        obtain ⟨rfl, hlen⟩ := hc
        have hval : ∃ u v, a.eval x = .iface t' u ∧ RelT g v u ∧ (bif ok then k (st.set o.dst (.tup [v, .w (.d (.bool true))])) else k (st.set o.dst (.t v))) = some r := by
          generalize hq : a.eval x = q at he'
          generalize hag : i.ag = ag at he' hlen
          cases he' with
          | ifc1 t c u hh =>
            obtain ⟨v, hv3, _, hw⟩ := cutK_rel (us := [u]) (.cons hh .nil) hv2
            obtain ⟨u', hu', hr⟩ := hw hag
            simp at hu'; subst hu'
            exact ⟨_, v, rfl, hr, hv3⟩
          | ifcA t l us hl hh =>
            obtain ⟨v, hv3, hw, _⟩ := cutK_rel (us := us) ⟨hl, hh⟩ hv2
            obtain ⟨hr, _⟩ := hw hag
            simp only [cond_true] at hlen
            rw [List.take_of_length_le (by omega)] at hr
            exact ⟨_, v, rfl, hr, hv3⟩
        obtain ⟨u, v, hx, hu2, hv3⟩ := hval
        cases ok with
        | true =>
          rw [cond_true] at hv3
          exact snd_val hv3 h hn ⟨_, hyes u hx, ⟨[u, .bool true], rfl, .cons hu2 (.cons (RelC.bool _) .nil)⟩⟩
        | false =>
          rw [cond_false] at hv3
          exact snd_val (v := .t v) hv3 h hn ⟨_, hyes u hx, hu2⟩
      · rw [beq_false_of_ne ht, cond_false] at hv2
        cases ok with
        | false => cases hv2
        | true =>
          rw [cond_true] at hv2
          refine hfail rfl (.inr ?_) hv2
          generalize hq : a.eval x = q at he'
          cases he' with
          | ifc1 _ c u hh => exact ⟨t', u, rfl, ht⟩
          | ifcA _ l us hl hh => exact ⟨t', _, rfl, ht⟩
    · have hv2 : (bif ok then vZero dr i (fun v st => k (st.set o.dst (.tup [v, .w (.d (.bool false))]))) st
       else none) = some r := by
        generalize i.desc = dd at hd hv
        cases dd <;> first | (exact absurd rfl (hd _)) | exact hv
      have he' : RelC g.S .ni (a.eval x) := he
      have hx : a.eval x = .nilIface := by generalize a.eval x = q at he'; cases he'; rfl
      cases ok with
      | false => cases hv2
      | true => exact hfail rfl (.inl hx) hv2

omit cx in
theorem getMap_run {w : World} {r : Nat} {es : Array MapEntry} {c : Nat} (hh : w.heap[r]? = some (.map es c)) : (getObj r).run P w = .ok (.map es c) w := by
  unfold getObj
  simp only [Sem.run, hh]
omit cx in
theorem slLen_rel {bx : Bx} (hm : RelM w0 S0 O g bx w) {v : V} {u : Value} {n : Nat} (hs : slLen bx v = some n) (hv : RelV g v u) : ∃ A cap, u = .slice A n cap := by
  match v, hs, hv with
  | .t (.w (.d (.sl sz els))), hs, hv =>
    simp only [slLen, Option.some.injEq] at hs; subst hs
    obtain ⟨A, cap, uf, hea, _⟩ := relC_sl hv
    exact ⟨A, cap, hea⟩
  | .t (.w (.es sz)), hs, hv =>
    simp only [slLen, Option.some.injEq] at hs; subst hs
    obtain ⟨A, rfl⟩ := hv
    exact ⟨A, 0, rfl⟩
  | .t (.w (.arr b)), hs, hv =>
    simp only [slLen] at hs
    generalize hb : bx.getD b none = bb at hs
    match bb, hs with
    | some (.arr mt e sz els), hs =>
      simp only [Option.some.injEq] at hs; subst hs
      obtain ⟨_, xs, _, _, hown, _⟩ := hm.box b _ (getD_some hb)
      obtain ⟨_, hu, _⟩ := hv
      rcases hown.2 with ⟨h0, hn⟩ | ⟨gb, o, cap, cur, h0, _⟩
      · exact ⟨none, 0, by rw [hu, h0, hn]⟩
      · exact ⟨_, cap, by rw [hu, h0]⟩
  | .t (.w (.vw b lo hi mx sz)), hs, hv =>
    simp only [slLen, Option.some.injEq] at hs; subst hs
    obtain ⟨_, _, _, A, cap, hu, _⟩ := hv
    exact ⟨A, cap, hu⟩

theorem snd_len {c : Call} (ho : o.op = .call c) (hcl : c.callee = .builtin .len) (hv : vLen cf o c.argTypes c.args k st = some r) (h : Rel w0 S0 O g0 g st a w) (hn : Hands w0 S0 O g0 k r next) : o.wp P a w next Q := by
  obtain ⟨callee, args, ts⟩ := c
  simp only at hcl; subst hcl
  simp only [vLen] at hv
  generalize hts : ts.toList = tl at hv
  generalize hxs : args.toList = xl at hv
  match tl, xl, hv with
  | [t], [x], hv =>
    simp only at hv
    have hts' : ts = #[t] := by apply Array.ext'; simpa using hts
    have hxs' : args = #[x] := by apply Array.ext'; simpa using hxs
    subst hts' hxs'
    obtain ⟨cs, hcs⟩ := run_builtin (P := P) (a := a) (w := w) ho
    have hb : (execOp a.eval o).run P w = ((Builtin.len_ #[t] o.type #[a.eval x]).run P w).andThen fun v w => .ok (.value v) w := by
      rw [hcs]; simp only [builtin, Sem.run_bind, Sem.run_pure, List.map_toArray, List.map_cons, List.map_nil]
    have hrun : ∀ (d : TypeDesc) (n : Nat), P.underlying t = some d → (match d, a.eval x with | .string, .string s => s.size = n | .slice _, .slice _ m _ => m = n | .array m _, _ => m = n | _, _ => False) →
        (execOp a.eval o).run P w = .ok (.value (.int .i64 n)) w := by
      intro d n hu hm
      rw [hb]
      unfold Builtin.len_
      generalize a.eval x = q at hm
      cases d <;> cases q <;> simp only at hm <;> first
        | (subst hm; simp only [List.getElem?_toArray, List.getElem?_cons_zero, Sem.run_bind, run_underlying hu, Result.andThen_ok, Sem.run_pure]; rfl)
        | exact hm.elim
    generalize hti : cf.ti t = ti at hv
    match ti, hv with
    | some ⟨.string, z1, z2, z3, z4, z5⟩, hv =>
      simp only at hv
      have hx := ev_rel cx h x
      generalize st.ev cf x = e at hv hx
      match e, hv, hx with
      | .t (.w (.d (.str s))), hv, hx => exact snd_val hv h hn ⟨_, hrun _ s.size (cx.ti t _ hti).und (by rw [relC_str hx]), RelC.int _ _⟩
    | some ⟨.slice _, z1, z2, z3, z4, z5⟩, hv =>
      simp only at hv
      have hx := evT_rel cx h t x
      cases hl : slLen st.bx (st.evT cf t x) with
      | none => rw [hl] at hv; cases hv
      | some n =>
        rw [hl] at hv
        obtain ⟨A, cap, hea⟩ := slLen_rel h.m hl hx
        exact snd_val hv h hn ⟨_, hrun _ n (cx.ti t _ hti).und (by rw [hea]), RelC.int _ _⟩
    | some ⟨.array n _, z1, z2, z3, z4, z5⟩, hv =>
      exact snd_val hv h hn ⟨_, hrun _ n (cx.ti t _ hti).und (by cases a.eval x <;> rfl), RelC.int _ _⟩
    | some ⟨.map _ _, z1, z2, z3, z4, z5⟩, hv =>
      simp only at hv
      have hx := ev_rel cx h x
      generalize st.ev cf x = e at hv hx
      match e, hv, hx with
      | .t (.w (.mp b)), hv, hx =>
        simp only at hv
        generalize hbb : st.bx.getD b none = bb at hv
        match bb, hv with
        | some (.map ksh ka va vn es), hv =>
          obtain ⟨_, ents, cl, hh, ha⟩ := h.m.box b _ (getD_some hbb)
          refine snd_val hv h hn ⟨.int .i64 es.length, ?_, RelC.int _ _⟩
          have hob : (getObj (g.bx b)).run P w = .ok (.map ents.toArray cl) w := getMap_run hh
          have hea : a.eval x = .map (some (g.bx b)) := hx.2
          have hsz : (ents.toArray.size : Nat) = es.length := by simp [ha.1]
          rw [hb]
          unfold Builtin.len_
          simp only [List.getElem?_toArray, List.getElem?_cons_zero, Sem.run_bind, run_underlying (cx.ti t _ hti).und, Result.andThen_ok, Sem.run_pure, hea, hob, hsz]
          rfl

omit cx in
theorem isBytes_und {t : TypeId} (h : isBytes cf t = true) : ∃ i, cf.ti t = some i ∧ i.desc = .int .u8 := by
  unfold isBytes at h
  generalize hti : cf.ti t = ti at h
  match ti, h with
  | some ⟨.int .u8, z1, z2, z3, z4, z5⟩, _ => exact ⟨_, rfl, rfl⟩

omit cx in
theorem okBytes_vals {S : Addr → Option Value} : ∀ (els : List (List C)) (xs : List Value), okBytes els = true → Flat S 1 els xs → xs = (els.map fun e => (e.getD 0 .nf).toInt).map (Value.int .u8) := by
  intro els xs hok hf
  apply List.ext_getElem?
  intro i
  have hel : ∀ e ∈ els, ∃ n, e = [.int .u8 n] := by
    clear hf
    induction els with
    | nil => intro e he; cases he
    | cons e r ih =>
      intro e' he'
      have : ∃ n, e = [.int .u8 n] ∧ okBytes r = true := by
        unfold okBytes at hok
        split at hok
        · rename_i h; cases h
        · rename_i n r' h; cases h
          rw [Bool.and_eq_true] at hok; exact ⟨n, rfl, hok.2⟩
        · cases hok
      obtain ⟨n, rfl, hr⟩ := this
      rcases List.mem_cons.1 he' with rfl | h
      · exact ⟨n, rfl⟩
      · exact ih hr e' h
  by_cases hi : i < els.length
  · obtain ⟨n, hn⟩ := hel _ (List.getElem_mem hi)
    obtain ⟨u, hu, hr⟩ := (hf.2 i _ (List.getElem?_eq_getElem hi)).2 0 (.int .u8 n) (by rw [hn]; rfl)
    rw [Nat.mul_one, Nat.add_zero] at hu
    rw [hu, relC_int hr]
    simp [hi, hn, C.toInt]
  · rw [List.getElem?_eq_none (by rw [hf.1]; omega), List.getElem?_eq_none (by simp; omega)]

omit cx in
theorem fold_push (f : Int → UInt8) : ∀ (ns : List Int) (s : ByteArray), ns.foldl (fun r n => r.push (f n)) s = ⟨s.data ++ (ns.map f).toArray⟩ := by
  intro ns
  induction ns with
  | nil => intro s; simp
  | cons n q ih =>
    intro s
    simp only [List.foldl_cons, ih]
    congr 1
    simp [ByteArray.push]

omit cx in
theorem freeze_at (w : World) (a : Addr) (n : Nat) (k : Nat) (h : k ≠ a.block) : (w.freeze a n).heap[k]? = w.heap[k]? := by
  unfold World.freeze
  split
  · rfl
  · simp [Array.getElem?_modify, Ne.symm h]
omit cx in
theorem freeze_cell (w : World) (a : Addr) (n : Nat) (x : Addr) : (w.freeze a n).cell? x = w.cell? x := by
  by_cases h : x.block = a.block
  · unfold World.freeze
    split
    · rfl
    · simp only [World.cell?, h, Array.getElem?_modify, if_true]
      cases hh : w.heap[a.block]? with
      | none => rfl
      | some ob => cases ob <;> rfl
  · exact World.cell?_of_block (freeze_at w a n _ h)
omit cx in
theorem freeze_size (w : World) (a : Addr) (n : Nat) : (w.freeze a n).heap.size = w.heap.size := by
  unfold World.freeze; split <;> simp
omit cx in
theorem freeze_grown (w : World) (a : Addr) (n : Nat) : w.grownBy (w.freeze a n) (some a.block) := by
  refine ⟨?_, ?_, ?_, by rw [freeze_size]; exact Nat.le_refl _, fun k hk hne => freeze_at w a n k (fun e => hne (by rw [e]))⟩ <;> (unfold World.freeze; split <;> rfl)
omit cx in
theorem run_convert_same {P : Program} (w : World) (t e : TypeId) (g o0 n c : Nat) (cur : Array Value) (e' : TypeId) (fz : Nat × Nat) (ht : P.underlying t = some (.slice e)) (he : P.underlying e = some (.int .u8)) (hh : w.heap[g]? = some (.cells cur e' fz)) :
    (convert t t (.slice (some ⟨g, o0, none⟩) n c)).run P w = .ok (.slice (some ⟨g, o0, none⟩) n c) (w.freeze ⟨g, cur.size, none⟩ 1) := by
  have hsh : w.shape? g = some (e', cur.size) := by unfold World.shape?; rw [hh]
  simp [convert, run_underlying ht, run_underlying he, markStringish, hsh]

theorem snd_convS {s : TypeId} {x : Operand} (ho : o.op = .convert s s x) (hv : vConvS cf o s (st.ev cf x) k st = some r) (h : Rel w0 S0 O g0 g st a w) (hn : Hands w0 S0 O g0 k r next) : o.wp P a w next Q := by
  have he := ev_rel cx h x
  unfold vConvS at hv
  generalize hs : cf.ti s = si at hv
  generalize hev : st.ev cf x = ee at hv he
  match si, ee, hv, he with
  | some ⟨.slice e, _, _, _, _, _⟩, .t (.w (.arr b)), hv, he =>
    simp only at hv
    generalize hb : st.bx.getD b none = bb at hv
    match bb, hv with
    | some (.arr mt e2 1 els), hv =>
      simp only at hv
      by_cases hc : (isBytes cf e && Nat.ble 1 els.length) = true
      case neg => rw [Bool.not_eq_true] at hc; rw [hc] at hv; cases hv
      rw [hc, cond_true] at hv
      rw [Bool.and_eq_true, Nat.ble_eq] at hc
      obtain ⟨ie, hie, hied⟩ := isBytes_und hc.1
      have hue : P.underlying e = some (.int .u8) := by rw [← hied]; exact (cx.ti e _ hie).und
      have hb' := getD_some hb
      obtain ⟨hbc, xs, e', _, hown, _, _, _⟩ := h.m.box b _ hb'
      obtain ⟨g1, hm1, hR1, _, _, hrw⟩ := passW_rel (dr := false) (x := .arr b) (y := .d (.sl 1 els)) (bx := st.bx) (bx' := if mt then st.bx.set b (some (.arr false e2 1 els)) else st.bx) (by simp only [passW, hb]; cases mt <;> rfl) h.m
      have hrel : RelC g1.S (.sl 1 els) (g.sl b) := hrw (g.sl b) ⟨hbc, rfl, by rw [← he.2.1]; exact he.2.2⟩
      rcases hown.2 with ⟨_, h0⟩ | ⟨gb, o0, cap, cur, hsl, hheap, _, _, _, _⟩
      · omega
      · have hbk : blk g b (.arr mt e2 1 els) = some gb := by simp [blk, hsl, Value.ownBlock]
        have hlow := h.m.low b _ _ hb' hbk
        have hbx : ∀ n : Nat, (st.bx.set b none)[n]? = ((if mt then st.bx.set b (some (.arr false e2 1 els)) else st.bx).set b none)[n]? := by
          intro n; cases mt <;> simp
        have hbx2 : st.bx.set b none = (if mt then st.bx.set b (some (.arr false e2 1 els)) else st.bx).set b none := List.ext_getElem? hbx
        have hless : RelM w0 S0 O g1 (st.bx.set b none) w := by
          rw [hbx2]
          refine hR1.less (by simp only [List.length_set]; exact hR1.c) (fun n y hy => ?_)
          rcases set_get hy with ⟨_, e, _⟩ | ⟨_, e⟩
          · cases e
          · exact e
        have hbk1 : ∀ n y, blk g1 n y = blk g n y := by
          intro n y; cases y <;> simp [blk, hm1.bx, hm1.sl]
        have hM := hless.stepS (freeze_grown w ⟨gb, cur.size, none⟩ 1) (S' := g1.S) (fun k hk => by cases hk; exact hlow) (fun _ _ h => h) (fun _ _ h => .inl h) (fun ad u hu _ => by rw [freeze_cell]; exact hR1.mem ad u hu)
          (fun n y k hy hk hr => by
            cases hr
            rw [hbk1] at hk
            rcases set_get hy with ⟨_, e, _⟩ | ⟨hne, hy⟩
            · cases e
            · exact hne (h.m.disj n b y _ _ hy hb' hk hbk))
        have hu : a.eval x = g.sl b := he.2.1
        have hrun : (execOp a.eval o).run P w = .ok (.value (g.sl b)) (w.freeze ⟨gb, cur.size, none⟩ 1) := by
          unfold execOp
          simp only [ho, Sem.run_bind, hu, hsl]
          rw [run_convert_same w s e gb o0 _ _ cur e' (0, 0) (cx.ti s _ hs).und hue hheap]
          simp only [Result.andThen_ok, Sem.run_pure]
        have hrel2 : Rel w0 S0 O g0 g1 { st with bx := st.bx.set b none } a (w.freeze ⟨gb, cur.size, none⟩ 1) := by
          have hq := h.more hm1 hless
          exact ⟨hq.df, hq.len, hq.np, hq.np0, hq.pin, hq.env, hM⟩
        exact wp_val hrun (hn _ _ _ _ (hrel2.put (v := vc (.sl 1 els)) hrel) hv)

theorem snd_convert {s d : TypeId} {x : Operand} (ho : o.op = .convert s d x) (hv : vop cf dr o k st = some r) (h : Rel w0 S0 O g0 g st a w) (hn : Hands w0 S0 O g0 k r next) : o.wp P a w next Q := by
  unfold vop at hv; rw [ho] at hv; simp only at hv
  have he := ev_rel cx h x
  unfold vConvert at hv
  split at hv
  · rename_i si kd z1 z2 z3 z4 z5 k2 n hs hd e1
    rw [e1] at he
    have h1 := relC_int he
    refine snd_val hv h hn ⟨_, ?_, RelC.int _ _⟩
    unfold execOp
    simp only [ho, Sem.run_bind, h1, convert, run_underlying (cx.ti s _ hs).und, run_underlying (cx.ti d _ hd).und, Result.andThen_ok, Conv.intToInt, Sem.run_pure]
  · rename_i si z1 z2 z3 z4 z5 k2 n hs hd e1
    rw [e1] at he
    have h1 := relC_int he
    refine snd_val hv h hn ⟨_, ?_, RelC.str _⟩
    unfold execOp
    simp only [ho, Sem.run_bind, h1, convert, run_underlying (cx.ti s _ hs).und, run_underlying (cx.ti d _ hd).und, Result.andThen_ok, Conv.intToString, Sem.run_pure]
  · rename_i q hs hd e1
    rw [e1] at he
    have h1 := relC_str he
    refine snd_val hv h hn ⟨.string q, ?_, RelC.str _⟩
    unfold execOp
    simp only [ho, Sem.run_bind, h1, convert, run_underlying (cx.ti s _ hs).und, run_underlying (cx.ti d _ hd).und, Result.andThen_ok, Sem.run_pure]
  · cases hq : (!dr && s == d) with
    | true =>
      rw [hq, cond_true] at hv
      rw [Bool.and_eq_true, beq_iff_eq] at hq
      obtain ⟨_, rfl⟩ := hq
      exact snd_convS cx ho hv h hn
    | false =>
    rw [hq, cond_false] at hv
    unfold vConvB at hv
    generalize hs : cf.ti s = si at hv
    match si, hv with
    | some ⟨.slice e, z1, z2, z3, z4, z5⟩, hv =>
      simp only at hv
      generalize hd : cf.ti d = di at hv
      generalize hel : elsOf st.bx (st.ev cf x) = ee at hv
      match di, ee, hv with
      | some ⟨.string, _, _, _, _, _⟩, some (1, els), hv =>
        simp only at hv
        by_cases hc : (isBytes cf e && okBytes els) = true
        case neg => rw [Bool.not_eq_true] at hc; rw [hc] at hv; cases hv
        rw [hc, cond_true] at hv
        rw [Bool.and_eq_true] at hc
        obtain ⟨ie, hie, hied⟩ := isBytes_und hc.1
        have hue : P.underlying e = some (.int .u8) := by rw [← hied]; exact (cx.ti e _ hie).und
        obtain ⟨A, cap, xs, hu, hA, hfl, hcell, _⟩ := elsOf_rel h.m hel he (by omega)
        have hxs := okBytes_vals els xs hc.2 hfl
        refine snd_val hv h hn ⟨.string (bytesOf els), ?_, RelC.str _⟩
        have hrun : (convert s d (.slice A els.length cap)).run P w = .ok (.string (bytesOf els)) w := by
          rw [run_convert_bytes_string w s d e A els.length cap (cx.ti s _ hs).und hue (cx.ti d _ hd).und]
          cases A with
          | none =>
            have : els = [] := List.eq_nil_of_length_eq_zero (by
              rcases Nat.eq_zero_or_pos els.length with h | h
              · exact h
              · obtain ⟨a, ha⟩ := hA h; cases ha)
            subst this
            rfl
          | some ad =>
            have hl := run_loadCells_list (P := P) w ad xs (fun j v hv => hcell ad rfl j v hv)
            rw [hfl.1, Nat.mul_one] at hl
            rw [run_bytesToString w ad els.length cap (els.map fun e => (e.getD 0 .nf).toInt) (by rw [hl, hxs]), fold_push (fun n => UInt8.ofNat n.toNat)]
            congr 2
            simp [bytesOf]
        unfold execOp
        simp only [ho, Sem.run_bind, hu, hrun, Result.andThen_ok, Sem.run_pure]
    | some ⟨.string, z1, z2, z3, z4, z5⟩, hv =>
      simp only at hv
      generalize hd : cf.ti d = di at hv
      generalize hev : st.ev cf x = ee at hv he
      match di, ee, hv, he with
      | some ⟨.slice e, _, _, _, _, _⟩, .t (.w (.d (.str q))), hv, he =>
        simp only at hv
        by_cases hc : (isBytes cf e && decide (q.size ≤ 9223372036854775807)) = true
        case neg => rw [Bool.not_eq_true] at hc; rw [hc] at hv; cases hv
        rw [hc, cond_true] at hv
        rw [Bool.and_eq_true, decide_eq_true_eq] at hc
        obtain ⟨ie, hie, hied⟩ := isBytes_und hc.1
        have hue : P.underlying e = some (.int .u8) := by rw [← hied]; exact (cx.ti e _ hie).und
        have hrun : (execOp a.eval o).run P w = .ok (.value (.slice (some ⟨w.heap.size, 0, none⟩) q.size (grownCap w q.size 0 e))) (Lib.bytesWorld w e q) := by
          unfold execOp
          simp only [ho, Sem.run_bind, relC_str he, Lib.run_convert_string_bytes w s d e q (cx.ti s _ hs).und (cx.ti d _ hd).und hue, Result.andThen_ok, Sem.run_pure]
        let S' : Addr → Option Value := fun ad => match g.S ad with | some u => some u | none => if ad.block = w.heap.size ∧ ad.spot = none ∧ ad.off < q.size then (Lib.bytesWorld w e q).cell? ad else none
        have hsub : ∀ ad v, g.S ad = some v → S' ad = some v := by intro ad v hv; simp [S', hv]
        have hM : RelM w0 S0 O { g with S := S' } st.bx (Lib.bytesWorld w e q) := by
          refine h.m.stepS (w' := Lib.bytesWorld w e q) (row := none) ⟨rfl, rfl, rfl, by rw [Lib.bytesWorld_size]; omega, fun k hk _ => Lib.bytesWorld_at_old w e q k hk⟩ (fun k hk => by cases hk) hsub (fun ad u hu => ?_) (fun _ _ _ hr => by cases hr) (fun _ _ _ _ _ hr => by cases hr)
          simp only [S'] at hu
          cases hS : g.S ad with
          | some v => rw [hS] at hu; exact .inl hu
          | none =>
            rw [hS] at hu; simp only at hu
            split at hu
            · rename_i hcc; exact .inr ⟨hu, .inr (by omega)⟩
            · cases hu
        have hrel : RelC S' (.sl 1 (byteEls q)) (.slice (some ⟨w.heap.size, 0, none⟩) q.size (grownCap w q.size 0 e)) := by
          have hl : (byteEls q).length = q.size := by simp [byteEls]
          have := RelC.sl (S := S') 1 (byteEls q) (some ⟨w.heap.size, 0, none⟩) (grownCap w q.size 0 e) (fun i _ => .int .u8 (q.data.toList.getD i 0).toNat)
            (by rw [hl]; exact grownCap_ge w q.size 0 e) (fun e he => by simp only [byteEls, List.mem_map] at he; obtain ⟨b, _, rfl⟩ := he; rfl) (fun _ => ⟨_, rfl⟩) (fun _ a ha => by cases ha; rfl)
            (fun ad ha i el hi j c hj => by
              cases ha
              have hlt := lt_of hi
              rw [hl] at hlt
              have hj0 : j = 0 := by
                simp only [byteEls, List.getElem?_map, Option.map_eq_some_iff] at hi
                obtain ⟨b, _, rfl⟩ := hi
                have := lt_of hj; simp at this; exact this
              subst hj0
              rw [add_plain', Nat.zero_add, Nat.mul_one, Nat.add_zero]
              have hnone : g.S ⟨w.heap.size, i, none⟩ = none := by
                cases hS : g.S ⟨w.heap.size, i, none⟩ with
                | none => rfl
                | some v => have := h.m.S_lt hS; simp at this
              simp only [S', hnone]
              rw [if_pos ⟨trivial, trivial, hlt⟩, Lib.bytesWorld_cell w e q i hlt])
            (fun i el hi j c hj => by
              simp only [byteEls, List.getElem?_map, Option.map_eq_some_iff] at hi
              obtain ⟨b, hb, rfl⟩ := hi
              cases j with
              | zero => simp at hj; subst hj; rw [List.getD_eq_getElem?_getD, hb]; exact RelC.int _ _
              | succ j => simp at hj)
          rw [hl] at this; exact this
        exact wp_val hrun (hn _ _ _ _ ((h.with (g' := { g with S := S' }) ⟨hsub, fun _ _ => rfl, fun _ _ => rfl, fun _ h => h⟩ hM).put (v := vc (.sl 1 (byteEls q))) hrel) hv)

omit cx in
theorem zeroC_rel {S : Addr → Option Value} : ∀ (z : List Z) (zs : List Value), All2 ZRel z zs → All2 (RelC S) (zeroC z) zs := by
  intro z
  induction z with
  | nil => intro zs h; have : zs = [] := List.eq_nil_of_length_eq_zero h.1
           subst this; exact .nil
  | cons y q ih =>
    intro zs h
    cases zs with
    | nil => exact absurd h.1 (by simp)
    | cons v vs =>
      cases y with
      | c c => exact .cons (RelC.mono (fun a v hv => by cases hv) h.head) (ih vs h.tail)
      | s e sz => exact .cons (by obtain ⟨rfl, _⟩ := h.head; exact relC_nil _ _) (ih vs h.tail)

omit cx in
theorem make_row {S : Addr → Option Value} {z : List Z} {zs : Array Value} (e : TypeId) {sz n : Nat} (hz : All2 ZRel z zs.toList) (hzs : zs.size = sz) (hm : n ≤ maxLen) (w : World) :
    AppEnd e sz (.slice none 0 0) (List.replicate n (zeroC z)).length (madeCells zs (n * sz)).toList w (w.alloc (.cells (madeCells zs (n * sz)) e)) (.slice (some ⟨w.heap.size, 0, none⟩) n n) ∧
    Flat S sz (List.replicate n (zeroC z)) (madeCells zs (n * sz)).toList := by
  have hzc := zeroC_rel (S := S) z _ hz
  have hzl : (zeroC z).length = sz := by rw [← hzc.1, Array.length_toList, hzs]
  refine ⟨?_, by simp [size_madeCells], fun i e' hn => ?_⟩
  · rw [List.length_replicate]
    exact ⟨OwnR.of (World.ownsRow_lit w _ _ (Nat.zero_le _) hm (size_madeCells _ _)), .inr ⟨rfl, World.grownBy_alloc w _ none⟩⟩
  · have hlt := lt_of hn
    simp only [List.length_replicate] at hlt
    have : e' = zeroC z := by
      rw [List.getElem?_replicate, if_pos hlt] at hn; cases hn; rfl
    subst this
    refine ⟨hzl, fun j c hj => ?_⟩
    have hjl : j < sz := by have := lt_of hj; omega
    obtain ⟨u, hu, hr⟩ := hzc.get hj
    refine ⟨u, ?_, hr⟩
    have hle : (i + 1) * sz ≤ n * sz := Nat.mul_le_mul_right _ hlt
    rw [Nat.add_mul, Nat.one_mul] at hle
    have hmod : (i * sz + j) % sz = j := by rw [Nat.mul_comm, Nat.mul_add_mod, Nat.mod_eq_of_lt hjl]
    have hlt2 : i * sz + j < n * sz := by omega
    have : zs[j]? = some u := by simpa using hu
    simp only [madeCells]
    rw [Array.getElem?_toList, Array.getElem?_map, Array.getElem?_range, if_pos hlt2]
    simp only [Option.map_some, hzs, hmod]
    rw [getElem!_def, this]

theorem run_made {t : TypeId} {n c : Operand} (ho : o.op = .makeSlice t n c) {i : TI} {e : TypeId} (hu : P.underlying t = some (.slice e)) (hie : cf.ti e = some i) {kl kc : IntKind} {l m : Int} (h1 : a.eval n = .int kl l) (h2 : a.eval c = .int kc m)
    (hc : mkOk l m i.bytes = true) : ∃ zs : Array Value, All2 ZRel i.zero zs.toList ∧ zs.size = i.size ∧ l.toNat ≤ maxLen ∧
      (execOp a.eval o).run P w = .ok (.value (.slice (some ⟨w.heap.size, 0, none⟩) l.toNat l.toNat)) (w.alloc (.cells (madeCells zs (l.toNat * i.size)) e)) := by
  simp only [mkOk, decide_eq_true_eq] at hc
  obtain ⟨rfl, h0, hb, h63⟩ := hc
  obtain ⟨f, hf, hf1, hf2, z, hz, hz2, hz3, _⟩ := info_of cx hie
  have hzs : z.cells.size = i.size := by rw [← Array.length_toList, hz2.1, hz3]
  refine ⟨z.cells, hz2, hzs, by simp only [maxLen]; omega, ?_⟩
  unfold execOp
  simp only [ho, Sem.run_bind, h1, h2]
  have := run_make (P := P) w t e f z hu hf hz kl kc l l h0 (Int.le_refl _) (by rw [hf2]; exact hb) h63
  rw [hf1] at this
  simp only [this, Result.andThen_ok, Sem.run_pure]

theorem snd_makeSlice {t : TypeId} {n c : Operand} (ho : o.op = .makeSlice t n c) (hv : vop cf dr o k st = some r) (h : Rel w0 S0 O g0 g st a w) (hn : Hands w0 S0 O g0 k r next) : o.wp P a w next Q := by
  unfold vop at hv; rw [ho] at hv; simp only [vMakeSlice] at hv
  have h1 := ev_rel cx h n
  have h2 := ev_rel cx h c
  split at hv
  case h_2 => cases hv
  · rename_i e z1 z2 z3 z4 z5 kl l kc m hti e1 e2
    rw [e1] at h1; rw [e2] at h2
    cases hie : cf.ti e with
    | none => rw [hie] at hv; cases hv
    | some i =>
      rw [hie] at hv; simp only at hv
      by_cases hc : (mkOk l m i.bytes && Nat.ble 1 i.size && !dr) = true
      case neg => rw [Bool.not_eq_true] at hc; rw [hc] at hv; cases hv
      rw [hc, cond_true] at hv
      simp only [Bool.and_eq_true, Nat.ble_eq] at hc
      obtain ⟨⟨hok, hpos⟩, _⟩ := hc
      obtain ⟨zs, hz, hzs, hm, hrun⟩ := run_made (P := P) (w := w) cx ho (cx.ti t _ hti).und hie (relC_int h1) (relC_int h2) hok
      obtain ⟨hend, hfl⟩ := make_row (S := g.S) e hz hzs hm w
      obtain ⟨g', hext, hM, hW, _⟩ := row_arr h.m hpos true (fun n y kk _ _ hk => by cases hk) (fun kk hk => by cases hk) (fun kk hk => by cases hk) hend hfl
      exact wp_val hrun (hn _ _ _ _ ((h.with hext hM).put (v := .t (.w (.arr st.bx.length))) hW) hv)

theorem snd_copy {c : Call} (ho : o.op = .call c) (hcl : c.callee = .builtin .copy) (hv : vCopy cf o c.argTypes c.args k st = some r) (h : Rel w0 S0 O g0 g st a w) (hn : Hands w0 S0 O g0 k r next) : o.wp P a w next Q := by
  obtain ⟨callee, args, ts⟩ := c
  simp only at hcl; subst hcl
  simp only [vCopy] at hv
  generalize hts : ts.toList = tl at hv
  generalize hxs : args.toList = xl at hv
  match tl, xl, hv with
  | [t, t2], [x, y], hv =>
    simp only at hv
    have hts' : ts = #[t, t2] := by apply Array.ext'; simpa using hts
    have hxs' : args = #[x, y] := by apply Array.ext'; simpa using hxs
    subst hts' hxs'
    have hx := ev_rel cx h x
    have hy := evT_rel cx h t2 y
    generalize hE : eszE cf t = ee at hv
    generalize hsrc : elsOf st.bx (st.evT cf t2 y) = src at hv
    match ee, src, hv with
    | some (e, 1), some (1, els2), hv =>
      simp only at hv
      obtain ⟨hu, ti, hte, hsz⟩ := eszE_und cx hE
      obtain ⟨f, hf, hf1, _⟩ := info_of cx hte
      have hs1 : (P.info? e).map (·.size) = some 1 := by rw [hf]; simp [hf1, hsz]
      generalize st.ev cf x = ex at hv hx
      match ex, hv, hx with
      | .t (.w (.pv b off n)), hv, hx =>
        simp only at hv
        generalize hb : st.bx.getD b none = bb at hv
        match bb, hv with
        | some (.cells m), hv =>
          simp only at hv
          by_cases hc : Nat.ble (off + n) m.n = true
          case neg => rw [Bool.not_eq_true] at hc; rw [hc] at hv; cases hv
          rw [hc, cond_true] at hv
          rw [Nat.ble_eq] at hc
          have hb' := getD_some hb
          obtain ⟨_, cs, e', hh, hcs⟩ := h.m.box b _ hb'
          obtain ⟨A, cap, xs, he, hA, hfl, hcell, hone⟩ := elsOf_rel h.m hsrc hy (by omega)
          obtain ⟨_, hea⟩ := hx
          have hxl : xs.length = els2.length := by rw [hfl.1, Nat.mul_one]
          have hk : (xs.take n).length = Nat.min els2.length n := by rw [List.length_take, hxl]; exact Nat.min_comm _ _
          -- the cells that go over
          have hgo : All2 (RelC g.S) ((els2.take n).map fun e => e.getD 0 .nf) (xs.take n) := by
            refine ⟨by simp [hxl], fun j c u hc hu => ?_⟩
            simp only [List.getElem?_map, Option.map_eq_some_iff] at hc
            obtain ⟨el, hel, rfl⟩ := hc
            rw [List.getElem?_take] at hel hu
            split at hel
            · rename_i hjn
              rw [if_pos hjn] at hu
              obtain ⟨h1, h2⟩ := hfl.2 j el hel
              match el, h1 with
              | [c], _ =>
                obtain ⟨u', hu', hr⟩ := h2 0 c rfl
                rw [Nat.mul_one, Nat.add_zero] at hu'
                rw [hu] at hu'; cases hu'; exact hr
            · cases hel
          obtain ⟨cs0, hcs0⟩ := run_builtin (P := P) (a := a) (w := w) ho
          have hbl : (execOp a.eval o).run P w = ((Builtin.copy_ #[t, t2] o.type #[a.eval x, a.eval y]).run P w).andThen fun v w => .ok (.value v) w := by
            rw [hcs0]; simp only [builtin, Sem.run_bind, Sem.run_pure, List.map_toArray, List.map_cons, List.map_nil]
          have hmin : Nat.min els2.length n ≤ n := Nat.min_le_right _ _
          have hrun : ∃ w', (execOp a.eval o).run P w = .ok (.value (goInt (Nat.min els2.length n))) w' ∧ w'.heap[g.bx b]? = some (.cells (cs.take off ++ xs.take n ++ cs.drop (off + (xs.take n).length)).toArray e' (0, 0)) ∧ w.grownBy w' (some (g.bx b)) ∧ w'.heap.size = w.heap.size := by
            rw [hbl, hea, he]
            cases A with
            | some ad =>
              refine ⟨w.setRow (g.bx b) (cs.take off ++ xs.take n ++ cs.drop (off + (xs.take n).length)).toArray, ?_, setRow_heap w (g.bx b) cs.toArray _ e' (0, 0) hh, setRow_grown w (g.bx b) _, by simp⟩
              rw [run_copy_row (P := P) w t t2 o.type e (g.bx b) off n n ad els2.length cap cs.toArray e' (xs.take n) hu hs1 hh hk (fun j v hv => by
                rw [List.getElem?_take] at hv
                split at hv
                · exact hcell ad rfl j v hv
                · cases hv) (by rw [hk, List.size_toArray, hcs.n]; omega) (fun v hv => hone v (List.mem_of_mem_take hv))]
              rw [hk]; rfl
            | none =>
              have h0 : els2.length = 0 := by
                rcases Nat.eq_zero_or_pos els2.length with h | h
                · exact h
                · obtain ⟨a, ha⟩ := hA h; cases ha
              have hx0 : xs = [] := List.eq_nil_of_length_eq_zero (by omega)
              subst hx0
              refine ⟨w, ?_, by simpa using hh, World.grownBy.refl w _, rfl⟩
              rw [run_copy_none (P := P) w t t2 o.type e _ _ n n els2.length cap hu hs1 (by rw [h0]; exact Nat.zero_min n), h0]
              have : Nat.min 0 n = 0 := Nat.zero_min n
              rw [this]; rfl
          obtain ⟨w', hrun, hrow, hgr, hsz'⟩ := hrun
          refine wp_val hrun (hn g _ _ _ ?_ hv)
          have hno := h.m.none_of hb' (k := g.bx b) rfl (fun e sz els hh => by cases hh)
          have hlen : ((els2.take n).map fun e => e.getD 0 .nf).length = (xs.take n).length := by rw [hgo.1]
          have hm := h.m.boxSet hb' (y := some (.cells (m.put off ⟨(els2.take n).map (fun e => e.getD 0 .nf), [], Nat.min els2.length n⟩))) hgr hsz' (S' := g.S) (fun _ _ h => h) (fun _ _ h => .inl h)
            (fun ad u hu hk => by
              simp only [blk, Option.some.injEq] at hk
              have := hno ad.off ad.spot; rw [hk] at this
              rw [this] at hu; cases hu) (fun z hz => by
              cases hz
              refine ⟨⟨_, e', hrow, hcs.put (relM_of_all hgo (by rw [hlen, hk])) (by simp only; omega)⟩, fun k hk => hk, fun k hk off' sp u hu => ?_⟩
              simp only [blk, Option.some.injEq] at hk; subst hk
              rw [hno off' sp] at hu; cases hu)
          exact (h.with (Ext.refl g) hm).put (v := vi (Nat.min els2.length n)) (RelC.int _ _)

theorem snd_minmax {c : Call} {isMax : Bool} (ho : o.op = .call c) (hcl : c.callee = .builtin (if isMax then .max else .min)) (hv : vMinMax cf o isMax c.args k st = some r) (h : Rel w0 S0 O g0 g st a w)
    (hn : Hands w0 S0 O g0 k r next) : o.wp P a w next Q := by
  obtain ⟨callee, args, ts⟩ := c
  simp only at hcl; subst hcl
  simp only [vMinMax] at hv
  generalize hxs : args.toList = xl at hv
  match xl, hv with
  | [x, y], hv =>
    simp only at hv
    have hxs' : args = #[x, y] := by apply Array.ext'; simpa using hxs
    subst hxs'
    obtain ⟨cs, hcs⟩ := run_builtin (P := P) (a := a) (w := w) ho
    have hx := ev_rel cx h x
    have hy := ev_rel cx h y
    generalize st.ev cf x = e1 at hv hx
    generalize st.ev cf y = e2 at hv hy
    match e1, e2, hv, hx, hy with
    | .t (.w (.d (.int kx p))), .t (.w (.d (.int ky q))), hv, hx, hy =>
      simp only at hv
      by_cases hk : kx = ky
      · subst hk
        simp only [decide_true, cond_true] at hv
        refine snd_val hv h hn ⟨_, ?_, RelC.int _ _⟩
        rw [hcs, List.map_toArray]
        simp only [List.map_cons, List.map_nil, relC_int hx, relC_int hy]
        cases isMax <;> rfl
      · simp [hk] at hv

end
end Vm

/- Vm, part W: maps: each operation of the interpreter is the model's. -/
namespace Vm
open Go

/-! ### plain -/
def mapIdx (k : List C) : List (List C × List C) → Option Nat
  | [] => none
  | (a, _) :: r => bif eqK k a then some 0 else (mapIdx k r).map (· + 1)
theorem mapGet_idx (k : List C) : ∀ (es : List (List C × List C)), mapGet k es = (mapIdx k es).bind fun j => (es[j]?).map (·.2)
  | [] => rfl
  | (a, v) :: r => by
    unfold mapGet mapIdx
    cases eqK k a with
    | true => rfl
    | false => rw [cond_false, cond_false, mapGet_idx k r]; cases mapIdx k r <;> rfl
theorem mapPut_idx (k v : List C) : ∀ (es : List (List C × List C)), mapPut k v es = match mapIdx k es with | some j => es.set j (k, v) | none => es ++ [(k, v)]
  | [] => rfl
  | (a, x) :: r => by
    unfold mapPut mapIdx
    cases eqK k a with
    | true => rfl
    | false => rw [cond_false, cond_false, mapPut_idx k v r]; cases mapIdx k r <;> rfl
theorem mapDel_idx (k : List C) : ∀ (es : List (List C × List C)), mapDel k es = match mapIdx k es with | some j => es.eraseIdx j | none => es
  | [] => rfl
  | (a, x) :: r => by
    unfold mapDel mapIdx
    cases eqK k a with
    | true => rfl
    | false => rw [cond_false, cond_false, mapDel_idx k r]; cases mapIdx k r <;> rfl
theorem mapIdx_some {k : List C} : ∀ {es : List (List C × List C)} {j : Nat}, mapIdx k es = some j → ∃ a v, es[j]? = some (a, v) ∧ eqK k a = true
  | (a, v) :: r, j, h => by
    unfold mapIdx at h
    cases he : eqK k a with
    | true => rw [he, cond_true] at h; cases h; exact ⟨a, v, rfl, he⟩
    | false =>
      rw [he, cond_false] at h
      cases hr : mapIdx k r with
      | none => rw [hr] at h; cases h
      | some i => rw [hr] at h; cases h; exact mapIdx_some (es := r) hr
theorem bytes_beq (a b : ByteArray) : (a == b) = (a.toList == b.toList) := by
  have h1 : (a == b) = (a.data == b.data) := by cases a; cases b; rfl
  rw [h1, Go.Lib.toList_data, Go.Lib.toList_data]
  by_cases h : a.data = b.data
  · rw [h]; simp
  · have h2 : ¬ a.data.toList = b.data.toList := fun e => h (Array.toList_inj.1 e)
    rw [beq_eq_false_iff_ne.2 h, beq_eq_false_iff_ne.2 h2]

theorem shsEq_eq : ∀ {a b : List Sh}, shsEq a b = true → a = b
  | [], [], _ => rfl
  | [], _ :: _, h => by cases h
  | _ :: _, [], h => by cases h
  | a :: r, b :: q, h => by
    simp only [shsEq, Bool.and_eq_true] at h
    rw [shsEq_eq h.2]
    have h1 := h.1
    cases a <;> cases b <;> first | rfl | (cases h1; done) | skip
    simp [shEq] at h1; rw [h1]

/-- a key's type: one cell, a string or a whole number -/
inductive KeyT (P : Program) (kt : TypeId) : List Sh → Prop
  | str (h : P.underlying kt = some .string) : KeyT P kt [.str]
  | int (k : IntKind) (h : P.underlying kt = some (.int k)) : KeyT P kt [.int k]

section
variable {P : Program} {cf : Cfg} {S0 : Addr → Option Value} {w0 : World} {O : Nat → Prop} (cx : Ctx P cf S0 w0 O)
variable {g0 g : G} {st : St} {a : Act} {w : World}
variable {R : Type} {dr : Bool} {o : Oper} {k : St → Option R} {r : R} {next : Act → World → Prop} {Q : Exit → Act → World → Prop}

include cx in
theorem keySh_rel {kt : TypeId} {sh : List Sh} (h : keySh cf kt = some sh) : KeyT P kt sh := by
  unfold keySh at h
  cases hi : cf.ti kt with
  | none => rw [hi] at h; cases h
  | some i =>
    rw [hi] at h
    have hu := (cx.ti kt i hi).und
    simp only at h
    split at h
    · rename_i hd
      cases ha : i.ag <;> rw [ha] at h
      · cases h; rw [hd] at hu; exact .str hu
      · cases h
    · rename_i kk hd
      cases ha : i.ag <;> rw [ha] at h
      · cases h; rw [hd] at hu; exact .int kk hu
      · cases h
    · cases h

theorem shOk_str {c : C} (h : shOk [.str] [c] = true) : ∃ s, c = .str s := by
  cases c <;> first | exact ⟨_, rfl⟩ | (simp [shOk, shOkGo, Sh.ok, shLen, Sh.len] at h)
theorem shOk_int {k : IntKind} {c : C} (h : shOk [.int k] [c] = true) : ∃ n, c = .int k n := by
  cases c <;> first | (simp [shOk, shOkGo, Sh.ok, shLen, Sh.len] at h; subst h; exact ⟨_, rfl⟩) | (simp [shOk, shOkGo, Sh.ok, shLen, Sh.len] at h)
theorem shOk_one {sh : List Sh} {kt : TypeId} (hk : KeyT P kt sh) {l : List C} (h : shOk sh l = true) : ∃ c, l = [c] := by
  have hl : l.length = shLen sh := by unfold shOk at h; rw [Bool.and_eq_true, beq_iff_eq] at h; exact h.1
  have : shLen sh = 1 := by cases hk <;> rfl
  rw [this] at hl
  exact List.length_eq_one_iff.1 hl

/-- two keys are compared -/
theorem same_run {kt : TypeId} {sh : List Sh} (hk : KeyT P kt sh) {S : Addr → Option Value} {c d : C} {u v : Value} (hc : shOk sh [c] = true) (hd : shOk sh [d] = true) (hu : RelC S c u) (hv : RelC S d v) :
    ∃ desc, P.underlying kt = some desc ∧ Instr.sameNow desc u v = some (eqK [c] [d]) := by
  cases hk with
  | str h =>
    obtain ⟨s, rfl⟩ := shOk_str hc
    obtain ⟨t, rfl⟩ := shOk_str hd
    rw [relC_str hu, relC_str hv]
    refine ⟨_, h, ?_⟩
    show some (s == t) = _
    rw [bytes_beq]; simp [eqK, eqK1]
  | int kk h =>
    obtain ⟨s, rfl⟩ := shOk_int hc
    obtain ⟨t, rfl⟩ := shOk_int hd
    rw [relC_int hu, relC_int hv]
    refine ⟨_, h, ?_⟩
    simp [Instr.sameNow, eqK, eqK1]

theorem checkKey_run {kt : TypeId} {sh : List Sh} (hk : KeyT P kt sh) {S : Addr → Option Value} {c : C} {u : Value} (hc : shOk sh [c] = true) (hu : RelC S c u) (e : Bool) (n : Nat) (w : World) : (Instr.checkKey e (n + 1) kt u).run P w = .ok () w := by
  cases hk with
  | str h =>
    obtain ⟨s, rfl⟩ := shOk_str hc
    rw [relC_str hu]
    simp [Instr.checkKey, run_underlying h]
  | int kk h =>
    obtain ⟨s, rfl⟩ := shOk_int hc
    rw [relC_int hu]
    simp [Instr.checkKey, run_underlying h]

theorem findNow_run {kt : TypeId} {sh : List Sh} (hk : KeyT P kt sh) {desc : TypeDesc} (hd : P.underlying kt = some desc) {S : Addr → Option Value} {c : C} {u : Value} (hc : shOk sh [c] = true) (hu : RelC S c u) {va : Bool} {vn : Nat} :
    ∀ (es : List (List C × List C)) (ents : List MapEntry) (i : Nat), All2 (EntRel S sh false va vn) es ents →
      Instr.findNow desc u ents i = some (match mapIdx [c] es with | some j => some (i + j, (ents.getD j default).val) | none => none) := by
  intro es
  induction es with
  | nil =>
    intro ents i h
    have : ents = [] := List.eq_nil_of_length_eq_zero h.1
    subst this; rfl
  | cons p es ih =>
    intro ents i h
    obtain ⟨a, v⟩ := p
    cases ents with
    | nil => exact absurd h.1 (by simp)
    | cons e ents =>
      obtain ⟨h1, h2, h3⟩ := h.head
      obtain ⟨d, hd1, hd2⟩ := h2
      simp only at hd1 h1
      subst hd1
      obtain ⟨desc', hd', hs⟩ := same_run hk hc h1 hu hd2
      rw [hd] at hd'; cases hd'
      unfold Instr.findNow mapIdx
      rw [hs]
      cases he : eqK [c] [d] with
      | true => simp [List.getD]
      | false =>
        simp only [cond_false]
        rw [ih ents (i + 1) h.tail]
        cases mapIdx [c] es with
        | none => rfl
        | some j => simp [List.getD]; omega
theorem find_run {kt : TypeId} {sh : List Sh} (hk : KeyT P kt sh) {S : Addr → Option Value} {c : C} {u : Value} (hc : shOk sh [c] = true) (hu : RelC S c u) {va : Bool} {vn : Nat} {es : List (List C × List C)} {ents : List MapEntry} (h : All2 (EntRel S sh false va vn) es ents) (w : World) :
    (Instr.findKey kt u ents).run P w = .ok (match mapIdx [c] es with | some j => some (j, (ents.getD j default).val) | none => none) w := by
  obtain ⟨desc, hd⟩ : ∃ desc, P.underlying kt = some desc := by cases hk with | str h9 => exact ⟨_, h9⟩ | int k h9 => exact ⟨_, h9⟩
  unfold Instr.findKey
  simp only [Sem.run_bind, run_underlying hd, Result.andThen_ok]
  rw [findNow_run hk hd hc hu es ents 0 h]
  simp only [Sem.run_pure]
  cases mapIdx [c] es <;> simp

theorem setMap_run {w : World} {r : Nat} {es : Array MapEntry} {c : Nat} (hh : w.heap[r]? = some (.map es c)) (ob : Obj) : (setObj r ob).run P w = .ok () { w with heap := w.heap.setIfInBounds r ob } := by
  unfold setObj
  simp only [Sem.run, hh]
theorem setMap_grown (w : World) (r : Nat) (ob : Obj) : w.grownBy { w with heap := w.heap.setIfInBounds r ob } (some r) :=
  ⟨rfl, rfl, rfl, by simp, fun k _ hk => by
    have : r ≠ k := fun e => hk (by rw [e])
    simp [Array.getElem?_setIfInBounds_ne this]⟩

/-- a map's entries turn -/
theorem RelM.mapSet {bx : Bx} (h : RelM w0 S0 O g bx w) {b : Nat} {ksh : List Sh} {ka va : Bool} {vn : Nat} {es es' : List (List C × List C)} (hb : bx[b]? = some (some (.map ksh ka va vn es)))
    {ents : List MapEntry} {cl : Nat} (ha : All2 (EntRel g.S ksh ka va vn) es' ents) : RelM w0 S0 O g (bx.set b (some (.map ksh ka va vn es'))) { w with heap := w.heap.setIfInBounds (g.bx b) (.map ents.toArray cl) } := by
  have hno := h.none_of hb (k := g.bx b) rfl (fun e sz els hh => by cases hh)
  have hlt : g.bx b < w.heap.size := h.blk_lt hb rfl
  exact h.boxSet hb (by simp only [blk]; exact setMap_grown w _ _) (by simp) (S' := g.S) (fun _ _ h => h) (fun _ _ h => .inl h)
    (fun ad u hu hk => by
      simp only [blk, Option.some.injEq] at hk
      have := hno ad.off ad.spot; rw [hk] at this
      rw [this] at hu; cases hu) (fun z hz => by
      cases hz
      refine ⟨⟨ents, cl, by simp [hlt], ha⟩, fun k hk => hk, fun k hk off' sp u hu => ?_⟩
      simp only [blk, Option.some.injEq] at hk; subst hk
      rw [hno off' sp] at hu; cases hu)

theorem agRel_T {S : Addr → Option Value} {v : T} {l : List C} {n : Nat} {u : Value} (hs : v.stabC = some (l, n)) (h : RelT g v u) (hS : g.S = S) : AgRel S v.isAgg n l u := by
  subst hS
  cases v with
  | w x =>
    cases x with
    | d c => simp [T.stabC] at hs; obtain ⟨rfl, rfl⟩ := hs; exact ⟨c, rfl, h⟩
    | _ => simp [T.stabC] at hs
  | agg m =>
    obtain ⟨l', lk, n'⟩ := m
    cases lk with
    | nil => simp [T.stabC] at hs; obtain ⟨rfl, rfl⟩ := hs; obtain ⟨us, rfl, hr⟩ := h; exact ⟨us, rfl, hr.n, all_of_relM hr⟩
    | cons p q => simp [T.stabC] at hs

include cx

omit cx in
theorem snd_makeMap {t : TypeId} {n : Option Operand} (ho : o.op = .makeMap t n) (hv : vMakeMap cf o t n k st = some r) (h : Rel w0 S0 O g0 g st a w) (hn : Hands w0 S0 O g0 k r next) : o.wp P a w next Q := by
  unfold vMakeMap at hv
  generalize hti : cf.ti t = ti at hv
  match ti, n, ho, hv with
  | some ⟨.map kt vt, z1, z2, z3, z4, z5⟩, none, ho, hv =>
    simp only at hv
    cases hks : keySh cf kt with
    | none => rw [hks] at hv; cases hv
    | some sh =>
      cases hvt : cf.ti vt with
      | none => rw [hks, hvt] at hv; cases hv
      | some vi =>
        rw [hks, hvt] at hv; simp only at hv
        obtain ⟨hext, hrel⟩ := boxNew_rel h (.map sh false vi.ag vi.size []) (.map #[] 0) (by simp [blk, G.push]) ⟨[], 0, by
          have : (g.push st.bx.length w.heap.size undef).bx st.bx.length = w.heap.size := by simp [G.push]
          rw [this]; exact heap_alloc_new w _, .nil⟩
        have hrun : (execOp a.eval o).run P w = .ok (.value (.map (some w.heap.size))) (w.alloc (.map #[] 0)) := by
          unfold execOp
          simp only [ho, Sem.run_bind, Instr.makeMap, Option.map_none, Sem.run_pure, Result.andThen_ok, run_newObj]
          rfl
        exact wp_val hrun (hn _ _ _ _ (hrel.put (v := .t (.w (.mp st.bx.length))) ⟨by simp [G.push], by simp [G.push]⟩) hv)

omit cx in
theorem keyOf_rel {v : V} {kc : List C} (h : keyOf v = some kc) {u : Value} (hu : RelV g v u) : ∃ c, kc = [c] ∧ RelC g.S c u := by
  unfold keyOf at h
  split at h
  · cases h; exact ⟨_, rfl, hu⟩
  · cases h

theorem snd_lookup {t : TypeId} {x y : Operand} {ok : Bool} (ho : o.op = .lookup t x y ok) (hv : vLookup cf o t x y ok k st = some r) (h : Rel w0 S0 O g0 g st a w) (hn : Hands w0 S0 O g0 k r next) : o.wp P a w next Q := by
  unfold vLookup at hv
  have hx := ev_rel cx h x
  have hy := ev_rel cx h y
  generalize hti : cf.ti t = ti at hv
  match ti, hv with
  | some ⟨.map kt vt, z1, z2, z3, z4, z5⟩, hv =>
    simp only at hv
    cases hks : keySh cf kt with
    | none => rw [hks] at hv; cases hv
    | some sh =>
      cases hvt : cf.ti vt with
      | none => rw [hks, hvt] at hv; cases hv
      | some i =>
        rw [hks, hvt] at hv
        cases hko : keyOf (st.ev cf y) with
        | none => rw [hko] at hv; simp at hv
        | some kc =>
          rw [hko] at hv
          obtain ⟨c, rfl, hcr⟩ := keyOf_rel hko hy
          generalize st.ev cf x = ex at hv hx
          match ex, hv, hx with
          | .t (.w (.mp b)), hv, hx =>
            simp only at hv
            generalize hb : st.bx.getD b none = bb at hv
            match bb, hv with
            | some (.map ksh false va vn es), hv =>
              simp only at hv
              by_cases hc : (shsEq sh ksh && shOk sh [c] && (va == i.ag) && Nat.beq vn i.size) = true
              case neg => rw [Bool.not_eq_true] at hc; rw [hc] at hv; cases hv
              rw [hc, cond_true] at hv
              simp only [Bool.and_eq_true, beq_iff_eq, Nat.beq_eq] at hc
              obtain ⟨⟨⟨hc1, hc2⟩, hc3⟩, hc4⟩ := hc
              have hse := shsEq_eq hc1
              obtain ⟨_, ents, cl, hh, ha⟩ := h.m.box b _ (getD_some hb)
              rw [← hse] at ha
              have hk := keySh_rel cx hks
              have hea : a.eval x = .map (some (g.bx b)) := hx.2
              have hfind := find_run hk hc2 hcr ha w
              have hchk : ∀ e, (Instr.checkKey e 10000 kt (a.eval y)).run P w = .ok () w := fun e => checkKey_run hk hc2 hcr e 9999 w
              obtain ⟨z, hzr, hz1, hz2, hz3⟩ := zero_run cx hvt w
              -- what is read
              have hval : ∃ u, ((Instr.lookup t (a.eval x) (a.eval y) ok).run P w = .ok (if ok then .tuple #[u, .bool (mapGet [c] es).isSome] else u) w) ∧ AgRel g.S i.ag i.size ((mapGet [c] es).getD (zeroC i.zero)) u := by
                unfold Instr.lookup
                simp only [Sem.run_bind, run_underlying (cx.ti t _ hti).und, Result.andThen_ok, hea, getMap_run hh, hchk, Sem.run_pure, hfind]
                rw [mapGet_idx]
                cases hm : mapIdx [c] es with
                | none =>
                  refine ⟨z, ?_, ?_⟩
                  · simp only [Sem.run_bind, hzr, Result.andThen_ok, Sem.run_pure, Option.bind_none, Option.isSome_none]
                  · simp only [Option.bind_none, Option.getD_none]
                    have hzc := zeroC_rel (S := g.S) i.zero _ hz1
                    cases hag : i.ag with
                    | true => exact ⟨z.cells.toList, by rw [Array.toArray_toList]; exact hz3.1 hag, by rw [hz1.1, hz2], hzc⟩
                    | false =>
                      have hne : ∀ cs, z ≠ .agg cs := fun cs e => by
                        have := hz3.2 (by rw [e]; rfl)
                        rw [hag] at this; cases this
                      have hcells : z.cells = #[z] := by cases z <;> first | rfl | exact absurd rfl (hne _)
                      rw [hcells] at hzc
                      have hl1 := hzc.1
                      generalize zeroC i.zero = zl at hzc hl1 ⊢
                      match zl, hzc, hl1 with
                      | [c0], hzc, _ => exact ⟨c0, rfl, hzc.head⟩
                | some j =>
                  obtain ⟨a', v, hj, _⟩ := mapIdx_some hm
                  obtain ⟨e, hej, _, _, hr⟩ := ha.get hj
                  refine ⟨e.val, ?_, ?_⟩
                  · simp only [Sem.run_pure, Result.andThen_ok, Option.bind_some, hj, Option.map_some, Option.isSome_some]
                    rw [List.getD_eq_getElem?_getD, hej]; rfl
                  · simp only [Option.bind_some, hj, Option.map_some, Option.getD_some]
                    rw [← hc3, ← hc4]; exact hr
              obtain ⟨u, hrun, hag⟩ := hval
              have hrun' : (execOp a.eval o).run P w = .ok (.value (if ok then .tuple #[u, .bool (mapGet [c] es).isSome] else u)) w := by
                unfold execOp
                simp only [ho, Sem.run_bind, hrun, Result.andThen_ok, Sem.run_pure]
              have key : ∃ v, (bif ok then k (st.set o.dst (.tup [v, .w (.d (.bool (mapGet [c] es).isSome))])) else k (st.set o.dst (.t v))) = some r ∧ RelT g v u := by
                unfold AgRel at hag
                cases hia : i.ag with
                | true =>
                  rw [hia] at hag
                  obtain ⟨us, rfl, hus, hall⟩ := hag
                  obtain ⟨v, hk2, hw, _⟩ := cutK_rel hall hv
                  obtain ⟨hw1, _⟩ := hw hia
                  rw [List.take_of_length_le (by omega)] at hw1
                  exact ⟨v, hk2, hw1⟩
                | false =>
                  rw [hia] at hag
                  obtain ⟨c0, hl, hr0⟩ := hag
                  rw [hl] at hv
                  obtain ⟨v, hk2, _, hw⟩ := cutK_rel (us := [u]) (.cons hr0 .nil) hv
                  obtain ⟨u', hu', hw2⟩ := hw hia
                  simp at hu'; subst hu'
                  exact ⟨v, hk2, hw2⟩
              obtain ⟨v, hk2, hvu⟩ := key
              cases ok with
              | true =>
                rw [cond_true] at hk2
                exact snd_val hk2 h hn ⟨_, hrun', [u, .bool (mapGet [c] es).isSome], rfl, .cons hvu (.cons (RelC.bool _) .nil)⟩
              | false =>
                rw [cond_false] at hk2
                exact snd_val (v := .t v) hk2 h hn ⟨_, hrun', hvu⟩

omit cx in
theorem modify_rel {α β : Type} {Rr : α → β → Prop} {l : List α} {m : List β} (h : All2 Rr l m) {j : Nat} {x : α} {f : β → β} (hx : ∀ y, m[j]? = some y → Rr x (f y)) : All2 Rr (l.set j x) (m.modify j f) :=
  ⟨by simp [h.1], fun i a b ha hb => by
    rw [List.getElem?_modify] at hb
    rw [List.getElem?_set] at ha
    by_cases hij : j = i
    · subst hij
      rw [if_pos rfl] at ha
      split at ha
      · cases ha
        cases hm : m[j]? with
        | none => rw [hm] at hb; simp at hb
        | some y => rw [hm] at hb; simp at hb; subst hb; exact hx y hm
      · cases ha
    · rw [if_neg hij] at ha
      simp only [hij, if_false, Option.map_id'] at hb
      exact h.2 i a b ha (by simpa using hb)⟩
omit cx in
theorem erase_rel {α β : Type} {Rr : α → β → Prop} {l : List α} {m : List β} (h : All2 Rr l m) (j : Nat) : All2 Rr (l.eraseIdx j) (m.eraseIdx j) :=
  ⟨by rw [List.length_eraseIdx, List.length_eraseIdx, h.1], fun i a b ha hb => by
    rw [List.getElem?_eraseIdx] at ha hb
    split at ha
    · rename_i hc; rw [if_pos hc] at hb; exact h.2 _ a b ha hb
    · rename_i hc; rw [if_neg hc] at hb; exact h.2 _ a b ha hb⟩

omit cx in
/-- which of two equal keys stays makes no difference -/
theorem stays_run {kt : TypeId} {sh : List Sh} (hk : KeyT P kt sh) {S : Addr → Option Value} {c d : C} {u v : Value} (hc : shOk sh [c] = true) (hd : shOk sh [d] = true) (hu : RelC S c u) (hv : RelC S d v) (he : eqK [c] [d] = true) (w : World) :
    (Instr.keyThatStays v u).run P w = .ok u w := by
  have : Instr.sameBits 10000 v u = true := by
    cases hk with
    | str h =>
      obtain ⟨s, rfl⟩ := shOk_str hc
      obtain ⟨t, rfl⟩ := shOk_str hd
      rw [relC_str hu, relC_str hv]
      simp only [eqK, eqK1, Bool.and_true] at he
      show (t == s) = true
      rw [bytes_beq, beq_iff_eq]; exact (beq_iff_eq.1 he).symm
    | int kk h =>
      obtain ⟨s, rfl⟩ := shOk_int hc
      obtain ⟨t, rfl⟩ := shOk_int hd
      rw [relC_int hu, relC_int hv]
      simp only [eqK, eqK1, Bool.and_true, Bool.and_eq_true, decide_eq_true_eq, beq_iff_eq] at he
      show (kk == kk && t == s) = true
      rw [he.2]; simp
  unfold Instr.keyThatStays
  rw [if_pos this, Sem.run_pure]

theorem snd_mapUpdate {t : TypeId} {m x y : Operand} {K : St → Option R} (ho : o.op = .mapUpdate t m x y) (hv : vMapUpdate cf t m x y (fun st => k (st.set o.dst (.tup []))) st = some r) (h : Rel w0 S0 O g0 g st a w) (hn : Hands w0 S0 O g0 k r next) : o.wp P a w next Q := by
  unfold vMapUpdate at hv
  have hm := ev_rel cx h m
  have hx := ev_rel cx h x
  generalize hti : cf.ti t = ti at hv
  match ti, hv with
  | some ⟨.map kt vt, z1, z2, z3, z4, z5⟩, hv =>
    simp only at hv
    have hy := evT_rel cx h vt y
    cases hks : keySh cf kt with
    | none => rw [hks] at hv; cases hv
    | some sh =>
      cases hvt : cf.ti vt with
      | none => rw [hks, hvt] at hv; cases hv
      | some i =>
        rw [hks, hvt] at hv
        cases hko : keyOf (st.ev cf x) with
        | none => rw [hko] at hv; simp at hv
        | some kc =>
          rw [hko] at hv
          obtain ⟨c, rfl, hcr⟩ := keyOf_rel hko hx
          generalize st.ev cf m = ex at hv hm
          generalize st.evT cf vt y = ey at hv hy
          match ex, ey, hv, hm, hy with
          | .t (.w (.mp b)), .t v, hv, hm, hy =>
            simp only at hv
            cases hst : v.stabC with
            | none => rw [hst] at hv; cases hv
            | some cs =>
              obtain ⟨vl, vnn⟩ := cs
              rw [hst] at hv; simp only at hv
              generalize hb : st.bx.getD b none = bb at hv
              match bb, hv with
              | some (.map ksh false va vn es), hv =>
                simp only at hv
                by_cases hc : (shsEq sh ksh && shOk sh [c] && (va == i.ag) && (v.isAgg == va) && Nat.beq vnn i.size && Nat.beq vn i.size) = true
                case neg => rw [Bool.not_eq_true] at hc; rw [hc] at hv; cases hv
                rw [hc, cond_true] at hv
                simp only [Bool.and_eq_true, beq_iff_eq, Nat.beq_eq] at hc
                obtain ⟨⟨⟨⟨⟨hc1, hc2⟩, hc3⟩, hc5⟩, hc6⟩, hc4⟩ := hc
                have hse := shsEq_eq hc1
                obtain ⟨_, ents, cl, hh, ha⟩ := h.m.box b _ (getD_some hb)
                rw [← hse] at ha
                have hk := keySh_rel cx hks
                have hea : a.eval m = .map (some (g.bx b)) := hm.2
                have hfind := find_run hk hc2 hcr ha w
                have hchk : ∀ e, (Instr.checkKey e 10000 kt (a.eval x)).run P w = .ok () w := fun e => checkKey_run hk hc2 hcr e 9999 w
                have hval : AgRel g.S va vn vl (a.eval y) := by
                  have := agRel_T hst hy rfl
                  rw [hc5, hc6, ← hc4] at this; exact this
                have hrel : ∃ ents' cl', (Instr.mapUpdate t (a.eval m) (a.eval x) (a.eval y)).run P w = .ok () { w with heap := w.heap.setIfInBounds (g.bx b) (.map ents'.toArray cl') } ∧ All2 (EntRel g.S sh false va vn) (mapPut [c] vl es) ents' := by
                  unfold Instr.mapUpdate
                  simp only [Sem.run_bind, run_underlying (cx.ti t _ hti).und, Result.andThen_ok, hea, getMap_run hh, hchk, hfind]
                  rw [mapPut_idx]
                  cases hm2 : mapIdx [c] es with
                  | none =>
                    refine ⟨ents ++ [{ key := a.eval x, val := a.eval y, born := cl }], cl + 1, ?_, ha.append (.cons ⟨hc2, ⟨c, rfl, hcr⟩, hval⟩ .nil)⟩
                    simp only [setMap_run hh]
                    congr 3
                    simp
                  | some j =>
                    obtain ⟨a', v', hj, he⟩ := mapIdx_some hm2
                    obtain ⟨e, hej, h1, h2, h3⟩ := ha.get hj
                    obtain ⟨d, hd, hdr⟩ := h2
                    simp only at hd h1
                    subst hd
                    have hst2 := stays_run hk hc2 h1 hcr hdr he w
                    refine ⟨ents.modify j fun e => { e with key := a.eval x, val := a.eval y }, cl, ?_, modify_rel ha fun y' _ => ⟨hc2, ⟨c, rfl, hcr⟩, hval⟩⟩
                    have hkey : (((ents.toArray[j]?).map (·.key)).getD (a.eval x)) = e.key := by simp [hej]
                    simp only [Sem.run_bind, hkey, hst2, Result.andThen_ok, setMap_run hh]
                    congr 3
                    simp
                obtain ⟨ents', cl', hrun, hall⟩ := hrel
                have hrun' : (execOp a.eval o).run P w = .ok .skip { w with heap := w.heap.setIfInBounds (g.bx b) (.map ents'.toArray cl') } := by
                  unfold execOp
                  simp only [ho, Sem.run_bind, hrun, Result.andThen_ok, Sem.run_pure]
                rw [hse] at hall
                exact wp_skip' hrun' (hn _ _ _ _ ((h.with (Ext.refl g) (h.m.mapSet (getD_some hb) hall)).put (v := .tup []) ⟨[], rfl, .nil⟩) hv)

theorem snd_delete {c : Call} (ho : o.op = .call c) (hcl : c.callee = .builtin .delete) (hv : vDelete cf o c.argTypes c.args k st = some r) (h : Rel w0 S0 O g0 g st a w) (hn : Hands w0 S0 O g0 k r next) : o.wp P a w next Q := by
  obtain ⟨callee, args, ts⟩ := c
  simp only at hcl; subst hcl
  simp only [vDelete] at hv
  generalize hts : ts.toList = tl at hv
  generalize hxs : args.toList = xl at hv
  match tl, xl, hv with
  | t :: tr, [m, x], hv =>
    simp only at hv
    have hts' : ts = (t :: tr).toArray := by apply Array.ext'; simpa using hts
    have hxs' : args = #[m, x] := by apply Array.ext'; simpa using hxs
    subst hts' hxs'
    have hm := ev_rel cx h m
    have hx := ev_rel cx h x
    generalize hti : cf.ti t = ti at hv
    match ti, hv with
    | some ⟨.map kt vt, z1, z2, z3, z4, z5⟩, hv =>
      simp only at hv
      cases hks : keySh cf kt with
      | none => rw [hks] at hv; cases hv
      | some sh =>
        rw [hks] at hv
        cases hko : keyOf (st.ev cf x) with
        | none => rw [hko] at hv; simp at hv
        | some kc =>
          rw [hko] at hv
          obtain ⟨cc, rfl, hcr⟩ := keyOf_rel hko hx
          generalize st.ev cf m = ex at hv hm
          match ex, hv, hm with
          | .t (.w (.mp b)), hv, hm =>
            simp only at hv
            generalize hb : st.bx.getD b none = bb at hv
            match bb, hv with
            | some (.map ksh false va vn es), hv =>
              simp only at hv
              by_cases hc : (shsEq sh ksh && shOk sh [cc]) = true
              case neg => rw [Bool.not_eq_true] at hc; rw [hc] at hv; cases hv
              rw [hc, cond_true] at hv
              simp only [Bool.and_eq_true] at hc
              obtain ⟨hc1, hc2⟩ := hc
              have hse := shsEq_eq hc1
              obtain ⟨_, ents, cl, hh, ha⟩ := h.m.box b _ (getD_some hb)
              rw [← hse] at ha
              have hk := keySh_rel cx hks
              have hea : a.eval m = .map (some (g.bx b)) := hm.2
              have hfind := find_run hk hc2 hcr ha w
              have hchk : ∀ e, (Instr.checkKey e 10000 kt (a.eval x)).run P w = .ok () w := fun e => checkKey_run hk hc2 hcr e 9999 w
              have hrel : ∃ ents', (Builtin.delete_ (t :: tr).toArray o.type #[a.eval m, a.eval x]).run P w = .ok (.tuple #[]) { w with heap := w.heap.setIfInBounds (g.bx b) (.map ents'.toArray cl) } ∧ All2 (EntRel g.S sh false va vn) (mapDel [cc] es) ents' := by
                unfold Builtin.delete_
                simp only [List.getElem?_toArray, List.getElem?_cons_zero, List.getElem?_cons_succ, Sem.run_bind, run_underlying (cx.ti t _ hti).und, Result.andThen_ok, hea, getMap_run hh, hchk, hfind]
                rw [mapDel_idx]
                cases hm2 : mapIdx [cc] es with
                | none =>
                  refine ⟨ents, ?_, ha⟩
                  simp only [Sem.run_bind, setMap_run hh, Result.andThen_ok, Sem.run_pure]
                | some j =>
                  refine ⟨ents.eraseIdx j, ?_, erase_rel ha j⟩
                  simp only [Sem.run_bind, setMap_run hh, Result.andThen_ok, Sem.run_pure]
                  congr 3
                  simp
              obtain ⟨ents', hrun, hall⟩ := hrel
              obtain ⟨cs, hcs⟩ := run_builtin (P := P) (a := a) (w := w) ho
              have hrun' : (execOp a.eval o).run P w = .ok (.value (.tuple #[])) { w with heap := w.heap.setIfInBounds (g.bx b) (.map ents'.toArray cl) } := by
                rw [hcs]
                simp only [builtin, Sem.run_bind, Sem.run_pure, List.map_toArray, List.map_cons, List.map_nil, hrun, Result.andThen_ok]
              rw [hse] at hall
              exact wp_val hrun' (hn _ _ _ _ ((h.with (Ext.refl g) (h.m.mapSet (getD_some hb) hall)).put (v := .tup []) ⟨[], rfl, .nil⟩) hv)

omit cx in
/-- as many zero elements -/
theorem zeros_flat {S : Addr → Option Value} {z : List Z} {zs : Array Value} {sz : Nat} (hz : All2 ZRel z zs.toList) (hzs : zs.size = sz) (n : Nat) :
    Flat S sz (List.replicate n (zeroC z)) (Builtin.zeroCells zs n).toList := by
  have hzc := zeroC_rel (S := S) z _ hz
  have hzl : (zeroC z).length = sz := by rw [← hzc.1, Array.length_toList, hzs]
  refine ⟨by simp [size_zeroCells, hzs], fun i e' hn => ?_⟩
  have hlt := lt_of hn
  simp only [List.length_replicate] at hlt
  have : e' = zeroC z := by
    rw [List.getElem?_replicate, if_pos hlt] at hn; cases hn; rfl
  subst this
  refine ⟨hzl, fun j c hj => ?_⟩
  have hjl : j < sz := by have := lt_of hj; omega
  obtain ⟨u, hu, hr⟩ := hzc.get hj
  refine ⟨u, ?_, hr⟩
  have hle : (i + 1) * sz ≤ n * sz := Nat.mul_le_mul_right _ hlt
  rw [Nat.add_mul, Nat.one_mul] at hle
  have hmod : (i * sz + j) % sz = j := by rw [Nat.mul_comm, Nat.mul_add_mod, Nat.mod_eq_of_lt hjl]
  have hlt2 : i * sz + j < n * sz := by omega
  have : zs[j]? = some u := by simpa using hu
  simp only [Builtin.zeroCells]
  rw [Array.getElem?_toList, Array.getElem?_map, Array.getElem?_range, hzs, if_pos hlt2]
  simp only [Option.map_some, hmod]
  rw [getElem!_def, this]

theorem snd_clear {c : Call} (ho : o.op = .call c) (hcl : c.callee = .builtin .clear) (hv : vClear cf o c.argTypes c.args k st = some r) (h : Rel w0 S0 O g0 g st a w) (hn : Hands w0 S0 O g0 k r next) : o.wp P a w next Q := by
  obtain ⟨callee, args, ts⟩ := c
  simp only at hcl; subst hcl
  simp only [vClear] at hv
  generalize hts : ts.toList = tl at hv
  generalize hxs : args.toList = xl at hv
  match tl, xl, hv with
  | [t], [x], hv =>
    simp only at hv
    have hts' : ts = #[t] := by apply Array.ext'; simpa using hts
    have hxs' : args = #[x] := by apply Array.ext'; simpa using hxs
    subst hts' hxs'
    have hx := ev_rel cx h x
    obtain ⟨cs, hcs⟩ := run_builtin (P := P) (a := a) (w := w) ho
    have hbl : ∀ w', (Builtin.clear_ #[t] o.type #[a.eval x]).run P w = .ok (.tuple #[]) w' → (execOp a.eval o).run P w = .ok (.value (.tuple #[])) w' := by
      intro w' hr
      rw [hcs]
      simp only [builtin, Sem.run_bind, Sem.run_pure, List.map_toArray, List.map_cons, List.map_nil, hr, Result.andThen_ok]
    generalize hti : cf.ti t = ti at hv
    match ti, hv with
    | some ⟨.map kt vt, z1, z2, z3, z4, z5⟩, hv =>
      simp only at hv
      generalize st.ev cf x = ex at hv hx
      match ex, hv, hx with
      | .t (.w (.mp b)), hv, hx =>
        simp only at hv
        generalize hb : st.bx.getD b none = bb at hv
        match bb, hv with
        | some (.map ksh ka va vn es), hv =>
          simp only at hv
          obtain ⟨_, ents, cl, hh, ha⟩ := h.m.box b _ (getD_some hb)
          have hea : a.eval x = .map (some (g.bx b)) := hx.2
          have hrun := hbl { w with heap := w.heap.setIfInBounds (g.bx b) (.map ([] : List MapEntry).toArray cl) } (by
            unfold Builtin.clear_
            simp only [List.getElem?_toArray, List.getElem?_cons_zero, Sem.run_bind, run_underlying (cx.ti t _ hti).und, Result.andThen_ok, hea, getMap_run hh, setMap_run hh, Sem.run_pure])
          exact wp_val hrun (hn _ _ _ _ ((h.with (Ext.refl g) (h.m.mapSet (es' := []) (getD_some hb) .nil)).put (v := .tup []) ⟨[], rfl, .nil⟩) hv)
    | some ⟨.slice e, z1, z2, z3, z4, z5⟩, hv =>
      simp only at hv
      cases hte : cf.ti e with
      | none => rw [hte] at hv; cases hv
      | some i =>
        rw [hte] at hv
        generalize st.ev cf x = ex at hv hx
        match ex, hv, hx with
        | .t (.w (.vw b lo hi mx sz0)), hv, hx =>
          simp only at hv
          generalize hb : st.bx.getD b none = bb at hv
          match bb, hv with
          | some (.arr true e2 sz els), hv =>
            simp only at hv
            by_cases hc : (optIs e2 e && i.size == sz && Nat.beq sz sz0 && Nat.ble 1 sz && decide (lo ≤ hi ∧ hi ≤ mx ∧ mx ≤ els.length ∧ 0 < els.length)) = true
            case neg => rw [Bool.not_eq_true] at hc; rw [hc] at hv; cases hv
            rw [hc, cond_true] at hv
            simp only [Bool.and_eq_true, beq_iff_eq, decide_eq_true_eq, Nat.beq_eq, Nat.ble_eq] at hc
            obtain ⟨⟨⟨⟨he2, hsz⟩, hs0⟩, hp1⟩, hlh, hhm, hml, hlen0⟩ := hc
            have hb' := getD_some hb
            obtain ⟨hcb, xs, e', he', hown, hflat, hpos, _⟩ := h.m.box b _ hb'
            obtain ⟨_, _, _, A, cap, hea, hmc, hnil, hsome⟩ := id hx
            obtain ⟨z, hzr, hz1, hz2, hz3⟩ := zero_run cx hte w
            have hzs : z.cells.size = sz := by rw [← Array.length_toList, hz1.1, hz2, hsz]
            rcases hown.2 with ⟨_, h0⟩ | ⟨gb, o0, cc, cur, hsl, _⟩
            · omega
            obtain ⟨hmn, hlc, l, hll, hl0, rfl⟩ := hsome gb o0 _ _ hsl
            have hzf := zeros_flat (S := g.S) hz1 hzs (hi - lo)
            have hone : ∀ u ∈ (Builtin.zeroCells z.cells (hi - lo)).toList, u.oneCell' = true := by
              intro u hu
              obtain ⟨j, hj, rfl⟩ := List.getElem_of_mem hu
              rw [hzf.1, List.length_replicate] at hj
              have h1 : j / sz < (List.replicate (hi - lo) (zeroC i.zero)).length := by rw [List.length_replicate]; exact Nat.div_lt_of_lt_mul (by rw [Nat.mul_comm]; exact hj)
              obtain ⟨h2, h3⟩ := hzf.2 _ _ (List.getElem?_eq_getElem h1)
              have h4 : j % sz < ((List.replicate (hi - lo) (zeroC i.zero))[j / sz]'h1).length := by rw [h2]; exact Nat.mod_lt _ hp1
              obtain ⟨u, hu, hr⟩ := h3 (j % sz) _ (List.getElem?_eq_getElem h4)
              have h5 : j / sz * sz + j % sz = j := by rw [Nat.mul_comm]; exact Nat.div_add_mod j sz
              rw [h5] at hu
              rw [List.getElem?_eq_getElem (by rw [hzf.1, List.length_replicate]; exact hj)] at hu; cases hu
              exact RelC.one hr
            rcases Nat.eq_zero_or_pos (hi - lo) with hz0 | hz0
            · -- nothing to do
              have hrun := hbl w (by
                unfold Builtin.clear_
                simp only [List.getElem?_toArray, List.getElem?_cons_zero, Sem.run_bind, run_underlying (cx.ti t _ hti).und, Result.andThen_ok, hea, hz0, Sem.run_pure])
              have hle : lo = hi := by omega
              have hse : st.bx.set b (some (.arr true e2 sz (els.take lo ++ List.replicate (hi - lo) (zeroC i.zero) ++ els.drop hi))) = st.bx := by
                rw [hz0, ← hle]
                simp only [List.replicate_zero, List.append_nil, List.take_append_drop]
                exact List.set_getElem_self (by exact lt_of hb') |> fun e => by
                  have h2 : st.bx[b]'(lt_of hb') = some (.arr true e2 sz els) := by
                    have := List.getElem?_eq_getElem (lt_of hb')
                    rw [hb'] at this; exact (Option.some.inj this).symm
                  rw [← h2]; exact e
              rw [hse] at hv
              exact wp_val hrun (hn _ _ _ _ ((h.with (Ext.refl g) h.m).put (v := .tup []) ⟨[], rfl, .nil⟩) hv)
            · have hcap : 0 < cap := by omega
              have hll2 := hl0 hcap
              subst hll2
              have hzl : (Builtin.zeroCells z.cells (hi - l)).toList.length = (hi - l) * sz := by rw [hzf.1, List.length_replicate]
              have hmulh : hi * sz ≤ els.length * sz := Nat.mul_le_mul_right _ (by omega)
              have hsub : l * sz + (hi - l) * sz = hi * sz := by rw [← Nat.add_mul]; congr 1; omega
              obtain ⟨c', hst, hown'⟩ := hown.store (P := P) hsl hone (p := l * sz) (by rw [hzl]; omega)
              have hrun := hbl (w.setRow gb c') (by
                unfold Builtin.clear_
                obtain ⟨m, hm⟩ : ∃ m, hi - l = m + 1 := ⟨hi - l - 1, by omega⟩
                rw [hm] at hst
                rw [← hs0] at hea
                simp only [List.getElem?_toArray, List.getElem?_cons_zero, Sem.run_bind, run_underlying (cx.ti t _ hti).und, Result.andThen_ok, hea, hm, hzr, hst, Sem.run_pure])
              have hm2 := h.m.rowSet hb' hsl he' (els' := els.take l ++ List.replicate (hi - l) (zeroC i.zero) ++ els.drop hi) (by
                have : (els.take l ++ List.replicate (hi - l) (zeroC i.zero) ++ els.drop hi).length = els.length := by
                  simp only [List.length_append, List.length_take, List.length_replicate, List.length_drop]; omega
                rw [this]; exact hown') (by
                have := hflat.splice hzf (n := l) (by omega)
                rw [List.length_replicate, show l + (hi - l) = hi by omega] at this
                exact this) hpos
              exact wp_val hrun (hn _ _ _ _ ((h.with (Ext.refl g) hm2).put (v := .tup []) ⟨[], rfl, .nil⟩) hv)
end
end Vm
