/- Vm, part I: each operation of the interpreter is the model's (4): append. -/
import Derived.Test.YtniiimpcakmkbaaDoorWH
namespace Vm
open Go

section
variable {P : Program} (w : World)

/-- what append onto a slice of the call's own comes to: written in place, or a new row -/
def AppEnd (e : TypeId) (sz : Nat) (v : Value) (n : Nat) (xs : List Value) (w w' : World) (v' : Value) : Prop :=
  w'.ownsRow 0 e sz v' n xs ∧ ((v'.ownBlock = v.ownBlock ∧ w.grownBy w' v.ownBlock) ∨ (v'.ownBlock = some w.heap.size ∧ w.grownBy w' none))

theorem app_new {e : TypeId} {sz n cap : Nat} {v : Value} {all : List Value} {zs : Array Value} (hl : all.length = n * sz) (hcap : n ≤ cap) (hm : cap ≤ maxLen) (hz : zs.size = (cap - n) * sz) :
    AppEnd e sz v n all w (w.drew.alloc (.cells (all.toArray ++ zs) e)) (.slice (some ⟨w.heap.size, 0, none⟩) n cap) := by
  refine ⟨⟨hl, .inr ⟨w.heap.size, cap, _, rfl, Nat.zero_le _, heap_alloc_new w.drew _, hcap, hm, ?_, ?_⟩⟩, .inr ⟨rfl, ⟨rfl, rfl, rfl, by simp, fun k hk _ => heap_alloc_old w.drew _ k hk⟩⟩⟩
  · simp only [Array.size_append, List.size_toArray, hl, hz]
    rw [← Nat.add_mul]; congr 1; omega
  · simp only [Array.toList_append]
    rw [← hl]; exact List.take_left

theorem app_room {e : TypeId} {sz n m cap g : Nat} {cur : Array Value} {xs news : List Value} (hh : w.heap[g]? = some (.cells cur e (0, 0))) (hl : xs.length = n * sz) (hn : news.length = m * sz)
    (hroom : n + m ≤ cap) (hm : cap ≤ maxLen) (hcs : cur.size = cap * sz) (ht : cur.toList.take (n * sz) = xs) :
    AppEnd e sz (.slice (some ⟨g, 0, none⟩) n cap) (n + m) (xs ++ news) w (w.setRow g (cur.toList.take (n * sz) ++ news ++ cur.toList.drop (n * sz + news.length)).toArray) (.slice (some ⟨g, 0, none⟩) (n + m) cap) := by
  have hle : n * sz + m * sz ≤ cap * sz := by rw [← Nat.add_mul]; exact Nat.mul_le_mul_right _ hroom
  refine ⟨⟨by simp [hl, hn, Nat.add_mul], .inr ⟨g, cap, _, rfl, Nat.zero_le _, setRow_heap w g cur _ e (0, 0) hh, hroom, hm, ?_, ?_⟩⟩,
    .inl ⟨rfl, ⟨rfl, rfl, rfl, by simp, fun k _ hk => setRow_other w g k _ (fun e => hk (by simp [Value.ownBlock, e]))⟩⟩⟩
  · have : cur.toList.length = cap * sz := by simpa using hcs
    simp only [List.size_toArray, List.length_append, List.length_take, List.length_drop, this, hn]
    omega
  · rw [ht]
    have : (n + m) * sz = (xs ++ news).length := by simp [hl, hn, Nat.add_mul]
    rw [this]
    exact List.take_left

theorem run_append_nothing {t ty e : TypeId} {i : TypeInfo} (ht : P.underlying t = some (.slice e)) (hi : P.info? e = some i)
    {v : Value} {n c : Nat} {sz : Nat} {xs : List Value} (hown : w.ownsRow 0 e sz v n xs) : (Builtin.append_ #[t, t] ty #[v, .slice none 0 c]).run P w = .ok v w := by
  rcases hown.2 with ⟨rfl, rfl⟩ | ⟨g, cap, cur, rfl, _, _, hnc, _⟩
  · simp [Builtin.append_, run_underlying ht, Go.sizeOf, typeInfo, hi, Builtin.lenOf, Builtin.firstCells]
  · simp [Builtin.append_, run_underlying ht, Go.sizeOf, typeInfo, hi, Builtin.lenOf, Builtin.firstCells, hnc, storeCells]

theorem app_same {e : TypeId} {sz n : Nat} {v : Value} {xs : List Value} (hown : w.ownsRow 0 e sz v n xs) : AppEnd e sz v n xs w w v :=
  ⟨hown, .inl ⟨rfl, World.grownBy.refl w _⟩⟩

theorem append_sl {t ty e : TypeId} {i : TypeInfo} {z : Value} (ht : P.underlying t = some (.slice e)) (hi : P.info? e = some i) (hz : i.zero = some z) (hzs : z.cells.size = i.size)
    {v : Value} {n : Nat} {xs : List Value} (hown : w.ownsRow 0 e i.size v n xs) {A : Option Addr} {m c : Nat} (hA : 0 < m → ∃ a, A = some a) {news : List Value} (hl : news.length = m * i.size)
    (hnews : ∀ a, A = some a → ∀ (j : Nat) u, news[j]? = some u → w.cell? (a.add j) = some u) (h1 : ∀ u ∈ news, u.oneCell' = true)
    (h63 : n + m ≤ 9223372036854775807) (hbytes : (n + m) * i.bytes ≤ 140737488355328) :
    ∃ v' w', (Builtin.append_ #[t, t] ty #[v, .slice A m c]).run P w = .ok v' w' ∧ AppEnd e i.size v (n + m) (xs ++ news) w w' v' := by
  by_cases hA0 : A = none
  · have hm : m = 0 := by
      rcases Nat.eq_zero_or_pos m with h | h
      · exact h
      · obtain ⟨a, ha⟩ := hA h; rw [hA0] at ha; cases ha
    subst hm hA0
    have hn : news = [] := List.eq_nil_of_length_eq_zero (by simpa using hl)
    subst hn
    exact ⟨v, w, run_append_nothing w ht hi hown, by simpa using app_same w hown⟩
  · obtain ⟨a, rfl⟩ : ∃ a, A = some a := by cases A with | none => exact absurd rfl hA0 | some a => exact ⟨a, rfl⟩
    have hnews := hnews a rfl
    rcases hown.2 with ⟨rfl, rfl⟩ | ⟨g, cap, cur, rfl, hbg, hg, hnc, hcm, hcs, htake⟩
    · have hx : xs = [] := List.eq_nil_of_length_eq_zero (by simpa using hown.1)
      subst hx
      by_cases hm : m = 0
      · subst hm
        have hn : news = [] := List.eq_nil_of_length_eq_zero (by simpa using hl)
        subst hn
        refine ⟨.slice none 0 0, w, ?_, by simpa using app_same w hown⟩
        simp [Builtin.append_, run_underlying ht, Go.sizeOf, typeInfo, hi, Builtin.lenOf, Builtin.firstCells, loadCells, loadCellsFrom]
      · have hge := grownCap_ge w m 0 e
        have hcm : grownCap w m 0 e ≤ maxLen := grownCap_le_maxLen w m 0 e (by simp only [maxLen]; omega)
        have h2 : m * i.bytes ≤ 140737488355328 := by simpa using hbytes
        refine ⟨_, _, run_append_nil (P := P) w t ty e i z ht hi hz a m c news hl hnews (by omega) (by omega) (by omega), ?_⟩
        have := app_new (v := .slice none 0 0) w (e := e) (sz := i.size) (n := m) (cap := grownCap w m 0 e) (all := news) (zs := Builtin.zeroCells z.cells (grownCap w m 0 e - m)) hl hge hcm (by rw [size_zeroCells, hzs])
        simpa using this
    · by_cases hroom : n + m ≤ cap
      · have hle : n * i.size + m * i.size ≤ cap * i.size := by rw [← Nat.add_mul]; exact Nat.mul_le_mul_right _ hroom
        exact ⟨_, _, run_append_room (P := P) w t ty e i ht hi g n cap cur hg a m c news hl hnews h1 hroom (by rw [hl, hcs]; exact hle), app_room w hg hown.1 hl hroom hcm hcs htake⟩
      · have hge := grownCap_ge w (n + m) cap e
        have hcm' : grownCap w (n + m) cap e ≤ maxLen := grownCap_le_maxLen w (n + m) cap e (by simp only [maxLen]; omega)
        refine ⟨_, _, run_append_grow (P := P) w t ty e i z ht hi hz ⟨g, 0, none⟩ n cap xs hown.1 (fun j u hj => by rw [add_plain', Nat.zero_add]; exact own_cells hown (k := g) rfl j u hj) a m c news hl hnews (by omega) (by omega)
          (growslice_fits (by omega) hbytes), ?_⟩
        have := app_new (v := .slice (some ⟨g, 0, none⟩) n cap) w (e := e) (sz := i.size) (n := n + m) (cap := grownCap w (n + m) cap e) (all := xs ++ news) (zs := Builtin.zeroCells z.cells (grownCap w (n + m) cap e - (n + m)))
          (by simp [hown.1, hl, Nat.add_mul]) hge hcm' (by rw [size_zeroCells, hzs])
        simpa [List.append_toArray] using this

theorem append_es {t ty e : TypeId} {i : TypeInfo} {z : Value} (ht : P.underlying t = some (.slice e)) (hi : P.info? e = some i) (hz : i.zero = some z) (hzs : z.cells.size = i.size)
    {A0 : Option Addr} {A : Option Addr} {m c : Nat} (hA : 0 < m → ∃ a, A = some a) {news : List Value} (hl : news.length = m * i.size)
    (hnews : ∀ a, A = some a → ∀ (j : Nat) u, news[j]? = some u → w.cell? (a.add j) = some u)
    (h63 : m ≤ 9223372036854775807) (hbytes : m * i.bytes ≤ 140737488355328) :
    (m = 0 → (Builtin.append_ #[t, t] ty #[.slice A0 0 0, .slice A m c]).run P w = .ok (.slice A0 0 0) w) ∧
    (0 < m → ∃ v' w', (Builtin.append_ #[t, t] ty #[.slice A0 0 0, .slice A m c]).run P w = .ok v' w' ∧ AppEnd e i.size (.slice none 0 0) m news w w' v') := by
  refine ⟨fun hm => ?_, fun hm => ?_⟩
  · subst hm
    cases A0 <;> cases A <;> simp [Builtin.append_, run_underlying ht, Go.sizeOf, typeInfo, hi, Builtin.lenOf, Builtin.firstCells, loadCells, loadCellsFrom, storeCells]
  · obtain ⟨a, rfl⟩ := hA hm
    have hnews := hnews a rfl
    cases A0 with
    | none =>
      have hge := grownCap_ge w m 0 e
      have hcm : grownCap w m 0 e ≤ maxLen := grownCap_le_maxLen w m 0 e (by simp only [maxLen]; omega)
      refine ⟨_, _, run_append_nil (P := P) w t ty e i z ht hi hz a m c news hl hnews (by omega) (by omega) (by omega), ?_⟩
      have := app_new (v := .slice none 0 0) w (e := e) (sz := i.size) (n := m) (cap := grownCap w m 0 e) (all := news) (zs := Builtin.zeroCells z.cells (grownCap w m 0 e - m)) hl hge hcm (by rw [size_zeroCells, hzs])
      simpa using this
    | some a0 =>
      have hge := grownCap_ge w (0 + m) 0 e
      have hcm' : grownCap w (0 + m) 0 e ≤ maxLen := grownCap_le_maxLen w (0 + m) 0 e (by simp only [maxLen]; omega)
      refine ⟨_, _, run_append_grow (P := P) w t ty e i z ht hi hz a0 0 0 [] (by simp) (fun j u hj => by simp at hj) a m c news hl hnews (by omega) (by omega)
        (growslice_fits (by omega) (by rw [Nat.zero_add]; exact hbytes)), ?_⟩
      have := app_new (v := .slice none 0 0) w (e := e) (sz := i.size) (n := 0 + m) (cap := grownCap w (0 + m) 0 e) (all := news) (zs := Builtin.zeroCells z.cells (grownCap w (0 + m) 0 e - (0 + m)))
        (by simp [hl]) hge hcm' (by rw [size_zeroCells, hzs])
      simpa [List.append_toArray] using this

theorem append_str {t u ty e : TypeId} {i : TypeInfo} {z : Value} (ht : P.underlying t = some (.slice e)) (hu : P.underlying u = some .string) (hi : P.info? e = some i) (hz : i.zero = some z) (hzs : z.cells.size = i.size) (hs1 : i.size = 1)
    {v : Value} {n : Nat} {xs : List Value} (hown : w.ownsRow 0 e i.size v n xs) (s : ByteArray)
    (h63 : n + s.size ≤ 9223372036854775807) (hbytes : (n + s.size) * i.bytes ≤ 140737488355328) :
    ∃ v' w', (Builtin.append_ #[t, u] ty #[v, .string s]).run P w = .ok v' w' ∧ AppEnd e i.size v (n + s.size) (xs ++ Lib.strCells s) w w' v' := by
  have hl : (Lib.strCells s).length = s.size * i.size := by rw [Lib.strCells_length, hs1, Nat.mul_one]
  rcases hown.2 with ⟨rfl, rfl⟩ | ⟨g, cap, cur, rfl, hbg, hg, hnc, hcm, hcs, htake⟩
  · have hx : xs = [] := List.eq_nil_of_length_eq_zero (by simpa using hown.1)
    subst hx
    by_cases hm : s.size = 0
    · have hn : Lib.strCells s = [] := List.eq_nil_of_length_eq_zero (by rw [Lib.strCells_length, hm])
      rw [hn, hm]
      refine ⟨.slice none 0 0, w, ?_, by simpa using app_same w hown⟩
      simp [Builtin.append_, run_underlying ht, run_underlying hu, Go.sizeOf, typeInfo, hi, Builtin.lenOf, Builtin.firstCells, hm]
    · have hge := grownCap_ge w s.size 0 e
      have hcm : grownCap w s.size 0 e ≤ maxLen := grownCap_le_maxLen w s.size 0 e (by simp only [maxLen]; omega)
      have h2 : s.size * i.bytes ≤ 140737488355328 := by simpa using hbytes
      refine ⟨_, _, run_append_nil_string (P := P) w t u ty e i z ht hu hi hz s (by omega) (by omega) (by omega), ?_⟩
      have := app_new (v := .slice none 0 0) w (e := e) (sz := i.size) (n := s.size) (cap := grownCap w s.size 0 e) (all := Lib.strCells s) (zs := Builtin.zeroCells z.cells (grownCap w s.size 0 e - s.size)) hl hge hcm (by rw [size_zeroCells, hzs])
      have he : (Lib.strCells s).toArray = s.data.map (fun b => Value.int .u8 b.toNat) := by apply Array.ext'; simp [Lib.strCells]
      rw [he] at this
      simpa using this
  · by_cases hroom : n + s.size ≤ cap
    · have hle : n * i.size + s.size * i.size ≤ cap * i.size := by rw [← Nat.add_mul]; exact Nat.mul_le_mul_right _ hroom
      have hr := Lib.run_append_room_string (P := P) w t u ty e i ht hu hi hs1 g n cap cur hg s hroom (by rw [hcs, hs1]; omega)
      refine ⟨_, _, hr, ?_⟩
      have := app_room (news := Lib.strCells s) w hg hown.1 hl hroom hcm hcs htake
      rw [Lib.strCells_length, hs1, Nat.mul_one] at this
      rw [hs1]; exact this
    · have hge := grownCap_ge w (n + s.size) cap e
      have hcm' : grownCap w (n + s.size) cap e ≤ maxLen := grownCap_le_maxLen w (n + s.size) cap e (by simp only [maxLen]; omega)
      refine ⟨_, _, Lib.run_append_grow_string (P := P) w t u ty e i z ht hu hi hz ⟨g, 0, none⟩ n cap xs hown.1 (fun j u hj => by rw [add_plain', Nat.zero_add]; exact own_cells hown (k := g) rfl j u hj) s (by omega) (by omega)
        (growslice_fits (by omega) hbytes), ?_⟩
      have := app_new (v := .slice (some ⟨g, 0, none⟩) n cap) w (e := e) (sz := i.size) (n := n + s.size) (cap := grownCap w (n + s.size) cap e) (all := xs ++ Lib.strCells s) (zs := Builtin.zeroCells z.cells (grownCap w (n + s.size) cap e - (n + s.size)))
        (by simp [hown.1, hl, Nat.add_mul]) hge hcm' (by rw [size_zeroCells, hzs])
      simpa [List.append_toArray] using this
end

section
variable {P : Program} {cf : Cfg} {S0 : Addr → Option Value} (cx : Ctx P cf S0)
variable {w0 : World} {O : Nat → Prop} {g0 g : G} {st : St} {a : Act} {w : World}
variable {R : Type} {dr : Bool} {o : Oper} {k : St → Option R} {r : R} {next : Act → World → Prop} {Q : Exit → Act → World → Prop}

/-- a box over a row of one's own -/
theorem row_arr {bx : Bx} (hm : RelM w0 S0 O g bx w) {w' : World} {v v' : Value} {e : TypeId} {sz : Nat} (hsz : 0 < sz) (mt : Bool) {els : List (List C)} {xs : List Value}
    (hfree : ∀ (n : Nat) y kk, bx[n]? = some (some y) → blk g n y = some kk → v.ownBlock ≠ some kk) (hlow : ∀ kk, v.ownBlock = some kk → w0.heap.size ≤ kk ∨ O kk)
    (hold : ∀ kk, v.ownBlock = some kk → ∀ off sp u, g.S ⟨kk, off, sp⟩ = some u → mt = false ∧ sp = none ∧ xs[off]? = some u)
    (hend : AppEnd e sz v els.length xs w w' v') (hflat : Flat g.S sz els xs) :
    ∃ g', Ext g g' ∧ RelM w0 S0 O g' (bx ++ [some (.arr mt (some e) sz els)]) w' ∧ RelW g' (.arr bx.length) v' ∧
      (mt = false → RelM w0 S0 O { g with S := g'.S } bx w' ∧ RelC g'.S (.sl sz els) v') := by
  obtain ⟨hown, hblk⟩ := hend
  -- the row that turns
  let row : Option Nat := if v'.ownBlock = v.ownBlock then v.ownBlock else none
  have hg : w.grownBy w' row := by
    rcases hblk with ⟨h1, h2⟩ | ⟨h1, h2⟩
    · simp only [row, h1, if_true]; exact h2
    · by_cases he : v'.ownBlock = v.ownBlock
      · simp only [row, he, if_true]; exact ⟨h2.os, h2.tape, h2.output, h2.size, fun k hk _ => h2.block k hk (by simp)⟩
      · simp only [row, he, if_false]; exact h2
  have hrow : ∀ kk, row = some kk → v.ownBlock = some kk ∧ v'.ownBlock = some kk := by
    intro kk hk
    simp only [row] at hk
    split at hk
    · rename_i he; exact ⟨hk, he.trans hk⟩
    · cases hk
  have hcell : ∀ kk, v'.ownBlock = some kk → ∀ (j : Nat) u, xs[j]? = some u → w'.cell? ⟨kk, j, none⟩ = some u := fun kk hk => own_cells hown hk
  have hv'S : ∀ kk, v'.ownBlock = some kk → ∀ off sp u, g.S ⟨kk, off, sp⟩ = some u → mt = false ∧ sp = none ∧ xs[off]? = some u := by
    intro kk hk off sp u hu
    rcases hblk with ⟨h1, _⟩ | ⟨h1, _⟩
    · exact hold kk (h1 ▸ hk) off sp u hu
    · rw [h1] at hk; cases hk; have := hm.S_lt hu; simp at this
  have hone : v'.oneCell' = true := by rcases hown.2 with ⟨rfl, _⟩ | ⟨gb, cap, cur, rfl, _⟩ <;> rfl
  let S' : Addr → Option Value := bif mt then g.S else withRow g.S v' xs
  have hS' : ∀ ad u, g.S ad = some u → S' ad = some u := by
    intro ad u hu
    cases hmt : mt with
    | true => simp only [S', hmt]; exact hu
    | false => simp only [S', hmt]; exact withRow_sub ad u hu
  have hnew : ∀ ad u, S' ad = some u → g.S ad = some u ∨ (mt = false ∧ v'.ownBlock = some ad.block ∧ ad.spot = none ∧ xs[ad.off]? = some u) := by
    intro ad u hu
    cases hmt : mt with
    | true => simp only [S', hmt] at hu; exact .inl hu
    | false =>
      simp only [S', hmt, cond_false, withRow] at hu
      cases hS : g.S ad with
      | some q => rw [hS] at hu; exact .inl hu
      | none =>
        rw [hS] at hu; simp only at hu
        split at hu
        · rename_i hc; exact .inr ⟨rfl, hc.1, hc.2, hu⟩
        · cases hu
  have hcell' : ∀ ad : Addr, ad.spot = none → (⟨ad.block, ad.off, none⟩ : Addr) = ad := by intro ad h; cases ad; simp at h; simp [h]
  have hstable : mt = false → RelC S' (.sl sz els) v' := by
    intro hf
    subst hf
    exact row_rel hown (hflat.mono hS') (fun kk hk j u hu => by
      simp only [S', cond_false, withRow]
      cases hS : g.S ⟨kk, j, none⟩ with
      | some q => have := (hv'S kk hk j none q hS).2.2; rw [this] at hu; simp [hu]
      | none => simp only [hk, and_self, if_true]; exact hu)
  have hforget := hm.stepS (S' := S') hg (fun kk hk => hlow kk (hrow kk hk).1) hS' (fun ad u hu => by
      rcases hnew ad u hu with h4 | ⟨_, h4, h5, h6⟩
      · exact .inl h4
      · refine .inr ⟨by have := hcell ad.block h4 ad.off u h6; rwa [hcell' ad h5] at this, ?_⟩
        rcases hblk with ⟨h1, _⟩ | ⟨h1, _⟩
        · left; simp only [row, h1, if_true]; rw [← h1]; exact h4
        · right; rw [h1] at h4; simp at h4; omega) (fun ad u hu hr => by
      obtain ⟨h4, h5⟩ := hrow ad.block hr
      obtain ⟨_, h6, h7⟩ := hold ad.block h4 ad.off ad.spot u hu
      have := hcell ad.block h5 ad.off u h7; rwa [hcell' ad h6] at this) (fun n y kk hy hk hr => hfree n y kk hy hk (hrow kk hr).1)
  have hmain := hm.boxAdd (x := .arr mt (some e) sz els) (k := 0) (v := v') (S' := S') hg (fun kk hk => hlow kk (hrow kk hk).1) hS' (fun ad u hu => by
      rcases hnew ad u hu with h4 | ⟨_, h4, h5, h6⟩
      · exact .inl h4
      · refine .inr ⟨by have := hcell ad.block h4 ad.off u h6; rwa [hcell' ad h5] at this, ?_⟩
        rcases hblk with ⟨h1, _⟩ | ⟨h1, _⟩
        · left; simp only [row, h1, if_true]; rw [← h1]; exact h4
        · right; rw [h1] at h4; simp at h4; omega) (fun ad u hu hr => by
      obtain ⟨h4, h5⟩ := hrow ad.block hr
      obtain ⟨_, h6, h7⟩ := hold ad.block h4 ad.off ad.spot u hu
      have := hcell ad.block h5 ad.off u h7; rwa [hcell' ad h6] at this) (fun n y kk hy hk hr => hfree n y kk hy hk (hrow kk hr).1)
    (by
      have hsl : ({ g.push bx.length 0 v' with S := S' } : G).sl bx.length = v' := by simp [G.push]
      refine ⟨xs, e, fun e0 h => (by cases h; rfl), by rw [hsl]; exact hown, hflat.mono hS', hsz, fun hf => ?_⟩
      rw [hsl]
      exact hstable hf)
    (fun kk hk => by
      simp only [blk, G.push, if_true] at hk
      rcases hblk with ⟨h1, _⟩ | ⟨h1, _⟩
      · left; simp only [row, h1, if_true]; rw [← h1]; exact hk
      · right; rw [h1] at hk; simp at hk; omega)
    (fun kk hk off sp u hu => by
      simp only [blk, G.push, if_true] at hk
      have hoff : mt = false ∧ off < xs.length := by
        rcases hnew _ u hu with h4 | ⟨h4, _, _, h6⟩
        · obtain ⟨h5, _, h6⟩ := hv'S kk hk off sp u h4; exact ⟨h5, lt_of h6⟩
        · exact ⟨h4, lt_of h6⟩
      exact ⟨some e, sz, els, by rw [hoff.1], by rw [← hflat.1]; exact hoff.2⟩)
  have hpe : Ext g (g.push bx.length 0 v') := G.push_ext hm.fresh
  exact ⟨{ g.push bx.length 0 v' with S := S' }, ⟨hS', hpe.bx, hpe.sl, hpe.c⟩, hmain, ⟨by simp [G.push], by simp [G.push], hone⟩, fun hf => ⟨hforget, hstable hf⟩⟩

theorem elsOf_rel {bx : Bx} (hm : RelM w0 S0 O g bx w) {v : V} {u : Value} {sz : Nat} {els : List (List C)} (hs : elsOf bx v = some (sz, els)) (hv : RelV g v u) (hsz : 0 < sz) :
    ∃ (A : Option Addr) (cap : Nat) (xs : List Value), u = .slice A els.length cap ∧ (0 < els.length → ∃ a, A = some a) ∧ Flat g.S sz els xs ∧
      (∀ a, A = some a → ∀ (j : Nat) v, xs[j]? = some v → w.cell? (a.add j) = some v) ∧ ∀ v ∈ xs, v.oneCell' = true := by
  match v, hs, hv with
  | .t (.w (.d (.sl sz' els'))), hs, hv =>
    simp only [elsOf, Option.some.injEq, Prod.mk.injEq] at hs
    obtain ⟨rfl, rfl⟩ := hs
    obtain ⟨A, cap, xs, h1, h2, h3, h4, h5⟩ := flat_of_sl hsz hv
    exact ⟨A, cap, xs, h1, h2, h3, fun a ha j v hv => hm.mem _ _ (h4 a ha j v hv), h5⟩
  | .t (.w (.es sz')), hs, hv =>
    simp only [elsOf, Option.some.injEq, Prod.mk.injEq] at hs
    obtain ⟨rfl, rfl⟩ := hs
    obtain ⟨A, rfl⟩ := hv
    exact ⟨A, 0, [], rfl, fun h => by simp at h, ⟨by simp, fun i e h => by simp at h⟩, fun a _ j v h => by simp at h, by simp⟩
  | .t (.w (.arr b)), hs, hv =>
    simp only [elsOf] at hs
    generalize hb : bx.getD b none = bb at hs
    match bb, hs with
    | some (.arr mt e sz' els'), hs =>
      simp only [Option.some.injEq, Prod.mk.injEq] at hs
      obtain ⟨rfl, rfl⟩ := hs
      obtain ⟨_, xs, e', he', hown, hfl, hpos, _⟩ := hm.box b _ (getD_some hb)
      obtain ⟨_, hu, _⟩ := hv
      have hone : ∀ v ∈ xs, v.oneCell' = true := by
        intro v hv
        obtain ⟨j, hj, rfl⟩ := List.getElem_of_mem hv
        rw [hfl.1] at hj
        have h1 : j / sz' < els'.length := Nat.div_lt_of_lt_mul (by rw [Nat.mul_comm]; exact hj)
        obtain ⟨h2, h3⟩ := hfl.2 _ _ (List.getElem?_eq_getElem h1)
        have h4 : j % sz' < (els'[j / sz']'h1).length := by rw [h2]; exact Nat.mod_lt _ hsz
        obtain ⟨u, hu, hr⟩ := h3 (j % sz') _ (List.getElem?_eq_getElem h4)
        have h5 : j / sz' * sz' + j % sz' = j := by rw [Nat.mul_comm]; exact Nat.div_add_mod j sz'
        rw [h5] at hu
        rw [List.getElem?_eq_getElem (by rw [hfl.1]; exact hj)] at hu; cases hu
        exact RelC.one hr
      rcases hown.2 with ⟨h0, hn⟩ | ⟨gb, cap, cur, h0, _⟩
      · refine ⟨none, 0, xs, by rw [hu, h0, hn], fun h => by omega, hfl, fun a ha => (by simp at ha), hone⟩
      · refine ⟨some ⟨gb, 0, none⟩, cap, xs, by rw [hu, h0], fun _ => ⟨_, rfl⟩, hfl, fun a ha j v hv => ?_, hone⟩
        cases ha
        rw [add_plain', Nat.zero_add]
        exact own_cells hown (k := gb) (by rw [h0]; rfl) j v hv
  | .t (.w (.pv b off n)), hs, hv =>
    simp only [elsOf] at hs
    generalize hb : bx.getD b none = bb at hs
    match bb, hs with
    | some (.cells ⟨l, [], ln⟩), hs =>
      simp only at hs
      cases hle : Nat.ble (off + n) ln with
      | false => rw [hle] at hs; cases hs
      | true =>
        rw [hle, cond_true, Option.some.injEq, Prod.mk.injEq] at hs
        obtain ⟨rfl, rfl⟩ := hs
        rw [Nat.ble_eq] at hle
        obtain ⟨_, cs, e', hh, hcs⟩ := hm.box b _ (getD_some hb)
        obtain ⟨_, rfl⟩ := hv
        have hall := all_of_relM hcs
        have hln : l.length = ln := hcs.1.2
        have hcl : cs.length = l.length := hall.1
        have hlen : (((l.drop off).take n).map fun c => [c]).length = n := by simp only [List.length_map, List.length_take, List.length_drop]; omega
        have hx := (hall.drop off).take n
        rw [hlen]
        refine ⟨some ⟨g.bx b, off, none⟩, n, (cs.drop off).take n, rfl, fun _ => ⟨_, rfl⟩, ⟨by simp only [List.length_take, List.length_drop, hlen]; omega, fun i e hi => ?_⟩, fun a ha j v hv => ?_, fun v hv => ?_⟩
        · simp only [List.getElem?_map, Option.map_eq_some_iff] at hi
          obtain ⟨c, hc, rfl⟩ := hi
          refine ⟨rfl, fun j c' hj => ?_⟩
          cases j with
          | zero =>
            simp at hj; subst hj
            obtain ⟨u, hu, hr⟩ := hx.get hc
            exact ⟨u, by rw [Nat.mul_one, Nat.add_zero]; exact hu, hr⟩
          | succ j => simp at hj
        · cases ha
          rw [add_plain', cell_of_row w (g.bx b) (off + j) cs.toArray e' (0, 0) hh]
          rw [List.getElem?_take] at hv
          split at hv
          · simpa using hv
          · cases hv
        · obtain ⟨j, hj⟩ := List.getElem?_of_mem hv
          have hjl : j < ((l.drop off).take n).length := by rw [← hx.1]; exact (List.getElem?_eq_some_iff.1 hj).1
          exact RelC.one (hx.2 j _ v (List.getElem?_eq_getElem hjl) hj)

include cx

theorem flat_src {t t2 : TypeId} {y : Operand} {sz : Nat} {els : List (List C)} (h : Rel w0 S0 O g0 g st a w) (hs : appSrc cf t t2 st.bx (st.evT cf t2 y) = some (sz, els)) :
    (t2 = t ∧ elsOf st.bx (st.evT cf t2 y) = some (sz, els)) ∨ (∃ s, sz = 1 ∧ els = byteEls s ∧ a.eval y = .string s ∧ P.underlying t2 = some .string) := by
  have he := evT_rel cx h t2 y
  generalize st.evT cf t2 y = e at hs he ⊢
  have key : (bif t2 == t then elsOf st.bx e else none) = some (sz, els) → t2 = t ∧ elsOf st.bx e = some (sz, els) := by
    intro hk
    by_cases hc : t2 = t
    · subst hc; rw [beq_self_eq_true, cond_true] at hk; exact ⟨rfl, hk⟩
    · rw [beq_false_of_ne hc] at hk; cases hk
  match e, hs, he with
  | .t (.w (.d (.str s))), hs, he =>
    simp only [appSrc] at hs
    generalize hti : cf.ti t2 = ti at hs
    match ti, hs with
    | some ⟨.string, z1, z2, z3, z4, z5⟩, hs => cases hs; exact .inr ⟨s, rfl, rfl, relC_str he, (cx.ti t2 _ hti).und⟩
  | .t (.w (.d (.sl sz' els'))), hs, he => exact .inl (key hs)
  | .t (.w (.arr b)), hs, he => exact .inl (key hs)
  | .u, hs, he => exact .inl (key hs)
  | .tup l, hs, he => exact .inl (key hs)
  | .t (.agg m), hs, he => exact .inl (key hs)
  | .t (.w .u), hs, he => exact .inl (key hs)
  | .t (.w (.ptr b f)), hs, he => exact .inl (key hs)
  | .t (.w (.ea b i s f)), hs, he => exact .inl (key hs)
  | .t (.w (.pv b i f)), hs, he => exact .inl (key hs)
  | .t (.w (.es sz)), hs, he => exact .inl (key hs)
  | .t (.w (.d (.int k1 n1))), hs, he => exact .inl (key hs)
  | .t (.w (.d (.bool b))), hs, he => exact .inl (key hs)
  | .t (.w (.d .ni)), hs, he => exact .inl (key hs)
  | .t (.w (.d (.ifc t1 ag l))), hs, he => exact .inl (key hs)
  | .t (.w (.d (.fn f q))), hs, he => exact .inl (key hs)
  | .t (.w (.d .nf)), hs, he => exact .inl (key hs)
  | .t (.w (.d .np)), hs, he => exact .inl (key hs)
  | .t (.w (.d (.ip q))), hs, he => exact .inl (key hs)

omit cx in
theorem flat_bytes (S : Addr → Option Value) (s : ByteArray) : Flat S 1 (byteEls s) (Lib.strCells s) := by
  refine ⟨by simp [byteEls, Lib.strCells], fun i e hi => ?_⟩
  simp only [byteEls, List.getElem?_map, Option.map_eq_some_iff] at hi
  obtain ⟨b, hb, rfl⟩ := hi
  refine ⟨rfl, fun j c hj => ?_⟩
  cases j with
  | zero => simp at hj; subst hj; exact ⟨.int .u8 b.toNat, by simp [Lib.strCells, hb], RelC.int _ _⟩
  | succ j => simp at hj

omit cx in
theorem run_builtin {b : Builtin} {ts : Array TypeId} {xs : Array Operand} (ho : o.op = .call { callee := .builtin b, args := xs, argTypes := ts }) :
    ∃ cs, (execOp a.eval o).run P w = (builtin b ts o.type cs (xs.map a.eval)).run P w := by
  unfold execOp
  simp only [ho, Sem.run_bind, resolve, Sem.run_pure, Result.andThen_ok, invoke]
  exact ⟨_, rfl⟩


theorem snd_append {c : Call} (ho : o.op = .call c) (hcl : c.callee = .builtin .append) (hv : vAppend cf o c.argTypes c.args k st = some r) (h : Rel w0 S0 O g0 g st a w) (hn : Hands w0 S0 O g0 k r next) : o.wp P a w next Q := by
  obtain ⟨callee, args, ts⟩ := c
  simp only at hcl; subst hcl
  simp only [vAppend] at hv
  generalize hts : ts.toList = tl at hv
  generalize hxs : args.toList = xl at hv
  match tl, xl, hv with
  | [t, t2], [x, y], hv =>
    simp only at hv
    have hts' : ts = #[t, t2] := by apply Array.ext'; simpa using hts
    have hxs' : args = #[x, y] := by apply Array.ext'; simpa using hxs
    subst hts' hxs'
    generalize hti : cf.ti t = ti at hv
    match ti, hv with
    | some ⟨.slice e, z1, z2, z3, z4, z5⟩, hv =>
      simp only at hv
      have hx : RelV g (bif isNilSlice x then (match esz cf t with | some sz => .t (.w (.es sz)) | none => vu) else st.ev cf x) (a.eval x) := by
        cases hn : isNilSlice x with
        | false => exact ev_rel cx h x
        | true =>
          simp only [cond_true]
          cases esz cf t with
          | none => trivial
          | some sz => exact ⟨none, nilSlice_eval hn a⟩
      generalize hte : cf.ti e = tie at hv
      generalize (bif isNilSlice x then (match esz cf t with | some sz => .t (.w (.es sz)) | none => vu) else st.ev cf x) = ex at hv hx
      generalize hsrc : appSrc cf t t2 st.bx (st.evT cf t2 y) = src at hv
      match tie, ex, src, hv, hx with
      | some i, .t (.w (.es sz)), some (sz2, els2), hv, hx =>
        simp only at hv
        by_cases ht2 : t2 = t
        case neg => rw [beq_false_of_ne ht2] at hv; cases hv
        subst ht2
        rw [beq_self_eq_true, cond_true] at hv
        unfold vAppendE at hv
        by_cases hc : (i.size == sz && sz2 == sz && Nat.blt 0 sz && decide (els2.length * i.bytes ≤ 140737488355328 ∧ els2.length ≤ 9223372036854775807)) = true
        case neg => rw [Bool.not_eq_true] at hc; rw [hc] at hv; cases hv
        rw [hc, cond_true] at hv
        simp only [Bool.and_eq_true, beq_iff_eq, decide_eq_true_eq, Nat.blt_eq] at hc
        obtain ⟨⟨⟨hsz, rfl⟩, hpos⟩, hb1, hb2⟩ := hc
        obtain ⟨A0, hea⟩ := hx
        obtain ⟨f, hf, hf1, hf2, z, hz, hz2, hz3, _⟩ := info_of cx hte
        have hzs : z.cells.size = f.size := by rw [← Array.length_toList, hz2.1, hz3, hf1]
        have hfs : f.size = sz2 := by rw [hf1, hsz]
        rcases flat_src cx h hsrc with ⟨_, hy⟩ | ⟨s, hs1, rfl, hy, hu2⟩
        · obtain ⟨A, cap, news, he, hA, hfl, hcell, hone⟩ := elsOf_rel h.m hy (evT_rel cx h t2 y) hpos
          obtain ⟨r0, r1⟩ := append_es (P := P) w (ty := o.type) (cx.ti t2 _ hti).und hf hz hzs (A0 := A0) (A := A) (m := els2.length) (c := cap) hA (news := news) (by rw [hfs]; exact hfl.1) hcell hb2 (by rw [hf2]; exact hb1)
          obtain ⟨cs, hcs⟩ := run_builtin (P := P) (a := a) (w := w) ho
          have hbl : (builtin .append #[t2, t2] o.type cs (#[x, y].map a.eval)).run P w =
              ((Builtin.append_ #[t2, t2] o.type #[a.eval x, a.eval y]).run P w).andThen fun v w => .ok (.value v) w := by
            simp only [builtin, Sem.run_bind, Sem.run_pure, List.map_toArray, List.map_cons, List.map_nil]
          cases hem : els2.isEmpty with
          | true =>
            rw [hem, cond_true] at hv
            have hm0 : els2.length = 0 := by rw [List.isEmpty_iff] at hem; rw [hem]; rfl
            refine snd_val hv h hn ⟨.slice A0 0 0, ?_, ⟨A0, rfl⟩⟩
            rw [hcs, hbl, hea, he, r0 hm0]; rfl
          | false =>
            rw [hem, cond_false] at hv
            have hm0 : 0 < els2.length := by
              rcases Nat.eq_zero_or_pos els2.length with h0 | h0
              · rw [List.eq_nil_of_length_eq_zero h0] at hem; cases hem
              · exact h0
            obtain ⟨v', w', hr, hend⟩ := r1 hm0
            have hrow := row_arr (v := .slice none 0 0) h.m hpos true (fun n y kk hy hk hvk => by cases hvk) (fun kk hk => by cases hk) (fun kk hk => by cases hk) (hfs ▸ hend) hfl
            obtain ⟨g', hext, hM, hW, _⟩ := hrow
            refine wp_val (by rw [hcs, hbl, hea, he, hr]; rfl) (hn _ _ _ _ ((h.with hext hM).put (v := .t (.w (.arr st.bx.length))) hW) hv)
        · exfalso
          have := hu2.symm.trans (cx.ti t2 _ hti).und
          cases this
      | some i, .t (.w (.arr b)), some (sz2, els2), hv, hx =>
        simp only at hv
        generalize hb : st.bx.getD b none = bb at hv
        match bb, hv with
        | some (.arr mt e2 sz els), hv =>
          simp only at hv
          by_cases hc : (optIs e2 e && i.size == sz && sz2 == sz && decide ((els.length + els2.length) * i.bytes ≤ 140737488355328 ∧ els.length + els2.length ≤ 9223372036854775807)) = true
          case neg => rw [Bool.not_eq_true] at hc; rw [hc] at hv; cases hv
          rw [hc, cond_true] at hv
          simp only [Bool.and_eq_true, beq_iff_eq, decide_eq_true_eq] at hc
          obtain ⟨⟨⟨he2, hsz⟩, rfl⟩, hb1, hb2⟩ := hc
          have he2 : e2 = some e := by unfold optIs at he2; cases e2 <;> simp at he2; rw [he2]
          subst he2
          have hb' := getD_some hb
          obtain ⟨_, xs, e', he', hown, hflat, hpos, _⟩ := h.m.box b _ hb'
          have he'' := he' e rfl
          subst he''
          obtain ⟨_, hea, _⟩ := hx
          rw [← hea] at hown
          obtain ⟨f, hf, hf1, hf2, z, hz, hz2, hz3, _⟩ := info_of cx hte
          have hzs : z.cells.size = f.size := by rw [← Array.length_toList, hz2.1, hz3, hf1]
          have hfs : f.size = sz2 := by rw [hf1, hsz]
          have hrun : ∃ v' w' news, (execOp a.eval o).run P w = .ok (.value v') w' ∧ AppEnd e' sz2 (a.eval x) (els.length + els2.length) (xs ++ news) w w' v' ∧ Flat g.S sz2 els2 news := by
            obtain ⟨cs, hcs⟩ := run_builtin (P := P) (a := a) (w := w) ho
            have hbl : (builtin .append #[t, t2] o.type cs (#[x, y].map a.eval)).run P w =
                ((Builtin.append_ #[t, t2] o.type #[a.eval x, a.eval y]).run P w).andThen fun v w => .ok (.value v) w := by
              simp only [builtin, Sem.run_bind, Sem.run_pure, List.map_toArray, List.map_cons, List.map_nil]
            rw [hcs, hbl]
            rcases flat_src cx h hsrc with ⟨rfl, hy⟩ | ⟨s, hs1, rfl, hy, hu2⟩
            · obtain ⟨A, cap, news, he, hA, hfl, hcell, hone⟩ := elsOf_rel h.m hy (evT_rel cx h t2 y) hpos
              obtain ⟨v', w', hr, hend⟩ := append_sl (P := P) w (ty := o.type) (cx.ti t2 _ hti).und hf hz hzs (v := a.eval x) (n := els.length) (xs := xs) (by rw [hfs]; exact hown) (A := A) (m := els2.length) (c := cap) hA
                (news := news) (by rw [hfs]; exact hfl.1) hcell hone hb2 (by rw [hf2]; exact hb1)
              rw [he, hr]
              exact ⟨v', w', news, rfl, hfs ▸ hend, hfl⟩
            · obtain ⟨v', w', hr, hend⟩ := append_str (P := P) w (ty := o.type) (cx.ti t _ hti).und hu2 hf hz hzs (by rw [hfs, hs1]) (v := a.eval x) (n := els.length) (xs := xs) (by rw [hfs]; exact hown) s
                (by simpa [byteEls] using hb2) (by rw [hf2]; simpa [byteEls] using hb1)
              rw [hy, hr]
              refine ⟨v', w', _, rfl, ?_, hs1 ▸ flat_bytes g.S s⟩
              have : (byteEls s).length = s.size := by simp [byteEls]
              rw [this]; exact hfs ▸ hend
          obtain ⟨v', w', news, hrun, hend, hfl2⟩ := hrun
          have hlen : (els ++ els2).length = els.length + els2.length := List.length_append
          have hm1 : RelM w0 S0 O g (st.bx.set b none) w := h.m.less (by simp; exact h.m.c) (fun n y hy => by
            rcases set_get hy with ⟨_, e, _⟩ | ⟨_, e⟩
            · cases e
            · exact e)
          have hblk : blk g b (.arr mt (some e') sz2 els) = (a.eval x).ownBlock := by simp only [blk]; rw [hea]
          have hrow := fun (mt' : Bool) (hmt : mt = false → mt' = false) => row_arr hm1 hpos mt'
            (fun n y kk hy hk hvk => by
              rcases set_get hy with ⟨_, e, _⟩ | ⟨hne, hy⟩
              · cases e
              · exact hne (h.m.disj n b y _ kk hy hb' hk (by rw [hblk]; exact hvk)))
            (fun kk hk => h.m.low b _ kk hb' (by rw [hblk]; exact hk))
            (fun kk hk off sp u hu => by
              obtain ⟨e1, s1, l1, h1, h2⟩ := h.m.sep b _ kk hb' (by rw [hblk]; exact hk) off sp u hu
              simp only [Box.arr.injEq] at h1
              obtain ⟨rfl, rfl, rfl, rfl⟩ := h1
              have hcell := h.m.mem _ _ hu
              have hsp : sp = none := by
                cases sp with
                | none => rfl
                | some q => simp only [World.cell?] at hcell; split at hcell <;> simp at hcell
              subst hsp
              have hlt : off < xs.length := by rw [hown.1]; exact h2
              have := own_cells hown hk off _ (List.getElem?_eq_getElem hlt)
              rw [hcell] at this
              exact ⟨hmt rfl, rfl, by rw [List.getElem?_append_left hlt, List.getElem?_eq_getElem hlt]; exact this.symm⟩)
            (hlen ▸ hend) (hflat.append hfl2)
          obtain ⟨g', hext, hM, hW, _⟩ := hrow mt id
          refine wp_val hrun (hn _ _ _ _ ((h.with hext hM).put (v := .t (.w (.arr st.bx.length))) ?_) hv)
          have e : (st.bx.set b none).length = st.bx.length := by simp
          rw [e] at hW
          exact hW
end
end Vm
