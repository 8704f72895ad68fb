/- Own work over the kit: abstract memory, its rules, and the walk. -/
import Derived.Test.YtmkaaplbidlmcaaDoorPxBase
set_option linter.unusedVariables false
set_option linter.unusedSimpArgs false
namespace Go.Px

theorem add_none (b o n : Nat) : (⟨b, o, none⟩ : Addr).add n = ⟨b, o + n, none⟩ := by unfold Addr.add; split <;> simp_all

theorem PR.cur {h : Heap} {β r g o v row} (hp : PR (shp h) β r g o v) (hr : h[r]? = some row) (hg : row.gen = g) : v = .pointer (some ⟨(β r).blk, (β r).base + o, none⟩) := by
  obtain ⟨s, a, hs, _, rfl, hc⟩ := hp
  rw [shp_some hr] at hs
  injection hs with hs
  subst hs
  rw [hc hg.symm]

/-- A cell reads. -/
theorem Rel.cell {h : Heap} {β w r row o x} (hr : Rel h β w) (e : h[r]? = some row) (hx : row.cells[o]? = some x) :
    ∃ u, w.cell? ⟨(β r).blk, (β r).base + o, none⟩ = some u ∧ SR (shp h) β x u := by
  obtain ⟨cs, el, fz, hb, hsz, hle, hc, hf⟩ := hr.row r row e
  obtain ⟨u, hu, hs⟩ := hc o x hx
  exact ⟨u, by simp [World.cell?, hb, hu], hs⟩

theorem Rel.notFrozen {h : Heap} {β w r row o} (hr : Rel h β w) (e : h[r]? = some row) (hrw : row.rw = true) (ho : o < row.cells.length) :
    w.frozen? ⟨(β r).blk, (β r).base + o, none⟩ = false := by
  obtain ⟨cs, el, fz, hb, hsz, hle, hc, hf⟩ := hr.row r row e
  have := hf hrw ((β r).base + o) (by omega)
  simpa [World.frozen?, hb] using this

/-- Several cells, as a list of concrete values. -/
theorem Rel.cells {h : Heap} {β w r row} (hr : Rel h β w) (e : h[r]? = some row) : ∀ (l : List S) (o : Nat), (∀ (j : Nat) (x : S), l[j]? = some x → row.cells[o + j]? = some x) →
    ∃ us : List Value, us.length = l.length ∧ (∀ j u, us[j]? = some u → w.cell? ⟨(β r).blk, (β r).base + o + j, none⟩ = some u) ∧ CR (shp h) β l us.toArray 0
  | [], o, _ => ⟨[], rfl, by simp, by intro j x hj; simp at hj⟩
  | x :: l, o, hl => by
    obtain ⟨u, hu, hs⟩ := hr.cell e (hl 0 x rfl)
    obtain ⟨us, h1, h2, h3⟩ := Rel.cells hr e l (o + 1) (fun j y hj => by have := hl (j + 1) y hj; rwa [show o + 1 + j = o + (j + 1) by omega])
    refine ⟨u :: us, by simp [h1], ?_, ?_⟩
    · intro j v hj
      cases j with
      | zero => simp at hj; subst hj; exact hu
      | succ j => simp at hj; have := h2 j v hj; rwa [show (β r).base + (o + 1) + j = (β r).base + o + (j + 1) by omega] at this
    · intro j y hj
      cases j with
      | zero => simp at hj; subst hj; exact ⟨u, by simp, hs⟩
      | succ j =>
        simp at hj
        obtain ⟨u', hu', hs'⟩ := h3 j y hj
        exact ⟨u', by simpa using hu', hs'⟩

theorem run_loadCells_at {P : Program} {w : World} {b o : Nat} (us : List Value) (h : ∀ j u, us[j]? = some u → w.cell? ⟨b, o + j, none⟩ = some u) :
    (loadCells ⟨b, o, none⟩ us.length).run P w = .ok us.toArray w :=
  run_loadCells_list (P := P) w ⟨b, o, none⟩ us (fun j v hv => by rw [add_none]; exact h j v hv)

/-- Stores, cell by cell. -/
theorem run_storeCells_fz {P : Program} (g o : Nat) (t : TypeId) (fz : Nat × Nat) : ∀ (vs : List Value) (i : Nat) (cur : Array Value) (w : World), w.heap[g]? = some (.cells cur t fz) → o + i + vs.length ≤ cur.size → (∀ v ∈ vs, v.oneCell' = true) →
    (∀ j, o + i ≤ j → j < o + i + vs.length → (decide (fz.1 ≤ j) && decide (j < fz.2)) = false) →
    ∃ w', (storeCells ⟨g, o, none⟩ vs i).run P w = .ok () w' ∧ w'.os = w.os ∧ w'.tape = w.tape ∧ w'.output = w.output ∧ w'.heap.size = w.heap.size ∧ (∀ b, b ≠ g → w'.heap[b]? = w.heap[b]?) ∧
      ∃ cur', w'.heap[g]? = some (.cells cur' t fz) ∧ cur'.size = cur.size ∧ (∀ j u, vs[j]? = some u → cur'[o + i + j]? = some u) ∧ (∀ j, j < o + i ∨ o + i + vs.length ≤ j → cur'[j]? = cur[j]?)
  | [], i, cur, w, hg, _, _, _ => ⟨w, rfl, rfl, rfl, rfl, rfl, fun _ _ => rfl, cur, hg, rfl, by simp, fun _ _ => rfl⟩
  | v :: rest, i, cur, w, hg, hl, h1, hf => by
    have hi : o + i < cur.size := by simp at hl; omega
    have hcell : w.cell? ⟨g, o + i, none⟩ = some cur[o + i] := by simp [World.cell?, hg, hi]
    have hfro : w.frozen? ⟨g, o + i, none⟩ = false := by
      have := hf (o + i) (Nat.le_refl _) (by simp)
      simpa [World.frozen?, hg] using this
    have hgl : g < w.heap.size := (Array.getElem?_eq_some_iff.1 hg).1
    have hst : (store ((⟨g, o, none⟩ : Addr).add i) v).run P w = .ok () (w.setCell ⟨g, o + i, none⟩ v) := by
      rw [add_none, run_store P w _ v _ (h1 v (by simp)), hcell]
      simp [hfro]
    have hg' : (w.setCell ⟨g, o + i, none⟩ v).heap[g]? = some (.cells (cur.setIfInBounds (o + i) v) t fz) := by
      simp [World.setCell, Array.getElem?_modify, hg]
    obtain ⟨w', hr, h2, h3, h4, h5, h6, cur', h7, h8, h9, h10⟩ := run_storeCells_fz (P := P) g o t fz rest (i + 1) (cur.setIfInBounds (o + i) v) (w.setCell ⟨g, o + i, none⟩ v) hg'
      (by simp at hl ⊢; omega) (fun v hv => h1 v (by simp [hv])) (fun j hj hj' => hf j (by omega) (by simp; omega))
    refine ⟨w', ?_, h2, h3, h4, by rw [h5]; simp [World.setCell], ?_, cur', h7, by rw [h8]; simp, ?_, ?_⟩
    · simp only [storeCells, Sem.run_bind, hst, Result.andThen_ok, hr]
    · intro b hb
      rw [h6 b hb]
      simp [World.setCell, Array.getElem?_modify, Ne.symm hb]
    · intro j u hj
      cases j with
      | zero =>
        simp at hj; subst hj
        have := h10 (o + i) (.inl (by omega))
        rw [Nat.add_zero, this]
        simp [Array.getElem?_setIfInBounds, hi]
      | succ j =>
        simp at hj
        have := h9 j u hj
        rwa [show o + (i + 1) + j = o + i + (j + 1) by omega] at this
    · intro j hj
      have := h10 j (by simp at hj ⊢; omega)
      rw [this]
      rw [Array.getElem?_setIfInBounds]
      rw [if_neg (by simp at hj; omega)]

/-- Replace cells of a list from an offset on. -/
def splice (l : List S) (o : Nat) (xs : List S) : List S := l.take o ++ xs ++ l.drop (o + xs.length)

theorem splice_length {l : List S} {o : Nat} {xs : List S} (h : o + xs.length ≤ l.length) : (splice l o xs).length = l.length := by
  simp [splice]; omega

theorem splice_get {l : List S} {o : Nat} {xs : List S} (h : o + xs.length ≤ l.length) (j : Nat) : (splice l o xs)[j]? = if j < o then l[j]? else if j < o + xs.length then xs[j - o]? else l[j]? := by
  unfold splice
  by_cases h1 : j < o
  · rw [if_pos h1, List.append_assoc, List.getElem?_append_left (by simp; omega)]
    simp [List.getElem?_take, h1]
  · rw [if_neg h1, List.append_assoc, List.getElem?_append_right (by simp; omega)]
    have hlen : (l.take o).length = o := by simp; omega
    rw [hlen]
    by_cases h2 : j < o + xs.length
    · rw [if_pos h2, List.getElem?_append_left (by omega)]
    · rw [if_neg h2, List.getElem?_append_right (by omega), List.getElem?_drop]
      congr 1; omega

def setCells (h : Heap) (r : Nat) (row : Row) (cells : List S) : Heap := h.set r { row with cells }

theorem shp_set_same {h : Heap} {r : Nat} {row : Row} {cells : List S} (e : h[r]? = some row) (hl : cells.length = row.cells.length) : shp (setCells h r row cells) = shp h := by
  apply List.ext_getElem?
  intro i
  simp only [shp_get, setCells, List.getElem?_set]
  split
  · rename_i hi; subst hi
    split
    · rw [e]; simp [Row.sh, hl]
    · rename_i hn; rw [List.getElem?_eq_none (by omega)] at e; cases e
  · rfl

/-- The world behind a change of cells of one row that is ours. -/
theorem rel_set {h : Heap} {β w r row cells w'} {n : Nat} (hr : Rel h β w) (e : h[r]? = some row) (hrw : row.rw = true) (hn : n ≤ r) (hl : cells.length = row.cells.length)
    (hos : w'.os = w.os) (ht : w'.tape = w.tape) (hout : w'.output = w.output) (hsz : w'.heap.size = w.heap.size) (hoth : ∀ b, b ≠ (β r).blk → w'.heap[b]? = w.heap[b]?)
    (hrow : ∃ cs el fz, w'.heap[(β r).blk]? = some (.cells cs el fz) ∧ cs.size = (β r).size ∧ CR (shp h) β cells cs (β r).base ∧ (∀ o, o < cs.size → (decide (fz.1 ≤ o) && decide (o < fz.2)) = false)) :
    Rel (setCells h r row cells) β w' ∧ Step n h β w (setCells h r row cells) β w' := by
  have hs := shp_set_same (cells := cells) e hl
  have hlt : r < h.length := (List.getElem?_eq_some_iff.1 e).1
  obtain ⟨cs0, el0, fz0, hb0, hsz0, hle0, _, _⟩ := hr.row r row e
  obtain ⟨cs, el, fz, hb, hcsz, hcr, hf⟩ := hrow
  have get : ∀ r' row', (setCells h r row cells)[r']? = some row' → (r' = r ∧ row' = { row with cells }) ∨ (r' ≠ r ∧ h[r']? = some row') := by
    intro r' row' hg
    simp only [setCells, List.getElem?_set] at hg
    by_cases hrr : r = r'
    · subst hrr; rw [if_pos rfl, if_pos hlt] at hg; injection hg with hg; exact .inl ⟨rfl, hg.symm⟩
    · rw [if_neg hrr] at hg; exact .inr ⟨fun k => hrr k.symm, hg⟩
  constructor
  · constructor
    · intro r' row' hg
      rw [hs]
      rcases get r' row' hg with ⟨rfl, rfl⟩ | ⟨hne, hg'⟩
      · exact ⟨cs, el, fz, hb, hcsz, by simp only [hl]; omega, hcr, fun _ => hf⟩
      · obtain ⟨cs1, el1, fz1, k1, k2⟩ := hr.row r' row' hg'
        refine ⟨cs1, el1, fz1, ?_, k2⟩
        rw [hoth _ (fun k => hr.sep r r' row row' e hg' (Ne.symm hne) hrw k.symm)]
        exact k1
    · intro r1 r2 row1 row2 h1 h2 hne hrw1
      rcases get r1 row1 h1 with ⟨rfl, rfl⟩ | ⟨_, h1'⟩ <;> rcases get r2 row2 h2 with ⟨rfl, rfl⟩ | ⟨_, h2'⟩
      · exact absurd rfl hne
      · exact hr.sep _ _ _ _ e h2' hne hrw
      · exact hr.sep _ _ _ _ h1' e hne hrw1
      · exact hr.sep _ _ _ _ h1' h2' hne hrw1
    · intro r1 row1 h1 hw hg
      rcases get r1 row1 h1 with ⟨rfl, rfl⟩ | ⟨_, h1'⟩
      · rw [hrw] at hw; cases hw
      · exact hr.glob _ _ h1' hw hg
  · refine ⟨hos, ht, hout, by omega, by rw [hs]; exact Evo.refl _ _, fun _ _ _ => .inl rfl, ?_, ?_⟩
    · intro r' s hr' hs'
      rw [hs, shp_get, List.getElem?_eq_none (by omega)] at hs'
      simp at hs'
    · intro b hb' hno
      exact hoth b (fun k => hno r row.sh hn (shp_some e) hrw k.symm)

/-- Store of cells. -/
theorem run_store_row {P : Program} {h : Heap} {β w r row o} {n : Nat} (hr : Rel h β w) (e : h[r]? = some row) (hrw : row.rw = true) (hn : n ≤ r) (xs : List S) (us : List Value) (hlen : us.length = xs.length)
    (ho : o + xs.length ≤ row.cells.length) (hxs : CR (shp h) β xs us.toArray 0) :
    ∃ w', (storeCells ⟨(β r).blk, (β r).base + o, none⟩ us).run P w = .ok () w' ∧ Rel (setCells h r row (splice row.cells o xs)) β w' ∧ Step n h β w (setCells h r row (splice row.cells o xs)) β w' := by
  obtain ⟨cs, el, fz, hb, hsz, hle, hc, hf⟩ := hr.row r row e
  have hone : ∀ v ∈ us, v.oneCell' = true := by
    intro v hv
    obtain ⟨j, hj, rfl⟩ := List.mem_iff_getElem.1 hv
    obtain ⟨u, hu, hs⟩ := hxs j xs[j] (by simp [List.getElem?_eq_getElem (show j < xs.length by omega)])
    simp at hu
    obtain ⟨hj', hu⟩ := List.getElem?_eq_some_iff.1 hu
    rw [hu]; exact hs.oneCell
  obtain ⟨w', hrun, h2, h3, h4, h5, h6, cur', h7, h8, h9, h10⟩ := run_storeCells_fz (P := P) (β r).blk ((β r).base + o) el fz us 0 cs w hb (by omega) hone (fun j hj hj' => hf hrw j (by omega))
  refine ⟨w', hrun, rel_set hr e hrw hn (splice_length ho) h2 h3 h4 h5 h6 ⟨cur', el, fz, h7, by omega, ?_, fun o ho => hf hrw o (by omega)⟩⟩
  intro j x hj
  rw [splice_get ho] at hj
  by_cases h1 : j < o
  · rw [if_pos h1] at hj
    obtain ⟨u, hu, hs⟩ := hc j x hj
    exact ⟨u, by rw [h10 _ (.inl (by omega))]; exact hu, hs⟩
  · rw [if_neg h1] at hj
    by_cases h2' : j < o + xs.length
    · rw [if_pos h2'] at hj
      obtain ⟨u, hu, hs⟩ := hxs _ x hj
      simp at hu
      have := h9 (j - o) u (by simpa using hu)
      rw [show (β r).base + o + 0 + (j - o) = (β r).base + j by omega] at this
      exact ⟨u, this, hs⟩
    · rw [if_neg h2'] at hj
      obtain ⟨u, hu, hs⟩ := hc j x hj
      exact ⟨u, by rw [h10 _ (.inr (by omega))]; exact hu, hs⟩

/-! ### a new block -/
def upd (β : Beta) (r : Nat) (p : Place) : Beta := fun q => if q = r then p else β q

theorem shp_append (h g : Heap) : shp (h ++ g) = shp h ++ shp g := by simp [shp]

theorem evo_append {sh β sh' β'} (g : List Sh) (he : ∀ r, r < sh.length → β' r = β r) (e : sh' = sh ++ g) : Evo sh β sh' β' := by
  intro r s hs
  have hlt := (List.getElem?_eq_some_iff.1 hs).1
  exact ⟨s, by rw [e, List.getElem?_append_left hlt]; exact hs, Nat.le_refl _, rfl, fun _ => ⟨rfl, he r hlt⟩⟩

/-- One more row over a fresh block. -/
theorem rel_new {h : Heap} {β w} {n : Nat} (hr : Rel h β w) (row : Row) (w' : World) (cs : Array Value) (el : TypeId) (p : Place) (fz : Nat × Nat) (hfz : ∀ o, o < cs.size → (decide (fz.1 ≤ o) && decide (o < fz.2)) = false)
    (hos : w'.os = w.os) (ht : w'.tape = w.tape) (hout : w'.output = w.output) (hsz : w.heap.size ≤ w'.heap.size) (hoth : ∀ b, b < w.heap.size → w'.heap[b]? = w.heap[b]?)
    (hp : w.heap.size ≤ p.blk) (hpz : p.size = cs.size) (hb : w'.heap[p.blk]? = some (.cells cs el fz))
    (hle : p.base + row.cells.length ≤ cs.size) (hcr : CR (shp h) β row.cells cs p.base) (hnew : row.rw = true := by rfl) :
    Rel (h ++ [row]) (upd β h.length p) w' ∧ Step n h β w (h ++ [row]) (upd β h.length p) w' := by
  have hev : Evo (shp h) β (shp (h ++ [row])) (upd β h.length p) := evo_append [row.sh] (fun r hr' => by rw [shp_length] at hr'; simp [upd]; omega) (by rw [shp_append]; rfl)
  have old : ∀ r, r ≠ h.length → upd β h.length p r = β r := fun r hr' => by simp [upd, hr']
  have get : ∀ (r' : Nat) (row' : Row), (h ++ [row])[r']? = some row' → (r' = h.length ∧ row' = row) ∨ (r' < h.length ∧ h[r']? = some row') := by
    intro r' row' hg
    by_cases hlt : r' < h.length
    · rw [List.getElem?_append_left hlt] at hg; exact .inr ⟨hlt, hg⟩
    · rw [List.getElem?_append_right (by omega)] at hg
      have h0 : r' - h.length = 0 := by
        by_cases h0 : r' - h.length = 0
        · exact h0
        · rw [List.getElem?_eq_none (by simp; omega)] at hg; cases hg
      rw [h0] at hg; simp at hg
      exact .inl ⟨by omega, hg.symm⟩
  have blk : ∀ r row', h[r]? = some row' → (β r).blk < w.heap.size := by
    intro r row' e
    obtain ⟨cs1, el1, fz1, k1, _⟩ := hr.row r row' e
    exact (Array.getElem?_eq_some_iff.1 k1).1
  constructor
  · constructor
    · intro r' row' hg
      rcases get r' row' hg with ⟨rfl, rfl⟩ | ⟨hlt, hg'⟩
      · refine ⟨cs, el, fz, ?_, ?_, ?_, ?_, ?_⟩ <;> try simp only [upd, if_true]
        · exact hb
        · exact hpz.symm
        · exact hle
        · exact hcr.evo hev
        · exact fun _ => hfz
      · unfold RowR
        rw [old r' (by omega)]
        obtain ⟨cs1, el1, fz1, k1, k2, k3, k4, k5⟩ := hr.row r' row' hg'
        exact ⟨cs1, el1, fz1, by rw [hoth _ (blk _ _ hg')]; exact k1, k2, k3, k4.evo hev, k5⟩
    · intro r1 r2 row1 row2 h1 h2 hne hrw
      rcases get r1 row1 h1 with ⟨rfl, rfl⟩ | ⟨hl1, h1'⟩ <;> rcases get r2 row2 h2 with ⟨rfl, rfl⟩ | ⟨hl2, h2'⟩
      · exact absurd rfl hne
      · rw [old r2 (by omega)]; simp only [upd, if_true]; have := blk _ _ h2'; omega
      · rw [old r1 (by omega)]; simp only [upd, if_true]; have := blk _ _ h1'; omega
      · rw [old r1 (by omega), old r2 (by omega)]; exact hr.sep _ _ _ _ h1' h2' hne hrw
    · intro r1 row1 h1 hw hg
      rcases get r1 row1 h1 with ⟨rfl, rfl⟩ | ⟨hl1, h1'⟩
      · rw [hnew] at hw; cases hw
      · rw [old r1 (by omega)]; exact hr.glob _ _ h1' hw hg
  · refine ⟨hos, ht, hout, hsz, hev, ?_, ?_, fun b hb' _ => hoth b hb'⟩
    · intro r s hs
      have := (List.getElem?_eq_some_iff.1 hs).1
      rw [shp_length] at this
      rw [old r (by omega)]; exact .inl rfl
    · intro r s hr' hs
      have := (List.getElem?_eq_some_iff.1 hs).1
      rw [shp_length] at this
      simp at this
      obtain rfl : r = h.length := by omega
      simp [upd, hp]

end Go.Px
