/- Own work over the kit: abstract memory, its rules, and the walk. -/
import Derived.Test.YtmkaaplbidlmcaaDoorPxA
import Derived.SliceStrings
import Derived.Deep.Slices
set_option linter.all false
set_option linter.unusedVariables false
set_option linter.unusedSimpArgs false
namespace Go.Px

/-! One more row of memory that the callee may read and not write. -/
theorem upd_same {β : Beta} {r : Nat} {p : Place} : upd β r p r = p := by simp [upd]
theorem upd_lt {β : Beta} {r i : Nat} {p : Place} (h : i < r) : upd β r p i = β i := by unfold upd; rw [if_neg (by omega)]

theorem lt_of_row {h : Heap} {r : Nat} {row : Row} (e : h[r]? = some row) : r < h.length := (List.getElem?_eq_some_iff.1 e).1

theorem evo_app {h : Heap} {β : Beta} {row : Row} {p : Place} : Evo (shp h) β (shp (h ++ [row])) (upd β h.length p) := by
  intro r s hs
  have hlt : r < h.length := by
    rw [shp_get] at hs
    rcases Nat.lt_or_ge r h.length with k | k
    · exact k
    · rw [List.getElem?_eq_none k] at hs; cases hs
  exact ⟨s, by rw [shp_get, List.getElem?_append_left hlt, ← shp_get]; exact hs, Nat.le_refl _, rfl, fun _ => ⟨rfl, upd_lt hlt⟩⟩

theorem Rel.addRo {h : Heap} {β : Beta} {w : World} {row : Row} {p : Place} (hr : Rel h β w) (hro : ∀ (r : Nat) (row' : Row), h[r]? = some row' → row'.rw = false) (hrw : row.rw = false) (hg : row.gen = 0)
    (hrow : ∃ cs el fz, w.heap[p.blk]? = some (.cells cs el fz) ∧ cs.size = p.size ∧ p.base + row.cells.length ≤ cs.size ∧ CR (shp (h ++ [row])) (upd β h.length p) row.cells cs p.base) :
    Rel (h ++ [row]) (upd β h.length p) w := by
  have get : ∀ r row', (h ++ [row])[r]? = some row' → (r < h.length ∧ h[r]? = some row') ∨ (r = h.length ∧ row' = row) := by
    intro r row' e
    rcases Nat.lt_or_ge r h.length with k | k
    · rw [List.getElem?_append_left k] at e; exact .inl ⟨k, e⟩
    · rw [List.getElem?_append_right k] at e
      obtain ⟨hlt, e'⟩ := List.getElem?_eq_some_iff.1 e
      simp at hlt
      have : r = h.length := by omega
      subst this
      simp at e'
      exact .inr ⟨rfl, e'.symm⟩
  have ro : ∀ (r : Nat) (row' : Row), (h ++ [row])[r]? = some row' → row'.rw = false := by
    intro r row' e
    rcases get r row' e with ⟨_, e⟩ | ⟨_, rfl⟩
    · exact hro r row' e
    · exact hrw
  refine ⟨?_, ?_, ?_⟩
  · intro r row' e
    rcases get r row' e with ⟨k, e⟩ | ⟨rfl, rfl⟩
    · obtain ⟨cs, el, fz, h1, h2, h3, h4, h5⟩ := hr.row r row' e
      unfold RowR
      rw [upd_lt k]
      exact ⟨cs, el, fz, h1, h2, h3, h4.evo evo_app, h5⟩
    · obtain ⟨cs, el, fz, h1, h2, h3, h4⟩ := hrow
      unfold RowR
      rw [upd_same]
      exact ⟨cs, el, fz, h1, h2, h3, h4, fun k => by rw [hrw] at k; cases k⟩
  · intro r r' row1 row2 e1 _ _ k
    rw [ro r row1 e1] at k; cases k
  · intro r row' e k1 k2
    rcases get r row' e with ⟨k, e⟩ | ⟨rfl, rfl⟩
    · rw [upd_lt k]; exact hr.glob r row' e k1 k2
    · omega

/-- A slice that nobody looks into. -/
theorem stale {sh : List Sh} {β : Beta} {s : Sh} {a : Addr} {len cap sz : Nat} (hs : sh[0]? = some s) (hg : 0 < s.gen) (hl : len ≤ cap) (hm : cap ≤ maxLen) : SR sh β (.sl 0 0 0 sz len cap false) (.slice (some a) len cap) :=
  ⟨s, a, cap, hs, Nat.zero_le _, rfl, hl, Nat.le_refl _, hm, (fun h => by cases h), (fun h => by omega)⟩

/-- The spot of an address that a cell is read at. -/
theorem cell_block {w : World} {a : Addr} {v : Value} (h : w.cell? a = some v) : a = ⟨a.block, a.off, none⟩ ∧ ∃ cs el fz, w.heap[a.block]? = some (.cells cs el fz) ∧ cs[a.off]? = some v := by
  obtain ⟨b, o, sp⟩ := a
  unfold World.cell? at h
  split at h
  · rename_i cs el fz e
    split at h
    · cases h
    · rename_i hn
      cases sp with
      | none => exact ⟨rfl, cs, el, fz, e, h⟩
      | some x => simp at hn
  · cases h

/-- The cells of a slice that is read whole lie in one block. -/
theorem cells_block {w : World} {a : Addr} {n : Nat} {f : Nat → Value} (hn : 0 < n) (h : ∀ i, i < n → w.cell? (a.add i) = some (f i)) :
    a = ⟨a.block, a.off, none⟩ ∧ ∃ cs el fz, w.heap[a.block]? = some (.cells cs el fz) ∧ a.off + n ≤ cs.size ∧ ∀ i, i < n → cs[a.off + i]? = some (f i) := by
  have h0 := h 0 hn
  rw [show a.add 0 = a from rfl] at h0
  obtain ⟨ha, cs, el, fz, e, h1⟩ := cell_block h0
  have all : ∀ i, i < n → cs[a.off + i]? = some (f i) := by
    intro i hi
    have := h i hi
    rw [ha, add_none] at this
    simpa [World.cell?, e] using this
  refine ⟨ha, cs, el, fz, e, ?_, all⟩
  have := all (n - 1) (by omega)
  have := (Array.getElem?_eq_some_iff.1 this).1
  omega

def strB (s : ByteArray) : List Nat := s.data.toList.map UInt8.toNat
theorem sr_str {sh : List Sh} {β : Beta} (s : ByteArray) : SR sh β (.s (strB s)) (.string s) := ⟨s, rfl, rfl⟩

/-- A []string handed in: its strings lie in a row of their own. -/
theorem open_strs {H : Type} {enc : TypeId × Value → H} {P : Program} {w : World} {base : Nat} {held : Bool} {t e : TypeId} {fuel : Nat} {v : Value} {x : DataW H × List MemPlace}
    {h : Heap} {β : Beta} {r0 : Row} (hr : Rel h β w) (h0 : h[0]? = some r0) (hro : ∀ (r : Nat) (row' : Row), h[r]? = some row' → row'.rw = false)
    (ht : P.underlying t = some (.slice e)) (he : P.underlying e = some .string) (hc : P.cellsOf e = 1) (hd : DataW.trod enc P w base (fun _ => true) held fuel t [v] = some x) :
    ∃ (y : S) (ss : List (List Nat)) (g : Heap) (β' : Beta), Rel (h ++ g) β' w ∧ Evo (shp h) β (shp (h ++ g)) β' ∧ SR (shp (h ++ g)) β' y v ∧ Vw (h ++ g) 1 encS y ss ∧
      (x.1 = .nil ∧ ss = [] ∨ ∃ elems spare, x.1 = .slice elems spare ∧ elems.length = ss.length) := by
  rcases ChangeShapes.open_strings ht he hc hd with ⟨hv, rfl⟩ | ⟨a, len, cap, ss, hv, hb, hl, hm, hlen, rfl, hcell, hsz⟩
  · simp at hv; subst hv
    exact ⟨.nsl, [], [], β, by simpa using hr, by simpa using Evo.refl _ _, rfl, Vw.nil, .inl ⟨rfl, rfl⟩⟩
  · simp at hv; subst hv
    simp at hlen
    have rl : ((ss.take len).map fun s => S.s (strB s)).length = len := by simp; omega
    have e1 : ((ss.take len).map strB).length = len := by simp; omega
    generalize hrow : (⟨(ss.take len).map fun s => S.s (strB s), false, 0⟩ : Row) = row
    have rc : row.cells = (ss.take len).map fun s => S.s (strB s) := by rw [← hrow]
    have rrw : row.rw = false := by rw [← hrow]
    have rg : row.gen = 0 := by rw [← hrow]
    have sh1 : (shp (h ++ [row]))[h.length]? = some row.sh := shp_some (by simp)
    have shl : row.sh.len = len := by show row.cells.length = len; rw [rc, rl]
    have vw : Vw (h ++ [row]) 1 encS (.sl h.length 0 0 1 len len false) ((ss.take len).map strB) := by
      have := Vw.of_row (enc := encS) (sz := 1) (xs := (ss.take len).map strB) (h := h ++ [row]) (r := h.length) (g := 0) (o := 0) (row := row) (e := false) (c := len) (by simp [Px.rowAt, rg]) (fun x _ => rfl)
        (by rw [rc, e1, List.drop_zero, Nat.mul_one, List.take_of_length_le (by rw [rl]; exact Nat.le_refl _), List.flatMap_map]; exact List.map_eq_flatMap)
      rw [e1] at this
      exact this
    have last : (DataW.slice (ChangeShapes.strs (ss.take len)) (ChangeShapes.strs (ss.drop len)) : DataW H) = .nil ∧ (ss.take len).map strB = [] ∨ ∃ elems spare, (DataW.slice (ChangeShapes.strs (ss.take len)) (ChangeShapes.strs (ss.drop len)) : DataW H) = .slice elems spare ∧ elems.length = ((ss.take len).map strB).length :=
      .inr ⟨_, _, rfl, by simp [ChangeShapes.strs]⟩
    rcases Nat.eq_zero_or_pos cap with hz | hpos
    · have hl0 : len = 0 := by omega
      obtain ⟨cs, el, fz, k1, k2, k3, _, _⟩ := hr.row 0 r0 h0
      have hR := hr.addRo (row := row) (p := β 0) hro rrw rg ⟨cs, el, fz, k1, k2, by rw [rc, rl, hl0]; omega, fun j x hj => by
        have := (List.getElem?_eq_some_iff.1 hj).1
        rw [rc, rl] at this; omega⟩
      refine ⟨_, _, [row], _, hR, evo_app, ?_, vw, last⟩
      exact ⟨row.sh, a, cap, sh1, Nat.zero_le _, rfl, Nat.le_refl _, hl, hm, (fun k => by cases k), fun _ => ⟨fun k => by omega, by rw [shl]; omega, fun k => by rw [show row.sh.rw = row.rw from rfl, rrw] at k; cases k⟩⟩
    · obtain ⟨ha, cs, el, fz, k1, k2, k3⟩ := cells_block (w := w) (a := a) (n := cap) (f := fun i => Value.string (ss.getD i ByteArray.empty)) hpos (fun i hi => hcell i (by omega))
      have hR := hr.addRo (row := row) (p := ⟨a.block, a.off, cs.size⟩) hro rrw rg ⟨cs, el, fz, k1, rfl, by rw [rc, rl]; show a.off + len ≤ _; omega, fun j x hj => by
        rw [rc] at hj
        simp only [List.getElem?_map, Option.map_eq_some_iff] at hj
        obtain ⟨s, hs, rfl⟩ := hj
        have hj' : j < len := by
          have := (List.getElem?_eq_some_iff.1 hs).1
          simp at this; omega
        rw [List.getElem?_take, if_pos hj'] at hs
        refine ⟨_, k3 j (by omega), ?_⟩
        rw [List.getD_eq_getElem?_getD, hs]
        exact sr_str s⟩
      refine ⟨_, _, [row], _, hR, evo_app, ?_, vw, last⟩
      exact ⟨row.sh, a, cap, sh1, Nat.zero_le _, rfl, Nat.le_refl _, hl, hm, (fun k => by cases k), fun _ => ⟨fun _ => by rw [upd_same]; simpa using ha, by rw [shl]; omega, fun k => by rw [show row.sh.rw = row.rw from rfl, rrw] at k; cases k⟩⟩
end Go.Px
