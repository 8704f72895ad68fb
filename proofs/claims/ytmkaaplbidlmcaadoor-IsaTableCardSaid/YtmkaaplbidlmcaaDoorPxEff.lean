/- Own work over the kit: abstract memory, its rules, and the walk. -/
import Derived.Test.YtmkaaplbidlmcaaDoorPxEq
set_option linter.unusedVariables false
set_option linter.unusedSimpArgs false
namespace Go.Px

section
variable {P : Program} {h : Heap} {β : Beta} {w : World} {E : Env} {fr : List V} {loc : Loc} {a : Act} {n : Nat}

/-- What an operation that writes comes to. -/
def EffOk (P : Program) (n : Nat) (h : Heap) (β : Beta) (w : World) (s : Sem Next) (v : V) (h' : Heap) : Prop :=
  ∃ nx u w' β', s.run P w = .ok nx w' ∧ (nx = .value u ∨ (nx = .skip ∧ u = undef)) ∧ VR (shp h') β' v u ∧ Rel h' β' w' ∧ Step n h β w h' β' w'

theorem new_value {h : Heap} {β : Beta} {row : Row} (p : Place) : PR (shp (h ++ [row])) (upd β h.length p) h.length row.gen 0 (.pointer (some ⟨p.blk, p.base, none⟩)) := by
  refine ⟨row.sh, _, by rw [shp_append, List.getElem?_append_right (by simp [shp_length]), shp_length]; simp [shp], Nat.le_refl _, rfl, fun _ => by simp [upd]⟩

/-- A new row over a fresh block of just its cells. -/
theorem alloc_ok (hr : Rel h β w) (l : List S) (cs : Array Value) (el : TypeId) (hs : cs.size = l.length) (hc : CR (shp h) β l cs 0) :
    Rel (h ++ [⟨l, true, 0⟩]) (upd β h.length ⟨w.heap.size, 0, cs.size⟩) (w.alloc (.cells cs el)) ∧ Step n h β w (h ++ [⟨l, true, 0⟩]) (upd β h.length ⟨w.heap.size, 0, cs.size⟩) (w.alloc (.cells cs el)) := by
  refine rel_new hr ⟨l, true, 0⟩ _ cs el _ (0, 0) (by intro o _; simp) rfl rfl rfl (by simp) ?_ (Nat.le_refl _) rfl ?_ (by simp [hs]) hc
  · intro b hb; exact RowKit.Below.heap_alloc w _ b hb
  · exact heap_alloc_new w _

theorem newv_ok (hr : Rel h β w) {x : V} {v : Value} (hx : VR (shp h) β x v) {l : List S} (hl : x.cells = some l) (el : TypeId) :
    EffOk P n h β w (do pure (.value (← (do pure (.pointer (some (← newVar el v))) : Sem Value)))) (.s (.p h.length 0 0)) (h ++ [⟨l, true, 0⟩]) := by
  obtain ⟨h1, h2, h3⟩ := hx.vcells hl
  obtain ⟨r1, r2⟩ := alloc_ok (n := n) hr l v.cells el h1 h2
  exact ⟨_, .pointer (some ⟨w.heap.size, 0, none⟩), w.alloc (.cells v.cells el), upd β h.length ⟨w.heap.size, 0, v.cells.size⟩, by simp [newVar, newRow], .inl rfl, new_value (row := ⟨l, true, 0⟩) ⟨w.heap.size, 0, v.cells.size⟩, r1, r2⟩

theorem slice_value {h : Heap} {β : Beta} {l : List S} (p : Place) (sz n c cap : Nat) (e : Bool) (h1 : n ≤ c) (h2 : c ≤ cap) (h3 : cap ≤ maxLen) (h4 : e = true → cap = c) (h5 : c * sz ≤ l.length) (h6 : p.base + cap * sz ≤ p.size) :
    SR (shp (h ++ [⟨l, true, 0⟩])) (upd β h.length p) (.sl h.length 0 0 sz n c e) (.slice (some ⟨p.blk, p.base, none⟩) n cap) := by
  refine ⟨⟨0, true, l.length⟩, _, cap, by rw [shp_append, List.getElem?_append_right (by simp [shp_length]), shp_length]; simp [shp, Row.sh], Nat.le_refl _, rfl, h1, h2, h3, h4, fun _ => ⟨fun _ => by simp [upd], by simpa using h5, fun _ => by simp [upd]; omega⟩⟩

/-- What an append's or a copy's second operand bears. -/
theorem src_ok (hr : Rel h β w) {y : S} {b : Value} (hy : SR (shp h) β y b) {sz m : Nat} {new : List S} (hs : srcCells h sz y = some (m, new)) :
    new.length = m * sz ∧ (Builtin.lenOf b).run P w = .ok m w ∧ ∀ k, k ≤ m → ∀ w', (∀ a : Addr, w'.cell? a = w.cell? a) → ∃ arr : Array Value, (Builtin.firstCells sz k b).run P w' = .ok arr w' ∧ arr.size = k * sz ∧ CR (shp h) β (new.take (k * sz)) arr 0 := by
  unfold srcCells at hs
  split at hs
  · rename_i l
    split at hs
    case isFalse => cases hs
    rename_i hz; subst hz
    injection hs with hs; injection hs with h1 h2; subst h1 h2
    obtain ⟨t, rfl, ht⟩ := hy
    change nats t = l at ht
    have hlen : l.length = t.size := by rw [← ht, nats_length]
    refine ⟨by simp [byteS], by simp [Builtin.lenOf, hlen], fun k hk w' _ => ?_⟩
    refine ⟨((t.extract 0 k).data.map fun b => .int .u8 b.toNat), by simp [Builtin.firstCells], ?_, ?_⟩
    · have e1 := nats_length (t.extract 0 k)
      have e2 : (nats (t.extract 0 k)).length = min k t.size := by rw [nats_extract]; simp [nats_length]
      simp only [Array.size_map, Nat.mul_one]
      change (t.extract 0 k).size = k
      rw [← e1, e2]; omega
    · intro j x hj
      rw [Nat.mul_one, List.getElem?_take] at hj
      split at hj
      case isFalse => cases hj
      rename_i hjk
      simp only [byteS, List.getElem?_map, Option.map_eq_some_iff] at hj
      obtain ⟨c, hc, rfl⟩ := hj
      rw [← ht] at hc
      simp only [nats, List.getElem?_map, Option.map_eq_some_iff] at hc
      obtain ⟨c', hc1, hc2⟩ := hc
      refine ⟨.int .u8 c'.toNat, ?_, by rw [← hc2]; rfl⟩
      simp only [Nat.zero_add, Array.getElem?_map]
      rw [ByteArray.data_extract, Array.getElem?_extract]
      simp only [Array.getElem?_toList] at hc1
      have hjt := (Array.getElem?_eq_some_iff.1 hc1).1
      rw [if_pos (by omega), Nat.zero_add, hc1]
      rfl
  · injection hs with hs; injection hs with h1 h2; subst h1 h2
    have hb : b = .slice none 0 0 := hy
    subst hb
    refine ⟨by simp, by simp [Builtin.lenOf], fun k hk w' _ => ⟨#[], by simp [Builtin.firstCells], ?_, ?_⟩⟩
    · obtain rfl : k = 0 := by omega
      simp
    · intro j x hj; simp at hj
  · rename_i r g o sz' nn c e
    split at hs
    case isFalse => cases hs
    rename_i hz; subst hz
    simp only [slCells, Option.map_map, Option.map_eq_some_iff] at hs
    obtain ⟨row, hrow, hs⟩ := hs
    simp only [Function.comp_apply, Prod.mk.injEq] at hs
    obtain ⟨rfl, rfl⟩ := hs
    obtain ⟨e1, e2⟩ := rowAt_some hrow
    obtain ⟨s, ad, cap, q1, q2, rfl, q4, q5, q6, q7, q8⟩ := hy
    rw [shp_some e1] at q1
    injection q1 with q1
    obtain ⟨p1, p2, p3⟩ := q8 (by rw [← q1]; exact e2.symm)
    have hle : o + nn * sz' ≤ row.cells.length := by
      rw [← q1] at p2
      simp only [Row.sh] at p2
      have : nn * sz' ≤ c * sz' := Nat.mul_le_mul_right _ q4
      omega
    refine ⟨by simp; omega, by simp [Builtin.lenOf], fun k hk w' hw' => ?_⟩
    have hk2 : k * sz' ≤ nn * sz' := Nat.mul_le_mul_right _ hk
    by_cases hcap : 0 < cap
    · obtain ⟨us, u1, u2, u3⟩ := hr.cells e1 (((row.cells.drop o).take (nn * sz')).take (k * sz')) o (fun j x hj => by
        rw [List.getElem?_take] at hj
        split at hj
        case isFalse => cases hj
        rw [List.getElem?_take] at hj
        split at hj
        case isFalse => cases hj
        rwa [List.getElem?_drop] at hj)
      have hlen : (((row.cells.drop o).take (nn * sz')).take (k * sz')).length = k * sz' := by simp; omega
      have hl := run_loadCells_at (P := P) (w := w') us (fun j u hj => by rw [hw']; exact u2 j u hj)
      rw [u1, hlen] at hl
      refine ⟨us.toArray, ?_, by simp [u1, hlen], u3⟩
      rw [p1 hcap]
      exact hl
    · have hk0 : k * sz' = 0 := by
        have : nn = 0 := by omega
        subst this
        omega
      refine ⟨#[], by simp [Builtin.firstCells, hk0, loadCells, loadCellsFrom], by simp [hk0], ?_⟩
      intro j x hj; rw [hk0] at hj; simp at hj
  · cases hs

/-- Store. -/
theorem st_ok (hr : Rel h β w) {x v : V} {ua uv : Value} (hx : VR (shp h) β x ua) (hv : VR (shp h) β v uv) {r g o sz : Nat} (ex : x = .s (.p r g o)) {l : List S} (hl : v.cells = some l) {row : Row} (hrow : rowAt h r g = some row)
    (hrw : row.rw = true) (hlz : l.length = sz) (ho : o + sz ≤ row.cells.length) (hn : n ≤ r) {t : TypeId} (ht : sizeOf' P t = some sz) :
    EffOk P n h β w (do Instr.storeAt t ua uv; pure .skip) .u (setCells h r row (splice row.cells o l)) := by
  subst ex
  obtain ⟨e1, e2⟩ := rowAt_some hrow
  have hcur := PR.cur hx e1 e2
  obtain ⟨v1, v2, v3⟩ := hv.vcells hl
  obtain ⟨w', r1, r2, r3⟩ := run_store_row (P := P) (n := n) hr e1 hrw hn l uv.cells.toList (by simp [v1]) (by omega) (o := o) (by simpa using v2)
  refine ⟨.skip, undef, w', β, ?_, .inr ⟨rfl, rfl⟩, rfl, r2, r3⟩
  subst hcur
  simp only [Instr.storeAt, Instr.sureAddr, storeVar, Sem.run_bind, Sem.run_pure, Result.andThen_ok, sizeOf_ok ht, v1, hlz, ne_eq, not_true, if_false, r1, pure_bind]

end
end Go.Px
