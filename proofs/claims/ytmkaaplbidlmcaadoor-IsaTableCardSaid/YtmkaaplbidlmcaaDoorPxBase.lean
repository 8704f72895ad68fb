/- Own work over the kit: abstract memory, its rules, and the walk. -/
import Derived.WalkKit
import Derived.Deep.Quiet
set_option linter.unusedVariables false
set_option linter.unusedSimpArgs false
namespace Go.Px

/-- One cell of abstract memory. -/
inductive S where
  | b (x : Bool)
  | i (k : IntKind) (n : Int)
  | s (l : List Nat)
  | p (r g o : Nat)
  | np
  | sl (r g o sz n c : Nat) (e : Bool)
  | nsl
  | f (fn : Nat) (caps : List (Nat × Nat × Nat))
  | nf
  deriving DecidableEq

/-- A value: one cell, or several. -/
inductive V where
  | s (x : S)
  | a (l : List S)
  | u
  | any
  deriving DecidableEq

structure Row where
  cells : List S
  rw : Bool
  gen : Nat
  deriving DecidableEq

abbrev Heap := List Row

structure Sh where
  gen : Nat
  rw : Bool
  len : Nat

def Row.sh (r : Row) : Sh := ⟨r.gen, r.rw, r.cells.length⟩
def shp (h : Heap) : List Sh := h.map Row.sh

structure Place where
  blk : Nat
  base : Nat
  size : Nat

abbrev Beta := Nat → Place

def PR (sh : List Sh) (β : Beta) (r g o : Nat) (v : Value) : Prop :=
  ∃ s a, sh[r]? = some s ∧ g ≤ s.gen ∧ v = .pointer (some a) ∧ (g = s.gen → a = ⟨(β r).blk, (β r).base + o, none⟩)

/-- What a concrete value a cell stands for. -/
def SR (sh : List Sh) (β : Beta) : S → Value → Prop
  | .b x, v => v = .bool x
  | .i k n, v => v = .int k n
  | .s l, v => ∃ t : ByteArray, v = .string t ∧ t.data.toList.map UInt8.toNat = l
  | .p r g o, v => PR sh β r g o v
  | .np, v => v = .pointer none
  | .sl r g o sz n c e, v => ∃ s a cap, sh[r]? = some s ∧ g ≤ s.gen ∧ v = .slice (some a) n cap ∧ n ≤ c ∧ c ≤ cap ∧ cap ≤ maxLen ∧ (e = true → cap = c) ∧
      (g = s.gen → (0 < cap → a = ⟨(β r).blk, (β r).base + o, none⟩) ∧ o + c * sz ≤ s.len ∧ (s.rw = true → (β r).base + o + cap * sz ≤ (β r).size))
  | .nsl, v => v = .slice none 0 0
  | .f fn caps, v => ∃ vs : Array Value, v = .func (.func fn) #[] vs ∧ vs.size = caps.length ∧ ∀ (j : Nat) (c : Nat × Nat × Nat), caps[j]? = some c → ∃ u, vs[j]? = some u ∧ PR sh β c.1 c.2.1 c.2.2 u
  | .nf, v => v = .nilFunc

/-- Cells from an offset on. -/
def CR (sh : List Sh) (β : Beta) (l : List S) (cs : Array Value) (off : Nat) : Prop :=
  ∀ j x, l[j]? = some x → ∃ u, cs[off + j]? = some u ∧ SR sh β x u

def VR (sh : List Sh) (β : Beta) : V → Value → Prop
  | .s x, v => SR sh β x v
  | .a l, v => ∃ cs : Array Value, v = .agg cs ∧ cs.size = l.length ∧ CR sh β l cs 0
  | .u, v => v = undef
  | .any, _ => True

def RowR (sh : List Sh) (β : Beta) (w : World) (r : Nat) (row : Row) : Prop :=
  ∃ cs el fz, w.heap[(β r).blk]? = some (.cells cs el fz) ∧ cs.size = (β r).size ∧ (β r).base + row.cells.length ≤ cs.size ∧
    CR sh β row.cells cs (β r).base ∧ (row.rw = true → ∀ o, o < cs.size → (decide (fz.1 ≤ o) && decide (o < fz.2)) = false)

structure Rel (h : Heap) (β : Beta) (w : World) : Prop where
  row : ∀ r row, h[r]? = some row → RowR (shp h) β w r row
  sep : ∀ r r' row row', h[r]? = some row → h[r']? = some row' → r ≠ r' → row.rw = true → (β r).blk ≠ (β r').blk
  glob : ∀ r row, h[r]? = some row → row.rw = false → 0 < row.gen → (β r).blk + 1 = row.gen ∧ (β r).base = 0 ∧ (β r).size = row.cells.length

def Evo (sh : List Sh) (β : Beta) (sh' : List Sh) (β' : Beta) : Prop :=
  ∀ r s, sh[r]? = some s → ∃ s', sh'[r]? = some s' ∧ s.gen ≤ s'.gen ∧ s'.rw = s.rw ∧ (s'.gen = s.gen → s' = s ∧ β' r = β r)

structure Step (n : Nat) (h : Heap) (β : Beta) (w : World) (h' : Heap) (β' : Beta) (w' : World) : Prop where
  os : w'.os = w.os
  tape : w'.tape = w.tape
  output : w'.output = w.output
  size : w.heap.size ≤ w'.heap.size
  evo : Evo (shp h) β (shp h') β'
  old : ∀ r s, (shp h)[r]? = some s → (β' r).blk = (β r).blk ∨ w.heap.size ≤ (β' r).blk
  new : ∀ r s, h.length ≤ r → (shp h')[r]? = some s → w.heap.size ≤ (β' r).blk
  frame : ∀ b, b < w.heap.size → (∀ r s, n ≤ r → (shp h)[r]? = some s → s.rw = true → (β r).blk ≠ b) → w'.heap[b]? = w.heap[b]?

/-! ### small facts -/
theorem SR.oneCell {sh β x v} (h : SR sh β x v) : v.oneCell' = true := by
  cases x <;> simp only [SR, PR] at h
  case b => subst h; rfl
  case i => subst h; rfl
  case s => obtain ⟨t, rfl, _⟩ := h; rfl
  case p => obtain ⟨s, a, _, _, rfl, _⟩ := h; rfl
  case np => subst h; rfl
  case sl => obtain ⟨s, a, cap, _, _, rfl, _⟩ := h; rfl
  case nsl => subst h; rfl
  case f => obtain ⟨vs, rfl, _⟩ := h; rfl
  case nf => subst h; rfl

theorem SR.cells_one {sh β x v} (h : SR sh β x v) : v.cells = #[v] := by
  have := h.oneCell
  cases v <;> first | rfl | simp [Value.oneCell'] at this

theorem Evo.refl (sh β) : Evo sh β sh β := fun r s h => ⟨s, h, Nat.le_refl _, rfl, fun _ => ⟨rfl, rfl⟩⟩

theorem Evo.trans {sh β sh1 β1 sh2 β2} (h : Evo sh β sh1 β1) (k : Evo sh1 β1 sh2 β2) : Evo sh β sh2 β2 := by
  intro r s hs
  obtain ⟨s1, e1, g1, rw1, q1⟩ := h r s hs
  obtain ⟨s2, e2, g2, rw2, q2⟩ := k r s1 e1
  refine ⟨s2, e2, by omega, rw2.trans rw1, fun hg => ?_⟩
  have hg1 : s1.gen = s.gen := by omega
  have hg2 : s2.gen = s1.gen := by omega
  obtain ⟨rfl, b1⟩ := q1 hg1
  obtain ⟨rfl, b2⟩ := q2 hg2
  exact ⟨rfl, b2.trans b1⟩

theorem PR.evo {sh β sh' β' r g o v} (he : Evo sh β sh' β') (h : PR sh β r g o v) : PR sh' β' r g o v := by
  obtain ⟨s, a, hs, hg, rfl, hc⟩ := h
  obtain ⟨s', hs', hg', _, q⟩ := he r s hs
  refine ⟨s', a, hs', by omega, rfl, fun e => ?_⟩
  have : s'.gen = s.gen := by omega
  obtain ⟨rfl, hb⟩ := q this
  rw [hb]; exact hc e

theorem SR.evo {sh β sh' β' x v} (he : Evo sh β sh' β') (h : SR sh β x v) : SR sh' β' x v := by
  cases x <;> simp only [SR] at h ⊢ <;> try exact h
  case p => exact PR.evo he h
  case sl r g o sz n c e =>
    obtain ⟨s, a, cap, hs, hg, rfl, h1, h2, h3, h4, h5⟩ := h
    obtain ⟨s', hs', hg', _, q⟩ := he r s hs
    refine ⟨s', a, cap, hs', by omega, rfl, h1, h2, h3, h4, fun e => ?_⟩
    have : s'.gen = s.gen := by omega
    obtain ⟨rfl, hb⟩ := q this
    rw [hb]; exact h5 e
  case f fn caps =>
    obtain ⟨vs, rfl, hl, hc⟩ := h
    refine ⟨vs, rfl, hl, fun j c hj => ?_⟩
    obtain ⟨u, hu, hp⟩ := hc j c hj
    exact ⟨u, hu, PR.evo he hp⟩

theorem CR.evo {sh β sh' β' l cs off} (he : Evo sh β sh' β') (h : CR sh β l cs off) : CR sh' β' l cs off := fun j x hj =>
  let ⟨u, hu, hs⟩ := h j x hj
  ⟨u, hu, hs.evo he⟩

theorem VR.evo {sh β sh' β' x v} (he : Evo sh β sh' β') (h : VR sh β x v) : VR sh' β' x v := by
  cases x <;> simp only [VR] at h ⊢
  case u => exact h
  case s => exact h.evo he
  case a =>
    obtain ⟨cs, rfl, hl, hc⟩ := h
    exact ⟨cs, rfl, hl, hc.evo he⟩

theorem shp_length (h : Heap) : (shp h).length = h.length := by simp [shp]
theorem shp_get (h : Heap) (r : Nat) : (shp h)[r]? = (h[r]?).map Row.sh := by simp [shp]
theorem shp_some {h : Heap} {r : Nat} {row : Row} (e : h[r]? = some row) : (shp h)[r]? = some row.sh := by simp [shp_get, e]

theorem Step.refl (n h β w) : Step n h β w h β w :=
  ⟨rfl, rfl, rfl, Nat.le_refl _, Evo.refl _ _, fun _ _ _ => .inl rfl, fun r s hr hs => by
    rw [shp_get] at hs; rw [List.getElem?_eq_none (by omega)] at hs; simp at hs, fun _ _ _ => rfl⟩

theorem Step.trans {n h β w h1 β1 w1 h2 β2 w2} (a : Step n h β w h1 β1 w1) (b : Step n h1 β1 w1 h2 β2 w2) : Step n h β w h2 β2 w2 := by
  refine ⟨b.os.trans a.os, b.tape.trans a.tape, b.output.trans a.output, Nat.le_trans a.size b.size, a.evo.trans b.evo, ?_, ?_, ?_⟩
  · intro r s hs
    obtain ⟨s1, e1, _, rw1, _⟩ := a.evo r s hs
    rcases a.old r s hs with h | h <;> rcases b.old r s1 e1 with k | k
    · exact .inl (k.trans h)
    · exact .inr (Nat.le_trans a.size k)
    · exact .inr (by omega)
    · exact .inr (Nat.le_trans a.size k)
  · intro r s hr hs
    by_cases hlt : r < h1.length
    · have hs1 : ∃ s1, (shp h1)[r]? = some s1 := ⟨_, shp_some (List.getElem?_eq_getElem hlt)⟩
      obtain ⟨s1, e1⟩ := hs1
      obtain ⟨s2, e2, _, rw2, _⟩ := b.evo r s1 e1
      rw [e2] at hs; injection hs with hs; subst hs
      have hn := a.new r s1 hr e1
      rcases b.old r s1 e1 with k | k
      · rw [k]; exact hn
      · exact Nat.le_trans a.size k
    · exact Nat.le_trans a.size (b.new r s (by omega) hs)
  · intro blk hb hno
    have h1 := a.frame blk hb hno
    have h2 := b.frame blk (Nat.lt_of_lt_of_le hb a.size) (fun r s1 hr hs1 hrw e => by
      by_cases hlt : r < h.length
      · have hs : ∃ s, (shp h)[r]? = some s := ⟨_, shp_some (List.getElem?_eq_getElem hlt)⟩
        obtain ⟨s, hs⟩ := hs
        obtain ⟨s1', e1, _, rw1, _⟩ := a.evo r s hs
        rw [e1] at hs1; injection hs1 with hs1; subst hs1
        have hrw0 : s.rw = true := by rw [← rw1]; exact hrw
        rcases a.old r s hs with k | k
        · exact hno r s hr hs hrw0 (k ▸ e)
        · omega
      · have := a.new r s1 (by omega) hs1
        omega)
    exact h2.trans h1

theorem Step.mono {n n' h β w h1 β1 w1} (a : Step n h β w h1 β1 w1) (hn : n' ≤ n) : Step n' h β w h1 β1 w1 :=
  ⟨a.os, a.tape, a.output, a.size, a.evo, a.old, a.new, fun b hb hno => a.frame b hb (fun r s hr => hno r s (by omega))⟩

theorem Step.below {n h β w h1 β1 w1} (a : Step n h β w h1 β1 w1) (hn : h.length ≤ n) : RowKit.Below w.heap.size w w1 :=
  ⟨a.os, a.tape, a.output, a.size, fun k hk => a.frame k hk (fun r s hr hs => by
    rw [shp_get, List.getElem?_eq_none (by omega)] at hs; simp at hs)⟩

end Go.Px
