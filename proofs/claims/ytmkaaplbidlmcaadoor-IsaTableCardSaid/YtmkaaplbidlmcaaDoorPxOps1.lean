/- Own work over the kit: abstract memory, its rules, and the walk. -/
import Derived.Test.YtmkaaplbidlmcaaDoorPxComp
set_option linter.unusedVariables false
set_option linter.unusedSimpArgs false
namespace Go.Px

structure EnvR (E : Env) (sh : List Sh) (β : Beta) (fr : List V) (loc : Loc) (a : Act) : Prop where
  fr_ok : ∀ (i t : Nat) (x : V), E.slots[i]? = some t → fr[i]? = some x → VR sh β x (a.tmps.getD t undef)
  len : fr.length = E.slots.length
  bound : ∀ t, t ∈ E.slots → t < a.tmps.size
  loc_ok : ∀ (t j : Nat), E.loc.lookup t = some j → ∃ vs, loc[j]? = some vs ∧ RetV sh β vs (a.tmps.getD t undef)
  defers : a.defers = []

theorem cCell_ok {v : Value} {x : S} (h : cCell v = some x) (sh β) : SR sh β x v := by
  unfold cCell at h
  split at h
  all_goals first | (injection h with h; subst h; simp only [SR]; done) | (injection h with h; subst h; exact ⟨_, rfl, rfl⟩) | cases h

theorem cCells_ok : ∀ {l : List Value} {xs : List S}, cCells l = some xs → ∀ (sh β), l.length = xs.length ∧ ∀ (j : Nat) x, xs[j]? = some x → ∃ u, l[j]? = some u ∧ SR sh β x u
  | [], xs, h, sh, β => by simp [cCells] at h; subst h; simp
  | v :: l, xs, h, sh, β => by
    simp only [cCells] at h
    split at h
    case h_2 => cases h
    rename_i x r hx hr
    injection h with h; subst h
    obtain ⟨h1, h2⟩ := cCells_ok hr sh β
    refine ⟨by simp [h1], fun j y hj => ?_⟩
    cases j with
    | zero => simp at hj; subst hj; exact ⟨v, by simp, cCell_ok hx sh β⟩
    | succ j => simp at hj; obtain ⟨u, hu, hs⟩ := h2 j y hj; exact ⟨u, by simpa using hu, hs⟩

theorem cVal_ok {v : Value} {x : V} (h : cVal v = some x) (sh β) : VR sh β x v := by
  unfold cVal at h
  split at h
  · rename_i cs
    cases hc : cCells cs.toList with
    | none => simp [hc] at h
    | some xs =>
      simp [hc] at h; subst h
      obtain ⟨h1, h2⟩ := cCells_ok hc sh β
      refine ⟨cs, rfl, by simpa using h1, fun j y hj => ?_⟩
      obtain ⟨u, hu, hs⟩ := h2 j y hj
      exact ⟨u, by simpa using hu, hs⟩
  · cases hc : cCell v with
    | none => simp [hc] at h
    | some xs => simp [hc] at h; subst h; exact cCell_ok hc sh β

theorem idxOf_get {l : List Nat} {t i : Nat} (h : l.idxOf? t = some i) : l[i]? = some t := by
  rw [List.idxOf?_eq_some_iff] at h
  obtain ⟨h1, h2, _⟩ := h
  rw [List.getElem?_eq_getElem h1]
  simpa using h2

theorem cOpd_ok {E sh β fr loc a} (hE : EnvR E sh β fr loc a) {x : Operand} {o : Opd} (h : cOpd E x = some o) : VR sh β (rho fr loc o) (a.eval x) := by
  cases x with
  | tmp t =>
    simp only [cOpd] at h
    split at h
    · rename_i i hi
      injection h with h; subst h
      have hg := idxOf_get hi
      have hlt : i < fr.length := by rw [hE.len]; exact (List.getElem?_eq_some_iff.1 hg).1
      simp only [rho, Act.eval]
      rw [List.getD_eq_getElem?_getD, List.getElem?_eq_getElem hlt]
      exact hE.fr_ok i t _ hg (List.getElem?_eq_getElem hlt)
    · cases hl : E.loc.lookup t with
      | none => simp [hl] at h
      | some j =>
        simp [hl] at h; subst h
        obtain ⟨vs, h1, h2⟩ := hE.loc_ok t j hl
        simp only [rho, Act.eval, h1]
        split
        · rename_i x hx; injection hx with hx; subst hx; exact h2
        · trivial
  | const v =>
    simp only [cOpd] at h
    cases hv : cVal v with
    | none => simp [hv] at h
    | some x => simp [hv] at h; subst h; exact cVal_ok hv sh β
  | global g => simp [cOpd] at h
  | func f => simp [cOpd] at h; subst h; exact ⟨#[], rfl, rfl, by simp⟩

theorem cOpds_ok {E sh β fr loc a} (hE : EnvR E sh β fr loc a) : ∀ {xs : List Operand} {os : List Opd}, cOpds E xs = some os → VRs sh β (os.map (rho fr loc)) (xs.map a.eval).toArray
  | [], os, h => by simp [cOpds] at h; subst h; exact ⟨rfl, by simp⟩
  | x :: xs, os, h => by
    simp only [cOpds] at h
    split at h
    case h_2 => cases h
    rename_i o r ho hr
    injection h with h; subst h
    obtain ⟨h1, h2⟩ := cOpds_ok hE hr
    refine ⟨by simp at h1 ⊢; exact h1, fun j y hj => ?_⟩
    cases j with
    | zero => simp at hj; subst hj; exact ⟨a.eval x, by simp, cOpd_ok hE ho⟩
    | succ j =>
      simp at hj
      obtain ⟨u, hu, hs⟩ := h2 j y (by simpa using hj)
      exact ⟨u, by simpa using hu, hs⟩

/-! ### types -/
theorem aggOf_some {P : Program} {t : TypeId} {n : Nat} (h : aggOf P t = some (some n)) (w : World) : (isAgg t).run P w = .ok true w ∧ (sizeOf t).run P w = .ok n w := by
  unfold aggOf at h
  split at h <;> simp at h <;> rename_i hu hi <;> simp [isAgg, run_underlying hu, sizeOf, typeInfo, hi, h]
theorem aggOf_none {P : Program} {t : TypeId} (h : aggOf P t = some none) (w : World) : (isAgg t).run P w = .ok false w := by
  unfold aggOf at h
  cases hu : P.underlying t with
  | none => simp [hu] at h
  | some d =>
    cases hi : P.info? t with
    | none => cases d <;> simp [hu, hi] at h
    | some i => cases d <;> simp [hu, hi] at h <;> simp [isAgg, run_underlying hu]
theorem sizeOf_ok {P : Program} {t : TypeId} {n : Nat} (h : sizeOf' P t = some n) (w : World) : (sizeOf t).run P w = .ok n w := by
  unfold sizeOf' at h
  cases hi : P.info? t with
  | none => simp [hi] at h
  | some i => simp [hi] at h; simp [sizeOf, typeInfo, hi, h]

theorem rowAt_some {h : Heap} {r g : Nat} {row : Row} (e : rowAt h r g = some row) : h[r]? = some row ∧ row.gen = g := by
  unfold rowAt at e
  split at e
  · rename_i row' hr
    split at e
    · rename_i hg; injection e with e; subst e; exact ⟨hr, hg⟩
    · cases e
  · cases e

theorem CR.sub {sh β} {l : List S} {cs : Array Value} {o n : Nat} (h : CR sh β l cs 0) (hn : o + n ≤ l.length) (hs : cs.size = l.length) :
    CR sh β ((l.drop o).take n) (cs.extract o (o + n)) 0 ∧ (cs.extract o (o + n)).size = ((l.drop o).take n).length := by
  refine ⟨fun j x hj => ?_, by simp; omega⟩
  rw [List.getElem?_take] at hj
  split at hj
  · rename_i hjn
    rw [List.getElem?_drop] at hj
    obtain ⟨u, hu, hx⟩ := h (o + j) x hj
    refine ⟨u, ?_, hx⟩
    simp only [Nat.zero_add] at hu ⊢
    rw [Array.getElem?_extract]
    rw [if_pos (by omega)]
    exact hu
  · cases hj

/-- 'part' of a composite value. -/
theorem part_ok {P : Program} {w : World} {sh β} {l : List S} {cs : Array Value} {t : TypeId} {g : Option Nat} {o : Nat} {v : V} (hc : CR sh β l cs 0) (hs : cs.size = l.length)
    (ht : aggOf P t = some g) (hv : getAgg g l o = some v) : ∃ u, (part t cs o).run P w = .ok u w ∧ VR sh β v u := by
  cases g with
  | none =>
    simp only [getAgg, Option.map_eq_some_iff] at hv
    obtain ⟨x, hx, rfl⟩ := hv
    obtain ⟨u, hu, hxu⟩ := hc o x hx
    simp only [Nat.zero_add] at hu
    exact ⟨u, by simp [part, aggOf_none ht, hu], hxu⟩
  | some n =>
    simp only [getAgg] at hv
    split at hv
    case isFalse => cases hv
    rename_i hn
    injection hv with hv; subst hv
    obtain ⟨h1, h2⟩ := hc.sub hn hs
    exact ⟨_, by simp [part, (aggOf_some ht w).1, (aggOf_some ht w).2], _, rfl, h2, h1⟩

theorem load_ok {P : Program} {h : Heap} {β w} (hr : Rel h β w) {r gn o : Nat} {u : Value} {row : Row} {t : TypeId} {g : Option Nat} {v : V} (hu : PR (shp h) β r gn o u) (e : rowAt h r gn = some row)
    (ht : aggOf P t = some g) (hv : getAgg g row.cells o = some v) : ∃ c, (Instr.loadAt t u).run P w = .ok c w ∧ VR (shp h) β v c := by
  obtain ⟨e1, e2⟩ := rowAt_some e
  have hu' := hu.cur e1 e2
  subst hu'
  cases g with
  | none =>
    simp only [getAgg, Option.map_eq_some_iff] at hv
    obtain ⟨x, hx, rfl⟩ := hv
    obtain ⟨c, hc, hs⟩ := hr.cell e1 hx
    exact ⟨c, by simp [Instr.loadAt, Instr.sureAddr, loadVar, aggOf_none ht, run_load, hc], hs⟩
  | some n =>
    simp only [getAgg] at hv
    split at hv
    case isFalse => cases hv
    rename_i hn
    injection hv with hv; subst hv
    have hlen : ((row.cells.drop o).take n).length = n := by simp; omega
    obtain ⟨us, h1, h2, h3⟩ := hr.cells e1 ((row.cells.drop o).take n) o (fun j x hj => by
      rw [List.getElem?_take] at hj
      split at hj
      · rwa [List.getElem?_drop] at hj
      · cases hj)
    have hl := run_loadCells_at (P := P) us h2
    rw [h1, hlen] at hl
    exact ⟨.agg us.toArray, by simp [Instr.loadAt, Instr.sureAddr, loadVar, (aggOf_some ht w).1, (aggOf_some ht w).2, hl], us.toArray, rfl, by simp [h1], h3⟩

end Go.Px
