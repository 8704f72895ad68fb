/- Own work over the kit: abstract memory, its rules, and the walk. -/
import Derived.Test.YtmkaaplbidlmcaaDoorPxOps1
import Derived.Laws.Tables
set_option linter.unusedVariables false
set_option linter.unusedSimpArgs false
namespace Go.Px

theorem VR.vcells {sh β} {x : V} {v : Value} {l : List S} (h : VR sh β x v) (hl : x.cells = some l) : v.cells.size = l.length ∧ CR sh β l v.cells 0 ∧ ∀ u ∈ v.cells.toList, u.oneCell' = true := by
  cases x with
  | s x =>
    simp [V.cells] at hl; subst hl
    have h' : SR sh β x v := h
    rw [h'.cells_one]
    refine ⟨rfl, fun j y hj => ?_, by simp [h'.oneCell]⟩
    cases j with
    | zero => simp at hj; subst hj; exact ⟨v, by simp, h'⟩
    | succ j => simp at hj
  | a l' =>
    simp [V.cells] at hl; subst hl
    obtain ⟨cs, rfl, h1, h2⟩ := h
    refine ⟨h1, h2, fun u hu => ?_⟩
    obtain ⟨j, hj, rfl⟩ := List.mem_iff_getElem.1 hu
    simp only [Value.cells, Array.length_toList] at hj
    obtain ⟨u, hu, hs⟩ := h2 j l'[j] (List.getElem?_eq_getElem (by omega))
    simp only [Nat.zero_add, Array.getElem?_eq_getElem hj] at hu
    simp only [Value.cells, Array.getElem_toList]
    injection hu with hu
    rw [hu]; exact hs.oneCell
  | u => simp [V.cells] at hl
  | any => simp [V.cells] at hl

theorem zero_ok {P : Program} {t : TypeId} {l : List S} (h : zeroOf P t = some l) (w : World) (sh β) :
    ∃ z i, P.info? t = some i ∧ i.zero = some z ∧ (zeroValue t).run P w = .ok z w ∧ (sizeOf t).run P w = .ok l.length w ∧ i.size = l.length ∧ z.cells.size = l.length ∧ CR sh β l z.cells 0 := by
  unfold zeroOf at h
  cases hi : P.info? t with
  | none => simp [hi] at h
  | some i =>
    cases hz : i.zero with
    | none => simp [hi, hz] at h
    | some z =>
      cases hv : cVal z with
      | none => simp [hi, hz, hv] at h
      | some v =>
        cases hc : v.cells with
        | none => simp [hi, hz, hv, hc] at h
        | some m =>
          simp [hi, hz, hv, hc] at h
          obtain ⟨h1, rfl⟩ := h
          have := (cVal_ok hv sh β).vcells hc
          exact ⟨z, i, rfl, hz, by simp [zeroValue, typeInfo, hi, hz], by simp [sizeOf, typeInfo, hi, h1], h1.symm, this.1, this.2.1⟩

/-- The loop of 'fill' puts the cells of a part. -/
theorem foldl_put (vs : List Value) (off : Nat) : ∀ (k : Nat) (cs : Array Value), off + k + vs.length ≤ cs.size →
    ((vs.zipIdx k).foldl (fun cs (x : Value × Nat) => cs.setIfInBounds (off + x.2) x.1) cs).size = cs.size ∧
    ∀ j, ((vs.zipIdx k).foldl (fun cs (x : Value × Nat) => cs.setIfInBounds (off + x.2) x.1) cs)[j]? = if j < off + k then cs[j]? else if j < off + k + vs.length then vs[j - (off + k)]? else cs[j]? := by
  induction vs with
  | nil => intro k cs h; simp; intro j h1 h2; omega
  | cons v vs ih =>
    intro k cs h
    simp only [List.zipIdx_cons, List.foldl_cons]
    simp at h
    obtain ⟨h1, h2⟩ := ih (k + 1) (cs.setIfInBounds (off + k) v) (by simp; omega)
    refine ⟨by rw [h1]; simp, fun j => ?_⟩
    rw [h2 j]
    by_cases c1 : j < off + k
    · rw [if_pos (by omega), if_pos c1, Array.getElem?_setIfInBounds, if_neg (by omega)]
    · rw [if_neg c1]
      by_cases c2 : j = off + k
      · subst c2
        rw [if_pos (by omega), Array.getElem?_setIfInBounds, if_pos rfl, if_pos (by omega), if_pos (by simp)]
        simp
      · rw [if_neg (by omega)]
        by_cases c3 : j < off + k + (v :: vs).length
        · rw [if_pos (by simp at c3; omega), if_pos c3]
          rw [show j - (off + k) = (j - (off + (k + 1))) + 1 by omega]; simp
        · rw [if_neg (by simp at c3; omega), if_neg c3, Array.getElem?_setIfInBounds, if_neg (by omega)]

theorem CR.splice {sh β} {z l : List S} {cs : Array Value} {off : Nat} {vs : Array Value} {cs' : Array Value} (hz : CR sh β z cs 0) (hzl : cs.size = z.length) (hl : CR sh β l vs 0) (hv : vs.size = l.length) (ho : off + l.length ≤ z.length)
    (hg : ∀ j, cs'[j]? = if j < off then cs[j]? else if j < off + l.length then vs[j - off]? else cs[j]?) : CR sh β (splice z off l) cs' 0 := by
  intro j x hj
  rw [splice_get ho] at hj
  simp only [Nat.zero_add]
  rw [hg j]
  by_cases c1 : j < off
  · rw [if_pos c1] at hj ⊢
    simpa using hz j x hj
  · rw [if_neg c1] at hj ⊢
    by_cases c2 : j < off + l.length
    · rw [if_pos c2] at hj ⊢
      simpa using hl _ x hj
    · rw [if_neg c2] at hj ⊢
      simpa using hz j x hj

theorem fill_ok {E sh β fr loc a} (hE : EnvR E sh β fr loc a) {place : Nat → Option (Nat × Nat)} : ∀ {parts : List (Nat × Operand)} {ps : List (Nat × Nat × Opd)} {z l : List S} {cs : Array Value}, cParts E place parts = some ps →
    fillParts (rho fr loc) ps z = some l → CR sh β z cs 0 → cs.size = z.length →
    ∃ cs', Instr.fill place cs (parts.map fun p => (p.1, a.eval p.2)) = some cs' ∧ cs'.size = l.length ∧ CR sh β l cs' 0 ∧ l.length = z.length
  | [], ps, z, l, cs, hp, hf, hz, hs => by
    simp [cParts] at hp; subst hp
    simp [fillParts] at hf; subst hf
    exact ⟨cs, by simp [Instr.fill], hs, hz, rfl⟩
  | (i, x) :: parts, ps, z, l, cs, hp, hf, hz, hs => by
    simp only [cParts] at hp
    split at hp
    case h_2 => cases hp
    rename_i o s y r h1 h2 h3
    injection hp with hp; subst hp
    simp only [fillParts] at hf
    split at hf
    case h_2 => cases hf
    rename_i m hm
    split at hf
    case isFalse => cases hf
    rename_i hc
    obtain ⟨hc1, hc2⟩ := hc
    have hx := cOpd_ok hE h2
    obtain ⟨v1, v2, _⟩ := hx.vcells hm
    have hput := foldl_put (a.eval x).cells.toList o 0 cs (by simp; omega)
    simp only [Nat.add_zero, Array.length_toList] at hput
    obtain ⟨p1, p2⟩ := hput
    obtain ⟨cs', q1, q2, q3, q4⟩ := fill_ok hE (z := splice z o m) (cs := ((a.eval x).cells.toList.zipIdx).foldl (fun cs (x : Value × Nat) => cs.setIfInBounds (o + x.2) x.1) cs) h3 hf
      (CR.splice hz hs v2 v1 (by omega) (fun j => by rw [p2 j, v1]; simp)) (by rw [p1, hs, splice_length (by omega)])
    refine ⟨cs', ?_, q2, q3, by rw [q4, splice_length (by omega)]⟩
    simp only [List.map_cons, Instr.fill, h1]
    have hnot : ¬((a.eval x).cells.size ≠ s ∨ o + (a.eval x).cells.size > cs.size) := by omega
    rw [if_neg (by simp; omega)]
    rw [← q1]
    congr 1
    rw [← Array.foldl_toList, Array.toList_zipIdx]

theorem mod_flatten (z : List S) : ∀ (n j : Nat), j < n * z.length → ((List.replicate n z).flatten)[j]? = z[j % z.length]?
  | 0, j, h => by simp at h
  | n + 1, j, h => by
    rw [List.replicate_succ, List.flatten_cons]
    by_cases c : j < z.length
    · rw [List.getElem?_append_left c, Nat.mod_eq_of_lt c]
    · rw [List.getElem?_append_right (by omega), mod_flatten z n (j - z.length) (by rw [Nat.add_mul] at h; omega)]
      rw [Nat.mod_eq_sub_mod (by omega : j ≥ z.length)]

theorem len_flatten (z : List S) (n : Nat) : ((List.replicate n z).flatten).length = n * z.length := by simp

theorem zeros_ok {sh β} {z : List S} {cs : Array Value} (hz : CR sh β z cs 0) (hs : cs.size = z.length) (n : Nat) :
    CR sh β ((List.replicate n z).flatten) ((Array.range (n * z.length)).map (fun i => cs[i % cs.size]!)) 0 := by
  intro j x hj
  have hlt : j < n * z.length := by
    have := (List.getElem?_eq_some_iff.1 hj).1
    rwa [len_flatten] at this
  rw [mod_flatten z n j hlt] at hj
  obtain ⟨u, hu, hx⟩ := hz _ x hj
  refine ⟨u, ?_, hx⟩
  simp only [Nat.zero_add] at hu ⊢
  rw [← hs] at hu
  obtain ⟨hb, hu'⟩ := Array.getElem?_eq_some_iff.1 hu
  simp [hlt, hb, hu']

end Go.Px
