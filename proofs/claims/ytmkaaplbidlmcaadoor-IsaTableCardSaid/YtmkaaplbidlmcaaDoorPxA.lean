/- Own work over the kit: abstract memory, its rules, and the walk. -/
import Derived.Test.YtmkaaplbidlmcaaDoorPxSpec
set_option linter.all false
set_option linter.unusedVariables false
set_option linter.unusedSimpArgs false
namespace Go.Px
/-! ### append -/
def appV (h : Heap) (sz bytes : Nat) : V → V → Option (V × Heap × Option Nat)
  | .s x, .s y => match srcCells h sz y with
      | none => none
      | some (m, new) =>
        if m = 0 then (match x with
          | .nsl => some (.s .nsl, h, none)
          | .sl r g o sz' n c e => some (.s (.sl r g o sz' n c e), h, none)
          | _ => none) else
        match x with
        | .nsl =>
          if m ≤ 9223372036854775807 ∧ m * bytes ≤ 140737488355328 then some (.s (.sl h.length 0 0 sz m m false), h ++ [⟨new, true, 0⟩], none) else none
        | .sl r g o sz' n c e => if sz' = sz then
          match rowAt h r g with
          | none => none
          | some row =>
            if n + m ≤ c then if row.rw = true then some (.s (.sl r g o sz (n + m) c e), setCells h r row (splice row.cells (o + n * sz) new), some r) else none
            else if n + m ≤ 9223372036854775807 ∧ (n + m) * bytes ≤ 140737488355328 then
              if e then some (.s (.sl h.length 0 0 sz (n + m) (n + m) false), h ++ [⟨(row.cells.drop o).take (n * sz) ++ new, true, 0⟩], none)
              else if row.rw = true then
                some (.s (.sl r (g + 1) 0 sz (n + m) (n + m) false), h.set r ⟨(row.cells.drop o).take (n * sz) ++ new, true, g + 1⟩, some r)
              else none
            else none
          else none
        | _ => none
  | _, _ => none
section
variable {P : Program} {n k : Nat} {R : List V → Heap → Prop} {fr : List V} {h : Heap} {loc : Loc} {os : List IOq} {d : Option Nat}
theorem evalE_app {sz bytes : Nat} {a b : Opd} {ρ : Opd → V} : evalE h ρ (.app sz bytes a b) = appV h sz bytes (ρ a) (ρ b) := by
  simp only [evalE]
  generalize ρ a = x
  generalize ρ b = y
  cases x with
  | s x =>
    cases y with
    | s y =>
      simp only [appV]
      rcases srcCells h sz y with _ | ⟨m, new⟩
      · rfl
      · simp only []
        split
        · cases x <;> rfl
        · cases x <;> try rfl



    | _ => rfl
  | _ => cases y <;> rfl
@[simp] theorem rwp_app' {sz bytes : Nat} {a b : Opd} : rwp P n R (⟨none, d, .app sz bytes a b⟩ :: os) fr loc h = effK n (appV h sz bytes (rho fr loc a) (rho fr loc b)) (fun v h' => rwp P n R os (setv fr d v) (loc ++ [[v]]) h') := by
  rw [rwp_effK (op := .app sz bytes a b) rfl, evalE_app]
variable {α : Type} {sz bytes : Nat} {enc : α → List S} {v : S} {xs : List α}
theorem flat_get {xs : List α} (hl : ∀ x ∈ xs, (enc x).length = sz) : ∀ (i : Nat) (x : α), xs[i]? = some x → ∀ j y, (enc x)[j]? = some y → (xs.flatMap enc)[i * sz + j]? = some y := by
  induction xs with
  | nil => intro i x h; simp at h
  | cons a l ih =>
    intro i x hx j y hy
    have ha := hl a (by simp)
    rw [List.flatMap_cons]
    cases i with
    | zero =>
      simp at hx; subst hx
      have := (List.getElem?_eq_some_iff.1 hy).1
      rw [Nat.zero_mul, Nat.zero_add, List.getElem?_append_left this]; exact hy
    | succ i =>
      rw [List.getElem?_append_right (by rw [ha, Nat.succ_mul]; omega), ha]
      rw [show (i + 1) * sz + j - sz = i * sz + j by rw [Nat.succ_mul]; omega]
      exact ih (fun x hx => hl x (by simp [hx])) i x (by simpa using hx) j y hy
theorem flat_len {xs : List α} (hl : ∀ x ∈ xs, (enc x).length = sz) : (xs.flatMap enc).length = xs.length * sz := by
  induction xs with
  | nil => simp
  | cons a l ih => rw [List.flatMap_cons, List.length_append, hl a (by simp), ih (fun x hx => hl x (by simp [hx])), List.length_cons, Nat.succ_mul]; omega
theorem Vw.encLen (hv : Vw h sz enc v xs) : ∀ x ∈ xs, (enc x).length = sz := by
  intro x hx
  rcases hv with ⟨rfl, rfl⟩ | ⟨r, g, o, c, e, row, rfl, hr, hc⟩
  · simp at hx
  · obtain ⟨i, hi, rfl⟩ := List.mem_iff_getElem.1 hx
    exact (hc i _ (List.getElem?_eq_getElem hi)).1
/-- All cells of a slice. -/
theorem flat_cells {cells : List S} {o : Nat} (hl : ∀ x ∈ xs, (enc x).length = sz) (hc : ∀ (i : Nat) (x : α), xs[i]? = some x → ∀ (j : Nat) (y : S), (enc x)[j]? = some y → cells[o + i * sz + j]? = some y) : (cells.drop o).take (xs.length * sz) = xs.flatMap enc := by
  have hlen := flat_len hl
  rw [← hlen]
  symm
  apply take_drop_is
  intro q y hq
  have hq' := (List.getElem?_eq_some_iff.1 hq).1
  rw [hlen] at hq'
  have hsz : 0 < sz := by
    rcases Nat.eq_zero_or_pos sz with h0 | h0
    · subst h0; simp at hq'
    · exact h0
  have hi : q / sz < xs.length := Nat.div_lt_of_lt_mul (by rw [Nat.mul_comm]; exact hq')
  have hx := List.getElem?_eq_getElem hi
  have hj : q % sz < (enc xs[q / sz]).length := by rw [hl _ (List.getElem_mem hi)]; exact Nat.mod_lt _ hsz
  have h1 := flat_get hl (q / sz) _ hx (q % sz) _ (List.getElem?_eq_getElem hj)
  have hqq : q / sz * sz + q % sz = q := by rw [Nat.mul_comm]; exact Nat.div_add_mod q sz
  rw [hqq, hq] at h1
  injection h1 with h1; subst h1
  have := hc (q / sz) _ hx (q % sz) _ (List.getElem?_eq_getElem hj)
  rwa [Nat.add_assoc, hqq] at this
theorem Vw.src (hv : Vw h sz enc v xs) : srcCells h sz v = some (xs.length, xs.flatMap enc) := by
  have hl := hv.encLen
  rcases hv with ⟨rfl, rfl⟩ | ⟨r, g, o, c, e, row, rfl, hr, hc⟩
  · rfl
  · simp only [srcCells, if_true, slCells, hr, Option.map_some]
    rw [flat_cells hl (fun i x hx => (hc i x hx).2)]
/-- A row that bears them is a slice. -/
theorem Vw.of_row {r g o c : Nat} {e : Bool} {row : Row} (hr : rowAt h r g = some row) (hl : ∀ x ∈ xs, (enc x).length = sz) (hc : (row.cells.drop o).take (xs.length * sz) = xs.flatMap enc) : Vw h sz enc (.sl r g o sz xs.length c e) xs := by
  refine .inr ⟨r, g, o, c, e, row, rfl, hr, fun i x hx => ⟨hl x (List.mem_of_getElem? hx), fun j y hy => ?_⟩⟩
  have h1 := flat_get hl i x hx j y hy
  rw [← hc] at h1
  have hlt := (List.getElem?_eq_some_iff.1 h1).1
  have hlt' : i * sz + j < xs.length * sz := by simp at hlt; omega
  rw [List.getElem?_take, if_pos hlt', List.getElem?_drop] at h1
  rwa [Nat.add_assoc]
/-- Onto a slice of just its length. -/
theorem appV_exact {ys : List α} {r g o : Nat} (hx : Vw h sz enc (.sl r g o sz xs.length xs.length true) xs) (hy : Vw h sz enc v ys) (hb : (xs.length + ys.length) * bytes ≤ 140737488355328) (hb0 : 0 < bytes) :
    ∃ u g', appV h sz bytes (.s (.sl r g o sz xs.length xs.length true)) (.s v) = some (.s u, h ++ g', none) ∧ Vw (h ++ g') sz enc u (xs ++ ys) := by
  have hlen : (xs.length + ys.length) ≤ 140737488355328 := Nat.le_trans (Nat.le_mul_of_pos_right _ hb0) hb
  simp only [appV, hy.src]
  by_cases h0 : ys.length = 0
  · have : ys = [] := List.length_eq_zero_iff.1 h0
    subst this
    refine ⟨.sl r g o sz xs.length xs.length true, [], by simp, ?_⟩
    rw [List.append_nil, List.append_nil]; exact hx
  · have hl1 := hx.encLen
    have hl2 := hy.encLen
    rcases hx with ⟨q, _⟩ | ⟨r', g', o', c', e', row, q, hr, hc⟩
    · cases q
    injection q with q1 q2 q3 q4 q5 q6 q7
    subst q1 q2 q3
    have hcells := flat_cells hl1 (fun i x hx => (hc i x hx).2)
    refine ⟨.sl h.length 0 0 sz (xs ++ ys).length (xs.length + ys.length) false, [⟨(xs ++ ys).flatMap enc, true, 0⟩], ?_, ?_⟩
    · rw [if_neg h0]
      simp only [if_true, hr]
      rw [if_neg (by omega), if_pos ⟨by omega, hb⟩]
      simp [hcells]
    · refine Vw.of_row (row := ⟨(xs ++ ys).flatMap enc, true, 0⟩) (by simp) (fun x hx => ?_) ?_
      · rcases List.mem_append.1 hx with q | q
        · exact hl1 x q
        · exact hl2 x q
      · rw [List.drop_zero, List.take_of_length_le]
        rw [flat_len (sz := sz)]
        · exact Nat.le_refl _
        · intro x hx
          rcases List.mem_append.1 hx with q | q
          · exact hl1 x q
          · exact hl2 x q
end
end Go.Px
