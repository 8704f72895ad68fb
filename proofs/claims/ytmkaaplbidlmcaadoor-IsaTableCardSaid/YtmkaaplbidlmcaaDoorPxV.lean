/- Own work over the kit: abstract memory, its rules, and the walk. -/
import Derived.Test.YtmkaaplbidlmcaaDoorPxW
set_option linter.unusedVariables false
set_option linter.unusedSimpArgs false
namespace Go.Px

/-! ### rows by their references -/
theorem rowAt_get {h : Heap} {r g : Nat} {row : Row} (e : h[r]? = some row) (hg : row.gen = g) : rowAt h r g = some row := by simp [rowAt, e, hg]
theorem rowAt_lt {h : Heap} {r g : Nat} {row : Row} (e : rowAt h r g = some row) : r < h.length := by
  obtain ⟨a, _⟩ := rowAt_some e
  exact (List.getElem?_eq_some_iff.1 a).1
@[simp] theorem rowAt_append {h l : Heap} {r g : Nat} (hr : r < h.length) : rowAt (h ++ l) r g = rowAt h r g := by
  simp [rowAt, List.getElem?_append_left hr]
@[simp] theorem rowAt_new {h : Heap} {row : Row} {l : Heap} {g : Nat} : rowAt (h ++ row :: l) h.length g = if row.gen = g then some row else none := by
  simp [rowAt]
theorem rowAt_append_of {h l : Heap} {r g : Nat} {row : Row} (e : rowAt h r g = some row) : rowAt (h ++ l) r g = some row := by
  rw [rowAt_append (rowAt_lt e)]; exact e

/-! ### slices that are looked at: nil or not -/
/-- The slice v bears these elements, each so many cells. -/
def Vw {α : Type} (h : Heap) (sz : Nat) (enc : α → List S) (v : S) (xs : List α) : Prop :=
  (v = .nsl ∧ xs = []) ∨ ∃ r g o c e row, v = .sl r g o sz xs.length c e ∧ rowAt h r g = some row ∧
    ∀ (i : Nat) (x : α), xs[i]? = some x → (enc x).length = sz ∧ ∀ (j : Nat) (y : S), (enc x)[j]? = some y → row.cells[o + i * sz + j]? = some y
/-- Where an element's part lies. -/
def elemP (v : S) (sz : Nat) (j : Int) (off : Nat) : V := match v with
  | .sl r g o _ _ _ _ => .s (.p r g (o + j.toNat * sz + off))
  | _ => .any

theorem ACalls.assume {P : Program} {n f : Nat} {args : List V} {h : Heap} {R : List V → Heap → Prop} {A : Prop} (hc : Callable P f)
    (ha : ∀ (w : World) (β : Beta) (vs : Array Value), Rel h β w → VRs (shp h) β args vs → A) (k : A → ACalls P n f args h R) : ACalls P n f args h R :=
  ⟨hc, fun w β vs h1 h2 => (k (ha w β vs h1 h2)).2 w β vs h1 h2⟩

section
variable {α : Type} {h : Heap} {sz : Nat} {enc : α → List S} {v : S} {xs : List α}
theorem Vw.nil : Vw h sz enc .nsl [] := .inl ⟨rfl, rfl⟩
theorem Vw.len (hv : Vw h sz enc v xs) : len0 (.s v) = some (.s (.i .i64 xs.length)) := by
  rcases hv with ⟨rfl, rfl⟩ | ⟨r, g, o, c, e, row, rfl, _⟩ <;> rfl
theorem Vw.iad (hv : Vw h sz enc v xs) {j : Int} {k : IntKind} (h0 : 0 ≤ j) (h1 : j < xs.length) : iadSV sz (.s v) (.s (.i k j)) = some (elemP v sz j 0) := by
  rcases hv with ⟨rfl, rfl⟩ | ⟨r, g, o, c, e, row, rfl, _⟩
  · simp at h1; omega
  · simp [iadSV, h0, h1, elemP]
theorem Vw.isSl (hv : Vw h sz enc v xs) {j : Int} (h0 : 0 ≤ j) (h1 : j < xs.length) : ∃ r g o c e row, v = .sl r g o sz xs.length c e ∧ rowAt h r g = some row ∧
    (enc (xs[j.toNat]'(by omega))).length = sz ∧ ∀ (i : Nat) (y : S), (enc (xs[j.toNat]'(by omega)))[i]? = some y → row.cells[o + j.toNat * sz + i]? = some y := by
  rcases hv with ⟨rfl, rfl⟩ | ⟨r, g, o, c, e, row, rfl, hr, hc⟩
  · simp at h1; omega
  · exact ⟨r, g, o, c, e, row, rfl, hr, hc _ _ (List.getElem?_eq_getElem (by omega))⟩
/-- An element's one cell. -/
theorem Vw.ld (hv : Vw h sz enc v xs) {j : Int} {off : Nat} (h0 : 0 ≤ j) (h1 : j < xs.length) (ho : off < sz) : ldV h none (elemP v sz j off) = ((enc (xs[j.toNat]'(by omega)))[off]?).map V.s := by
  obtain ⟨r, g, o, c, e, row, rfl, hr, hl, hc⟩ := hv.isSl h0 h1
  have := hc off _ (List.getElem?_eq_getElem (by omega))
  simp [ldV, elemP, hr, getAgg, this, List.getElem?_eq_getElem (show off < (enc (xs[j.toNat]'(by omega))).length by omega)]
theorem take_drop_is {l m : List S} {o : Nat} (hc : ∀ (i : Nat) (y : S), m[i]? = some y → l[o + i]? = some y) : m = (l.drop o).take m.length := by
  apply List.ext_getElem?
  intro i
  by_cases hi : i < m.length
  · rw [List.getElem?_take, if_pos hi, List.getElem?_drop, List.getElem?_eq_getElem hi, hc i _ (List.getElem?_eq_getElem hi)]
  · rw [List.getElem?_eq_none (by omega), List.getElem?_take, if_neg hi]
theorem Vw.lda (hv : Vw h sz enc v xs) {j : Int} (hz : 0 < sz) (h0 : 0 ≤ j) (h1 : j < xs.length) : ldV h (some sz) (elemP v sz j 0) = some (.a (enc (xs[j.toNat]'(by omega)))) := by
  obtain ⟨r, g, o, c, e, row, rfl, hr, hl, hc⟩ := hv.isSl h0 h1
  have h2 := take_drop_is hc
  rw [hl] at h2
  have h3 := hc (sz - 1) _ (List.getElem?_eq_getElem (by omega))
  have h4 := (List.getElem?_eq_some_iff.1 h3).1
  simp only [ldV, elemP, hr, Option.bind_some, getAgg, Nat.add_zero]
  rw [if_pos (by omega), ← h2]
theorem Vw.fad (hv : Vw h sz enc v xs) {j : Int} {off off' : Nat} (h0 : 0 ≤ j) (h1 : j < xs.length) : fadV off' (elemP v sz j off) = some (elemP v sz j (off + off')) := by
  obtain ⟨r, g, o, c, e, row, rfl, hr, hl, hc⟩ := hv.isSl h0 h1
  simp [elemP, Nat.add_assoc]
theorem Vw.append (hv : Vw h sz enc v xs) (l : Heap) : Vw (h ++ l) sz enc v xs := by
  rcases hv with ⟨rfl, rfl⟩ | ⟨r, g, o, c, e, row, rfl, hr, hc⟩
  · exact .inl ⟨rfl, rfl⟩
  · exact .inr ⟨r, g, o, c, e, row, rfl, rowAt_append_of hr, hc⟩
/-- In memory that keeps v's row. -/
theorem Vw.keep (hv : Vw h sz enc v xs) {h' : Heap} (hk : ∀ r g row, rowAt h r g = some row → r ∈ v.refs → rowAt h' r g = some row) : Vw h' sz enc v xs := by
  rcases hv with ⟨rfl, rfl⟩ | ⟨r, g, o, c, e, row, rfl, hr, hc⟩
  · exact .inl ⟨rfl, rfl⟩
  · exact .inr ⟨r, g, o, c, e, row, rfl, hk _ _ _ hr (by simp [S.refs]), hc⟩
theorem ACalls.len {P : Program} {n f : Nat} {args : List V} {R : List V → Heap → Prop} (hc : Callable P f) (hv : Vw h sz enc v xs) {j : Nat} (hj : args[j]? = some (.s v)) (k : xs.length ≤ 9223372036854775807 → ACalls P n f args h R) : ACalls P n f args h R := by
  refine ACalls.assume hc (fun w β vs hR hvs => ?_) k
  rcases hv with ⟨rfl, rfl⟩ | ⟨r, g, o, c, e, row, rfl, hr, _⟩
  · simp
  · obtain ⟨u, _, hu⟩ := hvs.2 j _ hj
    obtain ⟨s, a, cap, _, _, _, q1, q2, q3, _⟩ := hu
    simp only [maxLen] at q3
    omega
end
theorem FnIs.call {P : Program} {f : Nat} {fn : IFn} (hf : FnIs P f fn) : Callable P f := by
  obtain ⟨F, slots, hF, hcf⟩ := hf.ex
  unfold cFn at hcf
  simp only at hcf
  split at hcf
  case h_2 => cases hcf
  rename_i c hbody
  split at hcf
  case h_2 => cases hcf
  split at hcf
  case isFalse => cases hcf
  rename_i hcond
  exact ⟨F, hF, by rw [hbody]; rfl, hcond.2.2.2.1⟩

/-! ### numbers -/
theorem wrap_i64 {x : Int} (h0 : -9223372036854775808 ≤ x) (h1 : x ≤ 9223372036854775807) : IntKind.i64.wrap x = x := by
  rw [IntKind.wrap_i64]; omega
end Go.Px
