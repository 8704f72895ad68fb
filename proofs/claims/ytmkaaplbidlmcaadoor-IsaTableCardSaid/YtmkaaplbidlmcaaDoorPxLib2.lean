/- Own work over the kit: abstract memory, its rules, and the walk. -/
import Derived.Test.YtmkaaplbidlmcaaDoorPxV
import Derived.Lib.Join
set_option linter.unusedVariables false
set_option linter.unusedSimpArgs false
namespace Go.Px

def strsOf : List S → Option (List (List Nat))
  | [] => some []
  | .s l :: r => match strsOf r with | some q => some (l :: q) | none => none
  | _ => none
def joinN (sep : List Nat) : List (List Nat) → List Nat
  | [] => []
  | [a] => a
  | a :: l => a ++ sep ++ joinN sep l
theorem joinN_eq (sep : List UInt8) : ∀ (l : List (List UInt8)), (Lib.join l sep).map UInt8.toNat = joinN (sep.map UInt8.toNat) (l.map (·.map UInt8.toNat))
  | [] => rfl
  | [a] => by simp [Lib.join, joinN, List.intercalate]
  | a :: b :: l => by
    have := joinN_eq sep (b :: l)
    simp only [Lib.join] at this ⊢
    simp only [List.map_cons] at this ⊢
    rw [joinN, ← this]
    · simp [List.intercalate]
    · simp
/-- strings.Join of some texts. -/
def joinO (f : Nat) : Orc := fun f' args h => match Nat.beq f f' with
  | true => match args with
    | [.s (.sl r g o sz n c e), .s (.s sep)] => match rowAt h r g with
      | some row => match strsOf ((row.cells.drop o).take n) with
        | some ls => match Nat.beq sz 1 && Nat.beq ls.length n && Nat.blt 0 n && Nat.blt n 100000 && Nat.blt (joinN sep ls).length 100000 with
          | true => some ([.s (.s (joinN sep ls))], [])
          | false => none
        | none => none
      | none => none
    | _ => none
  | false => none

theorem strsOf_at : ∀ {l : List S} {ls : List (List Nat)}, strsOf l = some ls → ls.length = l.length ∧ ∀ (j : Nat) (s : List Nat), ls[j]? = some s → l[j]? = some (.s s)
  | [], ls, h => by simp [strsOf] at h; subst h; simp
  | x :: l, ls, h => by
    cases x <;> simp only [strsOf] at h <;> try cases h
    split at h <;> try cases h
    rename_i q hq
    obtain ⟨a, b⟩ := strsOf_at hq
    refine ⟨by simp [a], fun j s hj => ?_⟩
    cases j with
    | zero => simpa using hj
    | succ j => simpa using b j s (by simpa using hj)

theorem joinO_ok {P : Program} {G : Heap} {f : Nat} (hcal : Callable P f)
    (hcon : ∀ (bk o c : Nat) (xs : List ByteArray) (sep : ByteArray) (w : World), (∀ (j : Nat) (x : ByteArray), xs[j]? = some x → w.cell? { block := bk, off := o + j } = some (Value.string x)) → bk < w.heap.size → xs.length ≤ 140737488355328 → xs.length ≤ c →
      (Lib.join (List.map (fun x => x.data.toList) xs) sep.data.toList).length ≤ 140737488355328 →
      Calls P f #[Value.slice (some { block := bk, off := o }) xs.length c, Value.string sep] w fun e w' => e = Ending.returned (Value.string { data := (Lib.join (List.map (fun x => x.data.toList) xs) sep.data.toList).toArray }) ∧ RowKit.Below w.heap.size w w') : OrcOk P G (joinO f) := by
  intro f' args rr gg H hp e
  simp only [joinO] at e
  split at e <;> try cases e
  rename_i hf
  have hf := Nat.eq_of_beq_eq_true hf
  subst hf
  split at e <;> try cases e
  rename_i r g o sz n c ex sep
  split at e <;> try cases e
  rename_i row hrow
  split at e <;> try cases e
  rename_i ls hls
  split at e <;> try cases e
  rename_i hcond
  simp only [Bool.and_eq_true] at hcond
  obtain ⟨⟨⟨⟨h1, h2⟩, h3⟩, h4⟩, h5⟩ := hcond
  have h1 := Nat.eq_of_beq_eq_true h1
  have h2 := Nat.eq_of_beq_eq_true h2
  have h3 := blt_lt h3
  have h4 := blt_lt h4
  have h5 := blt_lt h5
  subst h1
  refine ⟨hcal, fun w β vs hR hv => ?_⟩
  obtain ⟨v1, v2⟩ := hv
  obtain ⟨u0, hu0, hx0⟩ := v2 0 _ rfl
  obtain ⟨u1, hu1, t1, rfl, ht1⟩ := v2 1 _ rfl
  obtain ⟨s, a, cap, q1, q2, rfl, p1, p2, p3, p4, p5⟩ := hx0
  obtain ⟨e1, e2⟩ := rowAt_some hrow
  rw [shp_some e1] at q1; injection q1 with q1; subst q1
  have p5 := p5 e2.symm
  have ha := p5.1 (by omega)
  subst ha
  have hvs : vs = #[.slice (some ⟨(β r).blk, (β r).base + o, none⟩) n cap, .string t1] := by
    apply Array.ext_getElem?
    intro i
    match i with
    | 0 => simpa using hu0
    | 1 => simpa using hu1
    | i + 2 => rw [Array.getElem?_eq_none (by rw [v1]; simp), Array.getElem?_eq_none (by simp)]
  subst hvs
  obtain ⟨sl, sa⟩ := strsOf_at hls
  have hcell : ∀ (j : Nat) (s : List Nat), ls[j]? = some s → ∃ t : ByteArray, w.cell? ⟨(β r).blk, (β r).base + o + j, none⟩ = some (.string t) ∧ t.data.toList.map UInt8.toNat = s := by
    intro j s hj
    have hlt : j < n := by rw [← h2]; exact (List.getElem?_eq_some_iff.1 hj).1
    have := sa j s hj
    rw [List.getElem?_take, if_pos hlt, List.getElem?_drop] at this
    obtain ⟨u, hu, hs⟩ := hR.cell e1 this
    obtain ⟨t, rfl, ht⟩ := hs
    exact ⟨t, by rw [Nat.add_assoc]; exact hu, ht⟩
  have hxs : ∃ xs : List ByteArray, xs.length = n ∧ (∀ (j : Nat) (x : ByteArray), xs[j]? = some x → w.cell? ⟨(β r).blk, (β r).base + o + j, none⟩ = some (.string x)) ∧ xs.map (fun x => x.data.toList.map UInt8.toNat) = ls := by
    clear h5 h4 h3 hls sl sa v2 hu0 p1 p5 v1
    have : ∀ (m : List (List Nat)) (k : Nat), (∀ (j : Nat) (s : List Nat), m[j]? = some s → ∃ t : ByteArray, w.cell? ⟨(β r).blk, (β r).base + o + (k + j), none⟩ = some (.string t) ∧ t.data.toList.map UInt8.toNat = s) →
        ∃ xs : List ByteArray, xs.length = m.length ∧ (∀ (j : Nat) (x : ByteArray), xs[j]? = some x → w.cell? ⟨(β r).blk, (β r).base + o + (k + j), none⟩ = some (.string x)) ∧ xs.map (fun x => x.data.toList.map UInt8.toNat) = m := by
      intro m
      induction m with
      | nil => intro k _; exact ⟨[], rfl, by simp, rfl⟩
      | cons s m ih =>
        intro k hm
        obtain ⟨t, ht1, ht2⟩ := hm 0 s rfl
        obtain ⟨xs, x1, x2, x3⟩ := ih (k + 1) (fun j s hj => by
          obtain ⟨t, a, b⟩ := hm (j + 1) s (by simpa using hj)
          exact ⟨t, by rw [show k + 1 + j = k + (j + 1) by omega]; exact a, b⟩)
        refine ⟨t :: xs, by simp [x1], fun j x hj => ?_, by simp only [List.map_cons, x3, ht2]⟩
        cases j with
        | zero => simp at hj; subst hj; exact ht1
        | succ j => have := x2 j x (by simpa using hj); rwa [show k + 1 + j = k + (j + 1) by omega] at this
    obtain ⟨xs, x1, x2, x3⟩ := this ls 0 (fun j s hj => by simpa using hcell j s hj)
    exact ⟨xs, by omega, fun j x hj => by simpa using x2 j x hj, x3⟩
  obtain ⟨xs, x1, x2, x3⟩ := hxs
  obtain ⟨cs0, el0, fz0, k1, _⟩ := hR.row r row e1
  have hbk := (Array.getElem?_eq_some_iff.1 k1).1
  have hjoin : (Lib.join (xs.map fun x => x.data.toList) t1.data.toList).map UInt8.toNat = joinN sep ls := by
    rw [joinN_eq, ht1, ← x3, List.map_map]; rfl
  have hlen : (Lib.join (xs.map fun x => x.data.toList) t1.data.toList).length = (joinN sep ls).length := by rw [← hjoin, List.length_map]
  have := hcon (β r).blk ((β r).base + o) cap xs t1 w x2 hbk (by omega) (by omega) (by omega)
  rw [x1] at this
  refine this.mono ?_
  rintro e' w' ⟨rfl, hb⟩
  refine ⟨_, _, β, _, rfl, ⟨rfl, rfl⟩, ⟨_, rfl, by simpa using hjoin⟩, ?_, ?_⟩
  · rw [List.append_nil]
    refine ⟨fun r row e => ?_, hR.sep, hR.glob⟩
    obtain ⟨cs, el, fz, k1, k2⟩ := hR.row r row e
    exact ⟨cs, el, fz, by rw [hb.block _ (Array.getElem?_eq_some_iff.1 k1).1]; exact k1, k2⟩
  · rw [List.append_nil]
    exact ⟨hb.os, hb.tape, hb.output, hb.size, Evo.refl _ _, fun _ _ _ => .inl rfl, fun r s hr hs => by rw [shp_get, List.getElem?_eq_none hr] at hs; simp at hs, fun b hb' _ => hb.block b hb'⟩
end Go.Px
