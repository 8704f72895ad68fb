/- Own work over the kit: abstract memory, its rules, and the walk. -/
import Derived.Test.YtmkaaplbidlmcaaDoorPxDraw2
set_option linter.unusedVariables false
set_option linter.unusedSimpArgs false
namespace Go.Px

section
variable {P : Program} {n N k : Nat} {all : Array Oper} {slots : List Nat} {ios : List IOq} {fr : List V} {vs : Nat → List V} {hs : Nat → Heap} {h0 : Heap} {β0 : Beta} {w0 : World}

def Ld (L : Array Bool) (j : Nat) : Prop := L.getD j false = true
theorem Ld_set {L : Array Bool} {i j : Nat} (hi : i < L.size) : Ld (L.setIfInBounds i true) j ↔ Ld L j ∨ j = i := by
  unfold Ld
  by_cases c : j = i
  · subst c; simp [Array.getD_eq_getD_getElem?, Array.getElem?_setIfInBounds, hi]
  · have : i ≠ j := fun e => c e.symm
    simp [Array.getD_eq_getD_getElem?, Array.getElem?_setIfInBounds, this, c]

theorem hs_ext (hx : ∀ j, j < k → ∃ g, hs (j + 1) = hs j ++ g) : ∀ j i, i ≤ j → j ≤ k → ∃ g, hs j = hs i ++ g
  | 0, i, hi, _ => ⟨[], by obtain rfl : i = 0 := (by omega); simp⟩
  | j + 1, i, hi, hj => by
    by_cases c : i = j + 1
    · subst c; exact ⟨[], by simp⟩
    · obtain ⟨g1, e1⟩ := hs_ext hx j i (by omega) (by omega)
      obtain ⟨g2, e2⟩ := hx j (by omega)
      exact ⟨g1 ++ g2, by rw [e2, e1, List.append_assoc]⟩

def isAC (ios : List IOq) (j : Nat) : Prop := ∃ io, ios[j]? = some io ∧ io.op.ac = true

theorem hs_flat (hx : ∀ j, j < k → ¬ isAC ios j → hs (j + 1) = hs j) : ∀ (d i : Nat), i + d ≤ k → (∀ j, i ≤ j → j < i + d → ¬ isAC ios j) → hs (i + d) = hs i
  | 0, i, _, _ => rfl
  | d + 1, i, hk, hn => by
    have e1 := hs_flat hx d i (by omega) (fun j h1 h2 => hn j h1 (by omega))
    have e2 := hx (i + d) (by omega) (hn (i + d) (by omega) (by omega))
    rw [show i + (d + 1) = i + d + 1 by omega, e2, e1]

theorem next_ac (ios : List IOq) (i : Nat) : ∀ (d : Nat), ∃ q, i ≤ q ∧ q ≤ i + d ∧ (∀ j, i ≤ j → j < q → ¬ isAC ios j) ∧ (q < i + d → isAC ios q)
  | 0 => ⟨i, Nat.le_refl _, Nat.le_refl _, fun j h1 h2 => by omega, fun h => by omega⟩
  | d + 1 => by
    obtain ⟨q, q1, q2, q3, q4⟩ := next_ac ios i d
    by_cases c : q < i + d
    · exact ⟨q, q1, by omega, q3, fun _ => q4 c⟩
    · obtain rfl : q = i + d := by omega
      by_cases ha : isAC ios (i + d)
      · exact ⟨i + d, q1, by omega, q3, fun _ => ha⟩
      · exact ⟨i + d + 1, by omega, by omega, fun j h1 h2 => by
          by_cases c' : j = i + d
          · subst c'; exact ha
          · exact q3 j h1 (by omega), fun h => by omega⟩

/-- Which of the first operations writes a slot. -/
def wr (ios : List IOq) (k s : Nat) : Option Nat := (List.range k).find? fun j => match ios[j]? with | some io => decide (io.d = some s) | none => false
theorem wr_some {ios : List IOq} {k s j : Nat} (h : wr ios k s = some j) : j < k ∧ ∃ io, ios[j]? = some io ∧ io.d = some s := by
  unfold wr at h
  have h1 := List.mem_of_find?_eq_some h
  have h2 := List.find?_some h
  refine ⟨by simpa using h1, ?_⟩
  split at h2
  · rename_i io hio; exact ⟨io, hio, by simpa using h2⟩
  · cases h2
theorem wr_of {ios : List IOq} {k s j : Nat} {io : IOq} (hj : j < k) (hio : ios[j]? = some io) (hd : io.d = some s) (huniq : ∀ i io', i < k → i ≠ j → ios[i]? = some io' → io'.d ≠ some s) : wr ios k s = some j := by
  cases hw : wr ios k s with
  | none =>
    unfold wr at hw
    rw [List.find?_eq_none] at hw
    have := hw j (by simpa using hj)
    simp [hio, hd] at this
  | some i =>
    obtain ⟨h1, io', h2, h3⟩ := wr_some hw
    by_cases c : i = j
    · rw [c]
    · exact absurd h3 (huniq i io' h1 c h2)

/-- The frame when just some of the first operations have come up. -/
def FL (ios : List IOq) (k : Nat) (vs : Nat → List V) (fr : List V) (p : Nat → Bool) : List V :=
  (List.range fr.length).map fun s => match wr ios k s with | some j => if p j = true then one (vs j) else fr.getD s .any | none => fr.getD s .any
theorem FL_length {ios k vs fr p} : (FL ios k vs fr p).length = fr.length := by simp [FL]
theorem FL_get {ios : List IOq} {k : Nat} {vs : Nat → List V} {fr : List V} {p : Nat → Bool} {s : Nat} (hs : s < fr.length) :
    (FL ios k vs fr p)[s]? = some (match wr ios k s with | some j => if p j = true then one (vs j) else fr.getD s .any | none => fr.getD s .any) := by
  simp [FL, hs]
theorem FL_false {ios : List IOq} {k : Nat} {vs : Nat → List V} {fr : List V} : FL ios k vs fr (fun _ => false) = fr := by
  apply List.ext_getElem?
  intro s
  by_cases hs : s < fr.length
  · rw [FL_get hs, List.getElem?_eq_getElem hs]
    congr 1
    split <;> simp [List.getD_eq_getElem?_getD, List.getElem?_eq_getElem hs]
  · rw [List.getElem?_eq_none (by rw [FL_length]; omega), List.getElem?_eq_none (by omega)]
theorem FL_congr {ios : List IOq} {k : Nat} {vs : Nat → List V} {fr : List V} {p p' : Nat → Bool} (h : ∀ j, j < k → p j = p' j) : FL ios k vs fr p = FL ios k vs fr p' := by
  unfold FL
  apply List.map_congr_left
  intro s _
  split
  · rename_i j hj; rw [h j (wr_some hj).1]
  · rfl
/-- One more. -/
theorem FL_step {ios : List IOq} {k : Nat} {vs : Nat → List V} {fr : List V} {p p' : Nat → Bool} {i : Nat} {io : IOq} (hi : i < k) (hio : ios[i]? = some io) (hd : ∀ s, io.d = some s → ∀ i' io', i' < k → i' ≠ i → ios[i']? = some io' → io'.d ≠ some s)
    (hone : io.d = none ∨ ∃ v, vs i = [v]) (hp : ∀ j, j < k → (p' j = true ↔ p j = true ∨ j = i)) : FL ios k vs fr p' = afterFr (FL ios k vs fr p) io.d (vs i) := by
  have same : ∀ j, j < k → j ≠ i → p' j = p j := fun j hj hne => by
    have := hp j hj
    cases h1 : p' j <;> cases h2 : p j <;> simp [h1, h2, hne] at this ⊢
  cases hdd : io.d with
  | none =>
    have : afterFr (FL ios k vs fr p) none (vs i) = FL ios k vs fr p := by unfold afterFr; split <;> rfl
    rw [this]
    apply List.ext_getElem?
    intro s
    by_cases hs : s < fr.length
    · rw [FL_get hs, FL_get hs]
      congr 1
      split
      · rename_i j hj
        obtain ⟨j1, io', j2, j3⟩ := wr_some hj
        rw [same j j1 (by intro e; subst e; rw [hio] at j2; injection j2 with j2; subst j2; rw [hdd] at j3; cases j3)]
      · rfl
    · rw [List.getElem?_eq_none (by rw [FL_length]; omega), List.getElem?_eq_none (by rw [FL_length]; omega)]
  | some s0 =>
    rcases hone with h | ⟨v, hv⟩
    · rw [hdd] at h; cases h
    have hw := wr_of hi hio hdd (hd s0 hdd)
    rw [hv]
    simp only [afterFr, setv]
    apply List.ext_getElem?
    intro s
    rw [List.getElem?_set]
    by_cases hs : s < fr.length
    · by_cases c : s0 = s
      · subst c
        rw [FL_get hs, if_pos rfl, if_pos (by rw [FL_length]; exact hs), hw]
        simp only
        rw [if_pos ((hp i hi).2 (.inr rfl)), hv]; rfl
      · rw [if_neg c, FL_get hs, FL_get hs]
        congr 1
        split
        · rename_i j hj
          obtain ⟨j1, io', j2, j3⟩ := wr_some hj
          rw [same j j1 (by intro e; subst e; rw [hio] at j2; injection j2 with j2; subst j2; rw [hdd] at j3; injection j3 with j3; exact c j3)]
        · rfl
    · rw [List.getElem?_eq_none (by rw [FL_length]; omega)]
      split
      · rename_i c; subst c; rw [if_neg (by rw [FL_length]; omega)]
      · rw [List.getElem?_eq_none (by rw [FL_length]; omega)]

/-- What holds while the first 'k' operations come up in whatever order. -/
structure DInv (n N k : Nat) (all : Array Oper) (slots : List Nat) (ios : List IOq) (fr : List V) (vs : Nat → List V) (hs : Nat → Heap) (h0 : Heap) (β0 : Beta) (w0 : World) (L : Array Bool) (q : Nat) (β : Beta) (a : Act) (w : World) : Prop where
  qk : q ≤ k
  rel : Rel (hs q) β w
  step : Step n h0 β0 w0 (hs q) β w
  env : EnvR ⟨slots, []⟩ (shp (hs q)) β (FL ios k vs fr fun j => L.getD j false) [] a
  loc : ∀ j, j < k → Ld L j → ∀ io, ios[j]? = some io → io.d = none → ∀ t, (all[j]?).bind (·.dst) = some t → RetV (shp (hs q)) β (vs j) (a.tmps.getD t undef)
  acq : ∀ j, j < k → isAC ios j → (Ld L j ↔ j < q)
  sz : N ≤ a.tmps.size
  lsz : L.size = all.size
  dc : DC all (Ld L)
  main : ∀ j, k ≤ j → ¬ Ld L j

theorem RetV.evo {sh β sh' β'} {l : List V} {v : Value} (h3 : RetV sh β l v) (he : Evo sh β sh' β') : RetV sh' β' l v := by
  unfold RetV at h3 ⊢
  split
  · exact h3.evo he
  · rename_i hl
    split at h3
    · exact absurd rfl (hl _)
    · obtain ⟨us, u1, u2, u3⟩ := h3
      exact ⟨us, u1, u2, fun j x hj => let ⟨u, c1, c2⟩ := u3 j x hj; ⟨u, c1, c2.evo he⟩⟩

/-- One more of the first operations. -/
theorem draw_step (hok : DOk0 all.toList ios k) (hNb : ∀ o ∈ all.toList, ∀ t, o.dst = some t → t < N)
    (hcops : cOps P ⟨slots, []⟩ [] all.toList = some ios) (hnodup : slots.Nodup) (hn0 : n ≤ (hs 0).length)
    (hst : ∀ j io, j < k → ios[j]? = some io → dstep P (FL ios k vs fr fun i => decide (i < j)) io ((List.range j).map vs) (hs j) (vs j) (hs (j + 1)) ∧ (io.d = none ∨ ∃ v, vs j = [v]))
    {Qc : Exit → Act → World → Prop} {K : Act → World → Prop} {L : Array Bool} {q : Nat} {β : Beta} {a : Act} {w : World} (hI : DInv n N k all slots ios fr vs hs h0 β0 w0 L q β a w) {i : Nat} (hik : i < k) {o : Oper} (ho : all[i]? = some o) (hun : ¬ Ld L i)
    (hready : ∀ e ∈ o.after, Region.binds .any e = true → Ld L e.on)
    (hK : ∀ q' β' a' w' u, DInv n N k all slots ios fr vs hs h0 β0 w0 (L.setIfInBounds i true) q' β' a' w' → Step n (hs q) β w (hs q') β' w' → a' = a.put o.dst u → K a' w') : wpOp P all Qc i K a w := by
  obtain ⟨hlen, henv⟩ := cOps_env all.toList ⟨slots, []⟩ [] ios hcops ⟨by intro g t h; simp at h, by intro t g h; simp at h⟩
  have ho' : all.toList[i]? = some o := by simpa using ho
  obtain ⟨E, io, hio, hEs, hlk, hgd, hcg, hcop, hdst, hdsl, _⟩ := henv i o ho'
  simp only [List.nil_append] at hlk hcg
  simp only at hEs
  simp only at hdst hdsl
  obtain ⟨hstep, hone⟩ := hst i io hik hio
  have hnd' : ∀ s, io.d = some s → ∀ i' io', i' < k → i' ≠ i → ios[i']? = some io' → io'.d ≠ some s := fun s hd i' io' h1 h2 h3 => (hok.d i io s hik hio hd i' io' h1 h2 h3).1
  have hext : ∀ j, j < k → ∃ g, hs (j + 1) = hs j ++ g := fun j hj => by
    have : j < ios.length := by rw [hok.len]; have := hok.km; omega
    exact dstep_ext (hst j ios[j] hj (List.getElem?_eq_getElem this)).1
  have hflat : ∀ j, j < k → ¬ isAC ios j → hs (j + 1) = hs j := fun j hj hna => by
    have : j < ios.length := by rw [hok.len]; have := hok.km; omega
    refine dstep_same (hst j ios[j] hj (List.getElem?_eq_getElem this)).1 ?_
    cases hac : ios[j].op.ac with
    | false => rfl
    | true => exact absurd ⟨ios[j], List.getElem?_eq_getElem this, hac⟩ hna
  have hm : i < all.size := (Array.getElem?_eq_some_iff.1 ho).1
  have hiL : i < L.size := by rw [hI.lsz]; exact hm
  have hlt : ∀ j' o', all[j']? = some o' → ∀ e ∈ o'.after, Region.binds .any e = true → e.on < j' := fun j' o' h1 => hok.lt j' o' (by simpa using h1)
  have hanc : ∀ u, ((ancs all.toList []).getD i 0).testBit u = true → Ld L u ∧ u < i := anc_listed hI.dc i o ho (fun e h1 h2 => ⟨hready e h1 h2, hlt i o ho e h1 h2⟩) hlt
  have huse : ∀ u ∈ io.uses, Ld L u ∧ u < i ∧ (∃ t, (all[u]?).bind (·.dst) = some t) ∧ ∃ io', ios[u]? = some io' ∧ io'.d = none := fun u hu => by
    obtain ⟨u1, u2, u3⟩ := hok.uses i io hik hio u hu
    exact ⟨(hanc u u1).1, (hanc u u1).2, by simpa using u2, u3⟩
  -- the dsts ahead
  have hseen : ∀ g, g < i → ((all.toList.take i).map (·.dst))[g]? = (all[g]?).map (·.dst) := fun g hg => by
    rw [List.getElem?_map, List.getElem?_take, if_pos hg]; simp
  have hnl : ∀ j o1 t io1, j < k → all[j]? = some o1 → ios[j]? = some io1 → io1.d = none → o1.dst = some t → t ∉ slots := fun j o1 t io1 hj ho1 hio1 hdn hd => by
    obtain ⟨E1, io2, p1, p2, p3, p4, p5, p6, p7, _⟩ := henv j o1 (by simpa using ho1)
    rw [hio1] at p1; injection p1 with p1; subst p1
    exact (p7 hdn t hd).1
  have hdist : ∀ j j' t, j < j' → j' < k → t ∉ slots → (all[j]?).bind (·.dst) = some t → (all[j']?).bind (·.dst) = some t → False := fun j j' t h1 h2 hts h3 h4 => by
    cases h5 : all[j']? with
    | none => rw [h5] at h4; cases h4
    | some o1 =>
      rw [h5] at h4
      simp only [Option.bind_some] at h4
      obtain ⟨E1, io1, p1, p2, p3, p4, p5, p6, p7, p8, _⟩ := henv j' o1 (by simpa using h5)
      have hdn : io1.d = none := by
        cases hd : io1.d with
        | none => rfl
        | some s =>
          obtain ⟨t', t1, t2⟩ := p8 s hd
          rw [h4] at t1; injection t1 with t1; subst t1
          exact absurd (List.mem_of_getElem? (idxOf_get t2)) hts
      obtain ⟨q1, q2⟩ := p7 hdn t h4
      cases h6 : all[j]? with
      | none => rw [h6] at h3; cases h3
      | some o2 =>
        rw [h6] at h3
        simp only [Option.bind_some] at h3
        have := p3.lk j t (by
          simp only [List.nil_append]
          rw [List.getElem?_map, List.getElem?_take, if_pos h1]; simp [h6, h3]) (by rw [p2]; exact q1)
        rw [q2] at this; cases this
  have hnone : ∀ j o1 t, j < k → all[j]? = some o1 → o1.dst = some t → t ∉ slots → ∃ io1, ios[j]? = some io1 ∧ io1.d = none := fun j o1 t hj ho1 hd hts => by
    obtain ⟨E1, io1, p1, p2, p3, p4, p5, p6, p7, p8, _⟩ := henv j o1 (by simpa using ho1)
    refine ⟨io1, p1, ?_⟩
    cases hdd : io1.d with
    | none => rfl
    | some s =>
      obtain ⟨t', t1, t2⟩ := p8 s hdd
      rw [hd] at t1; injection t1 with t1; subst t1
      exact absurd (List.mem_of_getElem? (idxOf_get t2)) hts
  -- the environment of this operation
  let loc' : Loc := (List.range i).map fun j => if L.getD j false = true then vs j else [.any]
  have hloc' : ∀ j, j < i → loc'[j]? = some (if L.getD j false = true then vs j else [.any]) := fun j hj => by simp [loc', hj]
  let frL : List V := FL ios k vs fr fun j => L.getD j false
  have hE : EnvR E (shp (hs q)) β frL loc' a := by
    refine ⟨by rw [hEs]; exact hI.env.fr_ok, by rw [hEs]; exact hI.env.len, by rw [hEs]; exact hI.env.bound, fun t j hj => ?_, hI.env.defers⟩
    obtain ⟨c1, c2⟩ := hlk.cv t j hj
    have hji : j < i := by
      have := (List.getElem?_eq_some_iff.1 c1).1
      simp at this; omega
    rw [hseen j hji] at c1
    refine ⟨_, hloc' j hji, ?_⟩
    split
    · rename_i hl
      cases hq : all[j]? with
      | none => rw [hq] at c1; cases c1
      | some o1 =>
        rw [hq] at c1
        have hd1 : o1.dst = some t := by simpa using c1
        obtain ⟨io1, x1, x2⟩ := hnone j o1 t (by omega) hq hd1 (by rw [← hEs]; exact c2)
        exact hI.loc j (by omega) hl io1 x1 x2 t (by rw [hq]; simpa using hd1)
    · exact trivial
  have hRI : RI all E ((all.toList.take i).map (·.dst)) loc' N a := by
    have hsl : ((all.toList.take i).map (·.dst)).length = i := by simp; omega
    refine ⟨by rw [hsl]; simp [loc'], fun g hg => hseen g (by omega), hlk.lk, fun t j hj => ?_, hI.sz⟩
    obtain ⟨c1, c2⟩ := hlk.cv t j hj
    exact ⟨c2, (List.getElem?_eq_some_iff.1 c1).1⟩
  -- what it looks at is as in the text's order
  have hloceq : ∀ u ∈ io.uses, loc'[u]? = ((List.range i).map vs)[u]? := fun u hu => by
    obtain ⟨u1, u2, _, _⟩ := huse u hu
    rw [hloc' u u2, if_pos (show L.getD u false = true from u1)]; simp [u2]
  have hrho : ∀ x ∈ io.op.opds, rho (FL ios k vs fr fun j => decide (j < i)) ((List.range i).map vs) x = rho frL loc' x := fun x hx => by
    cases x with
    | v s =>
      simp only [rho, frL]
      rw [List.getD_eq_getElem?_getD, List.getD_eq_getElem?_getD]
      by_cases hsl : s < fr.length
      · rw [FL_get hsl, FL_get hsl]
        simp only [Option.getD_some]
        split
        · rename_i j hj
          obtain ⟨j1, io', j2, j3⟩ := wr_some hj
          by_cases hji : j = i
          · subst hji
            have : ¬ (L.getD j false = true) := hun
            simp [this]
          · have hord := (hok.d j io' s j1 j2 j3 i io hik (Ne.symm hji) hio).2 hx
            rcases Nat.lt_or_ge j i with c | c
            · have hl : L.getD j false = true := (hanc j (hord.2 c)).1
              simp [hl, c]
            · have hnl' : ¬ (L.getD j false = true) := fun hl => by
                have hjm : j < all.size := by have := hok.km; simp at this; omega
                have := anc_listed hI.dc j all[j] (Array.getElem?_eq_getElem hjm) (fun e h1 h2 => ⟨hI.dc j all[j] (Array.getElem?_eq_getElem hjm) hl e h1 h2, hlt j all[j] (Array.getElem?_eq_getElem hjm) e h1 h2⟩) hlt i (hord.1 (by omega))
                exact hun this.1
              have hc' : ¬ (j < i) := by omega
              simp [hnl', hc']
        · rfl
      · rw [List.getElem?_eq_none (by rw [FL_length]; omega), List.getElem?_eq_none (by rw [FL_length]; omega)]
    | l j =>
      have := hloceq j (by simp only [IOq.uses, List.mem_append, List.mem_flatMap]; exact .inl (.inl ⟨.l j, hx, by simp [Opd.locs]⟩))
      simp only [rho, this]
    | _ => rfl
  have hextk : ∀ k' j, io.op = .ext k' j → ((List.range i).map vs)[k']? = loc'[k']? := fun k' j he =>
    (hloceq k' (by simp only [IOq.uses, List.mem_append, he]; exact .inl (.inr (by simp)))).symm
  have hscoped : ∀ x ∈ io.op.opds, (rho frL loc' x).inHeap (hs q).length := fun x hx => by
    have hp := hok.plain i io hik hio x hx
    cases x with
    | v s =>
      simp only [rho]
      rw [List.getD_eq_getElem?_getD]
      cases hq : frL[s]? with
      | none => trivial
      | some v =>
        have hs1 : s < slots.length := by rw [← hI.env.len]; exact (List.getElem?_eq_some_iff.1 hq).1
        have := (hI.env.fr_ok s slots[s] v (List.getElem?_eq_getElem hs1) hq).inHeap
        rw [shp_length] at this
        exact this
    | l j =>
      obtain ⟨u1, u2, ⟨t, ht⟩, io1, x1, x2⟩ := huse j (by simp only [IOq.uses, List.mem_append, List.mem_flatMap]; exact .inl (.inl ⟨.l j, hx, by simp [Opd.locs]⟩))
      simp only [rho, hloc' j u2, if_pos (show L.getD j false = true from u1)]
      have := hI.loc j (by omega) u1 io1 x1 x2 t ht
      split
      · rename_i v hv
        injection hv with hv
        rw [hv] at this
        have := VR.inHeap this
        rw [shp_length] at this
        exact this
      · trivial
    | c v =>
      cases v with
      | s s' => cases s' <;> simp [Opd.plain] at hp <;> simp [rho, V.inHeap, S.inHeap]
      | _ => simp [rho, V.inHeap]
  -- the invariant behind it
  have hdc' : DC all (Ld (L.setIfInBounds i true)) := by
    intro j o1 ho1 hj e he hb
    rw [Ld_set hiL] at hj ⊢
    rcases hj with hj | rfl
    · exact .inl (hI.dc j o1 ho1 hj e he hb)
    · rw [ho] at ho1; injection ho1 with ho1; subst ho1
      exact .inl (hready e he hb)
  have hmain' : ∀ j, k ≤ j → ¬ Ld (L.setIfInBounds i true) j := fun j hj => by
    rw [Ld_set hiL]
    rintro (q1 | rfl)
    · exact hI.main j hj q1
    · omega
  have fin : ∀ (q' : Nat) (β' : Beta) (w' : World) (u : Value), q' ≤ k → Rel (hs q') β' w' → Step n (hs q) β w (hs q') β' w' → RetV (shp (hs q')) β' (vs i) u → (∀ j, j < k → isAC ios j → (Ld (L.setIfInBounds i true) j ↔ j < q')) → K (a.put o.dst u) w' := by
    intro q' β' w' u hq' hR hS hv hac
    have hpL : ∀ j, j < k → ((L.setIfInBounds i true).getD j false = true ↔ L.getD j false = true ∨ j = i) := fun j _ => Ld_set hiL
    have hfl := FL_step (vs := vs) (fr := fr) hik hio hnd' hone hpL
    have he := hI.env.evo hS.evo
    refine hK q' β' (a.put o.dst u) w' u ⟨hq', hR, hI.step.trans hS, ?_, ?_, hac, by rw [size_put]; exact hI.sz, by simp [hI.lsz], hdc', hmain'⟩ hS rfl
    · rw [hfl]
      cases hdd : io.d with
      | none =>
        have : afterFr (FL ios k vs fr fun j => L.getD j false) none (vs i) = FL ios k vs fr fun j => L.getD j false := by unfold afterFr; split <;> rfl
        rw [this]
        refine ⟨fun s t x h1 h2 => ?_, he.len, fun t ht => by rw [size_put]; exact he.bound t ht, by intro t j hj; simp at hj, by rw [defers_put]; exact he.defers⟩
        cases hd : o.dst with
        | none => exact he.fr_ok s t x h1 h2
        | some t' =>
          have hne : t' ≠ t := fun e => hnl i o t' io hik ho hio hdd hd (e ▸ List.mem_of_getElem? h1)
          rw [getD_put_other hne]; exact he.fr_ok s t x h1 h2
      | some s0 =>
        rcases hone with h | ⟨v, hv1⟩
        · rw [hdd] at h; cases h
        obtain ⟨t, t1, t2⟩ := hdsl s0 hdd
        have hst0 := idxOf_get t2
        rw [hv1]
        simp only [afterFr, setv]
        refine ⟨fun s t' x h1 h2 => ?_, by rw [List.length_set]; exact he.len, fun t ht => by rw [size_put]; exact he.bound t ht, by intro t j hj; simp at hj, by rw [defers_put]; exact he.defers⟩
        rw [List.getElem?_set] at h2
        rw [t1]
        by_cases c : s0 = s
        · subst c
          simp only at h1
          rw [hst0] at h1
          injection h1 with h1; subst h1
          rw [if_pos rfl] at h2
          split at h2
          · injection h2 with h2; subst h2
            rw [getD_put_same (Nat.lt_of_lt_of_le (hNb o (List.mem_of_getElem? ho') t t1) hI.sz)]
            rw [hv1] at hv; exact hv
          · cases h2
        · rw [if_neg c] at h2
          have hne : t ≠ t' := by
            intro e; subst e
            obtain ⟨a1, a2⟩ := List.getElem?_eq_some_iff.1 hst0
            obtain ⟨b1, b2⟩ := List.getElem?_eq_some_iff.1 h1
            have pw := List.pairwise_iff_getElem.1 hnodup
            rcases Nat.lt_trichotomy s0 s with q1 | q1 | q1
            · exact pw s0 s a1 b1 q1 (a2.trans b2.symm)
            · exact c q1
            · exact pw s s0 b1 a1 q1 (b2.trans a2.symm)
          rw [getD_put_other hne]; exact he.fr_ok s t' x h1 h2
    · intro j hj hjl io1 x1 x2 t ht
      rw [Ld_set hiL] at hjl
      have hts : t ∉ slots := by
        cases hq : all[j]? with
        | none => rw [hq] at ht; cases ht
        | some o1 => rw [hq] at ht; exact hnl j o1 t io1 hj hq x1 x2 (by simpa using ht)
      by_cases c : j = i
      · subst c
        rw [ho] at ht
        simp only [Option.bind_some] at ht
        rw [ht, getD_put_same (Nat.lt_of_lt_of_le (hNb o (List.mem_of_getElem? ho') t ht) hI.sz)]
        exact hv
      · have hjl' : Ld L j := hjl.resolve_right c
        have hold := (hI.loc j hj hjl' io1 x1 x2 t ht).evo hS.evo
        cases hd : o.dst with
        | none => exact hold
        | some t' =>
          have hne : t' ≠ t := by
            intro e; subst e
            have hi' : (all[i]?).bind (·.dst) = some t' := by rw [ho]; simpa using hd
            rcases Nat.lt_trichotomy j i with c1 | c1 | c1
            · exact hdist j i t' c1 hik hts ht hi'
            · exact c c1
            · exact hdist i j t' c1 hj hts hi' ht
          rw [getD_put_other hne]; exact hold
  -- nothing new in memory
  have fin0 : ¬ isAC ios i → ∀ u, RetV (shp (hs q)) β (vs i) u → K (a.put o.dst u) w := fun hna u hv => by
    refine fin q β w u hI.qk hI.rel (Step.refl _ _ _ _) hv (fun j hj hac => ?_)
    rw [Ld_set hiL]
    constructor
    · rintro (h1 | rfl)
      · exact (hI.acq j hj hac).1 h1
      · exact absurd hac hna
    · exact fun h1 => .inl ((hI.acq j hj hac).2 h1)
  -- an operation that may lay rows: its heap is the text's
  have hq_i : isAC ios i → hs q = hs i := fun hac => by
    have hqi : q ≤ i := by
      rcases Nat.lt_or_ge i q with c | c
      · exact absurd ((hI.acq i hik hac).2 c) hun
      · exact c
    have := hs_flat (ios := ios) hflat (i - q) q (by omega) (fun j h1 h2 hjac => by
      obtain ⟨ioj, hj1, hj2⟩ := hjac
      obtain ⟨ioi, hi1, hi2⟩ := hac
      have hb := hok.ac j i ioj ioi (by omega) hik hj1 hi1 hj2 hi2
      have := (hI.acq j (by omega) ⟨ioj, hj1, hj2⟩).1 (hanc j hb).1
      omega)
    rw [show q + (i - q) = i by omega] at this
    exact this.symm
  have finA : isAC ios i → ∀ (β' : Beta) (w' : World) (u : Value), Rel (hs (i + 1)) β' w' → Step n (hs q) β w (hs (i + 1)) β' w' → RetV (shp (hs (i + 1))) β' (vs i) u → K (a.put o.dst u) w' := by
    intro hac β' w' u hR hS hv
    obtain ⟨q', q1, q2, q3, q4⟩ := next_ac ios (i + 1) (k - (i + 1))
    have hqq : hs q' = hs (i + 1) := by
      have := hs_flat (ios := ios) hflat (q' - (i + 1)) (i + 1) (by omega) (fun j h1 h2 => q3 j h1 (by omega))
      rwa [show i + 1 + (q' - (i + 1)) = q' by omega] at this
    refine fin q' β' w' u (by omega) (by rw [hqq]; exact hR) (by rw [hqq]; exact hS) (by rw [hqq]; exact hv) (fun j hj hjac => ?_)
    rw [Ld_set hiL]
    have hqi : q ≤ i := by
      rcases Nat.lt_or_ge i q with c | c
      · exact absurd ((hI.acq i hik hac).2 c) hun
      · exact c
    constructor
    · rintro (h1 | rfl)
      · have := (hI.acq j hj hjac).1 h1; omega
      · omega
    · intro h1
      by_cases c : j = i
      · exact .inr c
      · refine .inl ?_
        have hji : j < i := by
          rcases Nat.lt_or_ge j (i + 1) with c1 | c1
          · omega
          · exact absurd hjac (q3 j c1 h1)
        obtain ⟨ioj, hj1, hj2⟩ := hjac
        obtain ⟨ioi, hi1, hi2⟩ := hac
        exact (hanc j (hok.ac j i ioj ioi hji hik hj1 hi1 hj2 hi2)).1
  have hns : isAC ios i ∨ ¬ isAC ios i := Classical.em _
  have acI : isAC ios i ↔ io.op.ac = true := ⟨fun ⟨x, h1, h2⟩ => by rw [hio] at h1; injection h1 with h1; subst h1; exact h2, fun h => ⟨io, hio, h⟩⟩
  -- the operation is passed over
  have skip : vs i = [.u] ∧ hs (i + 1) = hs i → K (a.put o.dst undef) w := fun ⟨s1, s2⟩ => by
    rcases hns with hac | hna
    · have e := hq_i hac
      have e2 : hs (i + 1) = hs q := by rw [s2, e]
      refine finA hac β w undef (by rw [e2]; exact hI.rel) (by rw [e2]; exact Step.refl _ _ _ _) (by rw [s1]; rfl)
    · exact fin0 hna undef (by rw [s1]; rfl)
  -- the operation is carried out
  have run : (match io.op.kind with
      | .p => ∃ v, evalP (hs i) (rho (FL ios k vs fr fun j => decide (j < i)) ((List.range i).map vs)) ((List.range i).map vs) io.op = some v ∧ vs i = [v] ∧ hs (i + 1) = hs i
      | .e => ∃ v, evalE (hs i) (rho (FL ios k vs fr fun j => decide (j < i)) ((List.range i).map vs)) io.op = some (v, hs (i + 1), none) ∧ vs i = [v] ∧ ∃ g, hs (i + 1) = hs i ++ g
      | .c => ∃ f args, callOf (rho (FL ios k vs fr fun j => decide (j < i)) ((List.range i).map vs)) io.op = some (f, args) ∧ ACalls P (hs i).length f args (hs i) (fun r h'' => r = vs i ∧ h'' = hs (i + 1)) ∧ ∃ g, hs (i + 1) = hs i ++ g
      | .x => False) → o.wp P a w K Qc := by
    intro hrun
    cases hkk : io.op.kind with
    | x => rw [hkk] at hrun; exact absurd hrun (by simp)
    | p =>
      rw [hkk] at hrun
      obtain ⟨v, h1, h2, h3⟩ := hrun
      have hna : ¬ isAC ios i := by rw [acI]; simp [IOp.ac, hkk]
      rcases hcop with hb | hcop
      · rw [hb] at hkk; simp [IOp.kind] at hkk
      rw [evalP_congr hrho hextk] at h1
      have h1' : evalP (hs q) (rho frL loc') loc' io.op = some v := by
        rcases Nat.le_total q i with c | c
        · obtain ⟨g, hg⟩ := hs_ext hext i q c (by omega)
          rw [hg, evalP_shrink hscoped] at h1
          exact h1
        · obtain ⟨g, hg⟩ := hs_ext hext q i c hI.qk
          rw [hg]; exact evalP_app h1
      obtain ⟨u, u1, u2⟩ := evalP_all (P := P) hI.rel hE hcop h1'
      unfold Oper.wp
      rw [u1, Oper.upon_value]
      exact fin0 hna u (by rw [h2]; exact u2)
    | e =>
      rw [hkk] at hrun
      obtain ⟨v, h1, h2, h3⟩ := hrun
      have hac : isAC ios i := by rw [acI]; simp [IOp.ac, hkk]
      rcases hcop with hb | hcop
      · rw [hb] at hkk; simp [IOp.kind] at hkk
      have e := hq_i hac
      rw [evalE_congr hrho, ← e] at h1
      obtain ⟨nx, u, w', β', r1, r2, r3, r4, r5⟩ := evalE_ok (P := P) (n := n) hI.rel hE hcop h1 (by simp)
      unfold Oper.wp
      rw [r1]
      rcases r2 with rfl | ⟨rfl, rfl⟩
      · rw [Oper.upon_value]
        exact finA hac β' w' u r4 r5 (by rw [h2]; exact r3)
      · rw [Oper.upon_skip]
        exact finA hac β' w' undef r4 r5 (by rw [h2]; exact r3)
    | c =>
      rw [hkk] at hrun
      obtain ⟨f, args, h1, ⟨hcal, hcalls⟩, h3⟩ := hrun
      have hac : isAC ios i := by rw [acI]; simp [IOp.ac, hkk]
      rcases hcop with hb | hcop
      · rw [hb] at hkk; simp [IOp.kind] at hkk
      have e := hq_i hac
      rw [callOf_congr hrho] at h1
      obtain ⟨us, v1, v2⟩ := call_ok (P := P) (w := w) hE hcop h1 hcal
      unfold Oper.wp
      rw [v1, Oper.upon_enter]
      rw [← e] at hcalls
      refine (hcalls w β us hI.rel v2).mono ?_
      rintro e' w' ⟨rets, h', β', v, rfl, ⟨rfl, rfl⟩, hret, hrel, hst'⟩
      show K (a.put o.dst v) w'
      obtain ⟨g0, hg0⟩ := hs_ext hext q 0 (Nat.zero_le _) hI.qk
      exact finA hac β' w' v hrel (hst'.mono (by rw [hg0]; simp; omega)) hret
  unfold wpOp
  rw [ho]
  simp only
  unfold dstep at hstep
  cases hg : io.g with
  | none =>
    rw [hg] at hstep
    have hog : o.guard = none := by rw [← hgd]; exact hg
    have hw : Region.wanted o (yielded all a.tmps) = true := by simp [Region.wanted, hog]
    rw [if_pos hw]
    exact .inl (run hstep)
  | some gw =>
    obtain ⟨gi, want⟩ := gw
    rw [hg] at hstep
    have hog : o.guard = some (gi, want) := by rw [← hgd]; exact hg
    obtain ⟨g1, g2⟩ := guard_ok hE hRI hog (by rw [hEs]; exact hcg)
    have hgl := hloceq gi (by simp only [IOq.uses, List.mem_append, hg]; exact .inr (by simp))
    simp only at hstep
    split at hstep
    · rename_i x hx
      have hw := g1 x (by rw [hgl]; exact hx)
      by_cases c : x = want
      · rw [if_pos c] at hstep
        rw [hw, if_pos (by simpa using c)]
        exact .inl (run hstep)
      · rw [if_neg c] at hstep
        rw [hw, if_neg (by simpa using c)]
        exact skip hstep
    · rename_i hx
      rw [g2 (by rw [hgl]; exact hx), if_neg (by simp)]
      exact skip hstep
    · exact absurd hstep (by simp)

end
end Go.Px
