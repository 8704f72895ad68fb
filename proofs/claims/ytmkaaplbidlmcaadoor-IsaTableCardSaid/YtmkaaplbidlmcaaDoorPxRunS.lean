/- Own work over the kit: abstract memory, its rules, and the walk. -/
import Derived.Test.YtmkaaplbidlmcaaDoorPxRun
set_option linter.unusedVariables false
set_option linter.unusedSimpArgs false
namespace Go.Px

/-! ### what a run leaves alone -/
structure Inv (n : Nat) (h h' : Heap) : Prop where
  len : h.length ≤ h'.length
  low : ∀ r, r < n → r < h.length → h'[r]? = h[r]?
theorem Inv.refl (n h) : Inv n h h := ⟨Nat.le_refl _, fun _ _ _ => rfl⟩
theorem Inv.trans {n h h1 h2} (a : Inv n h h1) (b : Inv n h1 h2) : Inv n h h2 :=
  ⟨Nat.le_trans a.len b.len, fun r hr hl => (b.low r hr (Nat.lt_of_lt_of_le hl a.len)).trans (a.low r hr hl)⟩
theorem Inv.append (n h g) : Inv n h (h ++ g) := ⟨by simp, fun r _ hl => List.getElem?_append_left hl⟩
theorem Inv.mono {n n' h h'} (a : Inv n h h') (hn : n' ≤ n) : Inv n' h h' := ⟨a.len, fun r hr => a.low r (by omega)⟩
theorem Inv.ext {n h h'} (a : Inv n h h') (hn : h.length ≤ n) : ∃ g, h' = h ++ g := by
  refine ⟨h'.drop h.length, ?_⟩
  apply List.ext_getElem?
  intro i
  by_cases hi : i < h.length
  · rw [List.getElem?_append_left hi]; exact a.low i (by omega) hi
  · rw [List.getElem?_append_right (by omega), List.getElem?_drop]; congr 1; omega
theorem Inv.set {n : Nat} {h : Heap} {r : Nat} {row : Row} (hn : n ≤ r) : Inv n h (h.set r row) :=
  ⟨by simp, fun q hq _ => by rw [List.getElem?_set, if_neg (by omega)]⟩

theorem evalE_inv {n : Nat} {h : Heap} {ρ : Opd → V} {io : IOp} {v : V} {h' : Heap} {t : Option Nat} (e : evalE h ρ io = some (v, h', t)) (hn : ∀ r, t = some r → n ≤ r) :
    Inv n h h' ∧ (t = none → ∃ g, h' = h ++ g) := by
  have none_ok : ∀ {g : Heap}, h' = h ++ g → Inv n h h' ∧ (t = none → ∃ g, h' = h ++ g) := fun {g} hg => ⟨by rw [hg]; exact Inv.append _ _ _, fun _ => ⟨g, hg⟩⟩
  have same_ok : h' = h → Inv n h h' ∧ (t = none → ∃ g, h' = h ++ g) := fun hg => none_ok (g := []) (by rw [hg]; simp)
  have set_ok : ∀ {r : Nat} {row : Row}, h' = h.set r row → t = some r → Inv n h h' ∧ (t = none → ∃ g, h' = h ++ g) := fun hg ht =>
    ⟨by rw [hg]; exact Inv.set (hn _ ht), fun h0 => by rw [ht] at h0; cases h0⟩
  cases io <;> simp only [evalE] at e <;> try cases e
  case newv x => simp only [Option.map_eq_some_iff, Prod.mk.injEq] at e; obtain ⟨l, _, _, h2, _⟩ := e; exact none_ok h2.symm
  case mksl => simp only [Option.map_eq_some_iff, Prod.mk.injEq] at e; obtain ⟨l, _, _, h2, _⟩ := e; exact none_ok h2.symm
  case mks =>
    split at e <;> try cases e
    split at e <;> try cases e
    exact none_ok rfl
  case s2b =>
    split at e <;> try cases e
    split at e <;> try cases e
    exact none_ok rfl
  case st =>
    split at e <;> try cases e
    split at e <;> try cases e
    split at e <;> try cases e
    exact set_ok rfl rfl
  case app =>
    split at e <;> try cases e
    split at e <;> try cases e
    split at e
    · split at e <;> cases e <;> exact same_ok rfl
    · split at e <;> try cases e
      · split at e <;> try cases e
        exact none_ok rfl
      · split at e <;> try cases e
        split at e <;> try cases e
        split at e
        · split at e <;> try cases e
          exact set_ok rfl rfl
        · split at e <;> try cases e
          split at e
          · cases e; exact none_ok rfl
          · split at e <;> try cases e
            exact set_ok rfl rfl
  case clr =>
    split at e <;> try cases e
    · exact same_ok rfl
    · split at e <;> try cases e
      split at e <;> try cases e
      · exact same_ok rfl
      · split at e <;> try cases e
        split at e <;> try cases e
        exact set_ok rfl rfl
  case cpy =>
    split at e <;> try cases e
    split at e <;> try cases e
    split at e <;> try cases e
    · exact same_ok rfl
    · split at e <;> try cases e
      split at e <;> try cases e
      split at e <;> try cases e
      exact set_ok rfl rfl

/-! ### collecting -/
theorem renSs_ok {n0 : Nat} {sel : List Nat} : ∀ {l m : List S}, renSs n0 sel l = some m → l.length = m.length ∧ ∀ (j : Nat) (x y : S), l[j]? = some x → m[j]? = some y → renS n0 sel x = some y
  | [], m, e => by simp [renSs] at e; subst e; exact ⟨rfl, by simp⟩
  | x :: l, m, e => by
    simp only [renSs] at e
    split at e <;> try cases e
    rename_i y m' e1 e2
    obtain ⟨h1, h2⟩ := renSs_ok e2
    refine ⟨by simp [h1], fun j a b ha hb => ?_⟩
    cases j with
    | zero => simp at ha hb; subst ha hb; exact e1
    | succ j => exact h2 j a b (by simpa using ha) (by simpa using hb)
theorem renVs_ok {n0 : Nat} {sel : List Nat} : ∀ {l m : List V}, renVs n0 sel l = some m → l.length = m.length ∧ ∀ (j : Nat) (x y : V), l[j]? = some x → m[j]? = some y → renV n0 sel x = some y
  | [], m, e => by simp [renVs] at e; subst e; exact ⟨rfl, by simp⟩
  | x :: l, m, e => by
    simp only [renVs] at e
    split at e <;> try cases e
    rename_i y m' e1 e2
    obtain ⟨h1, h2⟩ := renVs_ok e2
    refine ⟨by simp [h1], fun j a b ha hb => ?_⟩
    cases j with
    | zero => simp at ha hb; subst ha hb; exact e1
    | succ j => exact h2 j a b (by simpa using ha) (by simpa using hb)
theorem renRows_ok {n0 : Nat} {sel : List Nat} {fresh : Heap} : ∀ {l : List Nat} {g : Heap}, renRows n0 sel fresh l = some g → g.length = l.length ∧ ∀ (j i : Nat), l[j]? = some i → ∃ row c, fresh[i]? = some row ∧ renSs n0 sel row.cells = some c ∧ g[j]? = some { row with cells := c }
  | [], g, e => by simp [renRows] at e; subst e; exact ⟨rfl, by simp⟩
  | i :: l, g, e => by
    simp only [renRows, nth_eq] at e
    split at e <;> try cases e
    rename_i row hrow
    split at e <;> try cases e
    rename_i c g' e1 e2
    obtain ⟨h1, h2⟩ := renRows_ok e2
    refine ⟨by simp [h1], fun j a ha => ?_⟩
    cases j with
    | zero => simp at ha; subst ha; exact ⟨row, c, hrow, e1, rfl⟩
    | succ j => obtain ⟨row', c', q1, q2, q3⟩ := h2 j a (by simpa using ha); exact ⟨row', c', q1, q2, by simpa using q3⟩
theorem nodupB_ok : ∀ {l : List Nat}, nodupB l = true → l.Nodup
  | [], _ => by simp
  | a :: l, h => by
    simp only [nodupB, Bool.and_eq_true, Bool.not_eq_true', List.elem_eq_mem, decide_eq_false_iff_not] at h
    exact List.nodup_cons.2 ⟨h.1, nodupB_ok h.2⟩

theorem gcTry_ok {n : Nat} {h h1 : Heap} {rets r2 : List V} {h2 : Heap} (e : gcTry n h h1 rets = some (r2, h2)) (hi : Inv n h h1) (hsc : HSc h) :
    (∃ σ, Tidy h.length h1 h2 σ ∧ VsWk (shp h1) (shp h2) σ rets r2) ∧ Inv n h h2 := by
  simp only [gcTry, forceN_eq, spine_eq, forceNs_eq] at e
  split at e <;> try cases e
  rename_i hold
  generalize mark h.length (h1.drop h.length) 1000 (rets.flatMap V.refs) [] = sel at e
  split at e <;> try cases e
  rename_i hnd
  split at e <;> try cases e
  rename_i g r hg hr
  simp only [forceRows_eq, forceVs_eq] at e
  split at e <;> try cases e
  rename_i hrw
  have hnd' := nodupB_ok hnd
  obtain ⟨g1, g2⟩ := renRows_ok hg
  have hn0 := hi.len
  have htl : (h1.take h.length).length = h.length := by simp; omega
  have hlen : (h1.take h.length ++ g).length = h.length + sel.length := by rw [List.length_append, htl, g1]
  have hlow : ∀ q, q < h.length → (h1.take h.length ++ g)[q]? = h1[q]? := fun q hq => by
    rw [List.getElem?_append_left (by omega), List.getElem?_take, if_pos hq]
  have hhigh : ∀ j i, sel[j]? = some i → ∃ row c, h1[h.length + i]? = some row ∧ renSs h.length sel row.cells = some c ∧ (h1.take h.length ++ g)[h.length + j]? = some { row with cells := c } := by
    intro j i hj
    obtain ⟨row, c, q1, q2, q3⟩ := g2 j i hj
    refine ⟨row, c, ?_, q2, ?_⟩
    · rw [List.getElem?_drop] at q1; exact q1
    · rw [List.getElem?_append_right (by omega), htl, show h.length + j - h.length = j by omega]; exact q3
  let σ : Nat → Nat := fun q => if q < h.length then q else h.length + sel.getD (q - h.length) 0
  have σlow : ∀ q, q < h.length → σ q = q := fun q hq => by simp [σ, hq]
  have σhigh : ∀ j i, sel[j]? = some i → σ (h.length + j) = h.length + i := fun j i hj => by
    simp only [σ, show ¬ h.length + j < h.length by omega, if_false, show h.length + j - h.length = j by omega, List.getD_eq_getElem?_getD, hj]; rfl
  have hself : ∀ q gn o, q < h.length → WkRef (shp h1) (shp (h1.take h.length ++ g)) σ q gn o q gn o := by
    intro q gn o hq
    have hq1 : q < h1.length := by omega
    refine ⟨h1[q].sh, h1[q].sh, shp_some (List.getElem?_eq_getElem hq1), ?_, σlow q hq, .inl ⟨rfl, rfl, rfl⟩⟩
    rw [shp_get, hlow q hq, List.getElem?_eq_getElem hq1]; rfl
  have href : ∀ q q' gn o, renR h.length sel q = some q' → WkRef (shp h1) (shp (h1.take h.length ++ g)) σ q gn o q' gn o := by
    intro q q' gn o hq
    unfold renR at hq
    split at hq
    · rename_i hlt; injection hq with hq; subst hq; exact hself _ _ _ hlt
    · rename_i hge
      rw [Option.map_eq_some_iff] at hq
      obtain ⟨j, hj, rfl⟩ := hq
      have hj' := idxOf_get hj
      obtain ⟨row, c, q1, q2, q3⟩ := hhigh j _ hj'
      have hs := σhigh j _ hj'
      have hqe : h.length + (q - h.length) = q := by omega
      rw [hqe] at q1 hs
      exact ⟨row.sh, Row.sh { row with cells := c }, shp_some q1, shp_some q3, hs, .inl ⟨rfl, rfl, rfl⟩⟩
  have hS : ∀ x y, renS h.length sel x = some y → Wk (shp h1) (shp (h1.take h.length ++ g)) σ x y := by
    intro x y hx
    cases x <;> simp only [renS] at hx
    case p =>
      split at hx <;> try cases hx
      rename_i q hq
      exact href _ _ _ _ hq
    case sl =>
      split at hx <;> try cases hx
      rename_i q hq
      exact ⟨href _ _ _ _ hq, rfl, rfl, .inr rfl, Nat.le_refl _, fun e => ⟨e, rfl⟩⟩
    case f fn caps =>
      split at hx <;> try cases hx
      rename_i l hl
      have key : ∀ {caps l : List (Nat × Nat × Nat)}, renCaps h.length sel caps = some l → caps.length = l.length ∧ ∀ (j : Nat) (c c' : Nat × Nat × Nat), caps[j]? = some c → l[j]? = some c' → renR h.length sel c.1 = some c'.1 ∧ c.2 = c'.2 := by
        intro caps
        induction caps with
        | nil => intro l e; simp [renCaps] at e; subst e; exact ⟨rfl, by simp⟩
        | cons a caps ih =>
          intro l e
          simp only [renCaps] at e
          split at e <;> try cases e
          rename_i r' l' e1 e2
          obtain ⟨k1, k2⟩ := ih e2
          refine ⟨by simp [k1], fun j c c' hc hc' => ?_⟩
          cases j with
          | zero => simp at hc hc'; subst hc hc'; exact ⟨e1, rfl⟩
          | succ j => exact k2 j c c' (by simpa using hc) (by simpa using hc')
      obtain ⟨k1, k2⟩ := key hl
      refine ⟨rfl, k1, fun j c c' hc hc' => ?_⟩
      obtain ⟨m1, m2⟩ := k2 j c c' hc hc'
      rw [← m2]
      exact href _ _ _ _ m1
    all_goals (cases hx; first | rfl | trivial)
  have hSs : ∀ l m, renSs h.length sel l = some m → WkL (shp h1) (shp (h1.take h.length ++ g)) σ l m := fun l m e =>
    ⟨(renSs_ok e).1, fun j x y hx hy => hS x y ((renSs_ok e).2 j x y hx hy)⟩
  have hSself : ∀ x : S, (∀ q ∈ x.refs, q < h.length) → Wk (shp h1) (shp (h1.take h.length ++ g)) σ x x := by
    intro x hx
    cases x <;> simp only [S.refs, List.mem_singleton, List.mem_map] at hx
    case p => exact hself _ _ _ (hx _ rfl)
    case sl => exact ⟨hself _ _ _ (hx _ rfl), rfl, rfl, .inr rfl, Nat.le_refl _, fun e => ⟨e, rfl⟩⟩
    case f fn caps =>
      refine ⟨rfl, rfl, fun j c c' hc hc' => ?_⟩
      rw [hc] at hc'; injection hc' with hc'; subst hc'
      exact hself _ _ _ (hx _ ⟨c, List.mem_of_getElem? hc, rfl⟩)
    all_goals rfl
  have hrefs : ∀ (q : Nat) (row : Row) (j : Nat) (x : S), q < h.length → h1[q]? = some row → row.cells[j]? = some x → ∀ z ∈ x.refs, z < h.length := by
    intro q row j x hq hrow hx
    by_cases hqn : q < n
    · have := hi.low q hqn hq
      rw [hrow] at this
      exact hsc q row j x this.symm hx
    · rw [Bool.or_eq_true] at hold
      rcases hold with ho | ho
      · have := Nat.le_of_ble_eq_true ho; omega
      · unfold oldIn at ho
        have hmem : row ∈ (h1.take h.length).drop n := by
          apply List.mem_of_getElem? (i := q - n)
          rw [List.getElem?_drop, List.getElem?_take, if_pos (by omega), show n + (q - n) = q by omega, hrow]
        have := (List.all_eq_true.1 ((List.all_eq_true.1 ho) row hmem)) x (List.mem_of_getElem? hx)
        unfold S.inB at this
        intro z hz
        have := (List.all_eq_true.1 this) z hz
        simp [Nat.blt] at this; omega
  refine ⟨⟨σ, ⟨σlow, by omega, ?_, ?_, ?_⟩, ?_⟩, by rw [hlen]; omega, fun q hq hql => (hlow q hql).trans (hi.low q hq hql)⟩
  · intro q row2 hq
    by_cases hlt : q < h.length
    · rw [hlow q hlt] at hq
      rw [σlow q hlt]
      exact ⟨row2, hq, rfl, fun _ => rfl, fun k => by omega, rfl, fun j x y hx hy => by
        rw [hx] at hy; injection hy with hy; subst hy
        exact hSself x (hrefs q row2 j x hlt hq hx)⟩
    · have hql : q < h.length + sel.length := by rw [← hlen]; exact (List.getElem?_eq_some_iff.1 hq).1
      have hj : sel[q - h.length]? = some sel[q - h.length] := List.getElem?_eq_getElem (by omega)
      obtain ⟨row, c, q1, q2, q3⟩ := hhigh _ _ hj
      have hs := σhigh _ _ hj
      rw [show h.length + (q - h.length) = q by omega] at q3 hs
      rw [q3] at hq; injection hq with hq; subst hq
      exact ⟨row, by rw [hs]; exact q1, rfl, fun k => by omega, fun _ => by rw [hs]; omega, hSs _ _ q2⟩
  · intro a b ha hb hab
    rw [hlen] at ha hb
    by_cases ha' : a < h.length <;> by_cases hb' : b < h.length
    · rwa [σlow a ha', σlow b hb'] at hab
    · have hj : sel[b - h.length]? = some sel[b - h.length] := List.getElem?_eq_getElem (by omega)
      have hs := σhigh _ _ hj
      rw [show h.length + (b - h.length) = b by omega] at hs
      rw [σlow a ha', hs] at hab; omega
    · have hj : sel[a - h.length]? = some sel[a - h.length] := List.getElem?_eq_getElem (by omega)
      have hs := σhigh _ _ hj
      rw [show h.length + (a - h.length) = a by omega] at hs
      rw [σlow b hb', hs] at hab; omega
    · have hj : sel[a - h.length]? = some sel[a - h.length] := List.getElem?_eq_getElem (by omega)
      have hs := σhigh _ _ hj
      have hk : sel[b - h.length]? = some sel[b - h.length] := List.getElem?_eq_getElem (by omega)
      have ht := σhigh _ _ hk
      rw [show h.length + (a - h.length) = a by omega] at hs
      rw [show h.length + (b - h.length) = b by omega] at ht
      rw [hs, ht] at hab
      have := (List.getElem_inj hnd').1 (show sel[a - h.length] = sel[b - h.length] by omega)
      omega
  · intro q row2 hq e2 hw _
    rw [List.getElem?_append_right (by omega)] at e2
    rw [(List.all_eq_true.1 hrw) row2 (List.mem_of_getElem? e2)] at hw
    cases hw
  · obtain ⟨k1, k2⟩ := renVs_ok hr
    refine ⟨k1, fun j x y hx hy => ?_⟩
    have := k2 j x y hx hy
    cases x <;> simp only [renV] at this
    case s x =>
      split at this <;> try cases this
      rename_i y' hy'
      exact hS _ _ hy'
    case a l =>
      split at this <;> try cases this
      rename_i m hm
      exact hSs _ _ hm
    all_goals (cases this; trivial)


theorem gcTry_inv {n : Nat} {h h1 : Heap} {rets r2 : List V} {h2 : Heap} (e : gcTry n h h1 rets = some (r2, h2)) (hi : Inv n h h1) : Inv n h h2 := by
  simp only [gcTry, forceN_eq, spine_eq, forceNs_eq] at e
  split at e <;> try cases e
  split at e <;> try cases e
  split at e <;> try cases e
  simp only [forceRows_eq, forceVs_eq] at e
  split at e <;> try cases e
  have hn0 := hi.len
  have htl : (h1.take h.length).length = h.length := by simp; omega
  refine ⟨by rw [List.length_append, htl]; omega, fun q hq hql => ?_⟩
  rw [List.getElem?_append_left (by omega), List.getElem?_take, if_pos hql]
  exact hi.low q hq hql

theorem Step.top {h β w h1 β1 w1} (a : Step h.length h β w h1 β1 w1) (n : Nat) : Step n h β w h1 β1 w1 :=
  ⟨a.os, a.tape, a.output, a.size, a.evo, a.old, a.new, fun b hb hno => a.frame b hb (fun r s hr hs => by
    have := (List.getElem?_eq_some_iff.1 hs).1
    rw [shp_length] at this
    omega)⟩
theorem ACalls.top {P f args h R} (a : ACalls P h.length f args h R) (n : Nat) : ACalls P n f args h R :=
  ⟨a.1, fun w β vs h1 h2 => (a.2 w β vs h1 h2).mono fun e w' ⟨rets, h', β', v, e1, e2, e3, e4, e5⟩ => ⟨rets, h', β', v, e1, e2, e3, e4, e5.top n⟩⟩

/-! ### the run is sound -/
theorem Inv.pre {G : Heap} {n h h'} (a : Inv n h h') (hn : G.length ≤ n) (hp : Pre G h) : Pre G h' := fun r row e => by
  have h1 := hp r row e
  have hr := (List.getElem?_eq_some_iff.1 e).1
  rw [a.low r (by omega) (List.getElem?_eq_some_iff.1 h1).1]; exact h1

def CallOk (P : Program) (G : Heap) (call : Call) : Prop := ∀ n f args h rets h', G.length ≤ n → Pre G h → call n f args h = some (rets, h') → ACalls P n f args h (fun r h1 => r = rets ∧ h1 = h') ∧ Inv n h h'

theorem pxR_ok {P : Program} {G : Heap} {call : Call} (hc : CallOk P G call) {n : Nat} (hn : G.length ≤ n) : ∀ (ops : List IOq) (fr : List V) (loc : Loc) (h : Heap) (fr' : List V) (h' : Heap), Pre G h → pxR n call ops fr loc h = some (fr', h') →
    (∀ Q : List V → Heap → Prop, Q fr' h' → rwp P n Q ops fr loc h) ∧ Inv n h h'
  | [], fr, loc, h, fr', h', hp, e => by
    simp only [pxR, Option.some.injEq, Prod.mk.injEq] at e
    obtain ⟨rfl, rfl⟩ := e
    exact ⟨fun Q hq => hq, Inv.refl _ _⟩
  | o :: os, fr, loc, h, fr', h', hp, e => by
    have ih := pxR_ok hc hn os
    simp only [pxR, setvK_eq, snocK_eq, forceOp_eq, forceV_eq, forceH_eq, rhoF_eq, nth_eq] at e
    have hskip : pxR n call os (setv fr o.d .u) (loc ++ [[.u]]) h = some (fr', h') → (∀ Q : List V → Heap → Prop, Q fr' h' → rwp P n Q os (setv fr o.d .u) (loc ++ [[.u]]) h) ∧ Inv n h h' := fun e => ih _ _ _ _ _ hp e
    have hgo : (match o.op.kind with
      | .p => match tupMov loc o.op with
        | some vs => match o.d with
          | none => pxR n call os fr (loc ++ [vs]) h
          | some _ => none
        | none => match evalP h (rho fr loc) loc o.op with
          | some v => pxR n call os (setv fr o.d v) (loc ++ [[v]]) h
          | none => none
      | .e => match evalE h (rho fr loc) o.op with
        | some (v, h', t) => match (match t with | some r => Nat.ble n r | none => true) with
          | true => pxR n call os (setv fr o.d v) (loc ++ [[v]]) h'
          | false => none
        | none => none
      | .c => match callOf (rho fr loc) o.op with
        | some (f, args) => match call n f args h with
          | some (rets, h') => match rets with
            | [x] => pxR n call os (setv fr o.d x) (loc ++ [[x]]) h'
            | _ => match o.d with
              | none => pxR n call os fr (loc ++ [rets]) h'
              | some _ => none
          | none => none
        | none => none
      | .x => none) = some (fr', h') →
      (∀ Q : List V → Heap → Prop, Q fr' h' → (match o.op.kind with
      | .p => match tupMov loc o.op with
        | some vs => o.d = none ∧ rwp P n Q os fr (loc ++ [vs]) h
        | none => ∃ v, evalP h (rho fr loc) loc o.op = some v ∧ rwp P n Q os (setv fr o.d v) (loc ++ [[v]]) h
      | .e => ∃ v h' t, evalE h (rho fr loc) o.op = some (v, h', t) ∧ (∀ r, t = some r → n ≤ r) ∧ rwp P n Q os (setv fr o.d v) (loc ++ [[v]]) h'
      | .c => ∃ f args, callOf (rho fr loc) o.op = some (f, args) ∧ ACalls P n f args h fun rets h' => (∃ x, rets = [x] ∧ rwp P n Q os (setv fr o.d x) (loc ++ [[x]]) h') ∨ (rets.length ≠ 1 ∧ o.d = none ∧ rwp P n Q os fr (loc ++ [rets]) h')
      | .x => False)) ∧ Inv n h h' := by
      intro e
      split at e
      · split at e
        · rename_i vs htm
          split at e <;> try cases e
          rename_i hd
          obtain ⟨i1, i2⟩ := ih _ _ _ _ _ hp e
          exact ⟨fun Q hq => ⟨hd, i1 Q hq⟩, i2⟩
        · rename_i htm
          split at e <;> try cases e
          rename_i v hv
          obtain ⟨i1, i2⟩ := ih _ _ _ _ _ hp e
          exact ⟨fun Q hq => ⟨v, hv, i1 Q hq⟩, i2⟩
      · split at e <;> try cases e
        rename_i v h1 t hv
        split at e <;> try cases e
        rename_i ht
        have hn' : ∀ r, t = some r → n ≤ r := by
          rintro r rfl
          exact Nat.le_of_ble_eq_true ht
        obtain ⟨i1, i2⟩ := ih _ _ _ _ _ ((evalE_inv hv hn').1.pre hn hp) e
        exact ⟨fun Q hq => ⟨v, h1, t, hv, hn', i1 Q hq⟩, (evalE_inv hv hn').1.trans i2⟩
      · split at e <;> try cases e
        rename_i f args hv
        split at e <;> try cases e
        rename_i rets h1 hcall
        obtain ⟨a1, a2⟩ := hc _ _ _ _ _ _ hn hp hcall
        split at e
        · rename_i x
          obtain ⟨i1, i2⟩ := ih _ _ _ _ _ (a2.pre hn hp) e
          exact ⟨fun Q hq => ⟨f, args, hv, a1.mono fun r h2 ⟨q1, q2⟩ => by subst q1 q2; exact .inl ⟨x, rfl, i1 Q hq⟩⟩, a2.trans i2⟩
        · rename_i hne
          split at e <;> try cases e
          rename_i hd
          obtain ⟨i1, i2⟩ := ih _ _ _ _ _ (a2.pre hn hp) e
          exact ⟨fun Q hq => ⟨f, args, hv, a1.mono fun r h2 ⟨q1, q2⟩ => by
            subst q1 q2
            exact .inr ⟨fun hl => by obtain ⟨x, rfl⟩ := List.length_eq_one_iff.1 hl; exact hne x rfl, hd, i1 Q hq⟩⟩, a2.trans i2⟩
      · cases e
    simp only [rwp]
    cases hg : o.g with
    | none =>
      rw [hg] at e
      obtain ⟨i1, i2⟩ := hgo e
      exact ⟨fun Q hq => i1 Q hq, i2⟩
    | some gw =>
      obtain ⟨gi, want⟩ := gw
      rw [hg] at e
      simp only at e ⊢
      split at e
      · rename_i x hx
        simp only [hx]
        split at e
        · rename_i hxw
          have hxw : x = want := by simpa using hxw
          simp only [if_pos hxw]
          obtain ⟨i1, i2⟩ := hgo e
          exact ⟨fun Q hq => i1 Q hq, i2⟩
        · rename_i hxw
          have hxw : ¬ x = want := by simpa using hxw
          simp only [if_neg hxw]
          exact hskip e
      · rename_i hx
        simp only [hx]
        exact hskip e
      · cases e

theorem pxD_ok {P : Program} {G : Heap} {call : Call} (hc : CallOk P G call) : ∀ (ops : List IOq) (fr : List V) (loc : Loc) (h : Heap) (fr' : List V) (loc' : Loc) (h' : Heap), Pre G h → pxD call ops fr loc h = some (fr', loc', h') →
    (∀ K : List V → Loc → Heap → Prop, K fr' loc' h' → dwp P K ops fr loc h) ∧ ∃ g, h' = h ++ g
  | [], fr, loc, h, fr', loc', h', hp, e => by
    simp only [pxD, Option.some.injEq, Prod.mk.injEq] at e
    obtain ⟨rfl, rfl, rfl⟩ := e
    exact ⟨fun Q hq => hq, [], by simp⟩
  | o :: os, fr, loc, h, fr', loc', h', hp, e => by
    have ih := pxD_ok hc os
    simp only [pxD, setvK_eq, snocK_eq, forceOp_eq, forceV_eq, forceH_eq, forceN_eq, rhoF_eq, nth_eq] at e
    -- one step with one value
    have one_ok : ∀ (v : V) (h1 g : Heap), dstep P fr o loc h [v] h1 → h1 = h ++ g → pxD call os (setv fr o.d v) (loc ++ [[v]]) h1 = some (fr', loc', h') →
        (∀ K : List V → Loc → Heap → Prop, K fr' loc' h' → dwp P K (o :: os) fr loc h) ∧ ∃ g, h' = h ++ g := by
      intro v h1 g hd hg e
      obtain ⟨i1, g2, i2⟩ := ih _ _ _ _ _ _ (hg ▸ hp.append g) e
      exact ⟨fun K hK => ⟨[v], h1, hd, .inl ⟨v, rfl, i1 K hK⟩⟩, g ++ g2, by rw [i2, hg, List.append_assoc]⟩
    have many_ok : ∀ (vs : List V) (h1 g : Heap), vs.length ≠ 1 → o.d = none → dstep P fr o loc h vs h1 → h1 = h ++ g → pxD call os fr (loc ++ [vs]) h1 = some (fr', loc', h') →
        (∀ K : List V → Loc → Heap → Prop, K fr' loc' h' → dwp P K (o :: os) fr loc h) ∧ ∃ g, h' = h ++ g := by
      intro vs h1 g hl hn hd hg e
      obtain ⟨i1, g2, i2⟩ := ih _ _ _ _ _ _ (hg ▸ hp.append g) e
      exact ⟨fun K hK => ⟨vs, h1, hd, .inr ⟨hl, hn, i1 K hK⟩⟩, g ++ g2, by rw [i2, hg, List.append_assoc]⟩
    have hgo : (match o.op.kind with
      | .p => match evalP h (rho fr loc) loc o.op with
        | some v => pxD call os (setv fr o.d v) (loc ++ [[v]]) h
        | none => none
      | .e => match evalE h (rho fr loc) o.op with
        | some (v, h', none) => pxD call os (setv fr o.d v) (loc ++ [[v]]) h'
        | _ => none
      | .c => match callOf (rho fr loc) o.op with
        | some (f, args) => match call h.length f args h with
          | some (rets, h') => match rets with
            | [x] => pxD call os (setv fr o.d x) (loc ++ [[x]]) h'
            | _ => match o.d with
              | none => pxD call os fr (loc ++ [rets]) h'
              | some _ => none
          | none => none
        | none => none
      | .x => none) = some (fr', loc', h') →
      (∀ vs h1, (match o.op.kind with
        | .p => ∃ v, evalP h (rho fr loc) loc o.op = some v ∧ vs = [v] ∧ h1 = h
        | .e => ∃ v, evalE h (rho fr loc) o.op = some (v, h1, none) ∧ vs = [v] ∧ ∃ g, h1 = h ++ g
        | .c => ∃ f args, callOf (rho fr loc) o.op = some (f, args) ∧ ACalls P h.length f args h (fun r h'' => r = vs ∧ h'' = h1) ∧ ∃ g, h1 = h ++ g
        | .x => False) → dstep P fr o loc h vs h1) → (∀ K : List V → Loc → Heap → Prop, K fr' loc' h' → dwp P K (o :: os) fr loc h) ∧ ∃ g, h' = h ++ g := by
      intro e hd
      cases hk : o.op.kind <;> simp only [hk] at e hd
      · split at e <;> try cases e
        rename_i v hv
        exact one_ok v h [] (hd _ _ ⟨v, hv, rfl, rfl⟩) (by simp) e
      · split at e <;> try cases e
        rename_i v h1 hv
        obtain ⟨g, hg⟩ := (evalE_inv (n := 0) hv (by simp)).2 rfl
        exact one_ok v h1 g (hd _ _ ⟨v, hv, rfl, g, hg⟩) hg e
      · split at e <;> try cases e
        rename_i f args hv
        split at e <;> try cases e
        rename_i rets h1 hcall
        obtain ⟨a1, a2⟩ := hc _ _ _ _ _ _ hp.len hp hcall
        obtain ⟨g, hg⟩ := a2.ext (Nat.le_refl _)
        split at e
        · rename_i x
          exact one_ok x h1 g (hd _ _ ⟨f, args, hv, a1, g, hg⟩) hg e
        · rename_i hne
          split at e <;> try cases e
          rename_i hdn
          exact many_ok rets h1 g (fun hl => by obtain ⟨x, rfl⟩ := List.length_eq_one_iff.1 hl; exact hne x rfl) hdn (hd _ _ ⟨f, args, hv, a1, g, hg⟩) hg e
      · cases e
    cases hg : o.g with
    | none =>
      rw [hg] at e
      exact hgo e fun vs h1 hx => by unfold dstep; rw [hg]; exact hx
    | some gw =>
      obtain ⟨gi, want⟩ := gw
      rw [hg] at e
      simp only at e
      split at e
      · rename_i x hx
        split at e
        · rename_i hxw
          have hxw : x = want := by simpa using hxw
          exact hgo e fun vs h1 hy => by unfold dstep; simp only [hg, hx, if_pos hxw]; exact hy
        · rename_i hxw
          have hxw : ¬ x = want := by simpa using hxw
          exact one_ok .u h [] (by unfold dstep; simp [hg, hx, if_neg hxw]) (by simp) e
      · rename_i hx
        exact one_ok .u h [] (by unfold dstep; simp [hg, hx]) (by simp) e
      · cases e

theorem least {p : Nat → Prop} (h : ∃ k, p k) : ∃ k, p k ∧ ∀ m, p m → k ≤ m := by
  obtain ⟨k, hk⟩ := h
  induction k using Nat.strongRecOn with
  | _ k ih =>
    by_cases hx : ∃ m, m < k ∧ p m
    · obtain ⟨m, hm, hp⟩ := hx; exact ih m hm hp
    · exact ⟨k, hk, fun m hp => Nat.le_of_not_lt fun hlt => hx ⟨m, hlt, hp⟩⟩

theorem pxC_ok {P : Program} {G : Heap} {call : Call} (hc : CallOk P G call) {n fuel : Nat} (hn : G.length ≤ n) : ∀ (ic : IC) (fr : List V) (h : Heap) (e : Ex) (fr' : List V) (h' : Heap), Pre G h → pxC n call fuel ic fr h = some (e, fr', h') →
    (∀ Q : Ex → List V → Heap → Prop, Q e fr' h' → iwp P n ic Q fr h) ∧ Inv n h h'
  | .skip, fr, h, e, fr', h', hp, eq => by
    simp only [pxC, Option.some.injEq, Prod.mk.injEq] at eq
    obtain ⟨rfl, rfl, rfl⟩ := eq
    exact ⟨fun Q hq => hq, Inv.refl _ _⟩
  | .exit id, fr, h, e, fr', h', hp, eq => by
    simp only [pxC, Option.some.injEq, Prod.mk.injEq] at eq
    obtain ⟨rfl, rfl, rfl⟩ := eq
    exact ⟨fun Q hq => hq, Inv.refl _ _⟩
  | .ret, fr, h, e, fr', h', hp, eq => by
    simp only [pxC, Option.some.injEq, Prod.mk.injEq] at eq
    obtain ⟨rfl, rfl, rfl⟩ := eq
    exact ⟨fun Q hq => hq, Inv.refl _ _⟩
  | .reg ops, fr, h, e, fr', h', hp, eq => by
    simp only [pxC] at eq
    split at eq <;> try cases eq
    rename_i heq
    obtain ⟨i1, i2⟩ := pxR_ok hc hn _ _ _ _ _ _ hp heq
    exact ⟨fun Q hq => i1 _ hq, i2⟩
  | .dreg k ops, fr, h, e, fr', h', hp, eq => by
    simp only [pxC] at eq
    split at eq <;> try cases eq
    rename_i hle
    split at eq <;> try cases eq
    rename_i fr1 loc1 h1 heq
    split at eq <;> try cases eq
    rename_i heq2
    obtain ⟨i1, g, i2⟩ := pxD_ok hc _ _ _ _ _ _ _ hp heq
    obtain ⟨j1, j2⟩ := pxR_ok hc hn _ _ _ _ _ _ (i2 ▸ hp.append g) heq2
    refine ⟨fun Q hq => ⟨(lenGe_iff _ _).1 hle, i1 _ (j1 _ hq)⟩, ?_⟩
    rw [i2] at j2
    exact (Inv.append _ _ _).trans j2
  | .seq a b, fr, h, e, fr', h', hp, eq => by
    simp only [pxC] at eq
    split at eq <;> try cases eq
    rename_i e1 fr1 h1 heq
    obtain ⟨i1, i2⟩ := pxC_ok hc hn a _ _ _ _ _ hp heq
    split at eq
    · obtain ⟨j1, j2⟩ := pxC_ok hc hn b _ _ _ _ _ (i2.pre hn hp) eq
      exact ⟨fun Q hq => i1 _ (j1 Q hq), i2.trans j2⟩
    · rename_i hne
      injection eq with eq
      simp only [Prod.mk.injEq] at eq
      obtain ⟨rfl, rfl, rfl⟩ := eq
      refine ⟨fun Q hq => i1 _ ?_, i2⟩
      cases e1 <;> first | exact absurd rfl hne | exact hq
  | .cond c a b, fr, h, e, fr', h', hp, eq => by
    simp only [pxC, rhoF_eq] at eq
    split at eq <;> try cases eq
    rename_i t ht
    split at eq
    · obtain ⟨i1, i2⟩ := pxC_ok hc hn a _ _ _ _ _ hp eq
      exact ⟨fun Q hq => ⟨true, ht, i1 Q hq⟩, i2⟩
    · obtain ⟨i1, i2⟩ := pxC_ok hc hn b _ _ _ _ _ hp eq
      exact ⟨fun Q hq => ⟨false, ht, i1 Q hq⟩, i2⟩
  | .blk id body, fr, h, e, fr', h', hp, eq => by
    simp only [pxC] at eq
    split at eq <;> try cases eq
    rename_i e1 fr1 h1 heq
    obtain ⟨i1, i2⟩ := pxC_ok hc hn body _ _ _ _ _ hp heq
    split at eq
    · rename_i i
      split at eq
      · rename_i hid
        have hid := Nat.eq_of_beq_eq_true hid
        injection eq with eq
        simp only [Prod.mk.injEq] at eq
        obtain ⟨rfl, rfl, rfl⟩ := eq
        exact ⟨fun Q hq => i1 _ (by simp only [if_pos hid]; exact hq), i2⟩
      · rename_i hid
        have hid := Nat.ne_of_beq_eq_false hid
        injection eq with eq
        simp only [Prod.mk.injEq] at eq
        obtain ⟨rfl, rfl, rfl⟩ := eq
        exact ⟨fun Q hq => i1 _ (by simp only [if_neg hid]; exact hq), i2⟩
    · rename_i hne
      injection eq with eq
      simp only [Prod.mk.injEq] at eq
      obtain ⟨rfl, rfl, rfl⟩ := eq
      refine ⟨fun Q hq => i1 _ ?_, i2⟩
      cases e1 <;> first | exact absurd rfl (hne _) | exact hq
  | .loop body, fr, h, e, fr', h', hp, eq => by
    have ih := pxC_ok hc (fuel := fuel) hn body
    simp only [pxC] at eq
    -- states from which the loop ends as told
    let ok : Nat → List V → Heap → Prop := fun k fr h => pxL (pxC n call fuel body) k fr h = some (e, fr', h')
    have inv : ∀ k fr h, Pre G h → ok k fr h → Inv n h h' := by
      intro k
      induction k with
      | zero => intro fr h _ hk; simp [ok, pxL] at hk
      | succ k ihk =>
        intro fr h hp hk
        simp only [ok, pxL] at hk
        split at hk <;> try cases hk
        rename_i e1 fr1 h1 heq
        obtain ⟨_, i2⟩ := ih _ _ _ _ _ hp heq
        split at hk
        · exact i2.trans (ihk _ _ (i2.pre hn hp) hk)
        · injection hk with hk
          simp only [Prod.mk.injEq] at hk
          obtain ⟨rfl, rfl, rfl⟩ := hk
          exact i2
    refine ⟨fun Q hq => ?_, inv _ _ _ hp eq⟩
    classical
    let μ : List V → Heap → Nat := fun fr h => if hx : ∃ k, ok k fr h then (least hx).choose else 0
    refine ⟨fun fr h => Pre G h ∧ ∃ k, ok k fr h, μ, ⟨hp, fuel, eq⟩, fun fr h ⟨hp, hI⟩ => ?_⟩
    have hμ : μ fr h = (least hI).choose := by simp only [μ]; rw [dif_pos hI]
    have hok := (least hI).choose_spec.1
    rw [← hμ] at hok
    generalize μ fr h = k at hok
    cases k with
    | zero => simp [ok, pxL] at hok
    | succ k =>
      simp only [ok, pxL] at hok
      split at hok <;> try cases hok
      rename_i e1 fr1 h1 heq
      obtain ⟨i1, i2⟩ := ih _ _ _ _ _ hp heq
      refine i1 _ ?_
      split at hok
      · have hex : ∃ k, ok k fr1 h1 := ⟨k, hok⟩
        refine ⟨⟨i2.pre hn hp, hex⟩, ?_⟩
        have : μ fr1 h1 = (least hex).choose := by simp only [μ]; rw [dif_pos hex]
        rw [this]
        have := (least hex).choose_spec.2 _ hok
        omega
      · rename_i hne
        injection hok with hok
        simp only [Prod.mk.injEq] at hok
        obtain ⟨rfl, rfl, rfl⟩ := hok
        cases e1 <;> first | exact absurd rfl hne | exact hq

theorem getT_mem : ∀ {T : List (Nat × IFn)} {f : Nat} {fn : IFn}, getT T f = some fn → (f, fn) ∈ T
  | [], _, _, e => by simp [getT] at e
  | (k, x) :: l, f, fn, e => by
    simp only [getT] at e
    split at e
    · rename_i hk
      have := Nat.eq_of_beq_eq_true hk
      injection e with e; subst e this
      simp
    · exact List.mem_cons_of_mem _ (getT_mem e)

def TOk (P : Program) (T : List (Nat × IFn)) : Prop := ∀ x ∈ T, FnIs P x.1 x.2
def OrcOk (P : Program) (G : Heap) (O : Orc) : Prop := ∀ f args r g (H : Heap), Pre G H → O f args H = some (r, g) → ACalls P H.length f args H (fun r' h' => r' = r ∧ h' = H ++ g)

theorem pxF_ok {P : Program} (hm : P.follows .mixedOrders = true) {T : List (Nat × IFn)} {O : Orc} {G : Heap} {fuel : Nat} (hT : TOk P T) (hO : OrcOk P G O) : ∀ d, CallOk P G (pxF T O fuel d)
  | 0 => by intro n f args h rets h' _ _ e; simp [pxF] at e
  | d + 1 => by
    intro n f args h rets h' hn hp e
    simp only [pxF, spineVs_eq, forceN_eq, forceRows_eq, forceVs_eq, spine_eq] at e
    split at e
    · rename_i r g ho
      injection e with e
      simp only [Prod.mk.injEq] at e
      obtain ⟨rfl, rfl⟩ := e
      exact ⟨(hO _ _ _ _ h hp ho).top n, Inv.append _ _ _⟩
    · split at e <;> try cases e
      rename_i fn hfn
      split at e <;> try cases e
      rename_i hna
      have hna := Nat.eq_of_beq_eq_true hna
      split at e <;> try cases e
      rename_i ex fr1 h1 hrun
      have hF := hT _ (getT_mem hfn)
      obtain ⟨i1, i2⟩ := pxC_ok (pxF_ok hm hT hO d) hn _ _ _ _ _ _ hp hrun
      split at e <;> try cases e
      rename_i hex
      split at e <;> try cases e
      rename_i rets1 hres
      have hraw : ACalls P n f args h (fun r h2 => r = rets1 ∧ h2 = h1) :=
        acalls_raw hm hF hna (i1 _ ⟨by cases ex <;> first | trivial | exact absurd rfl (hex _), rets1, hres, rfl, rfl⟩)
      simp only [gc] at e
      have same : (rets1, h1) = (rets, h') → ACalls P n f args h (fun r h1 => r = rets ∧ h1 = h') ∧ Inv n h h' := fun q => by
        simp only [Prod.mk.injEq] at q
        obtain ⟨rfl, rfl⟩ := q
        exact ⟨hraw, i2⟩
      injection e with e
      split at e
      · split at e
        · rename_i x hx
          subst e
          refine ⟨hraw.tidy fun hsc r h2 ⟨q1, q2⟩ => ?_, ?_⟩
          · subst q1 q2
            obtain ⟨⟨σ, t1, t2⟩, _⟩ := gcTry_ok hx i2 hsc
            exact ⟨_, _, σ, t1, t2, rfl, rfl⟩
          · exact gcTry_inv hx i2
        · exact same e
      · exact same e


theorem orc2_ok {P : Program} {G : Heap} {a b : Orc} (ha : OrcOk P G a) (hb : OrcOk P G b) : OrcOk P G (orc2 a b) := by
  intro f args r g H hp e
  simp only [orc2] at e
  split at e
  · rename_i x hx; injection e with e; subst e; exact ha _ _ _ _ _ hp hx
  · exact hb _ _ _ _ _ hp e

/-- An entry of the memo that is true. -/
def EntryOk (P : Program) (G : Heap) (x : Nat × List V × List V × Heap) : Prop := ∀ H : Heap, Pre G H →
  ACalls P H.length x.1 x.2.1 H (fun r h => r = x.2.2.1.map (V.shift G.length (H.length - G.length)) ∧ h = H ++ x.2.2.2.map (Row.shift G.length (H.length - G.length)))
theorem memo_ok {P : Program} {G : Heap} : ∀ {l : List (Nat × List V × List V × Heap)}, (∀ x ∈ l, EntryOk P G x) → OrcOk P G (memo G.length l)
  | [], _ => by intro f args r g H hp e; simp [memo] at e
  | (f0, a0, r0, g0) :: l, hl => by
    intro f args r g H hp e
    simp only [memo] at e
    split at e
    · rename_i hb
      simp only [Bool.and_eq_true, decide_eq_true_eq] at hb
      obtain ⟨h1, rfl⟩ := hb
      have h1 := Nat.eq_of_beq_eq_true h1
      subst h1
      injection e with e
      simp only [Prod.mk.injEq] at e
      obtain ⟨rfl, rfl⟩ := e
      exact hl _ (List.mem_cons_self ..) H hp
    · exact memo_ok (fun x hx => hl x (List.mem_cons_of_mem _ hx)) f args r g H hp e

/-- Whether a run in little memory ends as told. -/
def runIs (T : List (Nat × IFn)) (O : Orc) (fuel d : Nat) (G : Heap) (f : Nat) (args rets : List V) (g : Heap) : Bool :=
  match pxF T O fuel d G.length f args G with
  | some (r, h) => decide (r = rets) && decide (h = G ++ g) && (G.all fun row => row.cells.all (S.inB G.length)) && args.all (V.inB G.length) && g.all Row.rw
  | none => false
theorem entry_of_run {P : Program} (hm : P.follows .mixedOrders = true) {T : List (Nat × IFn)} {O : Orc} {G : Heap} {fuel d : Nat} (hT : TOk P T) (hO : OrcOk P G O) {f : Nat} {args rets : List V} {g : Heap}
    (h : runIs T O fuel d G f args rets g = true) : EntryOk P G (f, args, rets, g) := by
  unfold runIs at h
  split at h
  · rename_i r h1 hr
    simp only [Bool.and_eq_true, decide_eq_true_eq] at h
    obtain ⟨⟨⟨⟨rfl, rfl⟩, h3⟩, h4⟩, h5⟩ := h
    have := (pxF_ok hm hT hO d _ _ _ _ _ _ (Nat.le_refl _) (Pre.refl G) hr).1
    exact fun H hp => this.lift (Nat.le_refl _) h3 h4 h5 H hp
  · cases h

end Go.Px
