/- Own work over the kit: abstract memory, its rules, and the walk. -/
import Derived.Test.YtmkaaplbidlmcaaDoorPxDraw
set_option linter.unusedVariables false
set_option linter.unusedSimpArgs false
namespace Go.Px

def dstep (P : Program) (fr : List V) (o : IOq) (loc : Loc) (h : Heap) (vs : List V) (h' : Heap) : Prop :=
  let skip : Prop := vs = [.u] ∧ h' = h
  let go : Prop := match o.op.kind with
    | .p => ∃ v, evalP h (rho fr loc) loc o.op = some v ∧ vs = [v] ∧ h' = h
    | .e => ∃ v, evalE h (rho fr loc) o.op = some (v, h', none) ∧ vs = [v] ∧ ∃ g, h' = h ++ g
    | .c => ∃ f args, callOf (rho fr loc) o.op = some (f, args) ∧ ACalls P h.length f args h (fun r h'' => r = vs ∧ h'' = h') ∧ ∃ g, h' = h ++ g
    | .x => False
  match o.g with
  | none => go
  | some (gi, want) => match loc[gi]? with
    | some [.s (.b x)] => if x = want then go else skip
    | some [.u] => skip
    | _ => False

def dwp (P : Program) (K : List V → Loc → Heap → Prop) : List IOq → List V → Loc → Heap → Prop
  | [], fr, loc, h => K fr loc h
  | o :: os, fr, loc, h => ∃ vs h', dstep P fr o loc h vs h' ∧ ((∃ v, vs = [v] ∧ dwp P K os (setv fr o.d v) (loc ++ [[v]]) h') ∨ (vs.length ≠ 1 ∧ o.d = none ∧ dwp P K os fr (loc ++ [vs]) h'))

def one (l : List V) : V := match l with | [v] => v | _ => .any
/-- The frame behind an operation. -/
def afterFr (fr : List V) (d : Option Nat) (vs : List V) : List V := match vs with | [v] => setv fr d v | _ => fr

def DwpOut (P : Program) (K : List V → Loc → Heap → Prop) (ops : List IOq) (fr : List V) (loc : Loc) (h : Heap) : Prop :=
    ∃ (vs : Nat → List V) (hs : Nat → Heap) (frs : Nat → List V), hs 0 = h ∧ frs 0 = fr ∧ (∀ j o, ops[j]? = some o → dstep P (frs j) o (loc ++ (List.range j).map vs) (hs j) (vs j) (hs (j + 1)) ∧ frs (j + 1) = afterFr (frs j) o.d (vs j) ∧ (o.d = none ∨ ∃ v, vs j = [v])) ∧
      K (frs ops.length) (loc ++ (List.range ops.length).map vs) (hs ops.length)

theorem dwp_out {P : Program} {K : List V → Loc → Heap → Prop} : ∀ (ops : List IOq) (fr : List V) (loc : Loc) (h : Heap), dwp P K ops fr loc h → DwpOut P K ops fr loc h
  | [], fr, loc, h, hd => ⟨fun _ => [], fun _ => h, fun _ => fr, rfl, rfl, by simp, by simpa [dwp] using hd⟩
  | o :: os, fr, loc, h, hd => by
    obtain ⟨x, h', h1, h2⟩ := hd
    have key : ∀ fr', fr' = afterFr fr o.d x → (o.d = none ∨ ∃ v, x = [v]) → dwp P K os fr' (loc ++ [x]) h' → DwpOut P K (o :: os) fr loc h := fun fr' hfr hone h2 => by
      obtain ⟨vs, hs, frs, k1, k0, k2, k3⟩ := dwp_out os fr' (loc ++ [x]) h' h2
      refine ⟨fun j => match j with | 0 => x | j + 1 => vs j, fun j => match j with | 0 => h | j + 1 => hs j, fun j => match j with | 0 => fr | j + 1 => frs j, rfl, rfl, ?_, ?_⟩
      · intro j o' hj
        cases j with
        | zero => simp at hj; subst hj; exact ⟨by simpa [k1] using h1, by rw [← hfr]; exact k0, hone⟩
        | succ j =>
          simp at hj
          obtain ⟨q1, q2, q3⟩ := k2 j o' hj
          refine ⟨?_, q2, q3⟩
          rw [List.range_succ_eq_map]
          simpa [List.map_map, Function.comp_def] using q1
      · rw [List.length_cons, List.range_succ_eq_map]
        simpa [List.map_map, Function.comp_def] using k3
    rcases h2 with ⟨v, rfl, h2⟩ | ⟨hl, hd0, h2⟩
    · exact key _ rfl (.inr ⟨v, rfl⟩) h2
    · refine key fr ?_ (.inl hd0) h2
      unfold afterFr
      split
      · exact absurd rfl hl
      · rfl

def IOp.ac (o : IOp) : Bool := match o.kind with | .e | .c => true | _ => false

theorem dstep_same {P fr o loc h vs h'} (hd : dstep P fr o loc h vs h') (hk : o.op.ac = false) : h' = h := by
  unfold dstep at hd
  unfold IOp.ac at hk
  cases hg : o.g with
  | none =>
    rw [hg] at hd
    cases hkk : o.op.kind <;> rw [hkk] at hd hk <;> simp at hd hk
    obtain ⟨v, _, _, h3⟩ := hd; exact h3
  | some gw =>
    obtain ⟨gi, want⟩ := gw
    rw [hg] at hd
    simp only at hd
    split at hd
    · split at hd
      · cases hkk : o.op.kind <;> rw [hkk] at hd hk <;> simp at hd hk
        obtain ⟨v, _, _, h3⟩ := hd; exact h3
      · exact hd.2
    · exact hd.2
    · exact absurd hd (by simp)
theorem dstep_ext {P fr o loc h vs h'} (hd : dstep P fr o loc h vs h') : ∃ g, h' = h ++ g := by
  by_cases hk : o.op.ac = false
  · exact ⟨[], by rw [dstep_same hd hk]; simp⟩
  · unfold dstep at hd
    have go : (match o.op.kind with
      | .p => ∃ v, evalP h (rho fr loc) loc o.op = some v ∧ vs = [v] ∧ h' = h
      | .e => ∃ v, evalE h (rho fr loc) o.op = some (v, h', none) ∧ vs = [v] ∧ ∃ g, h' = h ++ g
      | .c => ∃ f args, callOf (rho fr loc) o.op = some (f, args) ∧ ACalls P h.length f args h (fun r h'' => r = vs ∧ h'' = h') ∧ ∃ g, h' = h ++ g
      | .x => False) → ∃ g, h' = h ++ g := by
      intro q
      split at q
      · obtain ⟨v, _, _, h3⟩ := q; exact ⟨[], by simp [h3]⟩
      · obtain ⟨v, _, _, h3⟩ := q; exact h3
      · obtain ⟨f, args, _, _, h3⟩ := q; exact h3
      · exact absurd q (by simp)
    cases hg : o.g with
    | none => rw [hg] at hd; exact go hd
    | some gw =>
      obtain ⟨gi, want⟩ := gw
      rw [hg] at hd
      simp only at hd
      split at hd
      · split at hd
        · exact go hd
        · exact ⟨[], by simp [hd.2]⟩
      · exact ⟨[], by simp [hd.2]⟩
      · exact absurd hd (by simp)

def Opd.plain : Opd → Bool
  | .c (.s (.p _ _ _)) | .c (.s (.sl _ _ _ _ _ _ _)) => false
  | _ => true

/-- May a region that draws its order be walked in the text's order: 'k' operations in whatever order, the rest one behind the other. -/
def dChk (all : List Oper) (ios : List IOq) (k : Nat) : Bool :=
  let M := ancs all []
  let m := all.length
  decide (k ≤ m) && decide (ios.length = m) &&
  ((List.range m).all fun j => match all[j]? with | some o => o.after.toList.all (fun e => !Region.binds .any e || decide (e.on < j)) | none => true) &&
  ((List.range m).all fun j => decide (j < k) || (List.range j).all fun i => (M.getD j 0).testBit i) &&
  ((List.range k).all fun j => match ios[j]? with
    | some io => (match io.d with
        | none => true
        | some s => (List.range k).all fun i => decide (i = j) || (match ios[i]? with
          | some io' => !decide (io'.d = some s) && (!(io'.op.opds.contains (.v s)) || (if i < j then (M.getD j 0).testBit i else (M.getD i 0).testBit j))
          | none => true)) &&
        io.uses.all (fun u => (M.getD j 0).testBit u && ((all[u]?).bind (·.dst)).isSome && (match ios[u]? with | some io' => io'.d.isNone | none => false)) && io.op.opds.all Opd.plain &&
        (!io.op.ac || (List.range j).all fun i => match ios[i]? with | some io' => !io'.op.ac || (M.getD j 0).testBit i | none => true)
    | none => false)

structure DOk0 (all : List Oper) (ios : List IOq) (k : Nat) : Prop where
  km : k ≤ all.length
  len : ios.length = all.length
  lt : ∀ j o, all[j]? = some o → ∀ e ∈ o.after, Region.binds .any e = true → e.on < j
  d : ∀ j io s, j < k → ios[j]? = some io → io.d = some s → ∀ i io', i < k → i ≠ j → ios[i]? = some io' → io'.d ≠ some s ∧ (.v s ∈ io'.op.opds → (i < j → ((ancs all []).getD j 0).testBit i = true) ∧ (j < i → ((ancs all []).getD i 0).testBit j = true))
  uses : ∀ j io, j < k → ios[j]? = some io → ∀ u ∈ io.uses, ((ancs all []).getD j 0).testBit u = true ∧ (∃ t, (all[u]?).bind (·.dst) = some t) ∧ ∃ io', ios[u]? = some io' ∧ io'.d = none
  plain : ∀ j io, j < k → ios[j]? = some io → ∀ o ∈ io.op.opds, o.plain = true
  ac : ∀ i j io io', i < j → j < k → ios[i]? = some io → ios[j]? = some io' → io.op.ac = true → io'.op.ac = true → ((ancs all []).getD j 0).testBit i = true

structure DOk (all : List Oper) (ios : List IOq) (k : Nat) : Prop extends DOk0 all ios k where
  tail : ∀ j, k ≤ j → j < all.length → ∀ i, i < j → ((ancs all []).getD j 0).testBit i = true

theorem dChk_ok {all : List Oper} {ios : List IOq} {k : Nat} (h : dChk all ios k = true) : DOk all ios k := by
  unfold dChk at h
  simp only [Bool.and_eq_true, decide_eq_true_eq, List.all_eq_true, List.mem_range, Bool.or_eq_true, Bool.not_eq_true'] at h
  obtain ⟨⟨⟨⟨h1, h2⟩, h3⟩, h4⟩, h5⟩ := h
  refine ⟨⟨h1, h2, ?_, ?_, ?_, ?_, ?_⟩, ?_⟩
  · intro j o ho e he hb
    have hj : j < all.length := (List.getElem?_eq_some_iff.1 ho).1
    have := h3 j hj
    rw [ho] at this
    simp only [List.all_eq_true, Bool.or_eq_true, Bool.not_eq_true', decide_eq_true_eq] at this
    rcases this e (by simpa using he) with q | q
    · rw [hb] at q; cases q
    · exact q
  · intro j io s hj hio hd i io' hi hij hio'
    have := h5 j hj
    rw [hio] at this
    simp only [hd, Bool.and_eq_true, List.all_eq_true, List.mem_range, Bool.or_eq_true, decide_eq_true_eq] at this
    rcases this.1.1.1 i hi with q | q
    · exact absurd q hij
    · rw [hio'] at q
      simp only [Bool.and_eq_true, Bool.not_eq_true', decide_eq_false_iff_not, Bool.or_eq_true] at q
      refine ⟨q.1, fun hm => ⟨fun hlt => ?_, fun hlt => ?_⟩⟩
      · rcases q.2 with q2 | q2
        · have : List.contains io'.op.opds (Opd.v s) = true := by simpa using hm
          rw [this] at q2; cases q2
        · rwa [if_pos hlt] at q2
      · rcases q.2 with q2 | q2
        · have : List.contains io'.op.opds (Opd.v s) = true := by simpa using hm
          rw [this] at q2; cases q2
        · rwa [if_neg (by omega)] at q2
  · intro j io hj hio u hu
    have := h5 j hj
    rw [hio] at this
    simp only [Bool.and_eq_true, List.all_eq_true] at this
    have := this.1.1.2 u hu
    refine ⟨this.1.1, Option.isSome_iff_exists.1 this.1.2, ?_⟩
    have := this.2
    split at this
    · rename_i io' hio'
      exact ⟨io', hio', by cases hd : io'.d <;> simp [hd] at this ⊢⟩
    · cases this
  · intro j io hj hio o ho
    have := h5 j hj
    rw [hio] at this
    simp only [Bool.and_eq_true, List.all_eq_true] at this
    exact this.1.2 o ho
  · intro i j io io' hij hjk hi hj ha hb
    have := h5 j hjk
    rw [hj] at this
    simp only [Bool.and_eq_true, Bool.or_eq_true, Bool.not_eq_true', List.all_eq_true, List.mem_range] at this
    rcases this.2 with q | q
    · rw [hb] at q; cases q
    · have := q i hij
      rw [hi] at this
      simp only [Bool.or_eq_true, Bool.not_eq_true'] at this
      rcases this with q | q
      · rw [ha] at q; cases q
      · exact q
  · intro j hk hj i hi
    rcases h4 j hj with q | q
    · omega
    · exact q i hi

/-- Where the temporaries of a region's operations are found. -/
structure LK (E : Env) (seen : List (Option Nat)) : Prop where
  lk : ∀ g t, seen[g]? = some (some t) → t ∉ E.slots → E.loc.lookup t = some g
  cv : ∀ t g, E.loc.lookup t = some g → seen[g]? = some (some t) ∧ t ∉ E.slots

theorem cOps_env {P : Program} : ∀ (ops : List Oper) (E : Env) (seen : List (Option Nat)) (ios : List IOq), cOps P E seen ops = some ios → LK E seen →
    ios.length = ops.length ∧ ∀ j o, ops[j]? = some o → ∃ E' io, ios[j]? = some io ∧ E'.slots = E.slots ∧ LK E' (seen ++ (ops.take j).map (·.dst)) ∧ io.g = o.guard ∧ cGuard (seen ++ (ops.take j).map (·.dst)) E.slots o.guard = true ∧
      (io.op = .bad ∨ cOp P E' o.op = some io.op) ∧ (io.d = none → ∀ t, o.dst = some t → t ∉ E.slots ∧ E'.loc.lookup t = none) ∧ (∀ s, io.d = some s → ∃ t, o.dst = some t ∧ E.slots.idxOf? t = some s) ∧ (∃ ios', cOps P E' (seen ++ (ops.take j).map (·.dst)) (ops.drop j) = some ios' ∧ ios.drop j = ios')
  | [], E, seen, ios, h, hl => by simp [cOps] at h; subst h; simp
  | o :: ops, E, seen, ios, h, hl => by
    have h0 := h
    unfold cOps at h
    split at h
    · cases h
    rename_i hguard
    have hguard' : cGuard seen E.slots o.guard = true := by simpa using hguard
    simp only at h
    have hbad : (cOp P E o.op).getD .bad = .bad ∨ cOp P E o.op = some ((cOp P E o.op).getD .bad) := by
      cases hcc : cOp P E o.op with
      | none => exact .inl rfl
      | some q => exact .inr rfl
    have step : ∀ (E' : Env) (r : List IOq) (d : Option Nat), E'.slots = E.slots → LK E' (seen ++ [o.dst]) → cOps P E' (seen ++ [o.dst]) ops = some r → ios = ⟨o.guard, d, (cOp P E o.op).getD .bad⟩ :: r → (d = none → ∀ t, o.dst = some t → t ∉ E.slots ∧ E.loc.lookup t = none) → (∀ s, d = some s → ∃ t, o.dst = some t ∧ E.slots.idxOf? t = some s) →
        ios.length = (o :: ops).length ∧ ∀ j o', (o :: ops)[j]? = some o' → ∃ E' io, ios[j]? = some io ∧ E'.slots = E.slots ∧ LK E' (seen ++ ((o :: ops).take j).map (·.dst)) ∧ io.g = o'.guard ∧ cGuard (seen ++ ((o :: ops).take j).map (·.dst)) E.slots o'.guard = true ∧
          (io.op = .bad ∨ cOp P E' o'.op = some io.op) ∧ (io.d = none → ∀ t, o'.dst = some t → t ∉ E.slots ∧ E'.loc.lookup t = none) ∧ (∀ s, io.d = some s → ∃ t, o'.dst = some t ∧ E.slots.idxOf? t = some s) ∧ (∃ ios', cOps P E' (seen ++ ((o :: ops).take j).map (·.dst)) ((o :: ops).drop j) = some ios' ∧ ios.drop j = ios') := by
      intro E' r d hs hlk hr he hd hds
      obtain ⟨i1, i2⟩ := cOps_env ops E' (seen ++ [o.dst]) r hr hlk
      refine ⟨by rw [he]; simp [i1], fun j o' hj => ?_⟩
      cases j with
      | zero =>
        simp at hj; subst hj
        exact ⟨E, ⟨o.guard, d, (cOp P E o.op).getD .bad⟩, by rw [he]; rfl, rfl, by simpa using hl, rfl, by simpa using hguard', hbad, hd, hds, ios, by simpa using h0, by simp⟩
      | succ j =>
        simp at hj
        obtain ⟨E2, io, q1, q2, q3, q4, q5, q6, q7, q10, ios', q8, q9⟩ := i2 j o' hj
        refine ⟨E2, io, by rw [he]; simpa using q1, q2.trans hs, by simpa [List.append_assoc] using q3, q4, by rw [hs] at q5; simpa [List.append_assoc] using q5, q6, by rw [hs] at q7; exact q7, by rw [hs] at q10; exact q10, ios', by simpa [List.append_assoc] using q8, by rw [he]; simpa using q9⟩
    split at h
    · rename_i hd
      simp only [Option.map_eq_some_iff] at h; obtain ⟨r, hr, rfl⟩ := h
      refine step E r none rfl ⟨fun g t h1 h2 => ?_, fun t g h1 => ?_⟩ (by rw [hd]; exact hr) rfl (fun _ t ht => by rw [hd] at ht; cases ht) (by simp)
      · rw [hd] at h1
        by_cases c : g < seen.length
        · rw [List.getElem?_append_left c] at h1; exact hl.lk g t h1 h2
        · rw [List.getElem?_append_right (by omega)] at h1
          cases hq : g - seen.length with
          | zero => rw [hq] at h1; simp at h1
          | succ q => rw [hq] at h1; simp at h1
      · obtain ⟨c1, c2⟩ := hl.cv t g h1
        exact ⟨by rw [List.getElem?_append_left (List.getElem?_eq_some_iff.1 c1).1]; exact c1, c2⟩
    · rename_i t hd
      split at h
      · rename_i kk hk
        simp only [Option.map_eq_some_iff] at h; obtain ⟨r, hr, rfl⟩ := h
        have htm : t ∈ E.slots := List.mem_of_getElem? (idxOf_get hk)
        refine step E r (some kk) rfl ⟨fun g t' h1 h2 => ?_, fun t' g h1 => ?_⟩ (by rw [hd]; exact hr) rfl (by simp) (fun s hs => by injection hs with hs; subst hs; exact ⟨t, hd, hk⟩)
        · rw [hd] at h1
          by_cases c : g < seen.length
          · rw [List.getElem?_append_left c] at h1; exact hl.lk g t' h1 h2
          · rw [List.getElem?_append_right (by omega)] at h1
            cases hq : g - seen.length with
            | zero => rw [hq] at h1; simp at h1; exact absurd (h1 ▸ htm) h2
            | succ q => rw [hq] at h1; simp at h1
        · obtain ⟨c1, c2⟩ := hl.cv t' g h1
          exact ⟨by rw [List.getElem?_append_left (List.getElem?_eq_some_iff.1 c1).1]; exact c1, c2⟩
      · rename_i hk
        split at h
        · cases h
        rename_i hln
        simp only [Option.map_eq_some_iff] at h; obtain ⟨r, hr, rfl⟩ := h
        have hln' : E.loc.lookup t = none := by cases hq : E.loc.lookup t with | none => rfl | some q => rw [hq] at hln; simp at hln
        have htm : t ∉ E.slots := by
          intro hm
          rw [List.idxOf?_eq_none_iff] at hk
          exact hk hm
        have look : ∀ t', List.lookup t' ((t, seen.length) :: E.loc) = if t' = t then some seen.length else E.loc.lookup t' := by
          intro t'
          simp only [List.lookup_cons]
          by_cases c : t' = t
          · subst c; simp
          · rw [if_neg c, beq_false_of_ne c]
        refine step ⟨E.slots, (t, seen.length) :: E.loc⟩ r none rfl ⟨fun g t' h1 h2 => ?_, fun t' g h1 => ?_⟩ (by rw [hd]; exact hr) rfl (fun _ t' ht => by rw [hd] at ht; injection ht with ht; subst ht; exact ⟨htm, hln'⟩) (by simp)
        · rw [hd] at h1
          simp only
          rw [look]
          by_cases c : g < seen.length
          · rw [List.getElem?_append_left c] at h1
            have := hl.lk g t' h1 h2
            rw [if_neg (by intro e; subst e; rw [hln'] at this; cases this)]; exact this
          · rw [List.getElem?_append_right (by omega)] at h1
            cases hq : g - seen.length with
            | zero => rw [hq] at h1; simp at h1; rw [if_pos h1.symm]; congr 1; omega
            | succ q => rw [hq] at h1; simp at h1
        · simp only at h1
          rw [look] at h1
          rw [hd]
          by_cases c : t' = t
          · subst c; rw [if_pos rfl] at h1; injection h1 with h1; subst h1; exact ⟨by simp, htm⟩
          · rw [if_neg c] at h1
            obtain ⟨c1, c2⟩ := hl.cv t' g h1
            exact ⟨by rw [List.getElem?_append_left (List.getElem?_eq_some_iff.1 c1).1]; exact c1, c2⟩

end Go.Px
