/- Own work over the kit: abstract memory, its rules, and the walk. -/
import Derived.Test.YtmkaaplbidlmcaaDoorPxDraw4
set_option linter.unusedVariables false
set_option linter.unusedSimpArgs false
namespace Go.Px

/-! ### one operation of a region whose order is the text's -/
section
variable {P : Program} {n : Nat}

theorem cOps_cons {N : Nat} {all : Array Oper} {o : Oper} {ops : List Oper} {E : Env} {seen : List (Option Nat)} {ios : List IOq} (hc : cOps P E seen (o :: ops) = some ios) (ho : all[seen.length]? = some o) (hnd : E.slots.Nodup) (hN : ∀ t, o.dst = some t → t < N) :
    ∃ (d : Option Nat) (io : IOp) (r : List IOq) (E' : Env), ios = ⟨o.guard, d, io⟩ :: r ∧ (io = .bad ∨ cOp P E o.op = some io) ∧ cGuard seen E.slots o.guard = true ∧ E'.slots = E.slots ∧ cOps P E' (seen ++ [o.dst]) ops = some r ∧ (∀ s, d = some s → ∃ t, o.dst = some t ∧ E.slots.idxOf? t = some s) ∧ (∀ t q, E'.loc.lookup t = some q → E.loc.lookup t = some q ∨ o.dst = some t) ∧
      ∀ (sh : List Sh) (β : Beta) (fr : List V) (loc : Loc) (a : Act) (vs : List V) (u : Value), RetV sh β vs u → EnvR E sh β fr loc a → RI all E seen loc N a → (d = none ∨ ∃ v, vs = [v]) →
        EnvR E' sh β (match vs with | [v] => setv fr d v | _ => fr) (loc ++ [vs]) (a.put o.dst u) ∧ RI all E' (seen ++ [o.dst]) (loc ++ [vs]) N (a.put o.dst u) := by
  have hdst : (all[seen.length]?).map (·.dst) = some o.dst := by rw [ho]; rfl
  unfold cOps at hc
  split at hc
  · cases hc
  rename_i hguard
  have hguard' : cGuard seen E.slots o.guard = true := by simpa using hguard
  simp only at hc
  generalize hio : (cOp P E o.op).getD .bad = io at hc
  have hbad : io = .bad ∨ cOp P E o.op = some io := by
    cases hcc : cOp P E o.op with
    | none => rw [hcc] at hio; exact .inl hio.symm
    | some q => rw [hcc] at hio; simp at hio; exact .inr (by rw [hio])
  split at hc
  · rename_i hd
    simp only [Option.map_eq_some_iff] at hc; obtain ⟨r, hr', rfl⟩ := hc
    refine ⟨none, io, r, E, rfl, hbad, hguard', rfl, by rw [hd]; exact hr', by simp, fun _ _ h => .inl h, ?_⟩
    intro sh β fr loc a vs u hv hE hI _
    rw [hd] at hdst ⊢
    obtain ⟨e1, e2⟩ := put_none (vs := vs) (u := u) hE hI hdst
    refine ⟨?_, e2⟩
    split <;> simpa [setv] using e1
  · rename_i t hd
    split at hc
    · rename_i k hk
      simp only [Option.map_eq_some_iff] at hc; obtain ⟨r, hr', rfl⟩ := hc
      refine ⟨some k, io, r, E, rfl, hbad, hguard', rfl, by rw [hd]; exact hr', fun s hs => by injection hs with hs; subst hs; exact ⟨t, hd, hk⟩, fun _ _ h => .inl h, ?_⟩
      intro sh β fr loc a vs u hv hE hI hone
      rw [hd] at hdst ⊢
      rcases hone with q | ⟨v, rfl⟩
      · cases q
      obtain ⟨e1, e2⟩ := put_slot (v := v) (u := u) hE hI hdst hk hnd hv [v]
      exact ⟨e1, e2⟩
    · rename_i hk
      split at hc
      · cases hc
      rename_i hl
      simp only [Option.map_eq_some_iff] at hc; obtain ⟨r, hr', rfl⟩ := hc
      refine ⟨none, io, r, ⟨E.slots, (t, seen.length) :: E.loc⟩, rfl, hbad, hguard', rfl, by rw [hd]; exact hr', by simp, fun t' q h => (by
        simp only [List.lookup_cons] at h
        by_cases c : t' = t
        · subst c; exact .inr hd
        · rw [beq_false_of_ne c] at h; exact .inl h), ?_⟩
      intro sh β fr loc a vs u hv hE hI hone
      rw [hd] at hdst ⊢
      obtain ⟨e1, e2⟩ := put_local (vs := vs) (u := u) hE hI hdst hk (by cases hq : E.loc.lookup t with | none => rfl | some q => rw [hq] at hl; simp at hl) (hN t hd) hv
      refine ⟨?_, e2⟩
      split <;> simpa [setv] using e1

theorem reg_step {N : Nat} {all : Array Oper} {Qc : Exit → Act → World → Prop} {Q : List V → Heap → Prop} {o : Oper} {ops : List Oper} {E : Env} {seen : List (Option Nat)} {ios : List IOq} {fr : List V} {loc : Loc} {h : Heap} {β : Beta} {w : World} {a : Act}
    (ho : all[seen.length]? = some o) (hc : cOps P E seen (o :: ops) = some ios) (hnd : E.slots.Nodup) (hN : ∀ t, o.dst = some t → t < N) (hr : rwp P n Q ios fr loc h)
    (hRel : Rel h β w) (hE : EnvR E (shp h) β fr loc a) (hI : RI all E seen loc N a) {K : Act → World → Prop}
    (hK : ∀ (E' : Env) (d : Option Nat) (io : IOp) (r : List IOq) (fr' : List V) (loc' : Loc) (h' : Heap) (β' : Beta) (w' : World) (u : Value), E'.slots = E.slots → ios = ⟨o.guard, d, io⟩ :: r → cOps P E' (seen ++ [o.dst]) ops = some r → rwp P n Q r fr' loc' h' → Rel h' β' w' → Step n h β w h' β' w' →
      EnvR E' (shp h') β' fr' loc' (a.put o.dst u) → RI all E' (seen ++ [o.dst]) loc' N (a.put o.dst u) → (∀ s, d ≠ some s → fr'.getD s .any = fr.getD s .any) → (∀ s, d = some s → ∃ t, o.dst = some t ∧ E.slots.idxOf? t = some s) → (∀ t q, E'.loc.lookup t = some q → E.loc.lookup t = some q ∨ o.dst = some t) → K (a.put o.dst u) w') : wpOp P all Qc seen.length K a w := by
  obtain ⟨d, io, r, E', rfl, hbad, hguard', hsl, hcr, hds, hdn, henv⟩ := cOps_cons hc ho hnd hN
  have hfr : ∀ (vs : List V) s, d ≠ some s → (match vs with | [v] => setv fr d v | _ => fr).getD s .any = fr.getD s .any := by
    intro vs s hs
    split
    · cases d with
      | none => rfl
      | some k =>
        have : k ≠ s := fun e => hs (by rw [e])
        simp [setv, List.getElem?_set, this]
    · rfl
  have go : ∀ (vs : List V) (u : Value) (h' : Heap) (β' : Beta) (w' : World), RetV (shp h') β' vs u → Rel h' β' w' → Step n h β w h' β' w' → (d = none ∨ ∃ v, vs = [v]) →
      rwp P n Q r (match vs with | [v] => setv fr d v | _ => fr) (loc ++ [vs]) h' → K (a.put o.dst u) w' := by
    intro vs u h' β' w' hv hR hS hone hrw
    obtain ⟨e1, e2⟩ := henv (shp h') β' fr loc a vs u hv (hE.evo hS.evo) hI hone
    exact hK E' d io r _ _ h' β' w' u hsl rfl hcr hrw hR hS e1 e2 (hfr vs) hds hdn
  unfold wpOp
  simp only [rwp] at hr
  rw [ho]
  simp only
  have run : (match io.kind with
    | .p => match tupMov loc io with
      | some vs => d = none ∧ rwp P n Q r fr (loc ++ [vs]) h
      | none => ∃ v, evalP h (rho fr loc) loc io = some v ∧ rwp P n Q r (setv fr d v) (loc ++ [[v]]) h
    | .e => ∃ v h' t, evalE h (rho fr loc) io = some (v, h', t) ∧ (∀ r, t = some r → n ≤ r) ∧ rwp P n Q r (setv fr d v) (loc ++ [[v]]) h'
    | .c => ∃ f args, callOf (rho fr loc) io = some (f, args) ∧ ACalls P n f args h fun rets h' => (∃ x, rets = [x] ∧ rwp P n Q r (setv fr d x) (loc ++ [[x]]) h') ∨ (rets.length ≠ 1 ∧ d = none ∧ rwp P n Q r fr (loc ++ [rets]) h')
    | .x => False) → o.wp P a w K Qc := by
    intro hrun
    rcases hbad with hbad | hcop
    · subst hbad; exact absurd hrun (by simp [IOp.kind])
    split at hrun
    · split at hrun
      · rename_i vs htm
        obtain ⟨hd, hrw⟩ := hrun
        obtain ⟨u, hu1, hlen, hu2⟩ := tupMov_ok (P := P) (w := w) hE hcop htm
        unfold Oper.wp
        rw [hu1, Oper.upon_value]
        refine go vs u h β w hu2 hRel (Step.refl _ _ _ _) (.inl hd) ?_
        split
        · exact absurd rfl hlen
        · exact hrw
      · obtain ⟨v, hv, hrw⟩ := hrun
        obtain ⟨u, hu1, hu2⟩ := evalP_all (P := P) hRel hE hcop hv
        unfold Oper.wp
        rw [hu1, Oper.upon_value]
        exact go [v] u h β w hu2 hRel (Step.refl _ _ _ _) (.inr ⟨v, rfl⟩) hrw
    · obtain ⟨v, h', t, hv, htn, hrw⟩ := hrun
      obtain ⟨nx, u, w', β', r1, r2, r3, r4, r5⟩ := evalE_ok (P := P) (n := n) hRel hE hcop hv htn
      unfold Oper.wp
      rw [r1]
      rcases r2 with rfl | ⟨rfl, rfl⟩
      · rw [Oper.upon_value]
        exact go [v] u h' β' w' r3 r4 r5 (.inr ⟨v, rfl⟩) hrw
      · rw [Oper.upon_skip]
        exact go [v] undef h' β' w' r3 r4 r5 (.inr ⟨v, rfl⟩) hrw
    · obtain ⟨f, args, hv, hcal, hcalls⟩ := hrun
      obtain ⟨vs, v1, v2⟩ := call_ok (P := P) (w := w) hE hcop hv hcal
      unfold Oper.wp
      rw [v1, Oper.upon_enter]
      refine (hcalls w β vs hRel v2).mono ?_
      rintro e w' ⟨rets, h', β', v, rfl, hR, hret, hrel, hst⟩
      show K (a.put o.dst v) w'
      rcases hR with ⟨x, rfl, hrw⟩ | ⟨hlen, hd, hrw⟩
      · exact go [x] v h' β' w' hret hrel hst (.inr ⟨x, rfl⟩) hrw
      · refine go rets v h' β' w' hret hrel hst (.inl hd) ?_
        split
        · exact absurd rfl hlen
        · exact hrw
    · exact absurd hrun (by simp)
  have skip : rwp P n Q r (setv fr d .u) (loc ++ [[.u]]) h → K (a.put o.dst undef) w :=
    fun hrw => go [.u] undef h β w rfl hRel (Step.refl _ _ _ _) (.inr ⟨.u, rfl⟩) hrw
  cases hg : o.guard with
  | none =>
    rw [hg] at hr
    have hw : Region.wanted o (yielded all a.tmps) = true := by simp [Region.wanted, hg]
    rw [if_pos hw]
    exact .inl (run hr)
  | some gw =>
    obtain ⟨gi, want⟩ := gw
    rw [hg] at hr
    obtain ⟨g1, g2⟩ := guard_ok hE hI hg hguard'
    simp only at hr
    split at hr
    · rename_i x hx
      have hw := g1 x hx
      by_cases c : x = want
      · rw [if_pos c] at hr
        rw [hw, if_pos (by simpa using c)]
        exact .inl (run hr)
      · rw [if_neg c] at hr
        rw [hw, if_neg (by simpa using c)]
        exact skip hr
    · rename_i hx
      rw [g2 hx, if_neg (by simp)]
      exact skip hr
    · exact absurd hr (by simp)
end

/-! ### operations that only lay a row of known cells: they may come up ahead of their place -/
def S.flat : S → Bool
  | .b _ | .i _ _ | .s _ | .np | .nsl | .nf => true
  | _ => false
theorem SR.flat {x : S} (hx : x.flat = true) {sh β sh' β'} {v : Value} (h : SR sh β x v) : SR sh' β' x v := by
  cases x <;> simp [S.flat] at hx <;> exact h
def fltOf : IOp → Option (List S × (Nat → S))
  | .newv (.c x) => match x.cells with
    | some l => if l.all S.flat then some (l, fun k => .p k 0 0) else none
    | none => none
  | .mks sz bytes z (.c (.s (.i _ l))) (.c (.s (.i _ c))) =>
    if (0 ≤ l ∧ l ≤ c ∧ c ≤ 9223372036854775807 ∧ c * bytes ≤ 140737488355328) ∧ z.all S.flat = true then some ((List.replicate c.toNat z).flatten, fun k => .sl k 0 0 sz l.toNat c.toNat true) else none
  | _ => none
theorem flt_eval {io : IOp} {l : List S} {mkv : Nat → S} (hf : fltOf io = some (l, mkv)) (h : Heap) (fr : List V) (loc : Loc) : evalE h (rho fr loc) io = some (.s (mkv h.length), h ++ [⟨l, true, 0⟩], none) ∧ io.kind = .e ∧ l.all S.flat = true := by
  unfold fltOf at hf
  split at hf
  · split at hf
    · rename_i l' hl
      split at hf
      · rename_i hfl
        injection hf with hf; injection hf with e1 e2; subst e1 e2
        exact ⟨by simp [evalE, rho, hl], rfl, hfl⟩
      · cases hf
    · cases hf
  · split at hf
    · rename_i hc
      injection hf with hf; injection hf with e1 e2; subst e1 e2
      refine ⟨by simp only [evalE, rho]; rw [if_pos hc.1], rfl, ?_⟩
      simp only [List.all_eq_true] at hc ⊢
      intro x hx
      simp only [List.mem_flatten, List.mem_replicate] at hx
      obtain ⟨q, ⟨_, rfl⟩, hq⟩ := hx
      exact hc.2 x hq
    · cases hf
  · cases hf
theorem flt_form {io : IOp} {l : List S} {mkv : Nat → S} (hf : fltOf io = some (l, mkv)) : (∀ k, mkv k = .p k 0 0) ∨ ∃ sz n c, ∀ k, mkv k = .sl k 0 0 sz n c true := by
  unfold fltOf at hf
  split at hf
  · split at hf
    · split at hf
      · injection hf with hf; injection hf with e1 e2; subst e2; exact .inl fun _ => rfl
      · cases hf
    · cases hf
  · split at hf
    · injection hf with hf; injection hf with e1 e2; subst e2; exact .inr ⟨_, _, _, fun _ => rfl⟩
    · cases hf
  · cases hf
theorem flt_move {io : IOp} {l : List S} {mkv : Nat → S} (hf : fltOf io = some (l, mkv)) {sh β k sh' β' k'} {u : Value} {row : Row} (h1 : sh[k]? = some row.sh) (hg : row.gen = 0) (h2 : sh'[k']? = some row.sh) (h3 : β' k' = β k) (h : SR sh β (mkv k) u) : SR sh' β' (mkv k') u := by
  rcases flt_form hf with e | ⟨sz, n, c, e⟩
  · rw [e] at h ⊢
    obtain ⟨s, a, q1, q2, rfl, q3⟩ := h
    rw [h1] at q1; injection q1 with q1; subst q1
    exact ⟨_, a, h2, Nat.zero_le _, rfl, fun e => by rw [h3]; exact q3 e⟩
  · rw [e] at h ⊢
    obtain ⟨s, a, cap, q1, q2, rfl, p1, p2, p3, p4, p5⟩ := h
    rw [h1] at q1; injection q1 with q1; subst q1
    exact ⟨_, a, cap, h2, Nat.zero_le _, rfl, p1, p2, p3, p4, fun e => by rw [h3]; exact p5 e⟩

/-- A block that waits to be taken up as a row. -/
def Ext (m : Nat) (h : Heap) (β : Beta) (w : World) (l : List S) (mkv : Nat → S) (p : Place) (u : Value) : Prop :=
  m ≤ p.blk ∧ p.blk < w.heap.size ∧ (∀ r row, h[r]? = some row → (β r).blk ≠ p.blk) ∧
  (∃ cs el fz, w.heap[p.blk]? = some (.cells cs el fz) ∧ cs.size = p.size ∧ p.base + l.length ≤ cs.size ∧ (∀ sh β, CR sh β l cs p.base) ∧ (∀ o, o < cs.size → (decide (fz.1 ≤ o) && decide (o < fz.2)) = false)) ∧
  ∀ sh β k, sh[k]? = some ⟨0, true, l.length⟩ → β k = p → SR sh β (mkv k) u

theorem Ext.step {n m : Nat} {h h' : Heap} {β β' : Beta} {w w' : World} {l : List S} {mkv : Nat → S} {p : Place} {u : Value} (x : Ext m h β w l mkv p u) (hS : Step n h β w h' β' w') : Ext m h' β' w' l mkv p u := by
  obtain ⟨x1, x2, x3, x4, x5⟩ := x
  refine ⟨x1, Nat.lt_of_lt_of_le x2 hS.size, fun r row e => ?_, ?_, x5⟩
  · by_cases c : r < h.length
    · rcases hS.old r _ (shp_some (List.getElem?_eq_getElem c)) with q | q
      · rw [q]; exact x3 r _ (List.getElem?_eq_getElem c)
      · omega
    · have := hS.new r _ (by omega) (shp_some e); omega
  · obtain ⟨cs, el, fz, y1, y2⟩ := x4
    refine ⟨cs, el, fz, ?_, y2⟩
    rw [hS.frame p.blk x2 (fun r s hr hs hrw e => ?_)]
    · exact y1
    · rw [shp_get, Option.map_eq_some_iff] at hs
      obtain ⟨row, e1, rfl⟩ := hs
      exact x3 r row e1 e

theorem Rel.grow {h : Heap} {β : Beta} {w w' : World} (hR : Rel h β w) (hg : ∀ b, b < w.heap.size → w'.heap[b]? = w.heap[b]?) : Rel h β w' := by
  refine ⟨fun r row e => ?_, hR.sep, hR.glob⟩
  obtain ⟨cs, el, fz, k1, k2⟩ := hR.row r row e
  exact ⟨cs, el, fz, by rw [hg _ (Array.getElem?_eq_some_iff.1 k1).1]; exact k1, k2⟩

/-- It comes up ahead of its place. -/
theorem flt_exec {P : Program} {n : Nat} {h : Heap} {β : Beta} {w : World} {a : Act} {o : Oper} {io : IOp} {l : List S} {mkv : Nat → S} (hR : Rel h β w) (hd : a.defers = []) (hc : cOp P ⟨[], []⟩ o.op = some io) (hf : fltOf io = some (l, mkv)) :
    ∃ u w' p, (execOp a.eval o).run P w = .ok (.value u) w' ∧ Rel h β w' ∧ Step n h β w h β w' ∧ Ext w.heap.size h β w' l mkv p u := by
  have hE : EnvR ⟨[], []⟩ (shp h) β [] [] a := ⟨by simp, rfl, by simp, by intro t j q; simp at q, hd⟩
  obtain ⟨k1, k2, k3⟩ := flt_eval hf h [] []
  obtain ⟨nx, u, w', β', r1, r2, r3, r4, r5⟩ := evalE_ok (P := P) (n := h.length) hR hE hc k1 (by simp)
  have hlast : (shp (h ++ [(⟨l, true, 0⟩ : Row)]))[h.length]? = some (Row.sh ⟨l, true, 0⟩) := by rw [shp_append, List.getElem?_append_right (by simp [shp_length]), shp_length]; simp [shp]
  have hold : ∀ b, b < w.heap.size → w'.heap[b]? = w.heap[b]? := fun b hb => r5.frame b hb (fun r s hr hs => by rw [shp_get, List.getElem?_eq_none hr] at hs; simp at hs)
  have hnew := r5.new h.length _ (Nat.le_refl _) hlast
  have hu : nx = .value u := by
    rcases r2 with rfl | ⟨rfl, rfl⟩
    · rfl
    · exfalso
      have r3 : SR _ β' (mkv h.length) undef := r3
      rcases flt_form hf with e | ⟨sz, n, c, e⟩
      · rw [e] at r3; obtain ⟨s, a, _, _, q, _⟩ := r3; cases q
      · rw [e] at r3; obtain ⟨s, a, cap, _, _, q, _⟩ := r3; cases q
  refine ⟨u, w', β' h.length, by rw [r1, hu], hR.grow hold, ⟨r5.os, r5.tape, r5.output, r5.size, Evo.refl _ _, fun _ _ _ => .inl rfl, fun r s hr hs => by rw [shp_get, List.getElem?_eq_none hr] at hs; simp at hs, fun b hb _ => hold b hb⟩, hnew, ?_, ?_, ?_, ?_⟩
  · obtain ⟨cs, el, fz, q1, _⟩ := r4.row h.length ⟨l, true, 0⟩ (by simp)
    exact (Array.getElem?_eq_some_iff.1 q1).1
  · intro r row e
    obtain ⟨cs, el, fz, q1, _⟩ := hR.row r row e
    have := (Array.getElem?_eq_some_iff.1 q1).1
    omega
  · obtain ⟨cs, el, fz, q1, q2, q3, q4, q5⟩ := r4.row h.length ⟨l, true, 0⟩ (by simp)
    refine ⟨cs, el, fz, q1, q2, q3, fun sh β2 j x hj => ?_, q5 rfl⟩
    obtain ⟨v, v1, v2⟩ := q4 j x hj
    exact ⟨v, v1, v2.flat ((List.all_eq_true.1 k3) x (List.mem_of_getElem? hj))⟩
  · intro sh β2 k e1 e2
    exact flt_move (row := ⟨l, true, 0⟩) hf hlast rfl e1 e2 r3

/-- It is taken up. -/
theorem Ext.adopt {n : Nat} {h0 h : Heap} {β0 β : Beta} {w0 w : World} {l : List S} {mkv : Nat → S} {p : Place} {u : Value} (x : Ext w0.heap.size h β w l mkv p u) (hR : Rel h β w) (hS : Step n h0 β0 w0 h β w) :
    Rel (h ++ [⟨l, true, 0⟩]) (upd β h.length p) w ∧ Step n h0 β0 w0 (h ++ [⟨l, true, 0⟩]) (upd β h.length p) w ∧ SR (shp (h ++ [⟨l, true, 0⟩])) (upd β h.length p) (mkv h.length) u ∧ Evo (shp h) β (shp (h ++ [⟨l, true, 0⟩])) (upd β h.length p) := by
  obtain ⟨x1, x2, x3, ⟨cs, el, fz, y1, y2, y3, y4, y5⟩, x5⟩ := x
  have hev : Evo (shp h) β (shp (h ++ [(⟨l, true, 0⟩ : Row)])) (upd β h.length p) := evo_append [Row.sh ⟨l, true, 0⟩] (fun r hr' => by rw [shp_length] at hr'; simp [upd]; omega) (by rw [shp_append]; rfl)
  have old : ∀ r, r ≠ h.length → upd β h.length p r = β r := fun r hr' => by simp [upd, hr']
  have get : ∀ (r' : Nat) (row' : Row), (h ++ [(⟨l, true, 0⟩ : Row)])[r']? = some row' → (r' = h.length ∧ row' = ⟨l, true, 0⟩) ∨ (r' < h.length ∧ h[r']? = some row') := by
    intro r' row' hg
    by_cases hlt : r' < h.length
    · rw [List.getElem?_append_left hlt] at hg; exact .inr ⟨hlt, hg⟩
    · rw [List.getElem?_append_right (by omega)] at hg
      have h0 : r' - h.length = 0 := by
        by_cases h0 : r' - h.length = 0
        · exact h0
        · rw [List.getElem?_eq_none (by simp; omega)] at hg; cases hg
      rw [h0] at hg; simp at hg
      exact .inl ⟨by omega, hg.symm⟩
  have hlast : (shp (h ++ [(⟨l, true, 0⟩ : Row)]))[h.length]? = some ⟨0, true, l.length⟩ := by rw [shp_append, List.getElem?_append_right (by simp [shp_length]), shp_length]; simp [shp, Row.sh]
  have hle : h0.length ≤ h.length := by
    rcases Nat.lt_or_ge h.length h0.length with c | c
    · obtain ⟨s', e, _⟩ := hS.evo h.length _ (shp_some (List.getElem?_eq_getElem c))
      rw [shp_get, List.getElem?_eq_none (Nat.le_refl _)] at e; simp at e
    · exact c
  refine ⟨⟨?_, ?_, ?_⟩, ⟨hS.os, hS.tape, hS.output, hS.size, hS.evo.trans hev, ?_, ?_, hS.frame⟩, x5 _ _ _ hlast (by simp [upd]), hev⟩
  · intro r' row' hg
    rcases get r' row' hg with ⟨rfl, rfl⟩ | ⟨hlt, hg'⟩
    · refine ⟨cs, el, fz, ?_, ?_, ?_, ?_, ?_⟩ <;> try simp only [upd, if_true]
      · exact y1
      · exact y2
      · exact y3
      · exact y4 _ _
      · exact fun _ => y5
    · unfold RowR
      rw [old r' (by omega)]
      obtain ⟨cs1, el1, fz1, k1, k2, k3, k4, k5⟩ := hR.row r' row' hg'
      exact ⟨cs1, el1, fz1, k1, k2, k3, k4.evo hev, k5⟩
  · intro r1 r2 row1 row2 h1 h2 hne hrw
    rcases get r1 row1 h1 with ⟨rfl, rfl⟩ | ⟨hl1, h1'⟩ <;> rcases get r2 row2 h2 with ⟨rfl, rfl⟩ | ⟨hl2, h2'⟩
    · exact absurd rfl hne
    · rw [old r2 (by omega)]; simp only [upd, if_true]; exact (x3 _ _ h2').symm
    · rw [old r1 (by omega)]; simp only [upd, if_true]; exact x3 _ _ h1'
    · rw [old r1 (by omega), old r2 (by omega)]; exact hR.sep _ _ _ _ h1' h2' hne hrw
  · intro r1 row1 h1 hw hg
    rcases get r1 row1 h1 with ⟨rfl, rfl⟩ | ⟨hl1, h1'⟩
    · cases hw
    · rw [old r1 (by omega)]; exact hR.glob _ _ h1' hw hg
  · intro r s hs
    have hlt := (List.getElem?_eq_some_iff.1 hs).1
    rw [shp_length] at hlt
    rw [old r (by omega)]; exact hS.old r s hs
  · intro r s hr hs
    rw [shp_get, Option.map_eq_some_iff] at hs
    obtain ⟨row, e, rfl⟩ := hs
    rcases get r row e with ⟨rfl, rfl⟩ | ⟨hlt, e'⟩
    · simp only [upd, if_true]; exact x1
    · rw [old r (by omega)]; exact hS.new r _ hr (shp_some e')
end Go.Px
