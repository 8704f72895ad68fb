/- Own work over the kit: abstract memory, its rules, and the walk. -/
import Derived.Test.YtmkaaplbidlmcaaDoorPxCode
set_option linter.unusedVariables false
set_option linter.unusedSimpArgs false
namespace Go.Px

def exOf : Exit → Option Ex
  | .normal => some .n
  | .exit id => some (.x id)
  | .ret => some .r
  | _ => none

/-- What a piece of code comes to. -/
def PostC (n N : Nat) (slots : List Nat) (h0 : Heap) (β0 : Beta) (w0 : World) (Q : Ex → List V → Heap → Prop) : Exit → Act → World → Prop := fun e a w =>
  ∃ ex fr h β, exOf e = some ex ∧ Q ex fr h ∧ Rel h β w ∧ Step n h0 β0 w0 h β w ∧ EnvR ⟨slots, []⟩ (shp h) β fr [] a ∧ N ≤ a.tmps.size

theorem iwp_sound {P : Program} (hm : P.follows .mixedOrders = true) {n N : Nat} {slots : List Nat} (hnd : slots.Nodup) {h0 : Heap} {β0 : Beta} {w0 : World} :
    ∀ (c : Code) (ic : IC), cCode P slots c = some ic → (∀ t ∈ dstC c, t < N) → ∀ (Q : Ex → List V → Heap → Prop) (fr : List V) (h : Heap) (β : Beta) (w : World) (a : Act), iwp P n ic Q fr h →
      Rel h β w → Step n h0 β0 w0 h β w → EnvR ⟨slots, []⟩ (shp h) β fr [] a → N ≤ a.tmps.size → c.wp P (PostC n N slots h0 β0 w0 Q) a w := by
  intro c
  induction c with
  | skip =>
    intro ic hc hN Q fr h β w a hq hR hS hE hsz
    simp only [cCode, Option.some.injEq] at hc; subst hc
    exact wp_skip ⟨.n, fr, h, β, rfl, hq, hR, hS, hE, hsz⟩
  | exit id =>
    intro ic hc hN Q fr h β w a hq hR hS hE hsz
    simp only [cCode, Option.some.injEq] at hc; subst hc
    exact wp_exit ⟨.x id, fr, h, β, rfl, hq, hR, hS, hE, hsz⟩
  | ret =>
    intro ic hc hN Q fr h β w a hq hR hS hE hsz
    simp only [cCode, Option.some.injEq] at hc; subst hc
    exact wp_ret ⟨.r, fr, h, β, rfl, hq, hR, hS, hE, hsz⟩
  | refuse why =>
    intro ic hc hN Q fr h β w a hq hR hS hE hsz
    simp only [cCode, Option.some.injEq] at hc; subst hc
    simp [iwp, rwp, IOp.kind] at hq
  | region id ops draw =>
    intro ic hc hN Q fr h β w a hq hR hS hE hsz
    have hNb : ∀ o ∈ ops.toList, ∀ t, o.dst = some t → t < N := fun o ho t ht => hN t (by
      simp only [dstC, List.mem_flatMap]; exact ⟨o, ho, by simp [ht]⟩)
    have hfin : ∀ fr h β w a, Q .n fr h → Rel h β w → Step n h0 β0 w0 h β w → EnvR ⟨slots, []⟩ (shp h) β fr [] a → N ≤ a.tmps.size → PostC n N slots h0 β0 w0 Q .normal a w :=
      fun fr h β w a q1 q2 q3 q4 q5 => ⟨.n, fr, h, β, rfl, q1, q2, q3, q4, q5⟩
    cases draw with
    | false =>
      simp only [cCode, Option.map_eq_some_iff] at hc; obtain ⟨ios, hios, rfl⟩ := hc
      refine wp_region ?_
      have := reg_ok (P := P) (n := n) (N := N) (all := ops) (Qc := PostC n N slots h0 β0 w0 Q) (Q := Q .n) (h0 := h0) (β0 := β0) (w0 := w0) ops.toList ⟨slots, []⟩ [] ios fr [] h β w a (fun j => by simp) hios hnd hNb hq hR hS hE
        ⟨rfl, by intro g hg; simp at hg, by intro g t hg; simp at hg, by intro t j hj; simp at hj, hsz⟩ hfin
      rw [List.range_eq_range']
      simpa using this
    | true =>
      simp only [cCode] at hc
      split at hc
      case h_2 => cases hc
      rename_i ios hios
      split at hc
      · rename_i hchk
        injection hc with hc; subst hc
        obtain ⟨q1, q2⟩ := hq
        exact dreg_ok hm hchk hNb hios hnd q1 q2 hR hS hE hsz hfin
      · obtain ⟨ss, k, ios', rfl, hf⟩ := freg_ok (n := n) (h0 := h0) (β0 := β0) (w0 := w0) (id := id) hm hc hNb hnd
        exact hf _ h β w a fr (Q .n) hq hR hS hE hsz hfin
  | seq x y ihx ihy =>
    intro ic hc hN Q fr h β w a hq hR hS hE hsz
    simp only [cCode] at hc
    split at hc
    case h_2 => cases hc
    rename_i ix iy hx hy
    injection hc with hc; subst hc
    refine wp_seq (wp_mono (ihx ix hx (fun t ht => hN t (by simp [dstC, ht])) _ fr h β w a hq hR hS hE hsz) ?_)
    rintro e a' w' ⟨ex, fr', h', β', e1, e2, e3, e4, e5, e6⟩
    cases e <;> simp only [exOf, Option.some.injEq] at e1 <;> try cases e1
    · exact ihy iy hy (fun t ht => hN t (by simp [dstC, ht])) Q fr' h' β' w' a' e2 e3 e4 e5 e6
    · exact ⟨_, fr', h', β', rfl, e2, e3, e4, e5, e6⟩
    · exact ⟨_, fr', h', β', rfl, e2, e3, e4, e5, e6⟩
  | cond c x y ihx ihy =>
    intro ic hc hN Q fr h β w a hq hR hS hE hsz
    simp only [cCode] at hc
    split at hc
    case h_2 => cases hc
    rename_i o ix iy ho hx hy
    injection hc with hc; subst hc
    obtain ⟨t, ht, hq⟩ := hq
    have hv := cOpd_ok hE ho
    rw [ht] at hv
    refine wp_cond (t := t) hv.bool ?_
    cases t with
    | true => exact ihx ix hx (fun t ht => hN t (by simp [dstC, ht])) Q fr h β w a (by simpa using hq) hR hS hE hsz
    | false => exact ihy iy hy (fun t ht => hN t (by simp [dstC, ht])) Q fr h β w a (by simpa using hq) hR hS hE hsz
  | block id x ih =>
    intro ic hc hN Q fr h β w a hq hR hS hE hsz
    simp only [cCode, Option.map_eq_some_iff] at hc; obtain ⟨ix, hx, rfl⟩ := hc
    refine wp_block (wp_mono (ih ix hx (fun t ht => hN t (by simpa [dstC] using ht)) _ fr h β w a hq hR hS hE hsz) ?_)
    rintro e a' w' ⟨ex, fr', h', β', e1, e2, e3, e4, e5, e6⟩
    cases e <;> simp only [exOf, Option.some.injEq] at e1 <;> try cases e1
    · exact ⟨_, fr', h', β', rfl, e2, e3, e4, e5, e6⟩
    · rename_i i
      simp only [Exit.inBlock]
      simp only at e2
      split
      · rename_i hi; rw [if_pos hi] at e2
        exact ⟨.n, fr', h', β', rfl, e2, e3, e4, e5, e6⟩
      · rename_i hi; rw [if_neg hi] at e2
        exact ⟨.x i, fr', h', β', rfl, e2, e3, e4, e5, e6⟩
    · exact ⟨_, fr', h', β', rfl, e2, e3, e4, e5, e6⟩
  | loop x ih =>
    intro ic hc hN Q fr h β w a hq hR hS hE hsz
    simp only [cCode, Option.map_eq_some_iff] at hc; obtain ⟨ix, hx, rfl⟩ := hc
    obtain ⟨I, μ, hI, hround⟩ := hq
    -- the measure of a state: the least over what it may stand for
    let J : Nat → Act → World → Prop := fun m a w => ∃ fr h β, I fr h ∧ μ fr h = m ∧ Rel h β w ∧ Step n h0 β0 w0 h β w ∧ EnvR ⟨slots, []⟩ (shp h) β fr [] a ∧ N ≤ a.tmps.size
    have key : ∀ m a w, J m a w → ∀ (b : Frame) (k : List Item) (cs : List Frame), ∃ e a' w', PostC n N slots h0 β0 w0 Q e a' w' ∧ Arrives P (lone (b.at a (.code x :: .inLoop x :: k)) cs w) b k cs e a' w' := by
      intro m
      induction m using Nat.strongRecOn with
      | _ m ihm =>
        rintro a w ⟨fr, h, β, j1, rfl, j3, j4, j5, j6⟩
        have hb := ih ix hx (fun t ht => hN t (by simpa [dstC] using ht)) _ fr h β w a (hround fr h j1) j3 j4 j5 j6
        intro b k cs
        obtain ⟨e, a₁, w₁, ⟨ex, fr', h', β', e1, e2, e3, e4, e5, e6⟩, harr⟩ := hb b (.inLoop x :: k) cs
        cases e <;> simp only [exOf, Option.some.injEq] at e1 <;> try cases e1
        · obtain ⟨i1, i2⟩ := e2
          obtain ⟨e', a₂, w₂, hq₂, harr₂⟩ := ihm (μ fr' h') i2 a₁ w₁ ⟨fr', h', β', i1, rfl, e3, e4, e5, e6⟩ b k cs
          exact ⟨e', a₂, w₂, hq₂, .of_steps (Steps.trans harr (.one step_inLoop)) harr₂⟩
        · exact ⟨_, a₁, w₁, ⟨_, fr', h', β', rfl, e2, e3, e4, e5, e6⟩, .pass (x := .inLoop x) rfl (fun _ _ => .inl (by simp)) harr⟩
        · exact ⟨_, a₁, w₁, ⟨_, fr', h', β', rfl, e2, e3, e4, e5, e6⟩, .pass (x := .inLoop x) rfl (fun _ _ => .inl (by simp)) harr⟩
    intro b k cs
    obtain ⟨e, a', w', hq, harr⟩ := key _ a w ⟨fr, h, β, hI, rfl, hR, hS, hE, hsz⟩ b k cs
    exact ⟨e, a', w', hq, .of_steps (.one step_loop) harr⟩
  | _ => intro ic hc; simp [cCode] at hc

/-! ### functions -/
structure FnIs (P : Program) (f : Nat) (fn : IFn) : Prop where
  ex : ∃ F slots, P.funcs[f]? = some F ∧ cFn P slots F = some fn

def resV (fr : List V) (h : Heap) : List IRes → Option (List V)
  | [] => some []
  | .tmp i :: l => (resV fr h l).map (fr.getD i .any :: ·)
  | .cell i g :: l => match fr.getD i .any with
    | .s (.p r gn o) => match rowAt h r gn with
      | some row => match getAgg g row.cells o, resV fr h l with
        | some v, some t => some (v :: t)
        | _, _ => none
      | none => none
    | _ => none

theorem cRes_ok {P : Program} {slots : List Nat} {h : Heap} {β : Beta} {w : World} {fr : List V} {a : Act} (hR : Rel h β w) (hE : EnvR ⟨slots, []⟩ (shp h) β fr [] a) : ∀ {rv : List ResultVar} {l : List IRes} {vs : List V}, cRes P slots rv = some l → resV fr h l = some vs →
    ∃ us : List Value, (rv.mapM (m := Sem) fun | .tmp t => pure (a.tmps.getD t undef) | .cell c t => do loadVar t (← asAddr (a.tmps.getD c undef))).run P w = .ok us w ∧ us.length = vs.length ∧ ∀ (j : Nat) (x : V), vs[j]? = some x → ∃ u, us[j]? = some u ∧ VR (shp h) β x u
  | [], l, vs, hc, hv => by
    simp [cRes] at hc; subst hc
    simp [resV] at hv; subst hv
    exact ⟨[], by simp, rfl, by simp⟩
  | .tmp t :: rv, l, vs, hc, hv => by
    simp only [cRes] at hc
    split at hc
    case h_2 => cases hc
    rename_i i r hi hr
    injection hc with hc; subst hc
    simp only [resV, Option.map_eq_some_iff] at hv
    obtain ⟨vs', hv', rfl⟩ := hv
    obtain ⟨us, u1, u2, u3⟩ := cRes_ok hR hE hr hv'
    have hg := idxOf_get hi
    have hlt : i < fr.length := by rw [hE.len]; exact (List.getElem?_eq_some_iff.1 hg).1
    have hx : VR (shp h) β (fr.getD i .any) (a.tmps.getD t undef) := by
      rw [List.getD_eq_getElem?_getD, List.getElem?_eq_getElem hlt]
      exact hE.fr_ok i t _ hg (List.getElem?_eq_getElem hlt)
    refine ⟨a.tmps.getD t undef :: us, by simp only [List.mapM_cons, Sem.run_bind, Sem.run_pure, Result.andThen_ok, u1], by simp [u2], fun j x hj => ?_⟩
    cases j with
    | zero => simp only [List.getElem?_cons_zero, Option.some.injEq] at hj; subst hj; exact ⟨_, rfl, hx⟩
    | succ j => simpa using u3 j x (by simpa using hj)
  | .cell t ty :: rv, l, vs, hc, hv => by
    simp only [cRes] at hc
    split at hc
    case h_2 => cases hc
    rename_i i g r hi hg hr
    injection hc with hc; subst hc
    simp only [resV] at hv
    split at hv
    case h_2 => cases hv
    rename_i q gn o e1
    split at hv
    case h_2 => cases hv
    rename_i row hrow
    split at hv
    case h_2 => cases hv
    rename_i v vs' hv1 hv2
    injection hv with hv; subst hv
    obtain ⟨us, u1, u2, u3⟩ := cRes_ok hR hE hr hv2
    have hgg := idxOf_get hi
    have hlt : i < fr.length := by rw [hE.len]; exact (List.getElem?_eq_some_iff.1 hgg).1
    have hx : VR (shp h) β (fr.getD i .any) (a.tmps.getD t undef) := by
      rw [List.getD_eq_getElem?_getD, List.getElem?_eq_getElem hlt]
      exact hE.fr_ok i t _ hgg (List.getElem?_eq_getElem hlt)
    rw [e1] at hx
    obtain ⟨c, c1, c2⟩ := load_ok (P := P) hR hx hrow hg hv1
    obtain ⟨b1, b2⟩ := rowAt_some hrow
    have hcur := PR.cur hx b1 b2
    have hload : (do loadVar ty (← asAddr (a.tmps.getD t undef)) : Sem Value).run P w = .ok c w := by
      rw [hcur] at c1 ⊢
      simpa [Instr.loadAt, Instr.sureAddr, asAddr] using c1
    refine ⟨c :: us, by simp only [List.mapM_cons, Sem.run_bind, hload, Result.andThen_ok, u1, Sem.run_pure], by simp [u2], fun j x hj => ?_⟩
    cases j with
    | zero => simp only [List.getElem?_cons_zero, Option.some.injEq] at hj; subst hj; exact ⟨_, rfl, c2⟩
    | succ j => simpa using u3 j x (by simpa using hj)

/-- How a function's frame begins. -/
def initFr (fn : IFn) (args : List V) : List V := args ++ List.replicate (fn.slots.length - args.length) .u

/-- **A function by its code.** The end is told by 'R': the results, memory; what memory is told as may be less than there is ('h''' may forget and rename rows). -/
theorem acalls_raw {P : Program} (hm : P.follows .mixedOrders = true) {f : Nat} {fn : IFn} (hf : FnIs P f fn) {n : Nat} {args : List V} {h : Heap} {R : List V → Heap → Prop} (hna : args.length = fn.np)
    (hw : iwp P n fn.body (fun e fr h' => (match e with | .x _ => False | _ => True) ∧ ∃ rets, resV fr h' fn.results = some rets ∧ R rets h') (initFr fn args) h) : ACalls P n f args h R := by
  obtain ⟨F, slots, hF, hcf⟩ := hf.ex
  unfold cFn at hcf
  simp only at hcf
  split at hcf
  case h_2 => cases hcf
  rename_i c hbody
  split at hcf
  case h_2 => cases hcf
  rename_i b r hb hr
  split at hcf
  case isFalse => cases hcf
  rename_i hcond
  obtain ⟨k1, k2, k3, k4, k5⟩ := hcond
  injection hcf with hcf; subst hcf
  simp only at hna hw
  refine ⟨⟨F, hF, by rw [hbody]; rfl, k4⟩, fun w β vs hR hvs => ?_⟩
  obtain ⟨v1, v2⟩ := hvs
  have hN : ∀ t ∈ dstC c, t < F.ntmps := fun t ht => by simpa using (List.all_eq_true.1 k5) t ht
  have hsl : ∀ t ∈ slots, t < F.ntmps := fun t ht => by simpa using (List.all_eq_true.1 k3) t ht
  have hnps : F.params.size + F.nfree ≤ slots.length := by
    have := congrArg List.length k1
    simp at this; omega
  have hget : ∀ i, i < F.params.size + F.nfree → slots[i]? = some i := fun i hi => by
    have := congrArg (fun l => l[i]?) k1
    simp only [List.getElem?_take, hi, if_true] at this
    rw [this]; simp [hi]
  let a0 : Act := { tmps := vs ++ Array.replicate (F.ntmps - vs.size) undef, defers := [] }
  have hsz : F.ntmps ≤ a0.tmps.size := by simp [a0]; omega
  have hE : EnvR ⟨slots, []⟩ (shp h) β (args ++ List.replicate (slots.length - args.length) .u) [] a0 := by
    refine ⟨fun i t x h1 h2 => ?_, by simp; omega, fun t ht => Nat.lt_of_lt_of_le (hsl t ht) hsz, by intro t j hj; simp at hj, rfl⟩
    simp only at h1
    by_cases c : i < args.length
    · rw [List.getElem?_append_left c] at h2
      have hi := hget i (by omega)
      rw [hi] at h1; injection h1 with h1; subst h1
      obtain ⟨u, hu, hx⟩ := v2 i x h2
      have : a0.tmps.getD i undef = u := by
        simp only [a0]
        rw [Array.getD_eq_getD_getElem?, Array.getElem?_append_left (by omega), hu]; rfl
      rw [this]; exact hx
    · rw [List.getElem?_append_right (by omega), List.getElem?_replicate] at h2
      split at h2
      case isFalse => cases h2
      injection h2 with h2; subst h2
      -- a slot behind the parameters: not a parameter's
      have hge : args.length ≤ t := by
        rcases Nat.lt_or_ge t args.length with q | q
        · have ht := hget t (by omega)
          have pw := List.pairwise_iff_getElem.1 k2
          obtain ⟨b1, b2⟩ := List.getElem?_eq_some_iff.1 h1
          obtain ⟨d1, d2⟩ := List.getElem?_eq_some_iff.1 ht
          exact absurd (d2.trans b2.symm) (pw t i d1 b1 (by omega))
        · exact q
      show a0.tmps.getD t undef = undef
      simp only [a0]
      rw [Array.getD_eq_getD_getElem?, Array.getElem?_append_right (by omega), Array.getElem?_replicate]
      split <;> rfl
  have hwp := iwp_sound hm (n := n) (N := F.ntmps) k2 (h0 := h) (β0 := β) (w0 := w) c b hb hN _ _ h β w a0 hw hR (Step.refl _ _ _ _) hE hsz
  refine calls_of_wp hF hbody (wp_mono hwp ?_)
  rintro e a' w' ⟨ex, fr', h', β', e1, ⟨e2, rets, e3, e4⟩, e5, e6, e7, e8⟩
  obtain ⟨us, u1, u2, u3⟩ := cRes_ok (P := P) e5 e7 hr e3
  have hres : ∃ v, (results F a'.tmps).run P w' = .ok v w' ∧ RetV (shp h') β' rets v := by
    unfold results
    rw [Array.mapM_eq_mapM_toList]
    have hmap : (List.mapM (m := Sem) (fun x => match x with
        | ResultVar.tmp t => pure (a'.tmps.getD t undef)
        | ResultVar.cell a t => do loadVar t (← asAddr (a'.tmps.getD a undef))) F.results.toList).run P w' = .ok us w' := u1
    simp only [Sem.run_bind, Sem.run_map]
    refine ⟨if h : us.toArray.size = 1 then us.toArray[0] else .tuple us.toArray, ?_, ?_⟩
    · refine Eq.trans (congrArg (fun r => (r.andThen fun a w' => Result.ok a.toArray w').andThen fun a w' => (pure (if h : a.size = 1 then a[0] else Value.tuple a) : Sem Value).run P w') hmap) ?_
      rfl
    unfold RetV
    split
    · rename_i x
      have hlen : us.toArray.size = 1 := by simpa using u2
      rw [dif_pos hlen]
      obtain ⟨u, q1, q2⟩ := u3 0 x rfl
      have : us.toArray[0] = u := by
        have := (List.getElem?_eq_some_iff.1 q1).2
        simpa using this
      rw [this]; exact q2
    · rename_i hl
      have hlen : ¬ us.toArray.size = 1 := by
        intro q
        have : rets.length = 1 := by rw [← u2]; simpa using q
        obtain ⟨x, hx⟩ := List.length_eq_one_iff.1 this
        exact hl x hx
      rw [dif_neg hlen]
      exact ⟨us.toArray, rfl, by simpa using u2, fun j x hj => by simpa using u3 j x hj⟩
  obtain ⟨v, hv1, hv2⟩ := hres
  cases e <;> simp only [exOf, Option.some.injEq] at e1 <;> try cases e1
  · exact ⟨e7.defers, v, hv1, rets, h', β', v, rfl, e4, hv2, e5, e6⟩
  · exact absurd e2 (by simp)
  · exact ⟨e7.defers, v, hv1, rets, h', β', v, rfl, e4, hv2, e5, e6⟩

end Go.Px
