/- Own work over the kit: abstract memory, its rules, and the walk. -/
import Derived.Test.YtmkaaplbidlmcaaDoorPxEff2
set_option linter.unusedVariables false
set_option linter.unusedSimpArgs false
namespace Go.Px

section
variable {P : Program} {h : Heap} {β : Beta} {w : World} {E : Env} {fr : List V} {loc : Loc} {a : Act} {n : Nat}

theorem getD_put_same {a : Act} {t : Nat} {v : Value} (h : t < a.tmps.size) : (a.put (some t) v).tmps.getD t undef = v := by
  simp [Act.put, Array.getD_eq_getD_getElem?, Array.getElem?_setIfInBounds, h]
theorem getD_put_other {a : Act} {t t' : Nat} {v : Value} (h : t ≠ t') : (a.put (some t) v).tmps.getD t' undef = a.tmps.getD t' undef := by
  simp [Act.put, Array.getD_eq_getD_getElem?, Array.getElem?_setIfInBounds, h]
theorem size_put {a : Act} {d : Option Tmp} {v : Value} : (a.put d v).tmps.size = a.tmps.size := by cases d <;> simp [Act.put]
theorem defers_put {a : Act} {d : Option Tmp} {v : Value} : (a.put d v).defers = a.defers := by cases d <;> simp [Act.put]

theorem EnvR.evo {sh β sh' β'} (hE : EnvR E sh β fr loc a) (he : Evo sh β sh' β') : EnvR E sh' β' fr loc a := by
  refine ⟨fun i t x h1 h2 => (hE.fr_ok i t x h1 h2).evo he, hE.len, hE.bound, fun t j h1 => ?_, hE.defers⟩
  obtain ⟨vs, h2, h3⟩ := hE.loc_ok t j h1
  refine ⟨vs, h2, ?_⟩
  unfold RetV at h3 ⊢
  split
  · exact h3.evo he
  · rename_i l hl
    split at h3
    · exact absurd rfl (hl _)
    · obtain ⟨us, u1, u2, u3⟩ := h3
      exact ⟨us, u1, u2, fun j x hj => let ⟨u, c1, c2⟩ := u3 j x hj; ⟨u, c1, c2.evo he⟩⟩

/-- What a region's walk keeps beside the values. -/
structure RI (all : Array Oper) (E : Env) (seen : List (Option Nat)) (loc : Loc) (N : Nat) (a : Act) : Prop where
  len : loc.length = seen.length
  seen_ok : ∀ g, g < seen.length → seen[g]? = (all[g]?).map (·.dst)
  lk : ∀ g t, seen[g]? = some (some t) → t ∉ E.slots → E.loc.lookup t = some g
  ns : ∀ t j, E.loc.lookup t = some j → t ∉ E.slots ∧ j < seen.length
  sz : N ≤ a.tmps.size

/-- Behind an operation. -/
theorem put_none {all : Array Oper} {seen : List (Option Nat)} {N : Nat} {sh β} {vs : List V} {u : Value} (hE : EnvR E sh β fr loc a) (hI : RI all E seen loc N a) (hd : (all[seen.length]?).map (·.dst) = some none) :
    EnvR E sh β fr (loc ++ [vs]) (a.put none u) ∧ RI all E (seen ++ [none]) (loc ++ [vs]) N (a.put none u) := by
  refine ⟨⟨hE.fr_ok, hE.len, hE.bound, fun t j h1 => ?_, hE.defers⟩, ⟨by simp [hI.len], fun g hg => ?_, fun g t h1 h2 => ?_, fun t j h1 => ?_, hI.sz⟩⟩
  · obtain ⟨us, u1, u2⟩ := hE.loc_ok t j h1
    exact ⟨us, by rw [List.getElem?_append_left (List.getElem?_eq_some_iff.1 u1).1]; exact u1, u2⟩
  · simp at hg
    by_cases c : g < seen.length
    · rw [List.getElem?_append_left c]; exact hI.seen_ok g c
    · obtain rfl : g = seen.length := by omega
      rw [hd]; simp
  · by_cases c : g < seen.length
    · rw [List.getElem?_append_left c] at h1; exact hI.lk g t h1 h2
    · rw [List.getElem?_append_right (by omega)] at h1
      have : g - seen.length = 0 := by
        by_cases c0 : g - seen.length = 0
        · exact c0
        · rw [List.getElem?_eq_none (by simp; omega)] at h1; cases h1
      rw [this] at h1; simp at h1
  · obtain ⟨u1, u2⟩ := hI.ns t j h1
    exact ⟨u1, by simp; omega⟩

theorem put_slot {all : Array Oper} {seen : List (Option Nat)} {N : Nat} {sh β} {t k : Nat} {v : V} {u : Value} (hE : EnvR E sh β fr loc a) (hI : RI all E seen loc N a) (hd : (all[seen.length]?).map (·.dst) = some (some t)) (hk : E.slots.idxOf? t = some k)
    (hnd : E.slots.Nodup) (hv : VR sh β v u) (vs : List V) :
    EnvR E sh β (fr.set k v) (loc ++ [vs]) (a.put (some t) u) ∧ RI all E (seen ++ [some t]) (loc ++ [vs]) N (a.put (some t) u) := by
  have hkt := idxOf_get hk
  have htm : t ∈ E.slots := List.mem_of_getElem? hkt
  have htb := hE.bound t htm
  have hns : ∀ t' j, E.loc.lookup t' = some j → t ≠ t' := fun t' j h1 e => (hI.ns t' j h1).1 (e ▸ htm)
  refine ⟨⟨fun i t' x h1 h2 => ?_, by simp [hE.len], fun t' ht' => by rw [size_put]; exact hE.bound t' ht', fun t' j h1 => ?_, by rw [defers_put]; exact hE.defers⟩, ⟨by simp [hI.len], fun g hg => ?_, fun g t' h1 h2 => ?_, fun t' j h1 => ?_, by rw [size_put]; exact hI.sz⟩⟩
  · rw [List.getElem?_set] at h2
    by_cases c : k = i
    · subst c
      rw [hkt] at h1
      injection h1 with h1; subst h1
      rw [if_pos rfl] at h2
      split at h2
      · injection h2 with h2; subst h2
        rw [getD_put_same htb]; exact hv
      · cases h2
    · rw [if_neg c] at h2
      have hne : t ≠ t' := by
        intro e; subst e
        have hk1 := (List.getElem?_eq_some_iff.1 hkt)
        have hi1 := (List.getElem?_eq_some_iff.1 h1)
        obtain ⟨a1, a2⟩ := hk1
        obtain ⟨b1, b2⟩ := hi1
        have pw := List.pairwise_iff_getElem.1 hnd
        rcases Nat.lt_trichotomy k i with q | q | q
        · exact pw k i a1 b1 q (a2.trans b2.symm)
        · exact c q
        · exact pw i k b1 a1 q (b2.trans a2.symm)
      rw [getD_put_other hne]
      exact hE.fr_ok i t' x h1 h2
  · obtain ⟨us, u1, u2⟩ := hE.loc_ok t' j h1
    refine ⟨us, by rw [List.getElem?_append_left (List.getElem?_eq_some_iff.1 u1).1]; exact u1, ?_⟩
    rw [getD_put_other (hns t' j h1)]; exact u2
  · simp at hg
    by_cases c : g < seen.length
    · rw [List.getElem?_append_left c]; exact hI.seen_ok g c
    · obtain rfl : g = seen.length := by omega
      rw [hd]; simp
  · by_cases c : g < seen.length
    · rw [List.getElem?_append_left c] at h1; exact hI.lk g t' h1 h2
    · rw [List.getElem?_append_right (by omega)] at h1
      have : g - seen.length = 0 := by
        by_cases c0 : g - seen.length = 0
        · exact c0
        · rw [List.getElem?_eq_none (by simp; omega)] at h1; cases h1
      rw [this] at h1; simp at h1
      exact absurd (h1 ▸ htm) h2
  · obtain ⟨u1, u2⟩ := hI.ns t' j h1
    exact ⟨u1, by simp; omega⟩

theorem put_local {all : Array Oper} {seen : List (Option Nat)} {N : Nat} {sh β} {t : Nat} {vs : List V} {u : Value} (hE : EnvR E sh β fr loc a) (hI : RI all E seen loc N a) (hd : (all[seen.length]?).map (·.dst) = some (some t)) (hk : E.slots.idxOf? t = none) (hl : E.loc.lookup t = none)
    (htN : t < N) (hv : RetV sh β vs u) :
    EnvR ⟨E.slots, (t, seen.length) :: E.loc⟩ sh β fr (loc ++ [vs]) (a.put (some t) u) ∧ RI all ⟨E.slots, (t, seen.length) :: E.loc⟩ (seen ++ [some t]) (loc ++ [vs]) N (a.put (some t) u) := by
  have htm : t ∉ E.slots := by
    intro hm
    rw [List.idxOf?_eq_none_iff] at hk
    exact hk hm
  have htb : t < a.tmps.size := Nat.lt_of_lt_of_le htN hI.sz
  have look : ∀ t', List.lookup t' ((t, seen.length) :: E.loc) = if t' = t then some seen.length else E.loc.lookup t' := by
    intro t'
    simp only [List.lookup_cons]
    by_cases c : t' = t
    · subst c; simp
    · rw [if_neg c, beq_false_of_ne c]
  refine ⟨⟨fun i t' x h1 h2 => ?_, hE.len, fun t' ht' => by rw [size_put]; exact hE.bound t' ht', fun t' j h1 => ?_, by rw [defers_put]; exact hE.defers⟩, ⟨by simp [hI.len], fun g hg => ?_, fun g t' h1 h2 => ?_, fun t' j h1 => ?_, by rw [size_put]; exact hI.sz⟩⟩
  · have hne : t ≠ t' := fun e => htm (e ▸ List.mem_of_getElem? h1)
    rw [getD_put_other hne]; exact hE.fr_ok i t' x h1 h2
  · simp only at h1
    rw [look] at h1
    by_cases c : t' = t
    · subst c
      rw [if_pos rfl] at h1; injection h1 with h1; subst h1
      refine ⟨vs, by rw [List.getElem?_append_right (by rw [hI.len]; exact Nat.le_refl _), hI.len]; simp, ?_⟩
      rw [getD_put_same htb]; exact hv
    · rw [if_neg c] at h1
      obtain ⟨us, u1, u2⟩ := hE.loc_ok t' j h1
      refine ⟨us, by rw [List.getElem?_append_left (List.getElem?_eq_some_iff.1 u1).1]; exact u1, ?_⟩
      rw [getD_put_other (Ne.symm c)]; exact u2
  · simp at hg
    by_cases c : g < seen.length
    · rw [List.getElem?_append_left c]; exact hI.seen_ok g c
    · obtain rfl : g = seen.length := by omega
      rw [hd]; simp
  · simp only
    rw [look]
    by_cases c : g < seen.length
    · rw [List.getElem?_append_left c] at h1
      have := hI.lk g t' h1 h2
      by_cases c' : t' = t
      · subst c'; rw [hl] at this; cases this
      · rw [if_neg c']; exact this
    · rw [List.getElem?_append_right (by omega)] at h1
      have h0 : g - seen.length = 0 := by
        by_cases c0 : g - seen.length = 0
        · exact c0
        · rw [List.getElem?_eq_none (by simp; omega)] at h1; cases h1
      rw [h0] at h1; simp at h1
      rw [if_pos h1.symm]; congr 1; omega
  · simp only at h1
    rw [look] at h1
    by_cases c : t' = t
    · subst c; rw [if_pos rfl] at h1; injection h1 with h1; subst h1; exact ⟨htm, by simp⟩
    · rw [if_neg c] at h1
      obtain ⟨u1, u2⟩ := hI.ns t' j h1
      exact ⟨u1, by simp; omega⟩

/-- Whether a guarded operation is wanted. -/
theorem guard_ok {all : Array Oper} {seen : List (Option Nat)} {N : Nat} {sh β} (hE : EnvR E sh β fr loc a) (hI : RI all E seen loc N a) {o : Oper} {gi : Nat} {want : Bool} (hg : o.guard = some (gi, want)) (hc : cGuard seen E.slots o.guard = true) :
    (∀ x, loc[gi]? = some [.s (.b x)] → Region.wanted o (yielded all a.tmps) = decide (x = want)) ∧ (loc[gi]? = some [.u] → Region.wanted o (yielded all a.tmps) = false) := by
  rw [hg] at hc
  simp only [cGuard] at hc
  split at hc
  case h_2 => cases hc
  rename_i t hs
  have hns : t ∉ E.slots := by simpa using hc
  have hlk := hI.lk gi t hs hns
  have hlt : gi < seen.length := (List.getElem?_eq_some_iff.1 hs).1
  have hall := hI.seen_ok gi hlt
  rw [hs] at hall
  obtain ⟨vs, v1, v2⟩ := hE.loc_ok t gi hlk
  have hb : (all[gi]?).bind (·.dst) = some t := by
    cases hq : all[gi]? with
    | none => rw [hq] at hall; cases hall
    | some q => rw [hq] at hall; simp at hall; simp [← hall]
  constructor
  · intro x hx
    rw [hx] at v1; injection v1 with v1; subst v1
    have hv : a.tmps.getD t undef = .bool x := v2
    have hget : a.tmps[t]? = some (.bool x) := by
      rw [Array.getD_eq_getD_getElem?] at hv
      cases hq : a.tmps[t]? with
      | none => rw [hq] at hv; simp [undef] at hv
      | some q => rw [hq] at hv; simp at hv; rw [hv]
    simp only [Region.wanted, hg, yielded, hb, Option.bind_some, hget]
    cases x <;> cases want <;> rfl
  · intro hx
    rw [hx] at v1; injection v1 with v1; subst v1
    have hv : a.tmps.getD t undef = undef := v2
    simp only [Region.wanted, hg, yielded, hb, Option.bind_some]
    cases hq : a.tmps[t]? with
    | none => simp
    | some q =>
      rw [Array.getD_eq_getD_getElem?, hq] at hv
      simp at hv
      subst hv
      simp [undef]

/-- A call's operation arrives at the call. -/
theorem call_ok {sh β} (hE : EnvR E sh β fr loc a) {o : Oper} {io : IOp} (hc : cOp P E o.op = some io) {f : Nat} {args : List V} (hv : callOf (rho fr loc) io = some (f, args)) (hcal : Callable P f) :
    ∃ vs, (execOp a.eval o).run P w = .ok (.enter f vs) w ∧ VRs sh β args vs := by
  obtain ⟨F, f1, f2, f3⟩ := hcal
  have hcf : ∀ vs : Array Value, (callFunc f vs).run P w = .ok (.enter f vs) w := by
    intro vs
    simp only [callFunc, Sem.run_bind, run_program, Result.andThen_ok, f1, f3, Bool.false_eq_true, if_false]
    have : F.body.isNone = false := by cases hb : F.body <;> simp [hb] at f2 ⊢
    simp [this]
  obtain ⟨dst, op, ty, pos, after, guard⟩ := o
  simp only at hc
  cases op
  case call c =>
    obtain ⟨callee, cargs, ats⟩ := c
    have dyn : ∀ (fo : Operand) (q : Opd) (l : List Opd), callee = .value fo → cOpd E fo = some q → cOpds E cargs.toList = some l → io = .cald q l →
        ∃ vs, (execOp a.eval ⟨dst, .call ⟨callee, cargs, ats⟩, ty, pos, after, guard⟩).run P w = .ok (.enter f vs) w ∧ VRs sh β args vs := by
      intro fo q l hcal hq hl he
      subst hcal he
      simp only [callOf] at hv
      split at hv
      case h_2 => cases hv
      rename_i fn caps e1
      injection hv with hv; injection hv with t1 t2; subst t1 t2
      have hf := cOpd_ok hE hq
      rw [e1] at hf
      obtain ⟨cs, he, hs1, hs2⟩ := hf
      obtain ⟨g1, g2⟩ := cOpds_ok hE hl
      refine ⟨cargs.map a.eval ++ cs, ?_, ?_, ?_⟩
      · simp [execOp, resolve, he, Deferred.ofValue, invoke, hcf]
      · simp at g1 ⊢; omega
      · intro j x hj
        by_cases c : j < l.length
        · rw [List.getElem?_append_left (by simpa using c)] at hj
          obtain ⟨u, hu1, hu2⟩ := g2 j x hj
          refine ⟨u, ?_, hu2⟩
          rw [Array.getElem?_append_left (by simp at g1 ⊢; omega)]
          simpa using hu1
        · rw [List.getElem?_append_right (by simpa using c)] at hj
          simp only [List.length_map, List.getElem?_map, Option.map_eq_some_iff] at hj
          obtain ⟨cc, hcc, rfl⟩ := hj
          obtain ⟨u, hu1, hu2⟩ := hs2 _ cc hcc
          refine ⟨u, ?_, hu2⟩
          rw [Array.getElem?_append_right (by simp at g1 ⊢; omega)]
          simp at g1
          simp only [Array.size_map, g1]
          exact hu1
    cases callee with
    | invoke r m => simp [cOp] at hc
    | builtin b =>
      exfalso
      simp only [cOp] at hc
      unfold cBuiltin at hc
      split at hc
      · unfold cClear at hc
        (repeat' (split at hc)) <;> first | (cases hc; done) | (injection hc with hc; subst hc; simp [callOf] at hv; done)
      rename_i hnc; clear hnc
      unfold cBuiltin0 at hc
      (repeat' (split at hc)) <;> first
          | (cases hc; done)
          | (injection hc with hc; subst hc; simp [callOf] at hv; done)
          | (simp only [Option.map_eq_some_iff] at hc; obtain ⟨_, _, rfl⟩ := hc; simp [callOf] at hv; done)
    | value fo =>
      cases fo with
      | func g =>
        simp only [cOp, Option.map_eq_some_iff] at hc; obtain ⟨l, hl, rfl⟩ := hc
        simp only [callOf, Option.some.injEq, Prod.mk.injEq] at hv
        obtain ⟨rfl, rfl⟩ := hv
        refine ⟨cargs.map a.eval, ?_, ?_⟩
        · have he : a.eval (.func g) = .func (.func g) #[] #[] := rfl
          simp [execOp, resolve, he, Deferred.ofValue, invoke, hcf]
        · have := cOpds_ok hE hl
          have e : (cargs.toList.map a.eval).toArray = cargs.map a.eval := by apply Array.ext'; simp
          rwa [e] at this
      | tmp t => simp only [cOp] at hc; split at hc <;> first | (rename_i q l hq hl; injection hc with hc; exact dyn _ q l rfl hq hl hc.symm) | cases hc
      | const t => simp only [cOp] at hc; split at hc <;> first | (rename_i q l hq hl; injection hc with hc; exact dyn _ q l rfl hq hl hc.symm) | cases hc
      | global t => simp only [cOp] at hc; split at hc <;> first | (rename_i q l hq hl; injection hc with hc; exact dyn _ q l rfl hq hl hc.symm) | cases hc
  case makeFunc f fs caps =>
    exfalso
    cases f with
    | func f =>
      simp only [cOp] at hc
      split at hc
      · simp only [Option.map_eq_some_iff] at hc; obtain ⟨_, _, rfl⟩ := hc; simp [callOf] at hv
      · cases hc
    | _ => simp [cOp] at hc
  case extract x j =>
    exfalso
    cases x with
    | tmp t =>
      simp only [cOp] at hc
      split at hc
      · cases hc
      · simp only [Option.map_eq_some_iff] at hc; obtain ⟨_, _, rfl⟩ := hc; simp [callOf] at hv
    | _ => simp [cOp] at hc
  all_goals
    exfalso
    first
    | (simp [cOp] at hc; done)
    | (simp only [cOp] at hc
       (repeat' (split at hc)) <;> first
         | (cases hc; done)
         | (injection hc with hc; subst hc; simp [callOf] at hv; done)
         | (simp only [Option.map_eq_some_iff] at hc; obtain ⟨_, _, rfl⟩ := hc; simp [callOf] at hv; done))

theorem tupMov_ok {sh β} (hE : EnvR E sh β fr loc a) {o : Oper} {io : IOp} (hc : cOp P E o.op = some io) {vs : List V} (ht : tupMov loc io = some vs) :
    ∃ u, (execOp a.eval o).run P w = .ok (.value u) w ∧ vs.length ≠ 1 ∧ RetV sh β vs u := by
  obtain ⟨dst, op, ty, pos, after, guard⟩ := o
  simp only at hc
  have key : ∀ (x : Operand) (p : Opd), cOpd E x = some p → tupMov loc (.mov p) = some vs → vs.length ≠ 1 ∧ RetV sh β vs (a.eval x) := by
    intro x p hp hm
    cases p <;> simp only [tupMov] at hm <;> try cases hm
    rename_i j
    split at hm
    case h_2 => cases hm
    rename_i vs' hvs
    split at hm
    case isTrue => cases hm
    rename_i hlen
    injection hm with hm; subst hm
    refine ⟨hlen, ?_⟩
    cases x with
    | tmp t =>
      simp only [cOpd] at hp
      split at hp
      · cases hp
      · simp only [Option.map_eq_some_iff] at hp
        obtain ⟨k, hk, hkj⟩ := hp
        injection hkj with hkj; subst hkj
        obtain ⟨vs2, h1, h2⟩ := hE.loc_ok t k hk
        rw [hvs] at h1; injection h1 with h1; subst h1
        exact h2
    | const v => simp only [cOpd, Option.map_eq_some_iff] at hp; obtain ⟨_, _, hp⟩ := hp; cases hp
    | func f => simp only [cOpd] at hp; injection hp with hp; cases hp
    | global g => simp [cOpd] at hp
  cases op
  case move x =>
    simp only [cOp, Option.map_eq_some_iff] at hc
    obtain ⟨p, hp, rfl⟩ := hc
    obtain ⟨k1, k2⟩ := key x p hp ht
    exact ⟨_, by simp [execOp], k1, k2⟩
  case assign x =>
    simp only [cOp, Option.map_eq_some_iff] at hc
    obtain ⟨p, hp, rfl⟩ := hc
    obtain ⟨k1, k2⟩ := key x p hp ht
    exact ⟨_, by simp [execOp], k1, k2⟩
  case call c =>
    exfalso
    obtain ⟨callee, args, ats⟩ := c
    cases callee with
    | invoke r m => simp [cOp] at hc
    | value f =>
      cases f with
      | func f => simp only [cOp, Option.map_eq_some_iff] at hc; obtain ⟨_, _, rfl⟩ := hc; simp [tupMov] at ht
      | tmp t => simp only [cOp] at hc; split at hc <;> first | (injection hc with hc; subst hc; simp [tupMov] at ht; done) | cases hc
      | const t => simp only [cOp] at hc; split at hc <;> first | (injection hc with hc; subst hc; simp [tupMov] at ht; done) | cases hc
      | global t => simp only [cOp] at hc; split at hc <;> first | (injection hc with hc; subst hc; simp [tupMov] at ht; done) | cases hc
    | builtin b =>
      simp only [cOp] at hc
      unfold cBuiltin at hc
      split at hc
      · unfold cClear at hc
        (repeat' (split at hc)) <;> first | (cases hc; done) | (injection hc with hc; subst hc; simp [tupMov] at ht; done)
      unfold cBuiltin0 at hc
      (repeat' (split at hc)) <;> first
          | (cases hc; done)
          | (injection hc with hc; subst hc; simp [tupMov] at ht; done)
          | (simp only [Option.map_eq_some_iff] at hc; obtain ⟨_, _, rfl⟩ := hc; simp [tupMov] at ht; done)
  case makeFunc f fs caps =>
    exfalso
    cases f with
    | func f =>
      simp only [cOp] at hc
      split at hc
      · simp only [Option.map_eq_some_iff] at hc; obtain ⟨_, _, rfl⟩ := hc; simp [tupMov] at ht
      · cases hc
    | _ => simp [cOp] at hc
  case extract x j =>
    exfalso
    cases x with
    | tmp t =>
      simp only [cOp] at hc
      split at hc
      · cases hc
      · simp only [Option.map_eq_some_iff] at hc; obtain ⟨_, _, rfl⟩ := hc; simp [tupMov] at ht
    | _ => simp [cOp] at hc
  all_goals
    exfalso
    first
    | (simp [cOp] at hc; done)
    | (simp only [cOp] at hc
       (repeat' (split at hc)) <;> first
         | (cases hc; done)
         | (injection hc with hc; subst hc; simp [tupMov] at ht; done)
         | (simp only [Option.map_eq_some_iff] at hc; obtain ⟨_, _, rfl⟩ := hc; simp [tupMov] at ht; done))

/-- A region whose order is the text's. -/
theorem reg_ok {N : Nat} {all : Array Oper} {Qc : Exit → Act → World → Prop} {Q : List V → Heap → Prop} {h0 : Heap} {β0 : Beta} {w0 : World} :
    ∀ (ops : List Oper) (E : Env) (seen : List (Option Nat)) (ios : List IOq) (fr : List V) (loc : Loc) (h : Heap) (β : Beta) (w : World) (a : Act),
      (∀ j, ops[j]? = all[seen.length + j]?) → cOps P E seen ops = some ios → E.slots.Nodup → (∀ o ∈ ops, ∀ t, o.dst = some t → t < N) → rwp P n Q ios fr loc h →
      Rel h β w → Step n h0 β0 w0 h β w → EnvR E (shp h) β fr loc a → RI all E seen loc N a →
      (∀ fr h β w a, Q fr h → Rel h β w → Step n h0 β0 w0 h β w → EnvR ⟨E.slots, []⟩ (shp h) β fr [] a → N ≤ a.tmps.size → Qc .normal a w) →
      wpOps P all Qc (List.range' seen.length ops.length) a w
  | [], E, seen, ios, fr, loc, h, β, w, a, hsuf, hc, hnd, hN, hr, hRel, hStep, hE, hI, hfin => by
    simp only [cOps, Option.some.injEq] at hc; subst hc
    simp only [rwp] at hr
    simp only [List.length_nil, List.range'_zero, wpOps]
    exact hfin fr h β w a hr hRel hStep ⟨hE.fr_ok, hE.len, hE.bound, by intro t j hj; simp at hj, hE.defers⟩ hI.sz
  | o :: ops, E, seen, ios, fr, loc, h, β, w, a, hsuf, hc, hnd, hN, hr, hRel, hStep, hE, hI, hfin => by
    have ho : all[seen.length]? = some o := by simpa using (hsuf 0).symm
    have hsuf' : ∀ (d : Option Nat) j, ops[j]? = all[(seen ++ [d]).length + j]? := by
      intro d j
      have := hsuf (j + 1)
      simp only [List.getElem?_cons_succ] at this
      rw [this]; congr 1; simp; omega
    have hdst : (all[seen.length]?).map (·.dst) = some o.dst := by rw [ho]; rfl
    have hN' : ∀ o' ∈ ops, ∀ t, o'.dst = some t → t < N := fun o' h' => hN o' (List.mem_cons_of_mem _ h')
    unfold cOps at hc
    split at hc
    · cases hc
    rename_i hguard
    have hguard' : cGuard seen E.slots o.guard = true := by simpa using hguard
    simp only at hc
    generalize hio : (cOp P E o.op).getD .bad = io at hc
    have hbad : io = .bad ∨ cOp P E o.op = some io := by
      cases hcc : cOp P E o.op with
      | none => rw [hcc] at hio; exact .inl hio.symm
      | some q => rw [hcc] at hio; simp at hio; exact .inr (by rw [hio])
    -- how the walk goes on
    have cont : ∃ (d : Option Nat) (r : List IOq) (E' : Env), ios = ⟨o.guard, d, io⟩ :: r ∧ E'.slots = E.slots ∧ cOps P E' (seen ++ [o.dst]) ops = some r ∧
        ∀ (vs : List V) (u : Value) (h' : Heap) (β' : Beta) (w' : World) (a' : Act), a' = a → RetV (shp h') β' vs u → Rel h' β' w' → Step n h0 β0 w0 h' β' w' → EnvR E (shp h') β' fr loc a' → (o.dst = none ∨ d = none ∨ ∃ v, vs = [v]) →
          rwp P n Q r (match vs with | [v] => setv fr d v | _ => fr) (loc ++ [vs]) h' → wpOps P all Qc (List.range' (seen.length + 1) ops.length) (a'.put o.dst u) w' := by
      split at hc
      · rename_i hd
        simp only [Option.map_eq_some_iff] at hc; obtain ⟨r, hr', rfl⟩ := hc
        refine ⟨none, r, E, rfl, rfl, by rw [hd]; exact hr', ?_⟩
        intro vs u h' β' w' a' ha hv hR hS hE' _ hrw
        subst ha
        rw [hd] at hdst ⊢
        obtain ⟨e1, e2⟩ := put_none (vs := vs) (u := u) hE' hI hdst
        have := reg_ok ops E (seen ++ [none]) r fr (loc ++ [vs]) h' β' w' (a'.put none u) (hsuf' _) hr' hnd hN' (by split at hrw <;> simpa [setv] using hrw) hR hS e1 e2 hfin
        simpa using this
      · rename_i t hd
        split at hc
        · rename_i k hk
          simp only [Option.map_eq_some_iff] at hc; obtain ⟨r, hr', rfl⟩ := hc
          refine ⟨some k, r, E, rfl, rfl, by rw [hd]; exact hr', ?_⟩
          intro vs u h' β' w' a' ha hv hR hS hE' hone hrw
          subst ha
          rw [hd] at hdst ⊢
          rcases hone with q | q | ⟨v, rfl⟩
          · rw [hd] at q; cases q
          · cases q
          obtain ⟨e1, e2⟩ := put_slot (v := v) (u := u) hE' hI hdst hk hnd hv [v]
          have := reg_ok ops E (seen ++ [some t]) r (fr.set k v) (loc ++ [[v]]) h' β' w' (a'.put (some t) u) (hsuf' _) hr' hnd hN' (by simpa [setv] using hrw) hR hS e1 e2 hfin
          simpa using this
        · rename_i hk
          split at hc
          · cases hc
          rename_i hl
          simp only [Option.map_eq_some_iff] at hc; obtain ⟨r, hr', rfl⟩ := hc
          refine ⟨none, r, ⟨E.slots, (t, seen.length) :: E.loc⟩, rfl, rfl, by rw [hd]; exact hr', ?_⟩
          intro vs u h' β' w' a' ha hv hR hS hE' hone hrw
          subst ha
          rw [hd] at hdst ⊢
          obtain ⟨e1, e2⟩ := put_local (vs := vs) (u := u) hE' hI hdst hk (by cases hq : E.loc.lookup t with | none => rfl | some q => rw [hq] at hl; simp at hl) (hN o (by simp) t hd) hv
          have := reg_ok ops ⟨E.slots, (t, seen.length) :: E.loc⟩ (seen ++ [some t]) r fr (loc ++ [vs]) h' β' w' (a'.put (some t) u) (hsuf' _) hr' hnd hN' (by split at hrw <;> simpa [setv] using hrw) hR hS e1 e2 hfin
          simpa using this
    obtain ⟨d, r, E', rfl, hsl, hcr, go⟩ := cont
    simp only [List.length_cons, List.range'_succ, wpOps, ho]
    simp only [rwp] at hr
    -- a wanted operation
    have run : (match io.kind with
      | .p => match tupMov loc io with
        | some vs => d = none ∧ rwp P n Q r fr (loc ++ [vs]) h
        | none => ∃ v, evalP h (rho fr loc) loc io = some v ∧ rwp P n Q r (setv fr d v) (loc ++ [[v]]) h
      | .e => ∃ v h' t, evalE h (rho fr loc) io = some (v, h', t) ∧ (∀ r, t = some r → n ≤ r) ∧ rwp P n Q r (setv fr d v) (loc ++ [[v]]) h'
      | .c => ∃ f args, callOf (rho fr loc) io = some (f, args) ∧ ACalls P n f args h fun rets h' => (∃ x, rets = [x] ∧ rwp P n Q r (setv fr d x) (loc ++ [[x]]) h') ∨ (rets.length ≠ 1 ∧ d = none ∧ rwp P n Q r fr (loc ++ [rets]) h')
      | .x => False) → o.wp P a w (wpOps P all Qc (List.range' (seen.length + 1) ops.length)) Qc := by
      intro hrun
      rcases hbad with hbad | hcop
      · subst hbad; exact absurd hrun (by simp [IOp.kind])
      split at hrun
      · split at hrun
        · rename_i vs htm
          obtain ⟨hd, hrw⟩ := hrun
          obtain ⟨u, hu1, hlen, hu2⟩ := tupMov_ok (P := P) (w := w) hE hcop htm
          unfold Oper.wp
          rw [hu1, Oper.upon_value]
          refine go vs u h β w a rfl hu2 hRel hStep hE (.inr (.inl hd)) ?_
          split
          · exact absurd rfl hlen
          · exact hrw
        · obtain ⟨v, hv, hrw⟩ := hrun
          obtain ⟨u, hu1, hu2⟩ := evalP_all (P := P) hRel hE hcop hv
          unfold Oper.wp
          rw [hu1, Oper.upon_value]
          exact go [v] u h β w a rfl hu2 hRel hStep hE (.inr (.inr ⟨v, rfl⟩)) hrw
      · obtain ⟨v, h', t, hv, htn, hrw⟩ := hrun
        obtain ⟨nx, u, w', β', r1, r2, r3, r4, r5⟩ := evalE_ok (P := P) (n := n) hRel hE hcop hv htn
        unfold Oper.wp
        rw [r1]
        rcases r2 with rfl | ⟨rfl, rfl⟩
        · rw [Oper.upon_value]
          exact go [v] u h' β' w' a rfl r3 r4 (hStep.trans r5) (hE.evo r5.evo) (.inr (.inr ⟨v, rfl⟩)) hrw
        · rw [Oper.upon_skip]
          exact go [v] undef h' β' w' a rfl r3 r4 (hStep.trans r5) (hE.evo r5.evo) (.inr (.inr ⟨v, rfl⟩)) hrw
      · obtain ⟨f, args, hv, hcal, hcalls⟩ := hrun
        obtain ⟨vs, v1, v2⟩ := call_ok (P := P) (w := w) hE hcop hv hcal
        unfold Oper.wp
        rw [v1, Oper.upon_enter]
        refine (hcalls w β vs hRel v2).mono ?_
        rintro e w' ⟨rets, h', β', v, rfl, hR, hret, hrel, hst⟩
        show wpOps P all Qc _ (a.put o.dst v) w'
        rcases hR with ⟨x, rfl, hrw⟩ | ⟨hlen, hd, hrw⟩
        · exact go [x] v h' β' w' a rfl hret hrel (hStep.trans hst) (hE.evo hst.evo) (.inr (.inr ⟨x, rfl⟩)) hrw
        · refine go rets v h' β' w' a rfl hret hrel (hStep.trans hst) (hE.evo hst.evo) (.inr (.inl hd)) ?_
          split
          · exact absurd rfl hlen
          · exact hrw
      · exact absurd hrun (by simp)
    have skip : rwp P n Q r (setv fr d .u) (loc ++ [[.u]]) h → wpOps P all Qc (List.range' (seen.length + 1) ops.length) (a.put o.dst undef) w :=
      fun hrw => go [.u] undef h β w a rfl rfl hRel hStep hE (.inr (.inr ⟨.u, rfl⟩)) hrw
    cases hg : o.guard with
    | none =>
      rw [hg] at hr
      have hw : Region.wanted o (yielded all a.tmps) = true := by simp [Region.wanted, hg]
      rw [if_pos hw]
      exact .inl (run hr)
    | some gw =>
      obtain ⟨gi, want⟩ := gw
      rw [hg] at hr
      obtain ⟨g1, g2⟩ := guard_ok hE hI hg hguard'
      simp only at hr
      split at hr
      · rename_i x hx
        have hw := g1 x hx
        by_cases c : x = want
        · rw [if_pos c] at hr
          rw [hw, if_pos (by simpa using c)]
          exact .inl (run hr)
        · rw [if_neg c] at hr
          rw [hw, if_neg (by simpa using c)]
          exact skip hr
      · rename_i hx
        rw [g2 hx, if_neg (by simp)]
        exact skip hr
      · exact absurd hr (by simp)

end
end Go.Px
