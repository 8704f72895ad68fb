/- Own work over the kit: abstract memory, its rules, and the walk. -/
import Derived.Test.YtmkaaplbidlmcaaDoorPxFl1
set_option linter.unusedVariables false
set_option linter.unusedSimpArgs false
namespace Go.Px

/-- May this operation come up ahead of its place? -/
def isFl (P : Program) (all : List Oper) (ios : List IOq) (f : Nat) : Bool :=
  match all[f]?, ios[f]? with
  | some o, some io => o.guard.isNone && (o.after.toList.all fun e => !Region.binds .any e) && decide (cOp P ⟨[], []⟩ o.op = some io.op) && (fltOf io.op).isSome &&
    (match o.dst with | some t => (List.range all.length).all fun i => decide (i = f) || (match all[i]? with | some o' => !decide (o'.dst = some t) | none => true) | none => false)
  | _, _ => false

def fChk (P : Program) (all : List Oper) (ios : List IOq) (k : Nat) : Bool :=
  let M := ancs all []
  let m := all.length
  decide (k < m) && decide (ios.length = m) &&
  ((List.range m).all fun j => match all[j]? with | some o => o.after.toList.all (fun e => !Region.binds .any e || decide (e.on < j)) | none => true) &&
  ((List.range m).all fun j => decide (j < k) || isFl P all ios j || (List.range j).all fun i => (M.getD j 0).testBit i) &&
  ((List.range k).all fun j => match ios[j]? with
    | some io => (match io.d with
        | none => true
        | some s => (List.range k).all fun i => decide (i = j) || (match ios[i]? with
          | some io' => !decide (io'.d = some s) && (!(io'.op.opds.contains (.v s)) || (if i < j then (M.getD j 0).testBit i else (M.getD i 0).testBit j))
          | none => true)) &&
        io.uses.all (fun u => (M.getD j 0).testBit u && ((all[u]?).bind (·.dst)).isSome && (match ios[u]? with | some io' => io'.d.isNone | none => false)) && io.op.opds.all Opd.plain &&
        (!io.op.ac || (List.range j).all fun i => match ios[i]? with | some io' => !io'.op.ac || (M.getD j 0).testBit i | none => true)
    | none => false)

structure FlOk (P : Program) (all : List Oper) (ios : List IOq) (f : Nat) (o : Oper) (io : IOq) (l : List S) (mkv : Nat → S) (t : Nat) : Prop where
  ho : all[f]? = some o
  hio : ios[f]? = some io
  g : o.guard = none
  af : ∀ e ∈ o.after, Region.binds .any e = false
  c : cOp P ⟨[], []⟩ o.op = some io.op
  fl : fltOf io.op = some (l, mkv)
  d : o.dst = some t
  un : ∀ i o', i ≠ f → all[i]? = some o' → o'.dst ≠ some t
theorem isFl_ok {P : Program} {all : List Oper} {ios : List IOq} {f : Nat} (h : isFl P all ios f = true) : ∃ o io l mkv t, FlOk P all ios f o io l mkv t := by
  unfold isFl at h
  split at h
  · rename_i o io ho hio
    simp only [Bool.and_eq_true, decide_eq_true_eq] at h
    obtain ⟨⟨⟨⟨h1, h2⟩, h3⟩, h4⟩, h5⟩ := h
    obtain ⟨⟨l, mkv⟩, hf⟩ := Option.isSome_iff_exists.1 h4
    split at h5
    · rename_i t ht
      refine ⟨o, io, l, mkv, t, ho, hio, by simpa using h1, fun e he => ?_, h3, hf, ht, fun i o' hne hi => ?_⟩
      · have := (List.all_eq_true.1 h2) e (by simpa using he)
        simpa using this
      · have hlt : i < all.length := (List.getElem?_eq_some_iff.1 hi).1
        have := (List.all_eq_true.1 h5) i (by simpa using hlt)
        rw [hi] at this
        simpa [hne] using this
    · cases h5
  · cases h

structure FOk (P : Program) (all : List Oper) (ios : List IOq) (k : Nat) : Prop extends DOk0 all ios k where
  kl : k < all.length
  tail : ∀ j, k ≤ j → j < all.length → isFl P all ios j = true ∨ ∀ i, i < j → ((ancs all []).getD j 0).testBit i = true

theorem fChk_ok {P : Program} {all : List Oper} {ios : List IOq} {k : Nat} (h : fChk P all ios k = true) : FOk P all ios k := by
  unfold fChk at h
  simp only [Bool.and_eq_true, decide_eq_true_eq, List.all_eq_true, List.mem_range, Bool.or_eq_true, Bool.not_eq_true'] at h
  obtain ⟨⟨⟨⟨h1, h2⟩, h3⟩, h4⟩, h5⟩ := h
  refine ⟨⟨Nat.le_of_lt h1, h2, ?_, ?_, ?_, ?_, ?_⟩, h1, ?_⟩
  · intro j o ho e he hb
    have hj : j < all.length := (List.getElem?_eq_some_iff.1 ho).1
    have := h3 j hj
    rw [ho] at this
    simp only [List.all_eq_true, Bool.or_eq_true, Bool.not_eq_true', decide_eq_true_eq] at this
    rcases this e (by simpa using he) with q | q
    · rw [hb] at q; cases q
    · exact q
  · intro j io s hj hio hd i io' hi hij hio'
    have := h5 j hj
    rw [hio] at this
    simp only [hd, Bool.and_eq_true, List.all_eq_true, List.mem_range, Bool.or_eq_true, decide_eq_true_eq] at this
    rcases this.1.1.1 i hi with q | q
    · exact absurd q hij
    · rw [hio'] at q
      simp only [Bool.and_eq_true, Bool.not_eq_true', decide_eq_false_iff_not, Bool.or_eq_true] at q
      refine ⟨q.1, fun hm => ⟨fun hlt => ?_, fun hlt => ?_⟩⟩
      · rcases q.2 with q2 | q2
        · have : List.contains io'.op.opds (Opd.v s) = true := by simpa using hm
          rw [this] at q2; cases q2
        · rwa [if_pos hlt] at q2
      · rcases q.2 with q2 | q2
        · have : List.contains io'.op.opds (Opd.v s) = true := by simpa using hm
          rw [this] at q2; cases q2
        · rwa [if_neg (by omega)] at q2
  · intro j io hj hio u hu
    have := h5 j hj
    rw [hio] at this
    simp only [Bool.and_eq_true, List.all_eq_true] at this
    have := this.1.1.2 u hu
    refine ⟨this.1.1, Option.isSome_iff_exists.1 this.1.2, ?_⟩
    have := this.2
    split at this
    · rename_i io' hio'
      exact ⟨io', hio', by cases hd : io'.d <;> simp [hd] at this ⊢⟩
    · cases this
  · intro j io hj hio o ho
    have := h5 j hj
    rw [hio] at this
    simp only [Bool.and_eq_true, List.all_eq_true] at this
    exact this.1.2 o ho
  · intro i j io io' hij hjk hi hj ha hb
    have := h5 j hjk
    rw [hj] at this
    simp only [Bool.and_eq_true, Bool.or_eq_true, Bool.not_eq_true', List.all_eq_true, List.mem_range] at this
    rcases this.2 with q | q
    · rw [hb] at q; cases q
    · have := q i hij
      rw [hi] at this
      simp only [Bool.or_eq_true, Bool.not_eq_true'] at this
      rcases this with q | q
      · rw [ha] at q; cases q
      · exact q
  · intro j hk hj
    rcases h4 j hj with (q | q) | q
    · omega
    · exact .inl q
    · exact .inr q

section
variable {P : Program} {n N k : Nat} {all : Array Oper} {slots : List Nat} {ios : List IOq} {h0 : Heap} {β0 : Beta} {w0 : World} {Qc : Exit → Act → World → Prop}

/-- What came up ahead of its place. -/
structure FI (P : Program) (all : Array Oper) (ios : List IOq) (m : Nat) (F : Nat → Prop) (p : Nat → Place) (h : Heap) (β : Beta) (w : World) (a : Act) : Prop where
  ext : ∀ i, F i → ∃ o io l mkv t, FlOk P all.toList ios i o io l mkv t ∧ Ext m h β w l mkv (p i) (a.tmps.getD t undef)
  sep : ∀ i i', F i → F i' → i ≠ i' → (p i).blk ≠ (p i').blk

theorem FI.step {m : Nat} {F : Nat → Prop} {p : Nat → Place} {h h' : Heap} {β β' : Beta} {w w' : World} {a : Act} (x : FI P all ios m F p h β w a) (hS : Step n h β w h' β' w') {i : Nat} {o : Oper} (ho : all[i]? = some o) (hn : ¬ F i) (u : Value) : FI P all ios m F p h' β' w' (a.put o.dst u) := by
  refine ⟨fun j hj => ?_, x.sep⟩
  obtain ⟨o', io, l, mkv, t, y1, y2⟩ := x.ext j hj
  refine ⟨o', io, l, mkv, t, y1, ?_⟩
  have : (a.put o.dst u).tmps.getD t undef = a.tmps.getD t undef := by
    cases hd : o.dst with
    | none => rfl
    | some t' =>
      have : t' ≠ t := fun e => y1.un i o (fun e => hn (e ▸ hj)) (by simpa using ho) (by rw [hd, e])
      exact getD_put_other this
  rw [this]
  exact y2.step hS

theorem FI.add {m : Nat} {F : Nat → Prop} {p : Nat → Place} {h : Heap} {β : Beta} {w w' : World} {a : Act} {N : Nat} (x : FI P all ios m F p h β w a) (hS : Step n h β w h β w') {i : Nat} {o : Oper} {io : IOq} {l : List S} {mkv : Nat → S} {t : Nat} (hf : FlOk P all.toList ios i o io l mkv t) (hn : ¬ F i)
    (hm : m ≤ w.heap.size) (hsz : t < a.tmps.size) {u : Value} {p0 : Place} (e : Ext w.heap.size h β w' l mkv p0 u) : FI P all ios m (fun j => F j ∨ j = i) (fun j => if j = i then p0 else p j) h β w' (a.put o.dst u) := by
  have x' := x.step (n := n) hS (by simpa using hf.ho) hn u
  have hlt : ∀ j, F j → (p j).blk < w.heap.size := fun j hj => by
    obtain ⟨_, _, _, _, _, _, y⟩ := x.ext j hj
    exact y.2.1
  refine ⟨fun j hj => ?_, fun j j' hj hj' hne => ?_⟩
  · by_cases c : j = i
    · subst c
      refine ⟨o, io, l, mkv, t, hf, ?_⟩
      rw [hf.d, getD_put_same hsz, if_pos rfl]
      exact ⟨Nat.le_trans hm e.1, e.2⟩
    · obtain ⟨o', io', l', mkv', t', y1, y2⟩ := x'.ext j (hj.resolve_right c)
      exact ⟨o', io', l', mkv', t', y1, by rw [if_neg c]; exact y2⟩
  · by_cases c : j = i
    · subst c
      simp only [if_true]
      rw [if_neg (Ne.symm hne)]
      have := hlt j' (hj'.resolve_right (Ne.symm hne))
      have := e.1
      omega
    · by_cases c' : j' = i
      · subst c'
        simp only [if_true]
        rw [if_neg c]
        have := hlt j (hj.resolve_right c)
        have := e.1
        omega
      · rw [if_neg c, if_neg c']
        exact x.sep j j' (hj.resolve_right c) (hj'.resolve_right c') hne

theorem put_self {a : Act} {t : Nat} {u : Value} (h : t < a.tmps.size) (hu : a.tmps.getD t undef = u) : a.put (some t) u = a := by
  have : a.tmps.setIfInBounds t u = a.tmps := by
    apply Array.ext_getElem?
    intro i
    rw [Array.getElem?_setIfInBounds]
    by_cases c : t = i
    · subst c
      rw [if_pos rfl, if_pos h]
      rw [Array.getD_eq_getD_getElem?, Array.getElem?_eq_getElem h] at hu
      rw [Array.getElem?_eq_getElem h]
      simpa using hu.symm
    · rw [if_neg c]
  cases a
  simp only [Act.put] at this ⊢
  simp only [Act.mk.injEq, and_true]
  exact this

theorem EnvR.put_apart {E : Env} {sh : List Sh} {β : Beta} {fr : List V} {loc : Loc} {a : Act} (hE : EnvR E sh β fr loc a) {t : Nat} {u : Value} (h1 : ∀ s, E.slots.idxOf? t = some s → fr.getD s .any = .any) (hnd : E.slots.Nodup) (h2 : E.loc.lookup t = none) : EnvR E sh β fr loc (a.put (some t) u) := by
  refine ⟨fun s t' x e1 e2 => ?_, hE.len, fun t' ht => by rw [size_put]; exact hE.bound t' ht, fun t' j e => ?_, by rw [defers_put]; exact hE.defers⟩
  · by_cases c : t = t'
    · subst c
      have hs : E.slots.idxOf? t = some s := by
        obtain ⟨b1, b2⟩ := List.getElem?_eq_some_iff.1 e1
        rw [List.idxOf?_eq_some_iff]
        refine ⟨b1, b2, fun j hj => fun e => ?_⟩
        have pw := List.pairwise_iff_getElem.1 hnd
        have e : E.slots[j] = t := e
        exact pw j s (by omega) b1 hj (e.trans b2.symm)
      have := h1 s hs
      rw [List.getD_eq_getElem?_getD, e2] at this
      simp at this
      subst this
      exact trivial
    · rw [getD_put_other c]; exact hE.fr_ok s t' x e1 e2
  · obtain ⟨vs, v1, v2⟩ := hE.loc_ok t' j e
    refine ⟨vs, v1, ?_⟩
    rw [getD_put_other (fun q => by subst q; rw [h2] at e; cases e)]; exact v2

/-- The operations from the j-th on, floats come up ahead. -/
theorem tail_fl (hok : FOk P all.toList ios k) (hNb : ∀ o ∈ all.toList, ∀ t, o.dst = some t → t < N) (hnd : slots.Nodup) {Q : List V → Heap → Prop}
    (hfin : ∀ fr h β w a, Q fr h → Rel h β w → Step n h0 β0 w0 h β w → EnvR ⟨slots, []⟩ (shp h) β fr [] a → N ≤ a.tmps.size → Qc .normal a w) :
    ∀ (M : Nat) (j : Nat) (F : Nat → Prop) (p : Nat → Place) (L : Array Bool) (E : Env) (fr : List V) (loc : Loc) (h : Heap) (β : Beta) (w : World) (a : Act) (fuel : Nat), cnt all.size L * (all.size + 1) + (all.size - j) ≤ M → k ≤ j → j ≤ all.size → L.size = all.size → (∀ i, i < all.size → (Ld L i ↔ i < j ∨ F i)) → (∀ i, F i → j ≤ i ∧ i < all.size ∧ isFl P all.toList ios i = true) →
      cOps P E ((all.toList.take j).map (·.dst)) (all.toList.drop j) = some (ios.drop j) → E.slots = slots → rwp P n Q (ios.drop j) fr loc h → Rel h β w → Step n h0 β0 w0 h β w → EnvR E (shp h) β fr loc a → RI all E ((all.toList.take j).map (·.dst)) loc N a →
      (∀ i o t s, j ≤ i → isFl P all.toList ios i = true → all[i]? = some o → o.dst = some t → slots.idxOf? t = some s → fr.getD s .any = .any) →
      (∀ i o t, j ≤ i → isFl P all.toList ios i = true → all[i]? = some o → o.dst = some t → E.loc.lookup t = none) →
      FI P all ios w0.heap.size F p h β w a → cnt all.size L ≤ fuel → wpAny P .any all Qc fuel L a w := by
  have hlt : ∀ j' o', all[j']? = some o' → ∀ e ∈ o'.after, Region.binds .any e = true → e.on < j' := fun j' o' h1 => hok.lt j' o' (by simpa using h1)
  have hseenl : ∀ j, j ≤ all.size → ((all.toList.take j).map (·.dst)).length = j := fun j hj => by simp; omega
  intro M
  induction M using Nat.strongRecOn with
  | _ M ih =>
  intro j F p L E fr loc h β w a fuel hM hkj hjm hsz hL hF hcops hEs hr hR hS hE hI hany hloc hFI hfu
  have htake : ∀ o, all[j]? = some o → (all.toList.take (j + 1)).map (·.dst) = (all.toList.take j).map (·.dst) ++ [o.dst] := fun o ho => by
    rw [List.take_add_one, List.map_append]
    simp [ho]
  by_cases hj : j = all.size
  · subst hj
    have hnone : ∀ i, i ∉ Region.ready .any all L := fun i hi => by
      rw [ready_iff hsz] at hi
      obtain ⟨h1, o, h2, _⟩ := hi
      have := (Array.getElem?_eq_some_iff.1 h2).1
      exact h1 ((hL i this).2 (.inl this))
    have hnil : Region.ready .any all L = [] := List.eq_nil_iff_forall_not_mem.2 hnone
    have hdrop : ios.drop all.size = [] := by rw [List.drop_eq_nil_iff, hok.len]; simp
    rw [hdrop] at hr
    have hq : Qc .normal a w := hfin fr h β w a hr hR hS ⟨by rw [← hEs]; exact hE.fr_ok, by rw [← hEs]; exact hE.len, by rw [← hEs]; exact hE.bound, by intro t q hq; simp at hq, hE.defers⟩ hI.sz
    cases fuel with
    | zero => exact ⟨hnil, hq⟩
    | succ fuel => exact ⟨fun _ => hq, fun i hi => absurd hi (hnone i)⟩
  have hjl : j < all.size := by omega
  have hoj : all[j]? = some all[j] := Array.getElem?_eq_getElem hjl
  have hdropj : all.toList.drop j = all[j] :: all.toList.drop (j + 1) := by
    rw [List.drop_eq_getElem_cons (by simpa using hjl)]
    simp
  have hseen0 : all[((all.toList.take j).map (·.dst)).length]? = some all[j] := by rw [hseenl j (by omega)]; exact hoj
  rw [hdropj] at hcops
  have hNj : ∀ t, (all[j]).dst = some t → t < N := fun t ht => hNb _ (by simp) t ht
  have hdc : DC all (Ld L) := by
    intro j' o' h1 h2 e he hb
    have hj' := (Array.getElem?_eq_some_iff.1 h1).1
    rcases (hL j' hj').1 h2 with c | c
    · have := hlt j' o' h1 e he hb
      exact (hL e.on (by omega)).2 (.inl (by omega))
    · obtain ⟨o, io, l, mkv, t, hfo⟩ := isFl_ok (hF j' c).2.2
      have h1' : all.toList[j']? = some o' := by simpa using h1
      rw [hfo.ho] at h1'; injection h1' with h1'; subst h1'
      rw [hfo.af e he] at hb; cases hb
  by_cases hFj : F j
  · -- it is taken up
    obtain ⟨o, io, l, mkv, t, hfo, hext⟩ := hFI.ext j hFj
    have ho : all[j] = o := by have := hfo.ho; simp [hjl] at this; exact this
    obtain ⟨d, io0, r, E', hios, hbad, hguard, hsl, hcr, hds, hdn, henv⟩ := cOps_cons hcops hseen0 (by rw [hEs]; exact hnd) hNj
    have hioj : ios.drop j = io :: ios.drop (j + 1) := by
      have hil : j < ios.length := by rw [hok.len]; simpa using hjl
      rw [List.drop_eq_getElem_cons hil]
      have := hfo.hio
      rw [List.getElem?_eq_getElem hil] at this
      injection this with this; rw [this]
    rw [hioj] at hr hios
    injection hios with hio1 hio2
    obtain ⟨a1, a2, a3, a4⟩ := hext.adopt hR hS
    rw [hio1] at hr
    have hg0 : all[j].guard = none := by rw [ho]; exact hfo.g
    have hopeq : io.op = io0 := by rw [hio1]
    obtain ⟨k1, k2, k3⟩ := flt_eval hfo.fl h fr loc
    rw [hopeq] at k1 k2
    rw [hg0] at hr
    rw [rwp] at hr
    simp only [k2, k1] at hr
    obtain ⟨v, h', tt, hv, _, hr⟩ := hr
    injection hv with hv; injection hv with e1 e2; injection e2 with e2 e3; subst e1 e2 e3
    have htd : all[j].dst = some t := by rw [ho]; exact hfo.d
    have htsz : t < a.tmps.size := Nat.lt_of_lt_of_le (hNj t htd) hI.sz
    obtain ⟨f1, f2⟩ := henv (shp (h ++ [(⟨l, true, 0⟩ : Row)])) (upd β h.length (p j)) fr loc a [.s (mkv h.length)] (a.tmps.getD t undef) (show VR _ _ (.s (mkv h.length)) _ from a3) (hE.evo a4) hI (.inr ⟨_, rfl⟩)
    simp only at f1
    rw [htd, put_self htsz rfl] at f1
    rw [htd, put_self htsz rfl] at f2
    rw [htd] at hcr
    have htk := htake _ hoj
    rw [htd] at htk
    refine ih (cnt all.size L * (all.size + 1) + (all.size - (j + 1))) (by omega) (j + 1) (fun i => F i ∧ i ≠ j) p L E' _ (loc ++ [[.s (mkv h.length)]]) (h ++ [⟨l, true, 0⟩]) (upd β h.length (p j)) w a fuel (Nat.le_refl _) (by omega) (by omega) hsz ?_ ?_ ?_ (hsl.trans hEs) ?_ a1 a2 f1 (by rw [htk]; exact f2) ?_ ?_ ?_ hfu
    · intro i hi
      rw [hL i hi]
      constructor
      · rintro (c | c)
        · exact .inl (by omega)
        · by_cases c' : i = j
          · exact .inl (by omega)
          · exact .inr ⟨c, c'⟩
      · rintro (c | c)
        · by_cases c' : i = j
          · exact .inr (c' ▸ hFj)
          · exact .inl (by omega)
        · exact .inr c.1
    · rintro i ⟨hi, hne⟩
      have := hF i hi
      exact ⟨by omega, this.2.1, this.2.2⟩
    · rw [htk]; rw [hcr, hio2]
    · exact hr
    · intro i o' t' s hi hfl ho' ht' hs
      have hne : d ≠ some s := by
        intro e
        obtain ⟨t2, g1, g2⟩ := hds s e
        rw [hEs] at g2
        obtain ⟨b1, b2, _⟩ := List.idxOf?_eq_some_iff.1 g2
        obtain ⟨c1, c2, _⟩ := List.idxOf?_eq_some_iff.1 hs
        have : t2 = t' := b2.symm.trans c2
        subst this
        obtain ⟨oi, ioi, li, mi, ti, hfi⟩ := isFl_ok hfl
        have hx : oi = o' := by have := hfi.ho; simp [ho'] at this; exact this.symm
        subst hx
        have hti : ti = t2 := Option.some.inj (hfi.d.symm.trans ht')
        subst hti
        exact hfi.un j all[j] (by omega) (by simp [hjl]) g1
      have := hany i o' t' s (by omega) hfl ho' ht' hs
      cases d with
      | none => exact this
      | some s' =>
        have hne' : s' ≠ s := fun e => hne (by rw [e])
        simpa [setv, List.getD_eq_getElem?_getD, List.getElem?_set, hne'] using this
    · intro i o' t' hi hfl ho' ht'
      have hold := hloc i o' t' (by omega) hfl ho' ht'
      cases hq : E'.loc.lookup t' with
      | none => rfl
      | some q =>
        exfalso
        rcases hdn t' q hq with c | c
        · rw [hold] at c; cases c
        · obtain ⟨oi, ioi, li, mi, ti, hfi⟩ := isFl_ok hfl
          have hx : oi = o' := by have := hfi.ho; simp [ho'] at this; exact this.symm
          subst hx
          have hti : ti = t' := Option.some.inj (hfi.d.symm.trans ht')
          subst hti
          exact hfi.un j all[j] (by omega) (by simp [hjl]) c
    · refine ⟨fun i hi => ?_, fun i i' hi hi' => hFI.sep i i' hi.1 hi'.1⟩
      obtain ⟨oi, ioi, li, mi, ti, hfi, he⟩ := hFI.ext i hi.1
      refine ⟨oi, ioi, li, mi, ti, hfi, he.1, he.2.1, fun r row e => ?_, he.2.2.2⟩
      by_cases c : r = h.length
      · subst c; simp only [upd, if_true]
        exact hFI.sep j i hFj hi.1 (Ne.symm hi.2)
      · simp only [upd, if_neg c]
        have hr' : r < h.length := by
          have := (List.getElem?_eq_some_iff.1 e).1
          simp at this; omega
        rw [List.getElem?_append_left hr'] at e
        exact he.2.2.1 r row e
  have hnl : ¬ Ld L j := fun hl => by
    rcases (hL j hjl).1 hl with c | c
    · omega
    · exact hFj c
  have hpos := cnt_pos hjl hnl
  cases fuel with
  | zero => omega
  | succ fuel =>
  have hjr : j ∈ Region.ready .any all L := by
    rw [ready_iff hsz]
    exact ⟨hnl, all[j], hoj, fun e he hb => (hL e.on (by have := hlt j all[j] hoj e he hb; omega)).2 (.inl (hlt j all[j] hoj e he hb))⟩
  refine ⟨fun h => by rw [h] at hjr; simp at hjr, fun i hi => ?_⟩
  rw [ready_iff hsz] at hi
  obtain ⟨h1, o, h2, h3⟩ := hi
  have him := (Array.getElem?_eq_some_iff.1 h2).1
  have hge : j ≤ i := by
    rcases Nat.lt_or_ge i j with c | c
    · exact absurd ((hL i him).2 (.inl c)) h1
    · exact c
  have hnFi : ¬ F i := fun c => h1 ((hL i him).2 (.inr c))
  have hiL : i < L.size := by omega
  have hcs := cnt_set him h1 hsz
  by_cases hij : i = j
  · subst hij
    have hh := reg_step (P := P) (n := n) (Qc := Qc) hseen0 hcops (by rw [hEs]; exact hnd) hNj hr hR hE hI (K := wpAny P .any all Qc fuel (L.setIfInBounds i true)) (fun E' d io r fr' loc' h' β' w' u q1 q2 q3 q4 q5 q6 q7 q8 q9 q10 q11 => by
      have htk := htake _ hoj
      have hr2 : r = ios.drop (i + 1) := by
        have := congrArg List.tail q2
        simpa using this.symm
      refine ih (cnt all.size (L.setIfInBounds i true) * (all.size + 1) + (all.size - (i + 1))) ?_ (i + 1) F p (L.setIfInBounds i true) E' fr' loc' h' β' w' (a.put all[i].dst u) fuel (Nat.le_refl _) (by omega) (by omega) (by simp [hsz]) ?_ ?_ (by rw [htk, q3, hr2]) (q1.trans hEs) (by rw [← hr2]; exact q4) q5 (hS.trans q6) q7 (by rw [htk]; exact q8) ?_ ?_ (hFI.step q6 hoj hnFi u) (by omega)
      · have : cnt all.size L * (all.size + 1) = cnt all.size (L.setIfInBounds i true) * (all.size + 1) + (all.size + 1) := by rw [← hcs, Nat.add_mul, Nat.one_mul]
        omega
      · intro i' hi'
        rw [Ld_set hiL, hL i' hi']
        constructor
        · rintro ((c | c) | c)
          · exact .inl (by omega)
          · exact .inr c
          · exact .inl (by omega)
        · rintro (c | c)
          · by_cases c' : i' = i
            · exact .inr c'
            · exact .inl (.inl (by omega))
          · exact .inl (.inr c)
      · intro i' hi'
        have := hF i' hi'
        have hne : i' ≠ i := fun e => hnFi (e ▸ hi')
        exact ⟨by omega, this.2.1, this.2.2⟩
      · intro i' o' t' s hi' hfl ho' ht' hs
        have hold := hany i' o' t' s (by omega) hfl ho' ht' hs
        rw [q9 s (fun e => ?_)]
        · exact hold
        · obtain ⟨t2, g1, g2⟩ := q10 s e
          rw [hEs] at g2
          obtain ⟨b1, b2, _⟩ := List.idxOf?_eq_some_iff.1 g2
          obtain ⟨c1, c2, _⟩ := List.idxOf?_eq_some_iff.1 hs
          have : t2 = t' := b2.symm.trans c2
          subst this
          obtain ⟨oi, ioi, li, mi, ti, hfi⟩ := isFl_ok hfl
          have hx : oi = o' := by have := hfi.ho; simp [ho'] at this; exact this.symm
          subst hx
          have hti : ti = t2 := Option.some.inj (hfi.d.symm.trans ht')
          subst hti
          exact hfi.un i all[i] (by omega) (by simp [hjl]) g1
      · intro i' o' t' hi' hfl ho' ht'
        have hold := hloc i' o' t' (by omega) hfl ho' ht'
        cases hq : E'.loc.lookup t' with
        | none => rfl
        | some q =>
          exfalso
          rcases q11 t' q hq with c | c
          · rw [hold] at c; cases c
          · obtain ⟨oi, ioi, li, mi, ti, hfi⟩ := isFl_ok hfl
            have hx : oi = o' := by have := hfi.ho; simp [ho'] at this; exact this.symm
            subst hx
            have hti : ti = t' := Option.some.inj (hfi.d.symm.trans ht')
            subst hti
            exact hfi.un i all[i] (by omega) (by simp [hjl]) c)
    rw [hseenl i (by omega)] at hh
    exact hh
  · -- a float comes up ahead
    have hfl : isFl P all.toList ios i = true := by
      rcases hok.tail i (by omega) (by simpa using him) with c | c
      · exact c
      · have := anc_listed hdc i o h2 (fun e e1 e2 => ⟨h3 e e1 e2, hlt i o h2 e e1 e2⟩) hlt j (c j (by omega))
        exact absurd this.1 hnl
    obtain ⟨o', io, l, mkv, t, hfo⟩ := isFl_ok hfl
    have hoo : o' = o := by have := hfo.ho; simp [h2] at this; exact this.symm
    subst hoo
    obtain ⟨u, w', p0, g1, g2, g3, g4⟩ := flt_exec (n := n) hR hE.defers hfo.c hfo.fl
    have htN : t < N := hNb o' (List.mem_of_getElem? hfo.ho) t hfo.d
    have htsz : t < a.tmps.size := Nat.lt_of_lt_of_le htN hI.sz
    unfold wpOp
    rw [h2]
    simp only
    have hw : Region.wanted o' (yielded all a.tmps) = true := by simp [Region.wanted, hfo.g]
    rw [if_pos hw]
    refine .inl ?_
    unfold Oper.wp
    rw [g1, Oper.upon_value]
    refine ih (cnt all.size (L.setIfInBounds i true) * (all.size + 1) + (all.size - j)) ?_ j (fun q => F q ∨ q = i) (fun q => if q = i then p0 else p q) (L.setIfInBounds i true) E fr loc h β w' (a.put o'.dst u) fuel (Nat.le_refl _) hkj hjm (by simp [hsz]) ?_ ?_ (by rw [hdropj]; exact hcops) hEs hr g2 (hS.trans g3) ?_ ?_ hany hloc (hFI.add (N := N) g3 hfo hnFi hS.size htsz g4) (by omega)
    · have : cnt all.size L * (all.size + 1) = cnt all.size (L.setIfInBounds i true) * (all.size + 1) + (all.size + 1) := by rw [← hcs, Nat.add_mul, Nat.one_mul]
      omega
    · intro i' hi'
      rw [Ld_set hiL, hL i' hi', or_assoc]
    · rintro i' (c | c)
      · exact hF i' c
      · subst c; exact ⟨hge, him, hfl⟩
    · rw [hfo.d]
      exact hE.put_apart (fun s hs => hany i o' t s hge hfl h2 hfo.d (by rw [hEs] at hs; exact hs)) (by rw [hEs]; exact hnd) (hloc i o' t hge hfl h2 hfo.d)
    · exact ⟨hI.len, hI.seen_ok, hI.lk, hI.ns, by rw [size_put]; exact hI.sz⟩
end
end Go.Px
