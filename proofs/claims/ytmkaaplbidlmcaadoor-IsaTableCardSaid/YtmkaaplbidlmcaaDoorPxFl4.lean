/- Own work over the kit: abstract memory, its rules, and the walk. -/
import Derived.Test.YtmkaaplbidlmcaaDoorPxFl3
set_option linter.unusedVariables false
set_option linter.unusedSimpArgs false
namespace Go.Px

/-! ### a region's operations in another row -/
def remapO (pm : List Nat) (o : Oper) : Oper := { o with after := o.after.map fun e => { e with on := pm.idxOf e.on }, guard := o.guard.map fun g => (pm.idxOf g.1, g.2) }
def permA (pm : List Nat) (all : Array Oper) : Array Oper := (pm.filterMap fun i => (all[i]?).map (remapO pm)).toArray
def permOk (pm : List Nat) (all : Array Oper) : Bool :=
  decide (pm.length = all.size) && (pm.all fun i => decide (i < all.size)) && nodupP pm && (List.range all.size).all (fun i => pm.contains i) &&
  all.toList.all fun o => (o.after.toList.all fun e => decide (e.on < all.size)) && (match o.guard with | some g => decide (g.1 < all.size) | none => true)
where
  nodupP : List Nat → Bool
  | [] => true
  | a :: l => !l.contains a && nodupP l
theorem nodupP_ok : ∀ {l : List Nat}, permOk.nodupP l = true → l.Nodup
  | [], _ => List.nodup_nil
  | a :: l, h => by
    simp only [permOk.nodupP, Bool.and_eq_true, Bool.not_eq_true', List.contains_eq_mem, decide_eq_false_iff_not] at h
    exact List.nodup_cons.2 ⟨h.1, nodupP_ok h.2⟩

structure PmOk (pm : List Nat) (all : Array Oper) : Prop where
  len : pm.length = all.size
  lt : ∀ i ∈ pm, i < all.size
  nd : pm.Nodup
  every : ∀ i, i < all.size → i ∈ pm
  af : ∀ (i : Nat) (o : Oper), all[i]? = some o → ∀ e ∈ o.after, e.on < all.size
  gd : ∀ (i : Nat) (o : Oper), all[i]? = some o → ∀ g, o.guard = some g → g.1 < all.size
theorem permOk_ok {pm : List Nat} {all : Array Oper} (h : permOk pm all = true) : PmOk pm all := by
  unfold permOk at h
  simp only [Bool.and_eq_true, decide_eq_true_eq, List.all_eq_true, List.mem_range, List.contains_eq_mem] at h
  obtain ⟨⟨⟨⟨h1, h2⟩, h3⟩, h4⟩, h5⟩ := h
  refine ⟨h1, h2, nodupP_ok h3, h4, fun i o ho e he => ?_, fun i o ho g hg => ?_⟩
  · have := (h5 o (by simpa using Array.mem_of_getElem? ho)).1 e (by simpa using he)
    exact this
  · have := (h5 o (by simpa using Array.mem_of_getElem? ho)).2
    rw [hg] at this
    simpa using this

section
variable {pm : List Nat} {all : Array Oper} (hp : PmOk pm all)
include hp
theorem permA_map : permA pm all = (pm.map fun i => remapO pm (all.getD i default)).toArray := by
  unfold permA
  congr 1
  have : ∀ l : List Nat, (∀ i ∈ l, i < all.size) → l.filterMap (fun i => (all[i]?).map (remapO pm)) = l.map fun i => remapO pm (all.getD i default) := by
    intro l hl
    induction l with
    | nil => rfl
    | cons x l ih =>
      have hx := hl x (by simp)
      rw [List.filterMap_cons, List.map_cons, Array.getElem?_eq_getElem hx]
      simp only [Option.map_some]
      rw [ih (fun i hi => hl i (by simp [hi]))]
      simp [Array.getD_eq_getD_getElem?, hx]
  exact this pm hp.lt
theorem permA_size : (permA pm all).size = all.size := by rw [permA_map hp]; simp [hp.len]
theorem idx_lt {i : Nat} (hi : i < all.size) : pm.idxOf i < all.size := by rw [← hp.len]; exact List.idxOf_lt_length_of_mem (hp.every i hi)
theorem pm_idx {i : Nat} (hi : i < all.size) : pm[pm.idxOf i]? = some i := by
  have := List.idxOf_lt_length_of_mem (hp.every i hi)
  rw [List.getElem?_eq_getElem this, List.getElem_idxOf this]
theorem permA_at {i : Nat} {o : Oper} (ho : all[i]? = some o) : (permA pm all)[pm.idxOf i]? = some (remapO pm o) := by
  have hi := (Array.getElem?_eq_some_iff.1 ho).1
  rw [permA_map hp]
  simp only [List.getElem?_toArray, List.getElem?_map, pm_idx hp hi, Option.map_some]
  simp [Array.getD_eq_getD_getElem?, ho]
theorem idx_inj {i j : Nat} (hi : i < all.size) (hj : j < all.size) (e : pm.idxOf i = pm.idxOf j) : i = j := by
  have h1 := pm_idx hp hi
  have h2 := pm_idx hp hj
  rw [e, h2] at h1
  injection h1 with h1; exact h1.symm
theorem idx_surj {j : Nat} (hj : j < all.size) : ∃ i, i < all.size ∧ pm.idxOf i = j := by
  have hj' : j < pm.length := by rw [hp.len]; exact hj
  refine ⟨pm[j], hp.lt _ (List.getElem_mem hj'), ?_⟩
  exact List.Nodup.idxOf_getElem hp.nd j hj'
theorem perm_yield (tmps : Array Value) {g : Nat} (hg : g < all.size) : yielded (permA pm all) tmps (pm.idxOf g) = yielded all tmps g := by
  unfold yielded
  rw [permA_at hp (Array.getElem?_eq_getElem hg), Array.getElem?_eq_getElem hg]
  rfl
theorem perm_wanted (tmps : Array Value) {i : Nat} {o : Oper} (ho : all[i]? = some o) : Region.wanted (remapO pm o) (yielded (permA pm all) tmps) = Region.wanted o (yielded all tmps) := by
  unfold Region.wanted remapO
  simp only
  cases hg : o.guard with
  | none => rfl
  | some g =>
    simp only [Option.map_some]
    rw [perm_yield hp tmps (hp.gd i o ho g hg)]
theorem perm_ready {L L' : Array Bool} (hs : L.size = all.size) (hs' : L'.size = all.size) (hL : ∀ i, i < all.size → (Ld L i ↔ Ld L' (pm.idxOf i))) {i : Nat} (hi : i < all.size) :
    i ∈ Region.ready .any all L ↔ pm.idxOf i ∈ Region.ready .any (permA pm all) L' := by
  rw [ready_iff hs, ready_iff (by rw [permA_size hp]; exact hs'), hL i hi]
  have ho : all[i]? = some all[i] := Array.getElem?_eq_getElem hi
  constructor
  · rintro ⟨h1, o, h2, h3⟩
    refine ⟨h1, remapO pm o, permA_at hp h2, fun e he hb => ?_⟩
    simp only [remapO, Array.mem_map] at he
    obtain ⟨e0, he0, rfl⟩ := he
    have hb' : Region.binds .any e0 = true := hb
    exact (hL e0.on (hp.af i o h2 e0 he0)).1 (h3 e0 he0 hb')
  · rintro ⟨h1, o, h2, h3⟩
    rw [permA_at hp ho] at h2
    injection h2 with h2; subst h2
    refine ⟨h1, all[i], ho, fun e he hb => ?_⟩
    refine (hL e.on (hp.af i _ ho e he)).2 (h3 { e with on := pm.idxOf e.on } ?_ hb)
    simp only [remapO, Array.mem_map]
    exact ⟨e, he, rfl⟩
theorem perm_any {P : Program} {Qc : Exit → Act → World → Prop} : ∀ (fuel : Nat) (L L' : Array Bool) (a : Act) (w : World), L.size = all.size → L'.size = all.size → (∀ i, i < all.size → (Ld L i ↔ Ld L' (pm.idxOf i))) →
    wpAny P .any (permA pm all) Qc fuel L' a w → wpAny P .any all Qc fuel L a w := by
  have hnil : ∀ {L L' : Array Bool}, L.size = all.size → L'.size = all.size → (∀ i, i < all.size → (Ld L i ↔ Ld L' (pm.idxOf i))) → (Region.ready .any all L = [] ↔ Region.ready .any (permA pm all) L' = []) := by
    intro L L' hs hs' hL
    constructor
    · intro h
      apply List.eq_nil_iff_forall_not_mem.2
      intro j hj
      have hjl : j < all.size := by
        have := (ready_iff (by rw [permA_size hp]; exact hs')).1 hj
        obtain ⟨_, o, h2, _⟩ := this
        have := (Array.getElem?_eq_some_iff.1 h2).1
        rw [permA_size hp] at this; exact this
      obtain ⟨i, hi, rfl⟩ := idx_surj hp hjl
      have := (perm_ready hp hs hs' hL hi).2 hj
      rw [h] at this; simp at this
    · intro h
      apply List.eq_nil_iff_forall_not_mem.2
      intro i hi
      have hil : i < all.size := by
        obtain ⟨_, o, h2, _⟩ := (ready_iff hs).1 hi
        exact (Array.getElem?_eq_some_iff.1 h2).1
      have := (perm_ready hp hs hs' hL hil).1 hi
      rw [h] at this; simp at this
  intro fuel
  induction fuel with
  | zero =>
    intro L L' a w hs hs' hL hw
    exact ⟨(hnil hs hs' hL).2 hw.1, hw.2⟩
  | succ fuel ih =>
    intro L L' a w hs hs' hL hw
    refine ⟨fun h => hw.1 ((hnil hs hs' hL).1 h), fun i hi => ?_⟩
    have hil : i < all.size := by
      obtain ⟨_, o, h2, _⟩ := (ready_iff hs).1 hi
      exact (Array.getElem?_eq_some_iff.1 h2).1
    have ho : all[i]? = some all[i] := Array.getElem?_eq_getElem hil
    have h := hw.2 _ ((perm_ready hp hs hs' hL hil).1 hi)
    have hK : ∀ a w, wpAny P .any (permA pm all) Qc fuel (L'.setIfInBounds (pm.idxOf i) true) a w → wpAny P .any all Qc fuel (L.setIfInBounds i true) a w := fun a w h' => by
      refine ih _ _ a w (by simp [hs]) (by simp [hs']) (fun j hj => ?_) h'
      rw [Ld_set (by omega), Ld_set (by rw [hs']; exact idx_lt hp hil), hL j hj]
      constructor
      · rintro (c | c)
        · exact .inl c
        · exact .inr (by rw [c])
      · rintro (c | c)
        · exact .inl c
        · exact .inr (idx_inj hp hj hil c)
    have h' := wpOp_mono hK h
    unfold wpOp at h' ⊢
    rw [permA_at hp ho] at h'
    rw [ho]
    simp only at h' ⊢
    rw [perm_wanted hp _ ho] at h'
    exact h'
end

/-! ### compiling such a region -/
def fltCand (P : Program) (o : Oper) : Bool :=
  o.guard.isNone && (o.after.toList.all fun e => !Region.binds .any e) && o.dst.isSome && (match cOp P ⟨[], []⟩ o.op with | some io => (fltOf io).isSome | none => false)
/-- The floats right ahead of whatever leans on them. -/
def permOf (P : Program) (ops : List Oper) : List Nat :=
  let M := ancs ops []
  let m := ops.length
  let fl := (List.range m).filter fun i => match ops[i]? with | some o => fltCand P o | none => false
  let nf := (List.range m).filter fun i => !fl.contains i
  let r := nf.foldl (fun acc i => acc ++ (fl.filter fun f => (M.getD i 0).testBit f && !acc.contains f) ++ [i]) []
  r ++ fl.filter fun f => !r.contains f
def tailF (P : Program) (all : List Oper) (ios : List IOq) : Nat :=
  let M := ancs all []
  ((List.range all.length).reverse.takeWhile fun j => isFl P all ios j || (List.range j).all fun i => (M.getD j 0).testBit i).reverse.headD all.length
def fltSlots (P : Program) (slots : List Nat) (all : List Oper) (ios : List IOq) : List Nat :=
  (List.range all.length).filterMap fun i => if isFl P all ios i then ((all[i]?).bind (·.dst)).bind (slots.idxOf? ·) else none
def forgetOps (ss : List Nat) : List IOq := ss.map fun s => ⟨none, some s, .mov (.c .any)⟩
def cFreg (P : Program) (slots : List Nat) (ops : Array Oper) : Option IC :=
  let pm := permOf P ops.toList
  let all := permA pm ops
  match cOps P ⟨slots, []⟩ [] all.toList with
  | some ios =>
    let k := tailF P all.toList ios
    if permOk pm ops = true ∧ fChk P all.toList ios k = true then some (.seq (.reg (forgetOps (fltSlots P slots all.toList ios))) (.dreg k ios)) else none
  | none => none

def forgetFr (ss : List Nat) (fr : List V) : List V := ss.foldl (fun fr s => fr.set s .any) fr
theorem forget_rwp {P : Program} {n : Nat} {R : List V → Heap → Prop} : ∀ (ss : List Nat) (fr : List V) (loc : Loc) (h : Heap), rwp P n R (forgetOps ss) fr loc h → R (forgetFr ss fr) h
  | [], fr, loc, h, k => k
  | s :: ss, fr, loc, h, k => by
    simp only [forgetOps, List.map_cons, rwp, IOp.kind, tupMov, evalP, rho] at k
    obtain ⟨v, hv, k⟩ := k
    injection hv with hv; subst hv
    exact forget_rwp ss _ _ h k
theorem forget_env {sh : List Sh} {β : Beta} {E : Env} {loc : Loc} {a : Act} : ∀ (ss : List Nat) (fr : List V), EnvR E sh β fr loc a → EnvR E sh β (forgetFr ss fr) loc a
  | [], fr, h => h
  | s :: ss, fr, h => by
    refine forget_env ss (fr.set s .any) ⟨fun i t x h1 h2 => ?_, by rw [List.length_set]; exact h.len, h.bound, h.loc_ok, h.defers⟩
    rw [List.getElem?_set] at h2
    split at h2
    · split at h2
      · injection h2 with h2; subst h2; exact trivial
      · cases h2
    · exact h.fr_ok i t x h1 h2
theorem forget_get : ∀ (ss : List Nat) (fr : List V) (s : Nat), (s ∈ ss ∨ fr.getD s .any = .any) → (forgetFr ss fr).getD s .any = .any
  | [], fr, s, h => by
    rcases h with h | h
    · simp at h
    · exact h
  | s' :: ss, fr, s, h => by
    refine forget_get ss (fr.set s' .any) s ?_
    by_cases c : s' = s
    · subst c
      right
      rw [List.getD_eq_getElem?_getD, List.getElem?_set, if_pos rfl]
      split <;> rfl
    · rcases h with h | h
      · rcases List.mem_cons.1 h with q | q
        · exact absurd q.symm c
        · exact .inl q
      · right
        rw [List.getD_eq_getElem?_getD, List.getElem?_set, if_neg c]
        rwa [List.getD_eq_getElem?_getD] at h

theorem freg_ok {P : Program} {n N : Nat} {ops : Array Oper} {slots : List Nat} {h0 : Heap} {β0 : Beta} {w0 : World} {ic : IC} (hm : P.follows .mixedOrders = true) {id : Nat} (hc : cFreg P slots ops = some ic) (hNb : ∀ o ∈ ops.toList, ∀ t, o.dst = some t → t < N) (hnd : slots.Nodup)
    : ∃ ss k ios, ic = .seq (.reg (forgetOps ss)) (.dreg k ios) ∧ ∀ (Qc : Exit → Act → World → Prop) (h : Heap) (β : Beta) (w : World) (a : Act) (fr : List V) (Q : List V → Heap → Prop),
      rwp P n (fun fr h => n ≤ h.length ∧ dwp P (fun fr loc h' => rwp P n Q (ios.drop k) fr loc h') (ios.take k) fr [] h) (forgetOps ss) fr [] h →
      Rel h β w → Step n h0 β0 w0 h β w → EnvR ⟨slots, []⟩ (shp h) β fr [] a → N ≤ a.tmps.size →
      (∀ fr h β w a, Q fr h → Rel h β w → Step n h0 β0 w0 h β w → EnvR ⟨slots, []⟩ (shp h) β fr [] a → N ≤ a.tmps.size → Qc .normal a w) → (Code.region id ops true).wp P Qc a w := by
  unfold cFreg at hc
  simp only at hc
  split at hc
  case h_2 => cases hc
  rename_i ios hios
  split at hc
  case isFalse => cases hc
  rename_i hchk
  injection hc with hc
  refine ⟨_, _, ios, hc.symm, ?_⟩
  intro Qc h β w a fr Q hd hRel hStep hE hsz hfin
  have hp := permOk_ok hchk.1
  have hq := forget_rwp _ _ _ _ hd
  obtain ⟨q1, q2⟩ := hq
  refine wp_region_any hm ?_
  have hRel' : Rel h β { w with drawn := w.drawn + 1 } := ⟨fun r row e => hRel.row r row e, hRel.sep, hRel.glob⟩
  have hStep' : Step n h0 β0 w0 h β { w with drawn := w.drawn + 1 } := ⟨hStep.os, hStep.tape, hStep.output, hStep.size, hStep.evo, hStep.old, hStep.new, hStep.frame⟩
  have hrep : ∀ (m : Nat) j, ¬ Ld (Array.replicate m false) j := fun m j hl => by
    unfold Ld at hl
    rw [Array.getD_eq_getD_getElem?, Array.getElem?_replicate] at hl
    split at hl <;> simp at hl
  refine perm_any hp ops.size _ (Array.replicate (permA (permOf P ops.toList) ops).size false) a _ (by simp) (by simp [permA_size hp]) (fun i _ => ⟨fun hl => absurd hl (hrep _ _), fun hl => absurd hl (hrep _ _)⟩) ?_
  have hNb' : ∀ o ∈ (permA (permOf P ops.toList) ops).toList, ∀ t, o.dst = some t → t < N := by
    intro o ho t ht
    rw [permA_map hp] at ho
    simp only [List.mem_map] at ho
    obtain ⟨i, hi, rfl⟩ := ho
    have hil := hp.lt i hi
    refine hNb (ops.getD i default) ?_ t ht
    simp [Array.getD_eq_getD_getElem?, hil]
  have := fregA_ok (Qc := Qc) (P := P) (n := n) (N := N) (h0 := h0) (β0 := β0) (w0 := w0) (Q := Q) hchk.2 hNb' hios hnd q1 q2 ?_ hRel' hStep' (forget_env _ _ hE) hsz hfin
  · rw [permA_size hp] at this
    rw [permA_size hp]; exact this
  · intro i o t s hi hfl ho ht hs
    refine forget_get _ _ _ (.inl ?_)
    simp only [fltSlots, List.mem_filterMap, List.mem_range]
    have hil := (Array.getElem?_eq_some_iff.1 ho).1
    refine ⟨i, by simpa using hil, ?_⟩
    rw [if_pos hfl]
    have : (permA (permOf P ops.toList) ops).toList[i]? = some o := by simpa using ho
    rw [this]
    simp [ht, hs]
end Go.Px
