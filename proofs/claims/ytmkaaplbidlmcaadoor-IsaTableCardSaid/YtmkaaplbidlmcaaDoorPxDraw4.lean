/- Own work over the kit: abstract memory, its rules, and the walk. -/
import Derived.Test.YtmkaaplbidlmcaaDoorPxDraw3
set_option linter.unusedVariables false
set_option linter.unusedSimpArgs false
namespace Go.Px

section
variable {P : Program} {n N k : Nat} {all : Array Oper} {slots : List Nat} {ios : List IOq} {fr : List V} {vs : Nat → List V} {hs : Nat → Heap} {h0 : Heap} {β0 : Beta} {w0 : World} {Qc : Exit → Act → World → Prop}

theorem ready_iff {L : Array Bool} (hsz : L.size = all.size) {i : Nat} : i ∈ Region.ready .any all L ↔ ¬ Ld L i ∧ ∃ o, all[i]? = some o ∧ ∀ e ∈ o.after, Region.binds .any e = true → Ld L e.on := by
  rw [mem_ready]
  constructor
  · rintro ⟨h1, o, h2, h3⟩
    refine ⟨fun hl => ?_, o, h2, h3⟩
    have hi : i < L.size := by rw [hsz]; exact (Array.getElem?_eq_some_iff.1 h2).1
    unfold Ld at hl
    simp [Array.getD_eq_getD_getElem?, hi] at h1 hl
    rw [hl] at h1; cases h1
  · rintro ⟨h1, o, h2, h3⟩
    refine ⟨?_, o, h2, h3⟩
    have hi : i < L.size := by rw [hsz]; exact (Array.getElem?_eq_some_iff.1 h2).1
    unfold Ld at h1
    simp [Array.getD_eq_getD_getElem?, hi] at h1 ⊢
    exact h1

theorem tail_any (hok : DOk all.toList ios k) : ∀ (d j : Nat) (L : Array Bool) (a : Act) (w : World) (fuel : Nat), j + d = all.size → k ≤ j → L.size = all.size → (∀ i, i < all.size → (Ld L i ↔ i < j)) → DC all (Ld L) → wpOps P all Qc (List.range' j d) a w → d ≤ fuel → wpAny P .any all Qc fuel L a w
  | 0, j, L, a, w, fuel, hj, hk, hsz, hL, hdc, hw, hf => by
    have hnone : ∀ i, i ∉ Region.ready .any all L := fun i hi => by
      rw [ready_iff hsz] at hi
      obtain ⟨h1, o, h2, _⟩ := hi
      have := (Array.getElem?_eq_some_iff.1 h2).1
      exact h1 ((hL i this).2 (by omega))
    have hnil : Region.ready .any all L = [] := List.eq_nil_iff_forall_not_mem.2 hnone
    simp only [List.range'_zero, wpOps] at hw
    cases fuel with
    | zero => exact ⟨hnil, hw⟩
    | succ fuel => exact ⟨fun _ => hw, fun i hi => absurd hi (hnone i)⟩
  | d + 1, j, L, a, w, 0, hj, hk, hsz, hL, hdc, hw, hf => by omega
  | d + 1, j, L, a, w, fuel + 1, hj, hk, hsz, hL, hdc, hw, hf => by
    have hlt : ∀ j' o', all[j']? = some o' → ∀ e ∈ o'.after, Region.binds .any e = true → e.on < j' := fun j' o' h1 => hok.lt j' o' (by simpa using h1)
    have hjm : j < all.size := by omega
    have hjr : j ∈ Region.ready .any all L := by
      rw [ready_iff hsz]
      refine ⟨fun h => by have := (hL j hjm).1 h; omega, all[j], Array.getElem?_eq_getElem hjm, fun e he hb => ?_⟩
      have := hlt j all[j] (Array.getElem?_eq_getElem hjm) e he hb
      exact (hL e.on (by omega)).2 this
    refine ⟨fun h => by rw [h] at hjr; simp at hjr, fun i hi => ?_⟩
    have hij : i = j := by
      rw [ready_iff hsz] at hi
      obtain ⟨h1, o, h2, h3⟩ := hi
      have him := (Array.getElem?_eq_some_iff.1 h2).1
      have hge : j ≤ i := by
        rcases Nat.lt_or_ge i j with c | c
        · exact absurd ((hL i him).2 c) h1
        · exact c
      by_cases c : i = j
      · exact c
      · have := anc_listed hdc i o h2 (fun e e1 e2 => ⟨h3 e e1 e2, hlt i o h2 e e1 e2⟩) hlt j (hok.tail i (by omega) (by simpa using him) j (by omega))
        have := (hL j hjm).1 this.1
        omega
    subst hij
    rw [List.range'_succ, wpOps_cons] at hw
    have hiL : i < L.size := by omega
    refine wpOp_mono (fun a' w' h' => ?_) hw
    refine tail_any hok d (i + 1) (L.setIfInBounds i true) a' w' fuel (by omega) (by omega) (by simp [hsz]) (fun i' hi' => ?_) ?_ h' (by omega)
    · rw [Ld_set hiL, hL i' hi']; omega
    · intro j' o' h1 h2 e he hb
      rw [Ld_set hiL] at h2 ⊢
      rcases h2 with h2 | rfl
      · exact .inl (hdc j' o' h1 h2 e he hb)
      · exact .inl ((hL e.on (by have := hlt j' o' h1 e he hb; omega)).2 (hlt j' o' h1 e he hb))

def cnt (m : Nat) (L : Array Bool) : Nat := (List.range m).countP fun j => !L.getD j false

theorem cnt_pos {m : Nat} {L : Array Bool} {j : Nat} (hj : j < m) (hl : ¬ Ld L j) : 0 < cnt m L := by
  unfold cnt
  rw [List.countP_pos_iff]
  exact ⟨j, by simpa using hj, by unfold Ld at hl; simpa using hl⟩

theorem cnt_set {m : Nat} {L : Array Bool} {i : Nat} (hi : i < m) (hl : ¬ Ld L i) (hsz : L.size = m) : cnt m (L.setIfInBounds i true) + 1 = cnt m L := by
  unfold cnt
  have key : ∀ (l : List Nat), l.Nodup → i ∈ l → l.countP (fun j => !(L.setIfInBounds i true).getD j false) + 1 = l.countP (fun j => !L.getD j false) := by
    intro l
    induction l with
    | nil => intro _ h; simp at h
    | cons x l ih =>
      intro hnd hm
      rw [List.nodup_cons] at hnd
      have same : ∀ y, y ≠ i → (L.setIfInBounds i true).getD y false = L.getD y false := fun y hy => by
        have : i ≠ y := fun e => hy e.symm
        simp [Array.getD_eq_getD_getElem?, Array.getElem?_setIfInBounds, this]
      by_cases c : x = i
      · subst c
        have h1 : (L.setIfInBounds x true).getD x false = true := by simp [Array.getD_eq_getD_getElem?, Array.getElem?_setIfInBounds, hsz, hi]
        have h2 : L.getD x false = false := by unfold Ld at hl; simpa using hl
        have h3 : l.countP (fun j => !(L.setIfInBounds x true).getD j false) = l.countP (fun j => !L.getD j false) := by
          apply List.countP_congr
          intro y hy
          rw [same y (fun e => hnd.1 (e ▸ hy))]
        rw [List.countP_cons, List.countP_cons, h1, h2, h3]
        simp
      · have hm' : i ∈ l := by simpa [Ne.symm c] using hm
        have := ih hnd.2 hm'
        rw [List.countP_cons, List.countP_cons, same x c]
        omega
  exact key _ List.nodup_range (by simpa using hi)

theorem main_any (hok : DOk all.toList ios k) (hNb : ∀ o ∈ all.toList, ∀ t, o.dst = some t → t < N) (hcops : cOps P ⟨slots, []⟩ [] all.toList = some ios) (hnodup : slots.Nodup) (hn0 : n ≤ (hs 0).length)
    (hst : ∀ j io, j < k → ios[j]? = some io → dstep P (FL ios k vs fr fun i => decide (i < j)) io ((List.range j).map vs) (hs j) (vs j) (hs (j + 1)) ∧ (io.d = none ∨ ∃ v, vs j = [v]))
    (hfin : ∀ q β a w L, DInv n N k all slots ios fr vs hs h0 β0 w0 L q β a w → (∀ j, j < k → Ld L j) → wpOps P all Qc (List.range' k (all.size - k)) a w) :
    ∀ (fuel : Nat) (L : Array Bool) (q : Nat) (β : Beta) (a : Act) (w : World), DInv n N k all slots ios fr vs hs h0 β0 w0 L q β a w → cnt all.size L ≤ fuel → wpAny P .any all Qc fuel L a w := by
  have hlt : ∀ j' o', all[j']? = some o' → ∀ e ∈ o'.after, Region.binds .any e = true → e.on < j' := fun j' o' h1 => hok.lt j' o' (by simpa using h1)
  have hkm : k ≤ all.size := by simpa using hok.km
  intro fuel
  induction fuel with
  | zero =>
    intro L q β a w hI hc
    have hall : ∀ j, j < all.size → Ld L j := fun j hj => Classical.byContradiction fun h => by have := cnt_pos hj h; omega
    have hk : k = all.size := by
      rcases Nat.lt_or_ge k all.size with c | c
      · exact absurd (hall k c) (hI.main k (Nat.le_refl _))
      · omega
    exact tail_any hok 0 all.size L a w 0 rfl (by omega) hI.lsz (fun i hi => ⟨fun _ => hi, fun _ => hall i hi⟩) hI.dc (by have := hfin q β a w L hI (fun j hj => hall j (by omega)); rwa [hk, Nat.sub_self] at this) (Nat.le_refl _)
  | succ fuel ih =>
    intro L q β a w hI hc
    by_cases hall : ∀ j, j < k → Ld L j
    · refine tail_any hok (all.size - k) k L a w (fuel + 1) (by omega) (Nat.le_refl _) hI.lsz (fun i hi => ⟨fun h => ?_, fun h => hall i h⟩) hI.dc (hfin q β a w L hI hall) ?_
      · rcases Nat.lt_or_ge i k with c | c
        · exact c
        · exact absurd h (hI.main i c)
      · have : all.size - k ≤ cnt all.size L := by
          unfold cnt
          have h1 : (List.range all.size) = List.range k ++ (List.range (all.size - k)).map (k + ·) := by
            rw [← List.range_add]; congr 1; omega
          rw [h1, List.countP_append, List.countP_map]
          have h2 : (List.range (all.size - k)).countP ((fun j => !L.getD j false) ∘ (k + ·)) = all.size - k := by
            rw [List.countP_eq_length.2]
            · simp
            · intro x _
              have := hI.main (k + x) (by omega)
              unfold Ld at this
              simpa using this
          omega
        omega
    · have hex : ∃ j, j < k ∧ ¬ Ld L j ∧ ∀ i, i < j → Ld L i := by
        have : ∀ d, (∀ j, j < d → Ld L j) ∨ ∃ j, j < d ∧ ¬ Ld L j ∧ ∀ i, i < j → Ld L i := by
          intro d
          induction d with
          | zero => exact .inl (by omega)
          | succ d ihd =>
            rcases ihd with h | ⟨j, h1, h2, h3⟩
            · by_cases c : Ld L d
              · exact .inl fun j hj => by
                  by_cases c' : j = d
                  · exact c' ▸ c
                  · exact h j (by omega)
              · exact .inr ⟨d, by omega, c, h⟩
            · exact .inr ⟨j, by omega, h2, h3⟩
        rcases this k with h | ⟨j, h1, h2, h3⟩
        · exact absurd h hall
        · exact ⟨j, h1, h2, h3⟩
      obtain ⟨j, hj1, hj2, hj3⟩ := hex
      have hjm : j < all.size := by omega
      have hjr : j ∈ Region.ready .any all L := by
        rw [ready_iff hI.lsz]
        exact ⟨hj2, all[j], Array.getElem?_eq_getElem hjm, fun e he hb => hj3 e.on (hlt j all[j] (Array.getElem?_eq_getElem hjm) e he hb)⟩
      refine ⟨fun h => by rw [h] at hjr; simp at hjr, fun i hi => ?_⟩
      rw [ready_iff hI.lsz] at hi
      obtain ⟨h1, o, h2, h3⟩ := hi
      have him := (Array.getElem?_eq_some_iff.1 h2).1
      have hik : i < k := by
        rcases Nat.lt_or_ge i k with c | c
        · exact c
        · have := anc_listed hI.dc i o h2 (fun e e1 e2 => ⟨h3 e e1 e2, hlt i o h2 e e1 e2⟩) hlt j (hok.tail i c (by simpa using him) j (by omega))
          exact absurd this.1 hj2
      refine draw_step hok.toDOk0 hNb hcops hnodup hn0 hst hI hik h2 h1 h3 (fun q' β' a' w' _ hI' _ _ => ih _ q' β' a' w' hI' ?_)
      have := cnt_set him h1 hI.lsz
      omega

/-- **A region that draws its order.** -/
theorem dreg_ok (hm : P.follows .mixedOrders = true) {id : Nat} (hchk : dChk all.toList ios k = true) (hNb : ∀ o ∈ all.toList, ∀ t, o.dst = some t → t < N) (hcops : cOps P ⟨slots, []⟩ [] all.toList = some ios) (hnd : slots.Nodup)
    {h : Heap} {β : Beta} {w : World} {a : Act} (hn0 : n ≤ h.length) {Q : List V → Heap → Prop} (hd : dwp P (fun fr loc h' => rwp P n Q (ios.drop k) fr loc h') (ios.take k) fr [] h)
    (hRel : Rel h β w) (hStep : Step n h0 β0 w0 h β w) (hE : EnvR ⟨slots, []⟩ (shp h) β fr [] a) (hsz : N ≤ a.tmps.size)
    (hfin : ∀ fr h β w a, Q fr h → Rel h β w → Step n h0 β0 w0 h β w → EnvR ⟨slots, []⟩ (shp h) β fr [] a → N ≤ a.tmps.size → Qc .normal a w) : (Code.region id all true).wp P Qc a w := by
  have hok := dChk_ok hchk
  have hkm : k ≤ all.size := by simpa using hok.km
  have hil : ios.length = all.size := by rw [hok.len]; simp
  obtain ⟨vs, hs, frs, e0, f0, hst, hK⟩ := dwp_out _ _ _ _ hd
  simp only [List.nil_append, List.length_take] at hst hK
  rw [show min k ios.length = k by omega] at hK
  have hu : ∀ j io, j < k → ios[j]? = some io → ∀ s, io.d = some s → ∀ i' io', i' < k → i' ≠ j → ios[i']? = some io' → io'.d ≠ some s := fun j io hj hio s hd' i' io' h1 h2 h3 => (hok.d j io s hj hio hd' i' io' h1 h2 h3).1
  have hfrs : ∀ j, j ≤ k → frs j = FL ios k vs fr fun i => decide (i < j) := by
    intro j
    induction j with
    | zero =>
      intro _
      rw [f0]
      have : (fun i : Nat => decide (i < 0)) = fun _ => false := by funext i; simp
      rw [this, FL_false]
    | succ j ih =>
      intro hj
      have hjl : j < ios.length := by omega
      obtain ⟨q1, q2, q3⟩ := hst j ios[j] (by rw [List.getElem?_take, if_pos (by omega)]; exact List.getElem?_eq_getElem hjl)
      rw [q2, ih (by omega)]
      exact (FL_step (by omega) (List.getElem?_eq_getElem hjl) (hu j ios[j] (by omega) (List.getElem?_eq_getElem hjl)) q3 (fun i _ => by simp; omega)).symm
  have hst' : ∀ j io, j < k → ios[j]? = some io → dstep P (FL ios k vs fr fun i => decide (i < j)) io ((List.range j).map vs) (hs j) (vs j) (hs (j + 1)) ∧ (io.d = none ∨ ∃ v, vs j = [v]) := fun j io hj hio => by
    obtain ⟨q1, q2, q3⟩ := hst j io (by rw [List.getElem?_take, if_pos hj]; exact hio)
    rw [hfrs j (by omega)] at q1
    exact ⟨q1, q3⟩
  have hext : ∀ j, j < k → ∃ g, hs (j + 1) = hs j ++ g := fun j hj => dstep_ext (hst' j ios[j] hj (List.getElem?_eq_getElem (by omega))).1
  have hflat : ∀ j, j < k → ¬ isAC ios j → hs (j + 1) = hs j := fun j hj hna => by
    refine dstep_same (hst' j ios[j] hj (List.getElem?_eq_getElem (by omega))).1 ?_
    cases hac : ios[j].op.ac with
    | false => rfl
    | true => exact absurd ⟨ios[j], List.getElem?_eq_getElem (by omega), hac⟩ hna
  refine wp_region_any hm ?_
  obtain ⟨q0, a1, a2, a3, a4⟩ := next_ac ios 0 k
  have hq0 : hs q0 = h := by
    have := hs_flat (ios := ios) hflat q0 0 (by omega) (fun j h1 h2 => a3 j h1 (by omega))
    rw [Nat.zero_add] at this
    rw [this, e0]
  have hrep : ∀ j, ¬ Ld (Array.replicate all.size false) j := fun j hl => by
    unfold Ld at hl
    rw [Array.getD_eq_getD_getElem?, Array.getElem?_replicate] at hl
    split at hl <;> simp at hl
  have hRel' : Rel h β { w with drawn := w.drawn + 1 } := ⟨fun r row e => hRel.row r row e, hRel.sep, hRel.glob⟩
  have hStep' : Step n h0 β0 w0 h β { w with drawn := w.drawn + 1 } := ⟨hStep.os, hStep.tape, hStep.output, hStep.size, hStep.evo, hStep.old, hStep.new, hStep.frame⟩
  refine main_any hok hNb hcops hnd (by rw [e0]; exact hn0) hst' ?_ all.size (Array.replicate all.size false) q0 β a _ ⟨by omega, by rw [hq0]; exact hRel', by rw [hq0]; exact hStep', by rw [hq0, FL_congr (p' := fun _ => false) (fun j _ => by have := hrep j; unfold Ld at this; simpa using this), FL_false]; exact hE, fun j _ hl => absurd hl (hrep j), fun j hj hac => ⟨fun hl => absurd hl (hrep j), fun hl => absurd hac (a3 j (Nat.zero_le _) hl)⟩, hsz, by simp, fun j o _ hl => absurd hl (hrep j), fun j _ => hrep j⟩ ?_
  · intro q β a w L hI hall
    have hqk : hs k = hs q := by
      have := hs_flat (ios := ios) hflat (k - q) q (by have := hI.qk; omega) (fun j h1 h2 hac => by
        have := (hI.acq j (by have := hI.qk; omega) hac).1 (hall j (by have := hI.qk; omega))
        omega)
      rwa [show q + (k - q) = k by have := hI.qk; omega] at this
    have hR := hI.rel
    have hS := hI.step
    have hEn := hI.env
    rw [← hqk] at hR hS hEn
    rw [FL_congr (p' := fun i => decide (i < k)) (fun j hj => by have := hall j hj; unfold Ld at this; simp [this, hj]), ← hfrs k (Nat.le_refl _)] at hEn
    rcases Nat.lt_or_ge k all.size with c | c
    · obtain ⟨_, henv⟩ := cOps_env all.toList ⟨slots, []⟩ [] ios hcops ⟨by intro g t h; simp at h, by intro t g h; simp at h⟩
      obtain ⟨E, io, hio, hEs, hlk, hgd, hcg, hcop, hdst, hdsl, ios', hc1, hc2⟩ := henv k all[k] (by simp [c])
      simp only [List.nil_append] at hlk hcg hc1
      simp only at hEs
      have hsl : ((all.toList.take k).map (·.dst)).length = k := by simp; omega
      have hseen : ∀ g, g < k → ((all.toList.take k).map (·.dst))[g]? = (all[g]?).map (·.dst) := fun g hg => by
        rw [List.getElem?_map, List.getElem?_take, if_pos hg]; simp
      have := reg_ok (P := P) (n := n) (N := N) (all := all) (Qc := Qc) (Q := Q) (h0 := h0) (β0 := β0) (w0 := w0) (all.toList.drop k) E ((all.toList.take k).map (·.dst)) (ios.drop k) (frs k) ((List.range k).map vs) (hs k) β w a
        (fun j => by rw [hsl, List.getElem?_drop]; simp) (by rw [hc1, hc2]) (by rw [hEs]; exact hnd) (fun o ho => hNb o (List.mem_of_mem_drop ho)) hK hR hS
        ⟨by rw [hEs]; exact hEn.fr_ok, by rw [hEs]; exact hEn.len, by rw [hEs]; exact hEn.bound, fun t j hj => by
          obtain ⟨c1, c2⟩ := hlk.cv t j hj
          have hjk : j < k := by have := (List.getElem?_eq_some_iff.1 c1).1; omega
          rw [hseen j hjk] at c1
          refine ⟨vs j, by simp [hjk], ?_⟩
          have hjm : j < all.size := by omega
          have hdj : all[j].dst = some t := by rw [Array.getElem?_eq_getElem hjm] at c1; simpa using c1
          obtain ⟨E1, io1, p1, p2, p3, p4, p5, p6, p7, p8, _⟩ := (cOps_env all.toList ⟨slots, []⟩ [] ios hcops ⟨by intro g t h; simp at h, by intro t g h; simp at h⟩).2 j all[j] (by simp [hjm])
          have hdn : io1.d = none := by
            cases hdd : io1.d with
            | none => rfl
            | some s =>
              obtain ⟨t', t1, t2⟩ := p8 s hdd
              rw [hdj] at t1; injection t1 with t1; subst t1
              exact absurd (List.mem_of_getElem? (idxOf_get t2)) (by rw [hEs] at c2; exact c2)
          have := hI.loc j hjk (hall j hjk) io1 p1 hdn t (by rw [Array.getElem?_eq_getElem hjm]; simpa using hdj)
          rw [← hqk] at this
          exact this, hEn.defers⟩
        ⟨by rw [hsl]; simp, fun g hg => hseen g (by omega), hlk.lk, fun t j hj => by
          obtain ⟨c1, c2⟩ := hlk.cv t j hj
          exact ⟨c2, (List.getElem?_eq_some_iff.1 c1).1⟩, hI.sz⟩
        (by rw [hEs]; exact hfin)
      rw [hsl] at this
      simpa using this
    · have hk : k = all.size := by omega
      rw [hk, Nat.sub_self]
      simp only [List.range'_zero, wpOps]
      have hdrop : ios.drop k = [] := by rw [List.drop_eq_nil_iff]; omega
      rw [hdrop] at hK
      simp only [rwp] at hK
      exact hfin (frs k) (hs k) β w a hK hR hS hEn hI.sz
  · unfold cnt
    exact Nat.le_trans List.countP_le_length (by simp)

end
end Go.Px
