/- Own work over the kit: abstract memory, its rules, and the walk. -/
import Derived.Test.YtmkaaplbidlmcaaDoorPxFl2
set_option linter.unusedVariables false
set_option linter.unusedSimpArgs false
namespace Go.Px
section
variable {P : Program} {n N k : Nat} {all : Array Oper} {slots : List Nat} {ios : List IOq} {fr : List V} {vs : Nat → List V} {hs : Nat → Heap} {h0 : Heap} {β0 : Beta} {w0 : World} {Qc : Exit → Act → World → Prop}

theorem main_fl (hok : FOk P all.toList ios k) (hNb : ∀ o ∈ all.toList, ∀ t, o.dst = some t → t < N) (hcops : cOps P ⟨slots, []⟩ [] all.toList = some ios) (hnodup : slots.Nodup) (hn0 : n ≤ (hs 0).length)
    (hany : ∀ i o t s, k ≤ i → isFl P all.toList ios i = true → all[i]? = some o → o.dst = some t → slots.idxOf? t = some s → fr.getD s .any = .any)
    (hst : ∀ j io, j < k → ios[j]? = some io → dstep P (FL ios k vs fr fun i => decide (i < j)) io ((List.range j).map vs) (hs j) (vs j) (hs (j + 1)) ∧ (io.d = none ∨ ∃ v, vs j = [v]))
    (hfin : ∀ q β a w L0 L F p fuel, DInv n N k all slots ios fr vs hs h0 β0 w0 L0 q β a w → (∀ j, j < k → Ld L0 j) → L.size = all.size → (∀ i, i < all.size → (Ld L i ↔ Ld L0 i ∨ F i)) → (∀ i, F i → k ≤ i ∧ i < all.size ∧ isFl P all.toList ios i = true) → FI P all ios w0.heap.size F p (hs q) β w a → cnt all.size L ≤ fuel → wpAny P .any all Qc fuel L a w) :
    ∀ (fuel : Nat) (L0 L : Array Bool) (F : Nat → Prop) (p : Nat → Place) (q : Nat) (β : Beta) (a : Act) (w : World), DInv n N k all slots ios fr vs hs h0 β0 w0 L0 q β a w → L.size = all.size → (∀ i, i < all.size → (Ld L i ↔ Ld L0 i ∨ F i)) → (∀ i, F i → k ≤ i ∧ i < all.size ∧ isFl P all.toList ios i = true) → FI P all ios w0.heap.size F p (hs q) β w a → cnt all.size L ≤ fuel → wpAny P .any all Qc fuel L a w := by
  have hlt : ∀ j' o', all[j']? = some o' → ∀ e ∈ o'.after, Region.binds .any e = true → e.on < j' := fun j' o' h1 => hok.lt j' o' (by simpa using h1)
  have hkm : k ≤ all.size := by simpa using hok.km
  intro fuel
  induction fuel with
  | zero =>
    intro L0 L F p q β a w hI hsz hL hF hFI hc
    have hall : ∀ j, j < all.size → Ld L j := fun j hj => Classical.byContradiction fun h => by have := cnt_pos hj h; omega
    refine hfin q β a w L0 L F p 0 hI (fun j hj => ?_) hsz hL hF hFI hc
    rcases (hL j (by omega)).1 (hall j (by omega)) with c | c
    · exact c
    · have := hF j c; omega
  | succ fuel ih =>
    intro L0 L F p q β a w hI hsz hL hF hFI hc
    by_cases hall : ∀ j, j < k → Ld L0 j
    · exact hfin q β a w L0 L F p (fuel + 1) hI hall hsz hL hF hFI hc
    · have hex : ∃ j, j < k ∧ ¬ Ld L0 j ∧ ∀ i, i < j → Ld L0 i := by
        have : ∀ d, (∀ j, j < d → Ld L0 j) ∨ ∃ j, j < d ∧ ¬ Ld L0 j ∧ ∀ i, i < j → Ld L0 i := by
          intro d
          induction d with
          | zero => exact .inl (by omega)
          | succ d ihd =>
            rcases ihd with h | ⟨j, h1, h2, h3⟩
            · by_cases c : Ld L0 d
              · exact .inl fun j hj => by
                  by_cases c' : j = d
                  · exact c' ▸ c
                  · exact h j (by omega)
              · exact .inr ⟨d, by omega, c, h⟩
            · exact .inr ⟨j, by omega, h2, h3⟩
        rcases this k with h | ⟨j, h1, h2, h3⟩
        · exact absurd h hall
        · exact ⟨j, h1, h2, h3⟩
      obtain ⟨j, hj1, hj2, hj3⟩ := hex
      have hjm : j < all.size := by omega
      have hjn : ¬ Ld L j := fun hl => by
        rcases (hL j hjm).1 hl with c | c
        · exact hj2 c
        · have := hF j c; omega
      have hjr : j ∈ Region.ready .any all L := by
        rw [ready_iff hsz]
        exact ⟨hjn, all[j], Array.getElem?_eq_getElem hjm, fun e he hb => by
          have := hlt j all[j] (Array.getElem?_eq_getElem hjm) e he hb
          exact (hL e.on (by omega)).2 (.inl (hj3 e.on this))⟩
      have hdc : DC all (Ld L) := by
        intro j' o' h1 h2 e he hb
        have hj' := (Array.getElem?_eq_some_iff.1 h1).1
        rcases (hL j' hj').1 h2 with c | c
        · have := hI.dc j' o' h1 c e he hb
          have hlt' := hlt j' o' h1 e he hb
          exact (hL e.on (by omega)).2 (.inl this)
        · obtain ⟨o, io, l, mkv, t, hfo⟩ := isFl_ok (hF j' c).2.2
          have h1' : all.toList[j']? = some o' := by simpa using h1
          rw [hfo.ho] at h1'; injection h1' with h1'; subst h1'
          rw [hfo.af e he] at hb; cases hb
      refine ⟨fun h => by rw [h] at hjr; simp at hjr, fun i hi => ?_⟩
      rw [ready_iff hsz] at hi
      obtain ⟨h1, o, h2, h3⟩ := hi
      have him := (Array.getElem?_eq_some_iff.1 h2).1
      have hcs := cnt_set him h1 hsz
      have hiL : i < L.size := by omega
      have hiL0 : i < L0.size := by rw [hI.lsz]; exact him
      by_cases hik : i < k
      · have hnF : ¬ F i := fun c => by have := hF i c; omega
        have h10 : ¬ Ld L0 i := fun c => h1 ((hL i him).2 (.inl c))
        refine draw_step hok.toDOk0 hNb hcops hnodup hn0 hst hI hik h2 h10 (fun e he hb => ?_) (fun q' β' a' w' u hI' hS' ha' => ?_)
        · rcases (hL e.on (by have := hlt i o h2 e he hb; omega)).1 (h3 e he hb) with c | c
          · exact c
          · have := hF _ c; have := hlt i o h2 e he hb; omega
        · refine ih (L0.setIfInBounds i true) (L.setIfInBounds i true) F p q' β' a' w' hI' (by simp [hsz]) (fun i' hi' => ?_) hF ?_ (by omega)
          · rw [Ld_set hiL, Ld_set hiL0, hL i' hi']
            constructor
            · rintro ((c | c) | c)
              · exact .inl (.inl c)
              · exact .inr c
              · exact .inl (.inr c)
            · rintro ((c | c) | c)
              · exact .inl (.inl c)
              · exact .inr c
              · exact .inl (.inr c)
          · subst ha'
            exact hFI.step hS' h2 hnF u
      · -- a float comes up ahead
        have hfl : isFl P all.toList ios i = true := by
          rcases hok.tail i (by omega) (by simpa using him) with c | c
          · exact c
          · have := anc_listed hdc i o h2 (fun e e1 e2 => ⟨h3 e e1 e2, hlt i o h2 e e1 e2⟩) hlt j (c j (by omega))
            exact absurd this.1 hjn
        have hnFi : ¬ F i := fun c => h1 ((hL i him).2 (.inr c))
        obtain ⟨o', io, l, mkv, t, hfo⟩ := isFl_ok hfl
        have hoo : o' = o := by have := hfo.ho; simp [h2] at this; exact this.symm
        subst hoo
        obtain ⟨u, w', p0, g1, g2, g3, g4⟩ := flt_exec (n := n) hI.rel hI.env.defers hfo.c hfo.fl
        have htN : t < N := hNb o' (List.mem_of_getElem? hfo.ho) t hfo.d
        have htsz : t < a.tmps.size := Nat.lt_of_lt_of_le htN hI.sz
        obtain ⟨hlen, henv⟩ := cOps_env all.toList ⟨slots, []⟩ [] ios hcops ⟨by intro g t h; simp at h, by intro t g h; simp at h⟩
        have hm0 : w0.heap.size ≤ w.heap.size := hI.step.size
        unfold wpOp
        rw [h2]
        simp only
        have hw : Region.wanted o' (yielded all a.tmps) = true := by simp [Region.wanted, hfo.g]
        rw [if_pos hw]
        refine .inl ?_
        unfold Oper.wp
        rw [g1, Oper.upon_value]
        refine ih L0 (L.setIfInBounds i true) (fun q => F q ∨ q = i) (fun q => if q = i then p0 else p q) q β (a.put o'.dst u) w' ⟨hI.qk, g2, hI.step.trans g3, ?_, ?_, hI.acq, by rw [size_put]; exact hI.sz, hI.lsz, hI.dc, hI.main⟩ (by simp [hsz]) ?_ ?_ (hFI.add (N := N) g3 hfo hnFi hm0 htsz g4) (by omega)
        · rw [hfo.d]
          refine hI.env.put_apart (fun s hs => ?_) hnodup (by rfl)
          simp only at hs
          by_cases hsl : s < fr.length
          · rw [List.getD_eq_getElem?_getD, FL_get hsl]
            simp only [Option.getD_some]
            cases hwr : wr ios k s with
            | none => exact hany i o' t s (by omega) hfl h2 hfo.d hs
            | some j2 =>
              exfalso
              obtain ⟨j3, io2, j4, j5⟩ := wr_some hwr
              obtain ⟨E1, io1, p1, p2, p3, p4, p5, p6, p7, p8, _⟩ := henv j2 all[j2] (by simp [show j2 < all.size by omega])
              rw [j4] at p1; injection p1 with p1; subst p1
              obtain ⟨t2, t3, t4⟩ := p8 s j5
              obtain ⟨b1, b2, _⟩ := List.idxOf?_eq_some_iff.1 t4
              obtain ⟨c1, c2, _⟩ := List.idxOf?_eq_some_iff.1 hs
              have : t2 = t := b2.symm.trans c2
              subst this
              exact hfo.un j2 all[j2] (by omega) (by simp [show j2 < all.size by omega]) t3
          · rw [List.getD_eq_getElem?_getD, List.getElem?_eq_none (by rw [FL_length]; omega)]; rfl
        · intro j2 hj2' hl2 io2 hio2 hd2 t2 ht2
          have hold := hI.loc j2 hj2' hl2 io2 hio2 hd2 t2 ht2
          rw [hfo.d]
          have : t ≠ t2 := fun e => by
            subst e
            cases hq : all[j2]? with
            | none => rw [hq] at ht2; cases ht2
            | some o2 =>
              rw [hq] at ht2
              exact hfo.un j2 o2 (by omega) (by simpa using hq) (by simpa using ht2)
          rw [getD_put_other this]; exact hold
        · intro i' hi'
          rw [Ld_set hiL, hL i' hi', or_assoc]
        · rintro i' (c | c)
          · exact hF i' c
          · subst c; exact ⟨by omega, him, hfl⟩

/-- **A region that draws its order, with allocations that may come up at any time.** -/
theorem fregA_ok (hchk : fChk P all.toList ios k = true) (hNb : ∀ o ∈ all.toList, ∀ t, o.dst = some t → t < N) (hcops : cOps P ⟨slots, []⟩ [] all.toList = some ios) (hnd : slots.Nodup)
    {h : Heap} {β : Beta} {w : World} {a : Act} (hn0 : n ≤ h.length) {Q : List V → Heap → Prop} (hd : dwp P (fun fr loc h' => rwp P n Q (ios.drop k) fr loc h') (ios.take k) fr [] h)
    (hany : ∀ i o t s, k ≤ i → isFl P all.toList ios i = true → all[i]? = some o → o.dst = some t → slots.idxOf? t = some s → fr.getD s .any = .any)
    (hRel : Rel h β w) (hStep : Step n h0 β0 w0 h β w) (hE : EnvR ⟨slots, []⟩ (shp h) β fr [] a) (hsz : N ≤ a.tmps.size)
    (hfin : ∀ fr h β w a, Q fr h → Rel h β w → Step n h0 β0 w0 h β w → EnvR ⟨slots, []⟩ (shp h) β fr [] a → N ≤ a.tmps.size → Qc .normal a w) : wpAny P .any all Qc all.size (Array.replicate all.size false) a w := by
  have hok := fChk_ok hchk
  have hkm : k ≤ all.size := by simpa using hok.km
  have hil : ios.length = all.size := by rw [hok.len]; simp
  obtain ⟨vs, hs, frs, e0, f0, hst, hK⟩ := dwp_out _ _ _ _ hd
  simp only [List.nil_append, List.length_take] at hst hK
  rw [show min k ios.length = k by omega] at hK
  have hu : ∀ j io, j < k → ios[j]? = some io → ∀ s, io.d = some s → ∀ i' io', i' < k → i' ≠ j → ios[i']? = some io' → io'.d ≠ some s := fun j io hj hio s hd' i' io' h1 h2 h3 => (hok.d j io s hj hio hd' i' io' h1 h2 h3).1
  have hfrs : ∀ j, j ≤ k → frs j = FL ios k vs fr fun i => decide (i < j) := by
    intro j
    induction j with
    | zero =>
      intro _
      rw [f0]
      have : (fun i : Nat => decide (i < 0)) = fun _ => false := by funext i; simp
      rw [this, FL_false]
    | succ j ih =>
      intro hj
      have hjl : j < ios.length := by omega
      obtain ⟨q1, q2, q3⟩ := hst j ios[j] (by rw [List.getElem?_take, if_pos (by omega)]; exact List.getElem?_eq_getElem hjl)
      rw [q2, ih (by omega)]
      exact (FL_step (by omega) (List.getElem?_eq_getElem hjl) (hu j ios[j] (by omega) (List.getElem?_eq_getElem hjl)) q3 (fun i _ => by simp; omega)).symm
  have hst' : ∀ j io, j < k → ios[j]? = some io → dstep P (FL ios k vs fr fun i => decide (i < j)) io ((List.range j).map vs) (hs j) (vs j) (hs (j + 1)) ∧ (io.d = none ∨ ∃ v, vs j = [v]) := fun j io hj hio => by
    obtain ⟨q1, q2, q3⟩ := hst j io (by rw [List.getElem?_take, if_pos hj]; exact hio)
    rw [hfrs j (by omega)] at q1
    exact ⟨q1, q3⟩
  have hflat : ∀ j, j < k → ¬ isAC ios j → hs (j + 1) = hs j := fun j hj hna => by
    refine dstep_same (hst' j ios[j] hj (List.getElem?_eq_getElem (by omega))).1 ?_
    cases hac : ios[j].op.ac with
    | false => rfl
    | true => exact absurd ⟨ios[j], List.getElem?_eq_getElem (by omega), hac⟩ hna
  obtain ⟨q0, a1, a2, a3, a4⟩ := next_ac ios 0 k
  have hq0 : hs q0 = h := by
    have := hs_flat (ios := ios) hflat q0 0 (by omega) (fun j h1 h2 => a3 j h1 (by omega))
    rw [Nat.zero_add] at this
    rw [this, e0]
  have hrep : ∀ j, ¬ Ld (Array.replicate all.size false) j := fun j hl => by
    unfold Ld at hl
    rw [Array.getD_eq_getD_getElem?, Array.getElem?_replicate] at hl
    split at hl <;> simp at hl
  obtain ⟨_, henv⟩ := cOps_env all.toList ⟨slots, []⟩ [] ios hcops ⟨by intro g t h; simp at h, by intro t g h; simp at h⟩
  refine main_fl hok hNb hcops hnd (by rw [e0]; exact hn0) hany hst' ?_ all.size (Array.replicate all.size false) (Array.replicate all.size false) (fun _ => False) (fun _ => ⟨0, 0, 0⟩) q0 β a w ⟨by omega, by rw [hq0]; exact hRel, by rw [hq0]; exact hStep, by rw [hq0, FL_congr (p' := fun _ => false) (fun j _ => by have := hrep j; unfold Ld at this; simpa using this), FL_false]; exact hE, fun j _ hl => absurd hl (hrep j), fun j hj hac => ⟨fun hl => absurd hl (hrep j), fun hl => absurd hac (a3 j (Nat.zero_le _) hl)⟩, hsz, by simp, fun j o _ hl => absurd hl (hrep j), fun j _ => hrep j⟩ (by simp) (fun i _ => by simp) (fun _ h => h.elim) ⟨fun _ h => h.elim, fun _ _ h => h.elim⟩ ?_
  · intro q β a w L0 L F p fuel hI hall hLsz hL hF hFI hfu
    have hqk : hs k = hs q := by
      have := hs_flat (ios := ios) hflat (k - q) q (by have := hI.qk; omega) (fun j h1 h2 hac => by
        have := (hI.acq j (by have := hI.qk; omega) hac).1 (hall j (by have := hI.qk; omega))
        omega)
      rwa [show q + (k - q) = k by have := hI.qk; omega] at this
    have hR := hI.rel
    have hS := hI.step
    have hEn := hI.env
    rw [← hqk] at hR hS hEn hFI
    rw [FL_congr (p' := fun i => decide (i < k)) (fun j hj => by have := hall j hj; unfold Ld at this; simp [this, hj]), ← hfrs k (Nat.le_refl _)] at hEn
    have hseen : ∀ g, g < k → ((all.toList.take k).map (·.dst))[g]? = (all[g]?).map (·.dst) := fun g hg => by
      rw [List.getElem?_map, List.getElem?_take, if_pos hg]; simp
    have hslen : ((all.toList.take k).map (·.dst)).length = k := by simp; omega
    -- the environment behind the first operations
    have hEk : ∃ E, E.slots = slots ∧ LK E ((all.toList.take k).map (·.dst)) ∧ cOps P E ((all.toList.take k).map (·.dst)) (all.toList.drop k) = some (ios.drop k) := by
      have c : k < all.size := by simpa using hok.kl
      obtain ⟨E, io, hio, hEs, hlk, hgd, hcg, hcop, hdst, hdsl, ios', hc1, hc2⟩ := henv k all[k] (by simp [c])
      simp only [List.nil_append] at hlk hc1
      exact ⟨E, hEs, hlk, by rw [hc1, hc2]⟩
    obtain ⟨E, hEs, hlk, hck⟩ := hEk
    refine tail_fl hok hNb hnd hfin _ k F p L E (frs k) ((List.range k).map vs) (hs k) β w a fuel (Nat.le_refl _) (Nat.le_refl _) hkm hLsz ?_ ?_ hck hEs hK hR hS ?_ ?_ ?_ ?_ hFI hfu
    · intro i hi
      rw [hL i hi]
      constructor
      · rintro (c | c)
        · rcases Nat.lt_or_ge i k with q | q
          · exact .inl q
          · exact absurd c (hI.main i q)
        · exact .inr c
      · rintro (c | c)
        · exact .inl (hall i c)
        · exact .inr c
    · exact hF
    · refine ⟨by rw [hEs]; exact hEn.fr_ok, by rw [hEs]; exact hEn.len, by rw [hEs]; exact hEn.bound, fun t j hj => ?_, hEn.defers⟩
      obtain ⟨c1, c2⟩ := hlk.cv t j hj
      have hjk : j < k := by have := (List.getElem?_eq_some_iff.1 c1).1; omega
      rw [hseen j hjk] at c1
      refine ⟨vs j, by simp [hjk], ?_⟩
      have hjm : j < all.size := by omega
      have hdj : all[j].dst = some t := by rw [Array.getElem?_eq_getElem hjm] at c1; simpa using c1
      obtain ⟨E1, io1, p1, p2, p3, p4, p5, p6, p7, p8, _⟩ := henv j all[j] (by simp [hjm])
      have hdn : io1.d = none := by
        cases hdd : io1.d with
        | none => rfl
        | some s =>
          obtain ⟨t', t1, t2⟩ := p8 s hdd
          rw [hdj] at t1; injection t1 with t1; subst t1
          exact absurd (List.mem_of_getElem? (idxOf_get t2)) (by rw [hEs] at c2; exact c2)
      have := hI.loc j hjk (hall j hjk) io1 p1 hdn t (by rw [Array.getElem?_eq_getElem hjm]; simpa using hdj)
      rw [← hqk] at this
      exact this
    · refine ⟨by rw [hslen]; simp, fun g hg => hseen g (by omega), hlk.lk, fun t j hj => ?_, hI.sz⟩
      obtain ⟨c1, c2⟩ := hlk.cv t j hj
      exact ⟨c2, (List.getElem?_eq_some_iff.1 c1).1⟩
    · intro i o t s hi hfl ho ht hs'
      rw [hfrs k (Nat.le_refl _)]
      by_cases hsl : s < fr.length
      · rw [List.getD_eq_getElem?_getD, FL_get hsl]
        simp only [Option.getD_some]
        cases hwr : wr ios k s with
        | none => exact hany i o t s hi hfl ho ht hs'
        | some j2 =>
          exfalso
          obtain ⟨j3, io2, j4, j5⟩ := wr_some hwr
          obtain ⟨E1, io1, p1, p2, p3, p4, p5, p6, p7, p8, _⟩ := henv j2 all[j2] (by simp [show j2 < all.size by omega])
          rw [j4] at p1; injection p1 with p1; subst p1
          obtain ⟨t2, t3, t4⟩ := p8 s j5
          obtain ⟨b1, b2, _⟩ := List.idxOf?_eq_some_iff.1 t4
          obtain ⟨c1, c2, _⟩ := List.idxOf?_eq_some_iff.1 hs'
          have : t2 = t := b2.symm.trans c2
          subst this
          obtain ⟨oi, ioi, li, mi, ti, hfi⟩ := isFl_ok hfl
          have hx : oi = o := by have := hfi.ho; simp [ho] at this; exact this.symm
          subst hx
          have hti : ti = t2 := Option.some.inj (hfi.d.symm.trans ht)
          subst hti
          exact hfi.un j2 all[j2] (by omega) (by simp [show j2 < all.size by omega]) t3
      · rw [List.getD_eq_getElem?_getD, List.getElem?_eq_none (by rw [FL_length]; omega)]; rfl
    · intro i o t hi hfl ho ht
      cases hq : E.loc.lookup t with
      | none => rfl
      | some g =>
        exfalso
        obtain ⟨c1, c2⟩ := hlk.cv t g hq
        have hg : g < k := by have := (List.getElem?_eq_some_iff.1 c1).1; omega
        rw [hseen g hg] at c1
        obtain ⟨oi, ioi, li, mi, ti, hfi⟩ := isFl_ok hfl
        have hx : oi = o := by have := hfi.ho; simp [ho] at this; exact this.symm
        subst hx
        have hti : ti = t := Option.some.inj (hfi.d.symm.trans ht)
        subst hti
        have hgm : g < all.size := by omega
        rw [Array.getElem?_eq_getElem hgm] at c1
        exact hfi.un g all[g] (by omega) (by simp [hgm]) (by simpa using c1)
  · unfold cnt
    exact Nat.le_trans List.countP_le_length (by simp)
end
end Go.Px
