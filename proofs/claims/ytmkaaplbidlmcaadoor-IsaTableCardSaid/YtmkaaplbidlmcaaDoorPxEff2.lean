/- Own work over the kit: abstract memory, its rules, and the walk. -/
import Derived.Test.YtmkaaplbidlmcaaDoorPxApp
set_option linter.unusedVariables false
set_option linter.unusedSimpArgs false
namespace Go.Px

section
variable {P : Program} {h : Heap} {β : Beta} {w : World} {E : Env} {fr : List V} {loc : Loc} {a : Act} {n : Nat}

theorem run_copy {t u e ty : TypeId} {sz m k cap : Nat} {base : Option Addr} {x : Value} {arr : Array Value} (ht : P.underlying t = some (.slice e)) (hs : sizeOf' P e = some sz) (hl : (Builtin.lenOf x).run P w = .ok m w) (hf : (Builtin.firstCells sz (min m k) x).run P w = .ok arr w) :
    (Builtin.copy_ #[t, u] ty #[.slice base k cap, x]).run P w = match base with
      | some ad => ((storeCells ad arr.toList).run P w).andThen fun _ w' => .ok (goInt (min m k : Nat)) w'
      | none => .ok (goInt (min m k : Nat)) w := by
  have hmin : Nat.min m k = min m k := rfl
  cases base <;> simp [Builtin.copy_, run_underlying ht, hl, sizeOf_ok hs, hmin, hf]

theorem cpy_ok (hr : Rel h β w) {x y : S} {ux uy : Value} (hx : SR (shp h) β x ux) (hy : SR (shp h) β y uy) {t u e ty : TypeId} {sz : Nat} (ht : P.underlying t = some (.slice e)) (hs : sizeOf' P e = some sz)
    {ρ : Opd → V} {ox oy : Opd} (eox : ρ ox = .s x) (eoy : ρ oy = .s y) {v : V} {h' : Heap} {tch : Option Nat} (hv : evalE h ρ (.cpy sz ox oy) = some (v, h', tch)) (hn : ∀ r, tch = some r → n ≤ r) :
    EffOk P n h β w (do pure (.value (← Builtin.copy_ #[t, u] ty #[ux, uy]))) v h' := by
  simp only [evalE, eox, eoy] at hv
  split at hv
  case h_1 => cases hv
  rename_i m new hsrc
  obtain ⟨s1, s2, s3⟩ := src_ok (P := P) hr hy hsrc
  have fin : ∀ {val : Value} {w' : World} {v : V} {h' : Heap} {β' : Beta}, (Builtin.copy_ #[t, u] ty #[ux, uy]).run P w = .ok val w' → VR (shp h') β' v val → Rel h' β' w' → Step n h β w h' β' w' →
      EffOk P n h β w (do pure (.value (← Builtin.copy_ #[t, u] ty #[ux, uy]))) v h' := fun r1 r2 r3 r4 => ⟨_, _, _, _, by simp only [Sem.run_bind, r1, Result.andThen_ok]; rfl, .inl rfl, r2, r3, r4⟩
  split at hv
  case h_3 => cases hv
  · injection hv with hv; injection hv with t1 t2; injection t2 with t2 t3; subst t1 t2 t3
    have hux : ux = .slice none 0 0 := hx
    obtain ⟨arr, a1, a2, a3⟩ := s3 (min m 0) (by omega) w (fun _ => rfl)
    refine fin (val := goInt (min m 0 : Nat)) (w' := w) (β' := β) ?_ ?_ hr (Step.refl _ _ _ _)
    · rw [hux, run_copy ht hs s2 a1]
    · have : min m 0 = 0 := by omega
      rw [this]; rfl
  · rename_i r g o sz' k c ex
    split at hv
    case isFalse => cases hv
    rename_i hzz; subst hzz
    split at hv
    case h_1 => cases hv
    rename_i row hrow
    split at hv
    case isFalse => cases hv
    rename_i hrw
    injection hv with hv; injection hv with t1 t2; injection t2 with t2 t3; subst t1 t2 t3
    obtain ⟨e1, e2⟩ := rowAt_some hrow
    obtain ⟨s, ad, cap, p1, p2, hux, p4, p5, p6, p7, p8⟩ := hx
    rw [shp_some e1] at p1
    injection p1 with p1
    obtain ⟨q1, q2, q3⟩ := p8 (by rw [← p1]; exact e2.symm)
    rw [← p1] at q2
    simp only [Row.sh] at q2
    obtain ⟨arr, a1, a2, a3⟩ := s3 (min m k) (by omega) w (fun _ => rfl)
    have hle : min m k * sz' ≤ m * sz' := Nat.mul_le_mul_right _ (by omega)
    have hle2 : min m k * sz' ≤ c * sz' := Nat.mul_le_mul_right _ (by omega)
    have hlen : (new.take (min m k * sz')).length = min m k * sz' := by simp; omega
    by_cases hcap : 0 < cap
    · obtain ⟨w', r1, r2, r3⟩ := run_store_row (P := P) (n := n) hr e1 hrw (hn r rfl) (new.take (min m k * sz')) arr.toList (by simp [a2, hlen]) (o := o) (by omega) (by simpa using a3)
      refine fin (val := goInt (min m k : Nat)) (w' := w') (β' := β) ?_ rfl r2 r3
      rw [hux, run_copy ht hs s2 a1]
      simp only [q1 hcap, r1]
      rfl
    · have hk0 : k = 0 := by omega
      subst hk0
      have hm0 : min m 0 = 0 := by omega
      rw [hm0] at a2 a1 hlen ⊢
      have harr : arr = #[] := Array.eq_empty_of_size_eq_zero (by simpa using a2)
      subst harr
      have hsp : splice row.cells o (new.take (0 * sz')) = row.cells := by simp [splice]
      rw [hsp]
      have hself : setCells h r row row.cells = h := by
        unfold setCells
        apply List.ext_getElem?
        intro i
        rw [List.getElem?_set]
        split
        · rename_i hi; subst hi
          split
          · rw [e1]
          · rename_i hne; rw [List.getElem?_eq_none (by omega)] at e1; cases e1
        · rfl
      rw [hself]
      refine fin (val := goInt (0 : Nat)) (w' := w) (β' := β) ?_ rfl hr (Step.refl _ _ _ _)
      have := run_copy (P := P) (w := w) (t := t) (u := u) (ty := ty) (k := 0) (cap := cap) (base := some ad) ht hs s2 (by rw [hm0]; exact a1)
      rw [hux, this, hm0]
      simp [storeCells]

theorem clr_ok (hr : Rel h β w) {x : S} {ux : Value} (hx : SR (shp h) β x ux) {t e ty : TypeId} {zl : List S} (ht : P.underlying t = some (.slice e)) (hz : zeroOf P e = some zl)
    {ρ : Opd → V} {ox : Opd} (eox : ρ ox = .s x) {v : V} {h' : Heap} {tch : Option Nat} (hv : evalE h ρ (.clr zl.length zl ox) = some (v, h', tch)) (hn : ∀ r, tch = some r → n ≤ r) :
    EffOk P n h β w (do pure (.value (← Builtin.clear_ #[t] ty #[ux]))) v h' := by
  simp only [evalE, eox] at hv
  have fin : ∀ {w' : World} {h' : Heap} {β' : Beta}, (Builtin.clear_ #[t] ty #[ux]).run P w = .ok (.tuple #[]) w' → Rel h' β' w' → Step n h β w h' β' w' →
      EffOk P n h β w (do pure (.value (← Builtin.clear_ #[t] ty #[ux]))) .any h' := fun r1 r3 r4 => ⟨_, _, _, _, by simp only [Sem.run_bind, r1, Result.andThen_ok]; rfl, .inl rfl, trivial, r3, r4⟩
  split at hv
  case h_3 => cases hv
  · rename_i hxe
    injection hxe with hxe; subst hxe
    injection hv with hv; injection hv with t1 t2; injection t2 with t2 t3; subst t1 t2 t3
    have hux : ux = .slice none 0 0 := hx
    refine fin (w' := w) (β' := β) ?_ hr (Step.refl _ _ _ _)
    rw [hux]; simp [Builtin.clear_, run_underlying ht]
  · rename_i r g o sz' k c ex hxe
    injection hxe with hxe; subst hxe
    split at hv
    case isFalse => cases hv
    rename_i hzz; subst hzz
    obtain ⟨s, ad, cap, p1, p2, hux, p4, p5, p6, p7, p8⟩ := hx
    split at hv
    · rename_i hk0; subst hk0
      injection hv with hv; injection hv with t1 t2; injection t2 with t2 t3; subst t1 t2 t3
      refine fin (w' := w) (β' := β) ?_ hr (Step.refl _ _ _ _)
      rw [hux]; simp [Builtin.clear_, run_underlying ht]
    · rename_i hk0
      split at hv
      case h_1 => cases hv
      rename_i row hrow
      split at hv
      case isFalse => cases hv
      rename_i hrw
      injection hv with hv; injection hv with t1 t2; injection t2 with t2 t3; subst t1 t2 t3
      obtain ⟨e1, e2⟩ := rowAt_some hrow
      rw [shp_some e1] at p1
      injection p1 with p1
      obtain ⟨q1, q2, q3⟩ := p8 (by rw [← p1]; exact e2.symm)
      rw [← p1] at q2
      simp only [Row.sh] at q2
      obtain ⟨zv, zi, z1, z2, z3, z4, z5, z6, z7⟩ := zero_ok (P := P) hz w (shp h) β
      have hzs := zeros_ok z7 z6 k
      have hle2 : k * zl.length ≤ c * zl.length := Nat.mul_le_mul_right _ (by omega)
      obtain ⟨w', r1, r2, r3⟩ := run_store_row (P := P) (n := n) hr e1 hrw (hn r rfl) ((List.replicate k zl).flatten) (Builtin.zeroCells zv.cells k).toList (by rw [Array.length_toList, size_zeroCells, len_flatten, z6]) (o := o) (by rw [len_flatten]; omega) (by
        unfold Builtin.zeroCells; rw [Array.toArray_toList]; rw [← z6] at hzs; exact hzs)
      refine fin (w' := w') (β' := β) ?_ r2 r3
      have hcap : 0 < cap := by omega
      have hzr : (zeroValue e).run P w = .ok zv w := z3
      rw [hux, q1 hcap]
      cases k with
      | zero => exact absurd rfl hk0
      | succ k => simp [Builtin.clear_, run_underlying ht, hzr, r1]

theorem mksl_ok (hr : Rel h β w) (hE : EnvR E (shp h) β fr loc a) {t e : TypeId} {zl : List S} {k : Nat} {parts : Array (Nat × Operand)} {ps : List (Nat × Nat × Opd)} (ht : P.underlying t = some (.slice e)) (hz : zeroOf P e = some zl)
    (hp : cParts E (fun i => some (i * zl.length, zl.length)) parts.toList = some ps) (h0 : zl.length ≠ 0) (hk : k * zl.length ≤ 2 ^ 24) {l : List S} (hf : fillParts (rho fr loc) ps ((List.replicate k zl).flatten) = some l) :
    EffOk P n h β w (do pure (.value (← Instr.buildSlice t k (parts.map fun (i, x) => (i, a.eval x))))) (.s (.sl h.length 0 0 zl.length k k true)) (h ++ [⟨l, true, 0⟩]) := by
  obtain ⟨zv, zi, z1, z2, z3, z4, z5, z6, z7⟩ := zero_ok hz w (shp h) β
  have hzs := zeros_ok z7 z6 k
  obtain ⟨cs, c1, c2, c3, c4⟩ := fill_ok hE hp hf hzs (by rw [len_flatten]; simp)
  have hll : l.length = k * zl.length := by rw [c4, len_flatten]
  obtain ⟨r1, r2⟩ := alloc_ok (n := n) hr l cs e c2 c3
  have hkz : ¬ (k * zl.length > 16777216) := by omega
  have hk24 : k ≤ 2 ^ 24 := by
    have : k * 1 ≤ k * zl.length := Nat.mul_le_mul_left _ (by omega)
    omega
  refine ⟨_, .slice (some ⟨w.heap.size, 0, none⟩) k k, w.alloc (.cells cs e), _, ?_, .inl rfl, slice_value ⟨w.heap.size, 0, cs.size⟩ zl.length k k k true (Nat.le_refl _) (Nat.le_refl _) (by simp [maxLen]; omega) (by simp) (by omega) (by simp; omega), r1, r2⟩
  have hmap : (parts.map fun x => (x.1, a.eval x.2)).toList = parts.toList.map fun p => (p.1, a.eval p.2) := by simp
  by_cases hk0 : k = 0
  · subst hk0
    have hr0 : Array.range (0 * zl.length) = #[] := by rw [Nat.zero_mul]; rfl
    rw [hr0] at c1
    have c1' : Instr.fill (fun i => some (i * zl.length, zl.length)) (#[] : Array Value) (parts.toList.map fun p => (p.1, a.eval p.2)) = some cs := by simpa using c1
    have hz0 : (0 * zl.length = 0) := Nat.zero_mul _
    simp only [Instr.buildSlice, Sem.run_bind, run_underlying ht, Result.andThen_ok, z4, Sem.run_ite, if_neg hkz, if_pos hz0, Sem.run_pure, hmap, hr0]
    rw [show Array.map (fun x => (#[] : Array Value)[x % (#[] : Array Value).size]!) (#[] : Array Nat) = #[] from by simp, c1']
    simp only [newRow, run_newObj, Sem.run_bind, Sem.run_pure, Result.andThen_ok]
    rfl
  have hkz0 : ¬ (k * zl.length = 0) := by intro q; rcases Nat.mul_eq_zero.1 q with q | q <;> omega
  simp only [Instr.buildSlice, Sem.run_bind, run_underlying ht, Result.andThen_ok, z4, z3, Sem.run_ite, if_neg hkz, if_neg hkz0, Sem.run_pure, hmap, c1, newRow, run_newObj]
  rfl

theorem mks_ok (hr : Rel h β w) {t e : TypeId} {i : TypeInfo} {zl : List S} (ht : P.underlying t = some (.slice e)) (hi : P.info? e = some i) (hz : zeroOf P e = some zl) (h0 : i.size ≠ 0) {k1 k2 : IntKind} {l c : Int}
    (hb : 0 ≤ l ∧ l ≤ c ∧ c ≤ 9223372036854775807 ∧ c * (i.bytes : Int) ≤ 140737488355328) :
    EffOk P n h β w (do pure (.value (← Instr.makeSlice t (.int k1 l) (.int k2 c)))) (.s (.sl h.length 0 0 i.size l.toNat c.toNat true)) (h ++ [⟨(List.replicate c.toNat zl).flatten, true, 0⟩]) := by
  obtain ⟨zv, zi, z1, z2, z3, z4, z5, z6, z7⟩ := zero_ok hz w (shp h) β
  rw [hi] at z1; injection z1 with z1; subst z1
  obtain ⟨b1, b2, b3, b4⟩ := hb
  have hzs := zeros_ok z7 z6 c.toNat
  have wl : IntKind.i64.wrap l = l := IntWalk.i64_in _ (by omega)
  have wc : IntKind.i64.wrap c = c := IntWalk.i64_in _ (by omega)
  have hcs : ((Array.range (c.toNat * zl.length)).map (fun j => zv.cells[j % zv.cells.size]!)).size = c.toNat * zl.length := by simp
  obtain ⟨r1, r2⟩ := alloc_ok (n := n) hr ((List.replicate c.toNat zl).flatten) ((Array.range (c.toNat * zl.length)).map (fun j => zv.cells[j % zv.cells.size]!)) e (by rw [hcs, len_flatten]) hzs
  refine ⟨_, .slice (some ⟨w.heap.size, 0, none⟩) l.toNat c.toNat, _, _, ?_, .inl rfl, slice_value ⟨w.heap.size, 0, _⟩ i.size l.toNat c.toNat c.toNat true (by omega) (Nat.le_refl _) (by simp [maxLen]; omega) (by simp) (by rw [len_flatten, z5]; exact Nat.le_refl _) (by simp [z5]), r1, r2⟩
  have h1 : ¬ (c < 0) := by omega
  have h2 : ¬ (281474976710656 < (i.bytes : Int) * c) := by rw [Int.mul_comm]; omega
  have h3 : ¬ (l < 0) := by omega
  have h4 : ¬ (c < l) := by omega
  by_cases hc0 : c.toNat * zl.length = 0
  · simp [Instr.makeSlice, run_underlying ht, asInt, asIntOf, typeInfo, hi, wl, wc, h1, h2, h3, h4, sizeOf, z5, newRow, hc0]
    congr 2
    simp
  · simp [Instr.makeSlice, run_underlying ht, asInt, asIntOf, typeInfo, hi, wl, wc, h1, h2, h3, h4, sizeOf, z5, newRow, hc0, z3]

theorem s2b_ok (hr : Rel h β w) {s d e : TypeId} (hs : P.underlying s = some .string) (hd : P.underlying d = some (.slice e)) (he : P.underlying e = some (.int .u8)) {l : List Nat} {u : Value} (hu : VR (shp h) β (.s (.s l)) u) (hl : l.length ≤ 9223372036854775807) :
    EffOk P n h β w (do pure (.value (← convert s d u))) (.s (.sl h.length 0 0 1 l.length l.length false)) (h ++ [⟨byteS l, true, 0⟩]) := by
  obtain ⟨t, rfl, ht⟩ := hu.str
  have hlen : l.length = t.size := by rw [← ht, nats_length]
  have hge := grownCap_ge w t.size 0 e
  have hcm := grownCap_le_maxLen w t.size 0 e (by simp [maxLen]; omega)
  let cs : Array Value := (t.data.map fun b => .int .u8 b.toNat) ++ Array.replicate (grownCap w t.size 0 e - t.size) (.int .u8 0)
  have hsz : cs.size = grownCap w t.size 0 e := by
    simp only [cs, Array.size_append, Array.size_map, Array.size_replicate]
    change t.size + _ = _
    omega
  have hcr : CR (shp h) β (byteS l) cs 0 := by
    refine CR.more ?_
    intro j x hj
    simp only [byteS, List.getElem?_map, Option.map_eq_some_iff] at hj
    obtain ⟨c, hc, rfl⟩ := hj
    rw [← ht] at hc
    simp only [nats, List.getElem?_map, Option.map_eq_some_iff] at hc
    obtain ⟨c', hc1, hc2⟩ := hc
    simp only [Array.getElem?_toList] at hc1
    exact ⟨.int .u8 c'.toNat, by simp [hc1], by rw [← hc2]; rfl⟩
  let w1 : World := (w.drew.alloc (.cells cs e)).freeze ⟨w.heap.size, cs.size, none⟩ 1
  have hw1 : w1.heap = (w.heap.push (.cells cs e)).modify w.heap.size (fun o => match o with | .cells c el (lo, hi) => .cells c el (if lo == hi then (cs.size, cs.size + 1) else (min lo cs.size, max hi (cs.size + 1))) | o => o) := rfl
  obtain ⟨r1, r2⟩ := rel_new (n := n) hr ⟨byteS l, true, 0⟩ w1 cs e ⟨w.heap.size, 0, cs.size⟩ (cs.size, cs.size + 1) (by intro o ho; simp; omega) rfl rfl rfl (by rw [hw1]; simp)
    (fun b hb => by rw [hw1, Array.getElem?_modify, if_neg (by omega), Array.getElem?_push, if_neg (by omega)]) (Nat.le_refl _) rfl (by rw [hw1, Array.getElem?_modify]; simp) (by simp [byteS]; omega) hcr
  refine ⟨_, .slice (some ⟨w.heap.size, 0, none⟩) t.size (grownCap w t.size 0 e), w1, _, ?_, .inl rfl, by rw [hlen]; exact slice_value (l := byteS l) ⟨w.heap.size, 0, cs.size⟩ 1 t.size t.size (grownCap w t.size 0 e) false (Nat.le_refl _) hge hcm (by simp) (by simp [byteS]; omega) (by simp; omega), r1, r2⟩
  have hsh : (w.drew.alloc (.cells cs e)).shape? w.heap.size = some (e, cs.size) := by
    unfold World.shape?
    rw [show (w.drew.alloc (.cells cs e)).heap[w.heap.size]? = _ from heap_alloc_new w.drew _]
  have hrun : ∀ w2 : World, w2 = w.drew.alloc (.cells cs e) → (markStringish ⟨w.heap.size, 0, none⟩).run P w2 = .ok () w1 := by
    intro w2 hw2
    subst hw2
    simp only [markStringish, Sem.run_bind, run_shape, hsh, Result.andThen_ok, run_freeze]
    rfl
  simp only [convert, Sem.run_bind, run_underlying hs, run_underlying hd, run_underlying he, Result.andThen_ok, Conv.stringToBytes, run_choose, Question.forced, Bool.false_eq_true, if_false, newRow, run_newObj, Sem.run_pure]
  show ((((markStringish ⟨w.heap.size, 0, none⟩).run P (w.drew.alloc (.cells cs e))).andThen _).andThen _) = _
  rw [hrun _ rfl]
  rfl

/-- An operation that writes. -/
theorem evalE_ok (hr : Rel h β w) (hE : EnvR E (shp h) β fr loc a) {o : Oper} {io : IOp} (hc : cOp P E o.op = some io) {v : V} {h' : Heap} {tch : Option Nat} (hv : evalE h (rho fr loc) io = some (v, h', tch)) (hn : ∀ r, tch = some r → n ≤ r) :
    EffOk P n h β w (execOp a.eval o) v h' := by
  obtain ⟨dst, op, ty, pos, after, guard⟩ := o
  simp only at hc
  cases op
  case alloc t =>
    simp only [cOp] at hc
    split at hc
    case h_2 => cases hc
    rename_i z hz
    simp only [Option.map_eq_some_iff] at hc; obtain ⟨x, hx, rfl⟩ := hc
    simp only [evalE, rho, Option.map_eq_some_iff] at hv
    obtain ⟨l, hl, hv⟩ := hv
    injection hv with t1 t2; injection t2 with t2 t3; subst t1 t2 t3
    have hzr : (zeroValue t).run P w = .ok z w := by
      cases hi : P.info? t with
      | none => simp [hi] at hz
      | some i => simp [hi] at hz; simp [zeroValue, typeInfo, hi, hz]
    obtain ⟨nx, u, w', β', r1, r2⟩ := newv_ok (P := P) (n := n) hr (cVal_ok hx (shp h) β) hl t
    refine ⟨nx, u, w', β', ?_, r2⟩
    rw [← r1]
    simp only [execOp, Instr.alloc, Sem.run_bind, hzr, Result.andThen_ok]
  case box t x =>
    simp only [cOp, Option.map_eq_some_iff] at hc; obtain ⟨o, ho, rfl⟩ := hc
    simp only [evalE, Option.map_eq_some_iff] at hv
    obtain ⟨l, hl, hv⟩ := hv
    injection hv with t1 t2; injection t2 with t2 t3; subst t1 t2 t3
    exact newv_ok (P := P) (n := n) hr (cOpd_ok hE ho) hl t
  case buildSlice t k parts =>
    simp only [cOp] at hc
    split at hc
    case h_2 => cases hc
    rename_i e hu
    split at hc
    case h_2 => cases hc
    rename_i z hz
    split at hc
    case isTrue => cases hc
    rename_i hcond
    simp only [Option.map_eq_some_iff] at hc; obtain ⟨ps, hps, rfl⟩ := hc
    simp only [evalE, Option.map_eq_some_iff] at hv
    obtain ⟨l, hl, hv⟩ := hv
    injection hv with t1 t2; injection t2 with t2 t3; subst t1 t2 t3
    have c1 : z.length ≠ 0 := fun q => hcond (.inl q)
    have c2 : k * z.length ≤ 2 ^ 24 := by
      have : ¬ (k * z.length > 2 ^ 24) := fun q => hcond (.inr q)
      omega
    exact mksl_ok (P := P) (n := n) hr hE hu hz hps c1 c2 hl
  case store t x y =>
    simp only [cOp] at hc
    split at hc
    case h_2 => cases hc
    rename_i s p q hs hp hq
    injection hc with hc; subst hc
    simp only [evalE] at hv
    split at hv
    case h_2 => cases hv
    rename_i r g off l e1 e2
    split at hv
    case h_2 => cases hv
    rename_i row hrow
    split at hv
    case isFalse => cases hv
    rename_i hcond
    injection hv with hv; injection hv with t1 t2; injection t2 with t2 t3; subst t1 t2 t3
    exact st_ok (P := P) (n := n) hr (cOpd_ok hE hp) (cOpd_ok hE hq) e1 e2 hrow hcond.1 hcond.2.1 hcond.2.2 (hn r rfl) hs
  case makeSlice t l c =>
    simp only [cOp] at hc
    split at hc
    case h_2 => cases hc
    rename_i e hu
    split at hc
    case h_2 => cases hc
    rename_i i z p q hi hz hp hq
    split at hc
    case isTrue => cases hc
    rename_i h0
    injection hc with hc; subst hc
    simp only [evalE] at hv
    split at hv
    case h_2 => cases hv
    rename_i k1 l' k2 c' e1 e2
    split at hv
    case isFalse => cases hv
    rename_i hcond
    injection hv with hv; injection hv with t1 t2; injection t2 with t2 t3; subst t1 t2 t3
    have h1 := cOpd_ok hE hp
    have h2 := cOpd_ok hE hq
    rw [e1] at h1
    rw [e2] at h2
    have v1 := h1.int
    have v2 := h2.int
    have := mks_ok (P := P) (n := n) (k1 := k1) (k2 := k2) hr hu hi hz h0 hcond
    simpa only [execOp, v1, v2] using this
  case convert s d x =>
    simp only [cOp] at hc
    split at hc
    · simp only [Option.map_eq_some_iff] at hc; obtain ⟨_, _, rfl⟩ := hc; simp [evalE] at hv
    · simp only [Option.map_eq_some_iff] at hc; obtain ⟨_, _, rfl⟩ := hc; simp [evalE] at hv
    · split at hc
      · simp only [Option.map_eq_some_iff] at hc; obtain ⟨_, _, rfl⟩ := hc; simp [evalE] at hv
      · cases hc
    · rename_i e hs hd
      split at hc
      case h_2 => cases hc
      rename_i he
      simp only [Option.map_eq_some_iff] at hc; obtain ⟨o, ho, rfl⟩ := hc
      simp only [evalE] at hv
      split at hv
      case h_2 => cases hv
      rename_i l e1
      split at hv
      case isFalse => cases hv
      rename_i hl
      injection hv with hv; injection hv with t1 t2; injection t2 with t2 t3; subst t1 t2 t3
      have hx := cOpd_ok hE ho
      rw [e1] at hx
      exact s2b_ok (P := P) (n := n) hr hs hd he hx hl
    · cases hc
  case call c =>
    obtain ⟨callee, args, ats⟩ := c
    simp only [cOp] at hc
    split at hc
    · simp only [Option.map_eq_some_iff] at hc; obtain ⟨_, _, rfl⟩ := hc; simp [evalE] at hv
    · split at hc
      · injection hc with hc; subst hc; simp [evalE] at hv
      · cases hc
    · rename_i _ b
      unfold cBuiltin at hc
      split at hc
      · rename_i hb
        subst hb
        unfold cClear at hc
        split at hc
        case h_2 => cases hc
        rename_i x t hxs hts
        have hxs' := toArr hxs
        have hts' := toArr hts
        try simp only at hxs' hts'
        subst hxs' hts'
        split at hc
        case h_2 => cases hc
        rename_i e hu
        split at hc
        case h_2 => cases hc
        rename_i z p hz hp
        injection hc with hc; subst hc
        have h1 := cOpd_ok hE hp
        have hsx : ∃ sx, rho fr loc p = .s sx := by
          simp only [evalE] at hv
          split at hv
          · rename_i e1; exact ⟨_, e1⟩
          · rename_i e1; exact ⟨_, e1⟩
          · cases hv
        obtain ⟨sx, e1⟩ := hsx
        rw [e1] at h1
        have := clr_ok (P := P) (n := n) (ty := ty) hr h1 hu hz e1 hv hn
        obtain ⟨nx, uu, w', β', r1, r2⟩ := this
        exact ⟨nx, uu, w', β', by rw [← r1]; simp [execOp, resolve, invoke, builtin], r2⟩
      rename_i hnc; clear hnc
      unfold cBuiltin0 at hc
      split at hc
      · (repeat' (split at hc)) <;> first
          | (cases hc; done)
          | (injection hc with hc; subst hc; simp [evalE] at hv; done)
          | (simp only [Option.map_eq_some_iff] at hc; obtain ⟨_, _, rfl⟩ := hc; simp [evalE] at hv; done)
      · rename_i x y t u hxs hts
        have hxs' := toArr hxs
        have hts' := toArr hts
        try simp only at hxs' hts'
        subst hxs' hts'
        split at hc
        case h_2 => cases hc
        rename_i e hu hseq
        split at hc
        case h_2 => cases hc
        rename_i i p q hi hp hq
        split at hc
        case isTrue => cases hc
        rename_i hcond
        injection hc with hc; subst hc
        have hz : ∃ zl, zeroOf P e = some zl := by
          cases hzz : zeroOf P e with
          | none => exact absurd (.inr (by simp [hzz])) hcond
          | some zl => exact ⟨zl, rfl⟩
        obtain ⟨zl, hz⟩ := hz
        have hud : ∃ du, P.underlying u = some du ∧ ((∃ e', du = .slice e') ∨ du = .string) := by
          unfold isSeq at hseq
          split at hseq
          · rename_i e' he'; exact ⟨_, he', .inl ⟨_, rfl⟩⟩
          · rename_i he'; exact ⟨_, he', .inr rfl⟩
          · cases hseq
        obtain ⟨du, hdu, hdd⟩ := hud
        have hv2 := hv
        simp only [evalE] at hv2
        split at hv2
        case h_2 => cases hv2
        rename_i sx sy e1 e2
        have h1 := cOpd_ok hE hp
        have h2 := cOpd_ok hE hq
        rw [e1] at h1
        rw [e2] at h2
        have := app_ok (P := P) (n := n) (ty := ty) hr h1 h2 hu hi hdu hdd hz (fun q => hcond (.inl q)) e1 e2 hv hn
        obtain ⟨nx, uu, w', β', r1, r2⟩ := this
        exact ⟨nx, uu, w', β', by rw [← r1]; simp [execOp, resolve, invoke, builtin], r2⟩
      · rename_i x y t u hxs hts
        have hxs' := toArr hxs
        have hts' := toArr hts
        try simp only at hxs' hts'
        subst hxs' hts'
        split at hc
        case h_2 => cases hc
        rename_i e hu
        split at hc
        case h_2 => cases hc
        rename_i i p q hi hp hq
        split at hc
        case isTrue => cases hc
        injection hc with hc; subst hc
        have hv2 := hv
        simp only [evalE] at hv2
        split at hv2
        case h_2 => cases hv2
        rename_i sx sy e1 e2
        have h1 := cOpd_ok hE hp
        have h2 := cOpd_ok hE hq
        rw [e1] at h1
        rw [e2] at h2
        have := cpy_ok (P := P) (n := n) (ty := ty) (u := u) hr h1 h2 hu (by simp [sizeOf', hi]) e1 e2 hv hn
        obtain ⟨nx, uu, w', β', r1, r2⟩ := this
        exact ⟨nx, uu, w', β', by rw [← r1]; simp [execOp, resolve, invoke, builtin], r2⟩
      · (repeat' (split at hc)) <;> first
          | (cases hc; done)
          | (injection hc with hc; subst hc; simp [evalE] at hv; done)
      · (repeat' (split at hc)) <;> first
          | (cases hc; done)
          | (injection hc with hc; subst hc; simp [evalE] at hv; done)
      · cases hc
    · cases hc
  case makeFunc f fs caps =>
    exfalso
    cases f with
    | func f =>
      simp only [cOp] at hc
      split at hc
      · simp only [Option.map_eq_some_iff] at hc; obtain ⟨_, _, rfl⟩ := hc; simp [evalE] at hv
      · cases hc
    | _ => simp [cOp] at hc
  case extract x j =>
    exfalso
    cases x with
    | tmp t =>
      simp only [cOp] at hc
      split at hc
      · cases hc
      · simp only [Option.map_eq_some_iff] at hc; obtain ⟨_, _, rfl⟩ := hc; simp [evalE] at hv
    | _ => simp [cOp] at hc
  all_goals
    exfalso
    first
    | (simp [cOp] at hc; done)
    | (simp only [cOp] at hc
       (repeat' (split at hc)) <;> first
         | (cases hc; done)
         | (injection hc with hc; subst hc; simp [evalE] at hv; done)
         | (simp only [Option.map_eq_some_iff] at hc; obtain ⟨_, _, rfl⟩ := hc; simp [evalE] at hv; done))

end
end Go.Px
