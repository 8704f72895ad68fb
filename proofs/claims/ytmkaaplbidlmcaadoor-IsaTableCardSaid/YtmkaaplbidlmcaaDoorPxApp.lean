/- Own work over the kit: abstract memory, its rules, and the walk. -/
import Derived.Test.YtmkaaplbidlmcaaDoorPxEff
set_option linter.unusedVariables false
set_option linter.unusedSimpArgs false
namespace Go.Px

section
variable {P : Program} {h : Heap} {β : Beta} {w : World} {E : Env} {fr : List V} {loc : Loc} {a : Act} {n : Nat}

theorem run_append_fit {t u e ty : TypeId} {i : TypeInfo} {du : TypeDesc} (ht : P.underlying t = some (.slice e)) (hi : P.info? e = some i) (hu : P.underlying u = some du) (hd : (∃ e', du = .slice e') ∨ du = .string)
    {base : Option Addr} {k cap m : Nat} {x : Value} {arr : Array Value} (hl : (Builtin.lenOf x).run P w = .ok m w) (hf : (Builtin.firstCells i.size m x).run P w = .ok arr w) (hfit : k + m ≤ cap) :
    (Builtin.append_ #[t, u] ty #[.slice base k cap, x]).run P w = match base with
      | some ad => ((storeCells (ad.add (k * i.size)) arr.toList).run P w).andThen fun _ w' => .ok (.slice (some ad) (k + m) cap) w'
      | none => .ok (.slice none (k + m) cap) w := by
  rcases hd with ⟨e', rfl⟩ | rfl
  · cases base <;> simp [Builtin.append_, run_underlying ht, run_underlying hu, sizeOf, typeInfo, hi, hl, hf, hfit]
  · cases base <;> simp [Builtin.append_, run_underlying ht, run_underlying hu, sizeOf, typeInfo, hi, hl, hf, hfit]

theorem run_append_grows {t u e ty : TypeId} {i : TypeInfo} {z : Value} {du : TypeDesc} (ht : P.underlying t = some (.slice e)) (hi : P.info? e = some i) (hz : i.zero = some z) (hu : P.underlying u = some du) (hd : (∃ e', du = .slice e') ∨ du = .string)
    {base : Option Addr} {k cap m : Nat} {x : Value} {old new : Array Value} (hl : (Builtin.lenOf x).run P w = .ok m w) (ho : (Builtin.firstCells i.size k (.slice base k cap)).run P w.drew = .ok old w.drew) (hf : (Builtin.firstCells i.size m x).run P w.drew = .ok new w.drew)
    (hg : cap < k + m) (h63 : k + m ≤ 9223372036854775807) (hb : (k + m) * i.bytes ≤ 140737488355328) :
    (Builtin.append_ #[t, u] ty #[.slice base k cap, x]).run P w =
      .ok (.slice (some ⟨w.heap.size, 0, none⟩) (k + m) (grownCap w (k + m) cap e)) (w.drew.alloc (.cells (old ++ new ++ Builtin.zeroCells z.cells (grownCap w (k + m) cap e - (k + m))) e)) := by
  have hn : ¬ (k + m ≤ cap) := by omega
  have h63' : ¬ (9223372036854775807 < ((k : Int) + (m : Int))) := by omega
  have hfit := growslice_fits hg hb
  have h48' : ¬ (281474976710656 < Builtin.nextslicecap (k + m) cap * i.bytes) := by omega
  rcases hd with ⟨e', rfl⟩ | rfl
  · simp [Builtin.append_, run_underlying ht, run_underlying hu, sizeOf, typeInfo, zeroValue, hi, hz, hl, hn, h63', h48', Question.forced, hf, ho, newRow, grownCap]
  · simp [Builtin.append_, run_underlying ht, run_underlying hu, sizeOf, typeInfo, zeroValue, hi, hz, hl, hn, h63', h48', Question.forced, hf, ho, newRow, grownCap]

/-- A row is made anew: another generation, another place or the same one. -/
theorem rel_regen (hr : Rel h β w) {r : Nat} {row row' : Row} (e : h[r]? = some row) (hrw : row.rw = true) (hn : n ≤ r) (hrw' : row'.rw = true) (hg : row'.gen = row.gen + 1) {w' : World} {p : Place} (hp : p.blk = (β r).blk ∨ w.heap.size ≤ p.blk)
    (hos : w'.os = w.os) (ht : w'.tape = w.tape) (hout : w'.output = w.output) (hsz : w.heap.size ≤ w'.heap.size) (hoth : ∀ b, b < w.heap.size → b ≠ (β r).blk → w'.heap[b]? = w.heap[b]?)
    (hrow : ∃ cs el fz, w'.heap[p.blk]? = some (.cells cs el fz) ∧ cs.size = p.size ∧ p.base + row'.cells.length ≤ cs.size ∧ CR (shp h) β row'.cells cs p.base ∧ (∀ o, o < cs.size → (decide (fz.1 ≤ o) && decide (o < fz.2)) = false)) :
    Rel (h.set r row') (upd β r p) w' ∧ Step n h β w (h.set r row') (upd β r p) w' ∧ Evo (shp h) β (shp (h.set r row')) (upd β r p) := by
  have hlt : r < h.length := (List.getElem?_eq_some_iff.1 e).1
  have get : ∀ r1 row1, (h.set r row')[r1]? = some row1 → (r1 = r ∧ row1 = row') ∨ (r1 ≠ r ∧ h[r1]? = some row1) := by
    intro r1 row1 hg
    rw [List.getElem?_set] at hg
    by_cases hrr : r = r1
    · subst hrr; rw [if_pos rfl, if_pos hlt] at hg; injection hg with hg; exact .inl ⟨rfl, hg.symm⟩
    · rw [if_neg hrr] at hg; exact .inr ⟨fun k => hrr k.symm, hg⟩
  have old : ∀ q, q ≠ r → upd β r p q = β q := fun q hq => by simp [upd, hq]
  have new : upd β r p r = p := by simp [upd]
  have hev : Evo (shp h) β (shp (h.set r row')) (upd β r p) := by
    intro q s hs
    rw [shp_get] at hs
    rw [shp_get, List.getElem?_set]
    by_cases hq : r = q
    · subst hq
      rw [e] at hs
      injection hs with hs
      subst hs
      rw [if_pos rfl, if_pos hlt]
      refine ⟨row'.sh, rfl, by simp [Row.sh, hg], by simp [Row.sh, hrw, hrw'], fun k => ?_⟩
      simp [Row.sh, hg] at k
    · rw [if_neg hq]
      exact ⟨s, hs, Nat.le_refl _, rfl, fun _ => ⟨rfl, old q (fun k => hq k.symm)⟩⟩
  have blk : ∀ q rw', h[q]? = some rw' → (β q).blk < w.heap.size := by
    intro q rw' e'
    obtain ⟨cs1, el1, fz1, k1, _⟩ := hr.row q rw' e'
    exact (Array.getElem?_eq_some_iff.1 k1).1
  obtain ⟨cs, el, fz, c1, c2, c3, c4, c5⟩ := hrow
  refine ⟨⟨?_, ?_, ?_⟩, ⟨hos, ht, hout, hsz, hev, ?_, ?_, ?_⟩, hev⟩
  · intro r1 row1 h1
    rcases get r1 row1 h1 with ⟨rfl, rfl⟩ | ⟨hne, h1'⟩
    · unfold RowR; rw [new]
      exact ⟨cs, el, fz, c1, c2, c3, c4.evo hev, fun _ => c5⟩
    · unfold RowR; rw [old r1 hne]
      obtain ⟨cs1, el1, fz1, k1, k2, k3, k4, k5⟩ := hr.row r1 row1 h1'
      refine ⟨cs1, el1, fz1, ?_, k2, k3, k4.evo hev, k5⟩
      rw [hoth _ (blk _ _ h1') (fun k => hr.sep r r1 row row1 e h1' (Ne.symm hne) hrw k.symm)]
      exact k1
  · intro r1 r2 row1 row2 h1 h2 hne hrw1
    rcases get r1 row1 h1 with ⟨rfl, rfl⟩ | ⟨hn1, h1'⟩ <;> rcases get r2 row2 h2 with ⟨rfl, rfl⟩ | ⟨hn2, h2'⟩
    · exact absurd rfl hne
    · rw [new, old r2 hn2]
      rcases hp with hp | hp
      · rw [hp]; exact hr.sep _ _ _ _ e h2' hne hrw
      · have := blk _ _ h2'; omega
    · rw [new, old r1 hn1]
      rcases hp with hp | hp
      · rw [hp]; exact hr.sep _ _ _ _ h1' e hne hrw1
      · have := blk _ _ h1'; omega
    · rw [old r1 hn1, old r2 hn2]; exact hr.sep _ _ _ _ h1' h2' hne hrw1
  · intro r1 row1 h1 hw hg
    rcases get r1 row1 h1 with ⟨rfl, rfl⟩ | ⟨hn1, h1'⟩
    · rw [hrw'] at hw; cases hw
    · rw [old r1 hn1]; exact hr.glob _ _ h1' hw hg
  · intro q s hs
    by_cases hq : q = r
    · subst hq; rw [new]; rcases hp with hp | hp
      · exact .inl hp
      · exact .inr hp
    · rw [old q hq]; exact .inl rfl
  · intro q s hq hs
    rw [shp_get, List.getElem?_eq_none (by simp; omega)] at hs
    simp at hs
  · intro b hb hno
    exact hoth b hb (fun k => hno r row.sh hn (shp_some e) hrw k.symm)

theorem CR.append {sh β} {l m : List S} {xs ys : Array Value} (hl : CR sh β l xs 0) (hx : xs.size = l.length) (hm : CR sh β m ys 0) : CR sh β (l ++ m) (xs ++ ys) 0 := by
  intro j x hj
  simp only [Nat.zero_add]
  by_cases c : j < l.length
  · rw [List.getElem?_append_left c] at hj
    obtain ⟨u, hu, hs⟩ := hl j x hj
    exact ⟨u, by rw [Array.getElem?_append_left (by omega)]; simpa using hu, hs⟩
  · rw [List.getElem?_append_right (by omega)] at hj
    obtain ⟨u, hu, hs⟩ := hm _ x hj
    exact ⟨u, by rw [Array.getElem?_append_right (by omega), hx]; simpa using hu, hs⟩

theorem CR.more {sh β} {l : List S} {xs ys : Array Value} (hl : CR sh β l xs 0) : CR sh β l (xs ++ ys) 0 := by
  intro j x hj
  obtain ⟨u, hu, hs⟩ := hl j x hj
  simp only [Nat.zero_add] at hu ⊢
  exact ⟨u, by rw [Array.getElem?_append_left (Array.getElem?_eq_some_iff.1 hu).1]; exact hu, hs⟩

theorem cell_drew (w : World) : ∀ a : Addr, w.drew.cell? a = w.cell? a := fun _ => rfl

/-- Append. -/
theorem app_ok (hr : Rel h β w) {x y : S} {ux uy : Value} (hx : SR (shp h) β x ux) (hy : SR (shp h) β y uy) {t u e ty : TypeId} {i : TypeInfo} {du : TypeDesc} (ht : P.underlying t = some (.slice e)) (hi : P.info? e = some i) (hu : P.underlying u = some du) (hd : (∃ e', du = .slice e') ∨ du = .string)
    {zl : List S} (hz : zeroOf P e = some zl) (hsz0 : i.size ≠ 0) {ρ : Opd → V} {ox oy : Opd} (eox : ρ ox = .s x) (eoy : ρ oy = .s y) {v : V} {h' : Heap} {tch : Option Nat} (hv : evalE h ρ (.app i.size i.bytes ox oy) = some (v, h', tch)) (hn : ∀ r, tch = some r → n ≤ r) :
    EffOk P n h β w (do pure (.value (← Builtin.append_ #[t, u] ty #[ux, uy]))) v h' := by
  obtain ⟨zv, zi, z1, z2, z3, z4, z5, z6, z7⟩ := zero_ok hz w (shp h) β
  rw [hi] at z1; injection z1 with z1; subst z1
  simp only [evalE, eox, eoy] at hv
  split at hv
  case h_1 => cases hv
  rename_i m new hsrc
  obtain ⟨s1, s2, s3⟩ := src_ok (P := P) hr hy hsrc
  obtain ⟨arr, a1, a2, a3⟩ := s3 m (Nat.le_refl _) w (fun _ => rfl)
  obtain ⟨arr', b1, b2, b3⟩ := s3 m (Nat.le_refl _) w.drew (cell_drew w)
  rw [← s1, List.take_length] at a3 b3
  have fin : ∀ {val : Value} {w' : World} {v : V} {h' : Heap} {β' : Beta}, (Builtin.append_ #[t, u] ty #[ux, uy]).run P w = .ok val w' → VR (shp h') β' v val → Rel h' β' w' → Step n h β w h' β' w' →
      EffOk P n h β w (do pure (.value (← Builtin.append_ #[t, u] ty #[ux, uy]))) v h' := fun r1 r2 r3 r4 => ⟨_, _, _, _, by simp only [Sem.run_bind, r1, Result.andThen_ok]; rfl, .inl rfl, r2, r3, r4⟩
  -- a fresh block for k old cells and the new ones
  have fresh : ∀ (k cap : Nat) (base : Option Addr) (old : List S) (oarr : Array Value), ux = .slice base k cap → cap < k + m → k + m ≤ 9223372036854775807 → (k + m) * i.bytes ≤ 140737488355328 →
      (Builtin.firstCells i.size k (.slice base k cap)).run P w.drew = .ok oarr w.drew → oarr.size = k * i.size → old.length = k * i.size → CR (shp h) β old oarr 0 →
      ∃ cs : Array Value, (Builtin.append_ #[t, u] ty #[ux, uy]).run P w = .ok (.slice (some ⟨w.heap.size, 0, none⟩) (k + m) (grownCap w (k + m) cap e)) (w.drew.alloc (.cells cs e)) ∧ cs.size = grownCap w (k + m) cap e * i.size ∧
        k + m ≤ grownCap w (k + m) cap e ∧ grownCap w (k + m) cap e ≤ maxLen ∧ CR (shp h) β (old ++ new) cs 0 ∧ (old ++ new).length = (k + m) * i.size := by
    intro k cap base old oarr hux hg h63 hb hfo hos hol hco
    subst hux
    have hge := grownCap_ge w (k + m) cap e
    have hcm := grownCap_le_maxLen w (k + m) cap e (by simp [maxLen]; omega)
    refine ⟨_, run_append_grows ht hi z2 hu hd s2 hfo b1 hg h63 hb, ?_, hge, hcm, ?_, by rw [List.length_append, hol, s1, Nat.add_mul]⟩
    · simp only [Array.size_append, size_zeroCells, z6, hos, b2, ← z5, ← Nat.add_mul]
      congr 1; omega
    · exact (CR.append hco (by omega) b3).more
  split at hv
  case isTrue =>
    rename_i hm0
    subst hm0
    have harr : arr = #[] := Array.eq_empty_of_size_eq_zero (by simpa using a2)
    split at hv
    case h_3 => cases hv
    · injection hv with hv; injection hv with q1 q2; injection q2 with q2 q3; subst q1 q2 q3
      have hux : ux = .slice none 0 0 := hx
      subst hux
      exact fin (run_append_fit ht hi hu hd s2 a1 (by omega)) rfl hr (Step.refl _ _ _ _)
    · rename_i r g o sz' k c ex
      injection hv with hv; injection hv with q1 q2; injection q2 with q2 q3; subst q1 q2 q3
      have hx' := hx
      obtain ⟨s, ad, cap, p1, p2, rfl, p4, p5, p6, p7, p8⟩ := hx
      refine fin (β' := β) (w' := w) ?_ hx' hr (Step.refl _ _ _ _)
      rw [run_append_fit ht hi hu hd s2 a1 (by omega)]
      subst harr
      simp [storeCells]
  case isFalse =>
    rename_i hm0
    split at hv
    case h_3 => cases hv
    · -- from nil
      split at hv
      case isFalse => cases hv
      rename_i hb
      injection hv with hv; injection hv with q1 q2; injection q2 with q2 q3; subst q1 q2 q3
      have hux : ux = .slice none 0 0 := hx
      obtain ⟨cs, f1, f2, f3, f4, f5, f6⟩ := fresh 0 0 none [] #[] hux (by omega) (by omega) (by simpa using hb.2) (by simp [Builtin.firstCells]) (by simp) (by simp) (by intro j x hj; simp at hj)
      simp only [Nat.zero_add, List.nil_append] at f1 f2 f3 f4 f5 f6
      obtain ⟨r1, r2⟩ := rel_new (n := n) hr ⟨new, true, 0⟩ (w.drew.alloc (.cells cs e)) cs e ⟨w.heap.size, 0, cs.size⟩ (0, 0) (by intro o _; simp) rfl rfl rfl (by simp) (fun b hb => RowKit.Below.heap_alloc w.drew _ b hb) (Nat.le_refl _) rfl (heap_alloc_new w.drew _) (by simp; rw [f6, f2]; exact Nat.mul_le_mul_right _ f3) f5
      refine fin f1 ?_ r1 r2
      exact slice_value (l := new) ⟨w.heap.size, 0, cs.size⟩ i.size m m _ false (Nat.le_refl _) f3 f4 (by simp) (by omega) (by simp; omega)
    · rename_i r g o sz' k c ex
      split at hv
      case isFalse => cases hv
      rename_i hzz; subst hzz
      split at hv
      case h_1 => cases hv
      rename_i row hrow
      obtain ⟨e1, e2⟩ := rowAt_some hrow
      obtain ⟨s, ad, cap, p1, p2, hux, p4, p5, p6, p7, p8⟩ := hx
      rw [shp_some e1] at p1
      injection p1 with p1
      obtain ⟨q1, q2, q3⟩ := p8 (by rw [← p1]; exact e2.symm)
      rw [← p1] at q2 q3
      simp only [Row.sh] at q2 q3
      have hkc : k * i.size ≤ c * i.size := Nat.mul_le_mul_right _ p4
      have hold : ((row.cells.drop o).take (k * i.size)).length = k * i.size := by simp; omega
      -- the old cells
      have holds : ∃ oarr : Array Value, (Builtin.firstCells i.size k (.slice (some ad) k cap)).run P w.drew = .ok oarr w.drew ∧ oarr.size = k * i.size ∧ CR (shp h) β ((row.cells.drop o).take (k * i.size)) oarr 0 := by
        by_cases hcap : 0 < cap
        · obtain ⟨us, u1, u2, u3⟩ := hr.cells e1 ((row.cells.drop o).take (k * i.size)) o (fun j x hj => by
            rw [List.getElem?_take] at hj
            split at hj
            case isFalse => cases hj
            rwa [List.getElem?_drop] at hj)
          have hl := run_loadCells_at (P := P) (w := w.drew) us (fun j u hj => by rw [cell_drew]; exact u2 j u hj)
          rw [u1, hold] at hl
          exact ⟨us.toArray, by rw [q1 hcap]; exact hl, by simp [u1, hold], u3⟩
        · have hk0 : k = 0 := by omega
          subst hk0
          exact ⟨#[], by simp [Builtin.firstCells, loadCells, loadCellsFrom], by simp, by intro j x hj; simp at hj⟩
      split at hv
      · -- in place, surely
        rename_i hfit
        split at hv
        case isFalse => cases hv
        rename_i hrw
        injection hv with hv; injection hv with t1 t2; injection t2 with t2 t3; subst t1 t2 t3
        have hcap : 0 < cap := by omega
        have hkm : k * i.size + new.length ≤ c * i.size := by rw [s1, ← Nat.add_mul]; exact Nat.mul_le_mul_right _ hfit
        obtain ⟨w', r1, r2, r3⟩ := run_store_row (P := P) (n := n) hr e1 hrw (hn r rfl) new arr.toList (by simp [a2, s1]) (o := o + k * i.size) (by omega) (by simpa using a3)
        refine fin (val := .slice (some ad) (k + m) cap) (w' := w') (β' := β) ?_ ?_ r2 r3
        · subst hux
          rw [run_append_fit ht hi hu hd s2 a1 (by omega)]
          simp only [q1 hcap, add_none]
          rw [show (β r).base + o + k * i.size = (β r).base + (o + k * i.size) by omega, r1]
          rfl
        · have hsh : shp (setCells h r row (splice row.cells (o + k * i.size) new)) = shp h := shp_set_same e1 (splice_length (by omega))
          simp only [VR]
          rw [hsh]
          exact ⟨row.sh, ad, cap, shp_some e1, by simp [Row.sh, e2], rfl, hfit, p5, p6, p7, fun _ => ⟨q1, q2, q3⟩⟩
      · rename_i hnofit
        split at hv
        case isFalse => cases hv
        rename_i hb
        split at hv
        · -- the capacity is known: a new block
          rename_i hex
          injection hv with hv; injection hv with t1 t2; injection t2 with t2 t3; subst t1 t2 t3
          have hcc := p7 hex
          obtain ⟨oarr, o1, o2, o3⟩ := holds
          obtain ⟨cs, f1, f2, f3, f4, f5, f6⟩ := fresh k cap (some ad) _ oarr hux (by omega) hb.1 hb.2 o1 o2 hold o3
          obtain ⟨r1, r2⟩ := rel_new (n := n) hr ⟨(row.cells.drop o).take (k * i.size) ++ new, true, 0⟩ (w.drew.alloc (.cells cs e)) cs e ⟨w.heap.size, 0, cs.size⟩ (0, 0) (by intro o _; simp) rfl rfl rfl (by simp) (fun b hb => RowKit.Below.heap_alloc w.drew _ b hb) (Nat.le_refl _) rfl (heap_alloc_new w.drew _) (by simp only [Nat.zero_add]; rw [f6, f2]; exact Nat.mul_le_mul_right _ f3) f5
          refine fin f1 ?_ r1 r2
          exact slice_value ⟨w.heap.size, 0, cs.size⟩ i.size (k + m) (k + m) _ false (Nat.le_refl _) f3 f4 (by simp) (by rw [f6]; exact Nat.le_refl _) (by simp only [Nat.zero_add]; rw [f2]; exact Nat.le_refl _)
        · split at hv
          case isFalse => cases hv
          rename_i hex hrw
          injection hv with hv; injection hv with t1 t2; injection t2 with t2 t3; subst t1 t2 t3
          obtain ⟨oarr, o1, o2, o3⟩ := holds
          have hnr := hn r rfl
          have lt : r < h.length := (List.getElem?_eq_some_iff.1 e1).1
          have val : ∀ (p : Place) (cap' : Nat), k + m ≤ cap' → cap' ≤ maxLen → p.base + cap' * i.size ≤ p.size → SR (shp (h.set r ⟨(row.cells.drop o).take (k * i.size) ++ new, true, g + 1⟩)) (upd β r p) (.sl r (g + 1) 0 i.size (k + m) (k + m) false) (.slice (some ⟨p.blk, p.base, none⟩) (k + m) cap') := by
            intro p cap' c1 c2 c3
            refine ⟨⟨g + 1, true, ((row.cells.drop o).take (k * i.size) ++ new).length⟩, _, cap', by rw [shp_get, List.getElem?_set, if_pos rfl, if_pos lt]; rfl, Nat.le_refl _, rfl, Nat.le_refl _, c1, c2, by simp, fun _ => ⟨fun _ => by simp [upd], ?_, fun _ => by simp only [upd, if_true]; omega⟩⟩
            show 0 + (k + m) * i.size ≤ ((row.cells.drop o).take (k * i.size) ++ new).length
            rw [List.length_append, hold, s1, ← Nat.add_mul]; omega
          by_cases hin : k + m ≤ cap
          · -- it turns out to lie in place
            have hcap : 0 < cap := by omega
            obtain ⟨cs, el, fz, c1, c2, c3, c4, c5⟩ := hr.row r row e1
            have hroom := q3 hrw
            have hkm : (k + m) * i.size ≤ cap * i.size := Nat.mul_le_mul_right _ hin
            rw [Nat.add_mul] at hkm
            have hone : ∀ v ∈ arr.toList, v.oneCell' = true := by
              intro v hv
              obtain ⟨j, hj, rfl⟩ := List.mem_iff_getElem.1 hv
              simp at hj
              obtain ⟨u, hu, hs⟩ := a3 j new[j] (List.getElem?_eq_getElem (by omega))
              simp only [Nat.zero_add, Array.getElem?_eq_getElem hj] at hu
              injection hu with hu
              simp only [Array.getElem_toList, hu]; exact hs.oneCell
            obtain ⟨w', g1, g2, g3, g4, g5, g6, cur', g7, g8, g9, g10⟩ := run_storeCells_fz (P := P) (β r).blk ((β r).base + o + k * i.size) el fz arr.toList 0 cs w c1 (by simp [a2]; omega) hone (fun j hj hj' => c5 hrw j (by simp [a2] at hj'; omega))
            have hreg := rel_regen (n := n) hr (row' := ⟨(row.cells.drop o).take (k * i.size) ++ new, true, g + 1⟩) e1 hrw hnr rfl (by simp [e2]) (w' := w') (p := ⟨(β r).blk, (β r).base + o, (β r).size⟩) (.inl rfl) g2 g3 g4 (by omega) (fun b _ hb => g6 b hb)
              ⟨cur', el, fz, g7, by simp; omega, by simp only [List.length_append, hold, s1]; omega, by
                intro j x hj
                by_cases cj : j < k * i.size
                · rw [List.getElem?_append_left (by omega)] at hj
                  rw [List.getElem?_take, if_pos cj, List.getElem?_drop] at hj
                  obtain ⟨u, hu, hs⟩ := c4 _ x hj
                  refine ⟨u, ?_, hs⟩
                  show cur'[(β r).base + o + j]? = some u
                  rw [g10 _ (.inl (by omega)), Nat.add_assoc]; exact hu
                · rw [List.getElem?_append_right (by omega), hold] at hj
                  obtain ⟨u, hu, hs⟩ := a3 _ x hj
                  refine ⟨u, ?_, hs⟩
                  have := g9 (j - k * i.size) u (by simpa using hu)
                  show cur'[(β r).base + o + j]? = some u
                  rw [← this]; congr 1; omega, fun o ho => c5 hrw o (by omega)⟩
            refine fin (val := .slice (some ad) (k + m) cap) (w' := w') ?_ ?_ hreg.1 hreg.2.1
            · rw [hux, run_append_fit ht hi hu hd s2 a1 hin]
              simp only [q1 hcap, add_none, g1]
              rfl
            · rw [q1 hcap]
              exact val ⟨(β r).blk, (β r).base + o, (β r).size⟩ cap hin p6 hroom
          · obtain ⟨cs, f1, f2, f3, f4, f5, f6⟩ := fresh k cap (some ad) _ oarr hux (by omega) hb.1 hb.2 o1 o2 hold o3
            have hreg := rel_regen (n := n) hr (row' := ⟨(row.cells.drop o).take (k * i.size) ++ new, true, g + 1⟩) e1 hrw hnr rfl (by simp [e2]) (w' := w.drew.alloc (.cells cs e)) (p := ⟨w.heap.size, 0, cs.size⟩) (.inr (Nat.le_refl _)) rfl rfl rfl (by simp) (fun b hb _ => RowKit.Below.heap_alloc w.drew _ b hb)
              ⟨cs, e, (0, 0), heap_alloc_new w.drew _, rfl, by simp only [Nat.zero_add]; rw [f6, f2]; exact Nat.mul_le_mul_right _ f3, f5, by intro o _; simp⟩
            refine fin f1 ?_ hreg.1 hreg.2.1
            exact val ⟨w.heap.size, 0, cs.size⟩ _ f3 f4 (by simp only [Nat.zero_add]; rw [f2]; exact Nat.le_refl _)

end
end Go.Px
