/- Own work over the kit: abstract memory, its rules, and the walk. -/
import Derived.Test.YtmkaaplbidlmcaaDoorPxReg
set_option linter.unusedVariables false
set_option linter.unusedSimpArgs false
namespace Go.Px

def partOpds (l : List (Nat × Nat × Opd)) : List Opd := l.map fun p => p.2.2
def IOp.opds : IOp → List Opd
  | .mov x | .newv x | .ld _ x | .nilc x | .eqn _ _ x | .un _ x | .cvt _ x | .cvs x | .b2s x | .s2b x | .fad _ x | .fld _ _ x | .len _ x | .clr _ _ x => [x]
  | .pick c a b => [c, a, b]
  | .mkagg _ ps | .mksl _ _ _ ps => partOpds ps
  | .st _ x v => [x, v]
  | .bin _ x y | .eqb _ x y | .eqa _ _ x y | .mks _ _ _ x y | .iadA _ _ x y | .iadS _ x y | .ixA _ _ _ x y | .ixS x y | .app _ _ x y | .cpy _ x y | .mm _ x y => [x, y]
  | .mkf _ caps => caps
  | .sstr x lo hi => x :: (lo.toList ++ hi.toList)
  | .ssl _ x lo hi mx => x :: (lo.toList ++ hi.toList ++ mx.toList)
  | .sarr _ _ x lo hi => x :: (lo.toList ++ hi.toList)
  | .ext _ _ | .lenK _ | .bad => []
  | .call _ args => args
  | .cald f args => f :: args
def Opd.locs : Opd → List Nat
  | .l j => [j]
  | _ => []
/-- The results that an operation looks at. -/
def IOq.uses (o : IOq) : List Nat :=
  o.op.opds.flatMap Opd.locs ++ (match o.op with | .ext k _ => [k] | _ => []) ++ (match o.g with | some (g, _) => [g] | none => [])

theorem fillParts_congr {ρ ρ' : Opd → V} : ∀ {ps : List (Nat × Nat × Opd)} {z : List S}, (∀ o ∈ partOpds ps, ρ o = ρ' o) → fillParts ρ ps z = fillParts ρ' ps z
  | [], z, _ => rfl
  | (o, s, x) :: ps, z, h => by
    have h1 : ρ x = ρ' x := h x (by simp [partOpds])
    simp only [fillParts, h1]
    split
    · split
      · exact fillParts_congr (fun o ho => h o (by simp [partOpds] at ho ⊢; exact .inr ho))
      · rfl
    · rfl
theorem bnd_congr {ρ ρ' : Opd → V} {x : Option Opd} {d m : Nat} (h : ∀ o ∈ x.toList, ρ o = ρ' o) : bnd ρ x d m = bnd ρ' x d m := by
  cases x with
  | none => rfl
  | some o => simp only [bnd, h o (by simp)]

theorem evalP_congr {h : Heap} {ρ ρ' : Opd → V} {loc loc' : Loc} {io : IOp} (ho : ∀ o ∈ io.opds, ρ o = ρ' o) (hl : ∀ k j, io = .ext k j → loc[k]? = loc'[k]?) : evalP h ρ loc io = evalP h ρ' loc' io := by
  cases io <;> simp only [IOp.opds] at ho
  case ext k j => simp only [evalP, hl k j rfl]
  case mkagg z ps => simp only [evalP, fillParts_congr ho]
  case mkf fn caps => simp only [evalP]; rw [List.map_congr_left ho]
  case sstr x lo hi =>
    have h0 := ho x (by simp)
    have h1 : ∀ d m, bnd ρ lo d m = bnd ρ' lo d m := fun d m => bnd_congr (fun o hh => ho o (by simp at hh ⊢; simp [hh]))
    have h2 : ∀ d m, bnd ρ hi d m = bnd ρ' hi d m := fun d m => bnd_congr (fun o hh => ho o (by simp at hh ⊢; simp [hh]))
    simp only [evalP, h0, h1, h2]
  case sarr n sz x lo hi =>
    have h0 := ho x (by simp)
    have h1 : ∀ d m, bnd ρ lo d m = bnd ρ' lo d m := fun d m => bnd_congr (fun o hh => ho o (by simp at hh ⊢; simp [hh]))
    have h2 : ∀ d m, bnd ρ hi d m = bnd ρ' hi d m := fun d m => bnd_congr (fun o hh => ho o (by simp at hh ⊢; simp [hh]))
    simp only [evalP, h0, h1, h2]
  case ssl sz x lo hi mx =>
    have h0 := ho x (by simp)
    have h1 : ∀ d m, bnd ρ lo d m = bnd ρ' lo d m := fun d m => bnd_congr (fun o hh => ho o (by simp at hh ⊢; simp [hh]))
    have h2 : ∀ d m, bnd ρ hi d m = bnd ρ' hi d m := fun d m => bnd_congr (fun o hh => ho o (by simp at hh ⊢; simp [hh]))
    have h3 : ∀ d m, bnd ρ mx d m = bnd ρ' mx d m := fun d m => bnd_congr (fun o hh => ho o (by simp at hh ⊢; simp [hh]))
    simp only [evalP, h0, h1, h2, h3]
  all_goals first
    | rfl
    | (simp only [evalP, ho _ (List.mem_cons_self ..)]; done)
    | (simp only [evalP, ho _ (List.mem_cons_self ..), ho _ (List.mem_cons_of_mem _ (List.mem_cons_self ..))]; done)
    | (simp only [evalP, ho _ (List.mem_cons_self ..), ho _ (List.mem_cons_of_mem _ (List.mem_cons_self ..)), ho _ (List.mem_cons_of_mem _ (List.mem_cons_of_mem _ (List.mem_cons_self ..)))]; done)

theorem evalE_congr {h : Heap} {ρ ρ' : Opd → V} {io : IOp} (ho : ∀ o ∈ io.opds, ρ o = ρ' o) : evalE h ρ io = evalE h ρ' io := by
  cases io <;> simp only [IOp.opds] at ho
  case mksl sz n z ps => simp only [evalE, fillParts_congr ho]
  all_goals first
    | rfl
    | (simp only [evalE, ho _ (List.mem_cons_self ..)]; done)
    | (simp only [evalE, ho _ (List.mem_cons_self ..), ho _ (List.mem_cons_of_mem _ (List.mem_cons_self ..))]; done)

theorem callOf_congr {ρ ρ' : Opd → V} {io : IOp} (ho : ∀ o ∈ io.opds, ρ o = ρ' o) : callOf ρ io = callOf ρ' io := by
  cases io <;> simp only [IOp.opds] at ho
  case call f args => simp only [callOf]; rw [List.map_congr_left ho]
  case cald f args =>
    simp only [callOf, ho _ (List.mem_cons_self ..)]
    rw [List.map_congr_left (fun o hh => ho o (List.mem_cons_of_mem _ hh))]
  all_goals rfl

/-! ### heaps that agree -/
theorem rowAt_app {h g : Heap} {r gn : Nat} {row : Row} (e : rowAt h r gn = some row) : rowAt (h ++ g) r gn = some row := by
  obtain ⟨h1, h2⟩ := rowAt_some e
  have hlt := (List.getElem?_eq_some_iff.1 h1).1
  unfold rowAt
  rw [List.getElem?_append_left hlt, h1]
  simp [h2]
theorem rowAt_shrink {h g : Heap} {r gn : Nat} (hlt : r < h.length) : rowAt (h ++ g) r gn = rowAt h r gn := by
  unfold rowAt
  rw [List.getElem?_append_left hlt]
def S.inHeap (n : Nat) : S → Prop
  | .p r _ _ => r < n
  | .sl r _ _ _ _ _ _ => r < n
  | _ => True
def V.inHeap (n : Nat) : V → Prop
  | .s x => x.inHeap n
  | _ => True
theorem VR.inHeap {sh β} {x : V} {v : Value} (h : VR sh β x v) : x.inHeap sh.length := by
  cases x with
  | s x =>
    cases x <;> simp only [V.inHeap, S.inHeap]
    case p => obtain ⟨s, a, hs, _⟩ := h; exact (List.getElem?_eq_some_iff.1 hs).1
    case sl => obtain ⟨s, a, cap, hs, _⟩ := h; exact (List.getElem?_eq_some_iff.1 hs).1
  | _ => trivial

theorem slCells_app {h g : Heap} {y : S} {l : List S} (e : slCells h y = some l) : slCells (h ++ g) y = some l := by
  unfold slCells at e ⊢
  split at e
  · exact e
  · simp only [Option.map_eq_some_iff] at e ⊢
    obtain ⟨row, hr, hl⟩ := e
    exact ⟨row, rowAt_app hr, hl⟩
  · cases e
theorem slCells_shrink {h g : Heap} {y : S} (hs : y.inHeap h.length) : slCells (h ++ g) y = slCells h y := by
  unfold slCells
  split
  · rfl
  · rw [rowAt_shrink hs]
  · rfl

theorem evalP_app {h g : Heap} {ρ : Opd → V} {loc : Loc} {io : IOp} {v : V} (e : evalP h ρ loc io = some v) : evalP (h ++ g) ρ loc io = some v := by
  cases io
  case ld agg x =>
    simp only [evalP] at e ⊢
    split at e
    · split at e
      · rename_i row hr; rw [rowAt_app hr]; exact e
      · cases e
    · cases e
  case sarr n sz x lo hi =>
    simp only [evalP] at e ⊢
    split at e
    · split at e
      · rename_i row hr; rw [rowAt_app hr]; exact e
      · cases e
    · cases e
  case b2s x =>
    simp only [evalP] at e ⊢
    split at e
    · exact e
    · split at e
      · rename_i h1
        rw [if_pos h1]
        split at e
        · rename_i l hl; rw [slCells_app hl]; exact e
        · cases e
      · cases e
    · cases e
  all_goals exact e

theorem evalP_shrink {h g : Heap} {ρ : Opd → V} {loc : Loc} {io : IOp} (hs : ∀ o ∈ io.opds, (ρ o).inHeap h.length) : evalP (h ++ g) ρ loc io = evalP h ρ loc io := by
  cases io <;> simp only [IOp.opds] at hs
  case ld agg x =>
    have := hs x (by simp)
    simp only [evalP]
    split
    · rename_i e; rw [e] at this; rw [rowAt_shrink this]
    · rfl
  case sarr n sz x lo hi =>
    have := hs x (by simp)
    simp only [evalP]
    split
    · rename_i e; rw [e] at this; rw [rowAt_shrink this]
    · rfl
  case b2s x =>
    have := hs x (by simp)
    simp only [evalP]
    split
    · rfl
    · rename_i r1 g1 o1 s1 n1 c1 x1 e
      rw [e] at this
      have t : S.inHeap h.length (S.sl r1 g1 o1 s1 n1 c1 x1) := this
      rw [slCells_shrink t]
    · rfl
  all_goals rfl

/-! ### orders -/
def maskOf (acc : List Nat) (o : Oper) : Nat := o.after.toList.foldl (fun s e => if Region.binds .any e then s ||| 2 ^ e.on ||| acc.getD e.on 0 else s) 0
def ancs : List Oper → List Nat → List Nat
  | [], acc => acc
  | o :: os, acc => ancs os (acc ++ [maskOf acc o])

theorem mask_bit (acc : List Nat) (i : Nat) : ∀ (es : List Edge) (s : Nat), (es.foldl (fun s e => if Region.binds .any e then s ||| 2 ^ e.on ||| acc.getD e.on 0 else s) s).testBit i = true →
    s.testBit i = true ∨ ∃ e ∈ es, Region.binds .any e = true ∧ (i = e.on ∨ (acc.getD e.on 0).testBit i = true)
  | [], s, h => .inl h
  | e :: es, s, h => by
    simp only [List.foldl_cons] at h
    rcases mask_bit acc i es _ h with h | ⟨e', h1, h2⟩
    · split at h
      · rename_i hb
        rw [Nat.testBit_or, Nat.testBit_or] at h
        simp only [Bool.or_eq_true] at h
        rcases h with (h | h) | h
        · exact .inl h
        · refine .inr ⟨e, by simp, hb, .inl ?_⟩
          rw [Nat.testBit_two_pow] at h
          exact (of_decide_eq_true h).symm
        · exact .inr ⟨e, by simp, hb, .inr h⟩
      · exact .inl h
    · exact .inr ⟨e', by simp [h1], h2⟩

theorem ancs_length : ∀ (os : List Oper) (acc : List Nat), (ancs os acc).length = acc.length + os.length
  | [], acc => rfl
  | o :: os, acc => by simp [ancs, ancs_length os]; omega
theorem ancs_prefix : ∀ (os : List Oper) (acc : List Nat) (j : Nat), j < acc.length → (ancs os acc).getD j 0 = acc.getD j 0
  | [], acc, j, _ => rfl
  | o :: os, acc, j, h => by
    simp only [ancs]
    rw [ancs_prefix os _ j (by simp; omega)]
    simp [List.getD_eq_getElem?_getD, List.getElem?_append_left h]
theorem ancs_at : ∀ (os : List Oper) (acc : List Nat) (j : Nat) (o : Oper), os[j]? = some o → ∃ acc' : List Nat, acc'.length = acc.length + j ∧ (ancs os acc).getD (acc.length + j) 0 = maskOf acc' o ∧ ∀ q, q < acc.length + j → acc'.getD q 0 = (ancs os acc).getD q 0
  | [], acc, j, o, h => by simp at h
  | o' :: os, acc, 0, o, h => by
    simp at h; subst h
    refine ⟨acc, rfl, ?_, fun q hq => ?_⟩
    · simp only [ancs, Nat.add_zero]
      rw [ancs_prefix os _ _ (by simp)]
      simp
    · simp only [ancs]
      rw [ancs_prefix os _ _ (by simp at hq ⊢; omega)]
      simp at hq
      simp [List.getD_eq_getElem?_getD, List.getElem?_append_left hq]
  | o' :: os, acc, j + 1, o, h => by
    simp at h
    obtain ⟨acc', h1, h2, h3⟩ := ancs_at os (acc ++ [maskOf acc o']) j o h
    simp only [List.length_append, List.length_singleton] at h1 h2 h3
    refine ⟨acc', by omega, ?_, fun q hq => ?_⟩
    · simp only [ancs]; rw [show acc.length + (j + 1) = acc.length + 1 + j by omega]; exact h2
    · simp only [ancs]; exact h3 q (by omega)

/-- What has come up is closed below. -/
def DC (all : Array Oper) (L : Nat → Prop) : Prop := ∀ j o, all[j]? = some o → L j → ∀ e ∈ o.after, Region.binds .any e = true → L e.on

theorem anc_listed {all : Array Oper} {L : Nat → Prop} (hdc : DC all L) : ∀ (j : Nat) (o : Oper), all[j]? = some o → (∀ e ∈ o.after, Region.binds .any e = true → L e.on ∧ e.on < j) → (∀ j' o', all[j']? = some o' → ∀ e ∈ o'.after, Region.binds .any e = true → e.on < j') →
    ∀ i, ((ancs all.toList []).getD j 0).testBit i = true → L i ∧ i < j := by
  intro j
  induction j using Nat.strongRecOn with
  | _ j ih =>
    intro o ho hp hlt i hi
    obtain ⟨acc, a1, a2, a3⟩ := ancs_at all.toList [] j o (by simpa using ho)
    simp only [List.length_nil, Nat.zero_add] at a1 a2 a3
    rw [a2] at hi
    rcases mask_bit acc i _ _ hi with h | ⟨e, e1, e2, e3⟩
    · simp at h
    · have e1' : e ∈ o.after := by simpa using e1
      obtain ⟨p1, p2⟩ := hp e e1' e2
      rcases e3 with rfl | e3
      · exact ⟨p1, p2⟩
      · rw [a3 _ p2] at e3
        cases hq : all[e.on]? with
        | none =>
          have : (ancs all.toList []).getD e.on 0 = 0 := by
            have hle : all.size ≤ e.on := by
              rcases Nat.lt_or_ge e.on all.size with c | c
              · rw [Array.getElem?_eq_getElem c] at hq; cases hq
              · exact c
            rw [List.getD_eq_getElem?_getD, List.getElem?_eq_none (by rw [ancs_length]; simpa using hle)]; rfl
          rw [this] at e3; simp at e3
        | some o' =>
          have := ih e.on p2 o' hq (fun e' h1 h2 => ⟨hdc e.on o' hq p1 e' h1 h2, hlt e.on o' hq e' h1 h2⟩) hlt i e3
          exact ⟨this.1, by omega⟩

end Go.Px
