/- Own work over the kit: abstract memory, its rules, and the walk. -/
import Derived.Test.YtmkaaplbidlmcaaDoorPxOps4
set_option linter.unusedVariables false
set_option linter.unusedSimpArgs false
namespace Go.Px

theorem kindsAre_length : ∀ {ks : List CK} {l : List S}, kindsAre ks l = true → l.length = ks.length
  | [], [], _ => rfl
  | [], _ :: _, h => by simp [kindsAre] at h
  | _ :: _, [], h => by simp [kindsAre] at h
  | k :: ks, x :: l, h => by
    simp only [kindsAre, Bool.and_eq_true] at h
    simp [kindsAre_length h.2]
theorem kindsAre_append : ∀ {ks1 ks2 : List CK} {l : List S}, kindsAre (ks1 ++ ks2) l = true → kindsAre ks1 (l.take ks1.length) = true ∧ kindsAre ks2 (l.drop ks1.length) = true
  | [], ks2, l, h => by simpa [kindsAre] using h
  | k :: ks1, ks2, [], h => by simp [kindsAre] at h
  | k :: ks1, ks2, x :: l, h => by
    simp only [List.cons_append, kindsAre, Bool.and_eq_true] at h
    obtain ⟨h1, h2⟩ := kindsAre_append h.2
    simp [kindsAre, h.1, h1, h2]

/-- A value of so many cells. -/
def VC (P : Program) (sh : List Sh) (β : Beta) (t : TypeId) (l : List S) (u : Value) : Prop :=
  (aggOf P t = some none ∧ ∃ x, l = [x] ∧ SR sh β x u) ∨ (aggOf P t = some (some l.length) ∧ VR sh β (.a l) u)

theorem VC.part {P : Program} {w : World} {sh β} {t : TypeId} {l : List S} {xs : Array Value} {o n : Nat} (hs : sizeOf' P t = some n) (hg : ∃ g, aggOf P t = some g ∧ (g = none → n = 1)) (hx : VR sh β (.a l) (.agg xs)) (ho : o + n ≤ l.length) :
    ∃ u, (part t xs o).run P w = .ok u w ∧ VC P sh β t ((l.drop o).take n) u := by
  obtain ⟨cs, he, h1, h2⟩ := hx
  injection he with he; subst he
  obtain ⟨g, hg, hn⟩ := hg
  cases g with
  | none =>
    have := hn rfl; subst this
    obtain ⟨u, hu, hv⟩ := part_ok (P := P) (w := w) (t := t) (g := none) (o := o) (v := .s l[o]) h2 h1 hg (by simp [getAgg, List.getElem?_eq_getElem (show o < l.length by omega)])
    refine ⟨u, hu, .inl ⟨hg, l[o], ?_, hv⟩⟩
    rw [List.drop_eq_getElem_cons (by omega), List.take_succ_cons, List.take_zero]
  | some m =>
    have hm : m = n := by
      unfold aggOf at hg; unfold sizeOf' at hs
      split at hg <;> simp at hg
      all_goals (rename_i hi; rw [hi] at hs; simp at hs; omega)
    subst hm
    obtain ⟨u, hu, hv⟩ := part_ok (P := P) (w := w) (t := t) (g := some m) (o := o) (v := .a ((l.drop o).take m)) h2 h1 hg (by simp only [getAgg]; rw [if_pos ho])
    exact ⟨u, hu, .inr ⟨by rw [hg]; congr 2; simp; omega, hv⟩⟩

theorem take_drop_eq {l m : List S} {o n : Nat} (hl : o + n ≤ l.length) (hm : o + n ≤ m.length) : l.drop o = m.drop o ↔ (l.drop o).take n = (m.drop o).take n ∧ l.drop (o + n) = m.drop (o + n) := by
  constructor
  · intro h; rw [← List.drop_drop, ← List.drop_drop, h]; exact ⟨rfl, rfl⟩
  · intro ⟨h1, h2⟩
    rw [← List.take_append_drop n (l.drop o), ← List.take_append_drop n (m.drop o), h1, List.drop_drop, List.drop_drop, h2]

theorem flat_size {P : Program} {d : Nat} {t : TypeId} {ks : List CK} (h : flatK P d t = some ks) (s : Nat) (hs : sizeOf' P t = some s) (hk : ks.length = s) : ∃ g, aggOf P t = some g ∧ (g = none → s = 1) := by
  cases d with
  | zero => simp [flatK] at h
  | succ d =>
    unfold sizeOf' at hs
    cases hi : P.info? t with
    | none => simp [hi] at hs
    | some i =>
      unfold flatK at h
      unfold aggOf
      split at h
      case h_6 => cases h
      all_goals (rename_i hu; rw [hu, hi])
      · injection h with h; subst h; exact ⟨none, rfl, fun _ => hk.symm⟩
      · injection h with h; subst h; exact ⟨none, rfl, fun _ => hk.symm⟩
      · injection h with h; subst h; exact ⟨none, rfl, fun _ => hk.symm⟩
      · exact ⟨some i.size, rfl, by simp⟩
      · exact ⟨some i.size, rfl, by simp⟩

def eqElems (d : Nat) (e : TypeId) (s : Nat) (xs ys : Array Value) : List Nat → Sem Bool
  | [] => pure true
  | i :: is => do
    let a ← part e xs (i * s)
    let b ← part e ys (i * s)
    let r ← Op.equalIn d e a b
    if (!r) = true then pure false else eqElems d e s xs ys is

theorem run_equalIn_array {P : Program} (w : World) (d : Nat) (t : TypeId) (n : Nat) (e : TypeId) (s : Nat) (xs ys : Array Value) (ht : P.underlying t = some (.array n e)) (hs : sizeOf' P e = some s) :
    (Op.equalIn (d + 1) t (.agg xs) (.agg ys)).run P w = (eqElems d e s xs ys (List.range' 0 n)).run P w := by
  simp only [Op.equalIn, Sem.run_bind, run_underlying ht, Result.andThen_ok, sizeOf_ok hs]
  rw [Std.Legacy.Range.forIn_eq_forIn_range']
  have : Std.Legacy.Range.size [0:n] = n := by simp [Std.Legacy.Range.size]
  rw [this]
  generalize List.range' 0 n = is
  induction is generalizing w with
  | nil => simp [eqElems]
  | cons i is ih =>
    simp only [List.forIn_cons, eqElems, Sem.run_bind, Sem.run_ite]
    generalize (part e xs (i * s)).run P w = r1
    cases r1 with
    | ok a w1 =>
      simp only [Result.andThen_ok]
      generalize (part e ys (i * s)).run P w1 = r2
      cases r2 with
      | ok b w2 =>
        simp only [Result.andThen_ok]
        generalize (Op.equalIn d e a b).run P w2 = r3
        cases r3 with
        | ok r w3 =>
          cases r
          · simp only [Result.andThen_ok, Bool.not_false, if_true, Sem.run_pure]
          · simp only [Result.andThen_ok, Bool.not_true, Bool.false_eq_true, if_false, Sem.run_pure]
            exact ih w3
        | halt x w3 => simp [Result.andThen]
      | halt x w2 => simp [Result.andThen]
    | halt x w1 => simp [Result.andThen]

theorem eq_elems {P : Program} {w : World} {sh β} {d : Nat} (D : Nat) (IH : ∀ (t : TypeId) (ks : List CK), flatK P d t = some ks → ∀ (l m : List S) (u v : Value), kindsAre ks l = true → kindsAre ks m = true → VC P sh β t l u → VC P sh β t m v → (Op.equalIn D t u v).run P w = .ok (decide (l = m)) w) (e : TypeId) (ke : List CK) (s : Nat) (hke : flatK P d e = some ke) (hse : sizeOf' P e = some s) (hks : ke.length = s) : ∀ (n i : Nat) (l m : List S) {xs ys : Array Value}, VR sh β (.a l) (.agg xs) → VR sh β (.a m) (.agg ys) →
    l.length = (i + n) * s → m.length = (i + n) * s → kindsAre ((List.replicate n ke).flatten) (l.drop (i * s)) = true → kindsAre ((List.replicate n ke).flatten) (m.drop (i * s)) = true →
    (eqElems D e s xs ys (List.range' i n)).run P w = .ok (decide (l.drop (i * s) = m.drop (i * s))) w := by
  intro n
  induction n with
  | zero =>
    intro i l m xs ys hx hy hl1 hm1 hl hm
    have h1 := kindsAre_length hl
    have h2 := kindsAre_length hm
    have e1 : l.drop (i * s) = [] := List.eq_nil_of_length_eq_zero (by simpa using h1)
    have e2 : m.drop (i * s) = [] := List.eq_nil_of_length_eq_zero (by simpa using h2)
    simp [eqElems, e1, e2]
  | succ n ih =>
    intro i l m xs ys hx hy hl1 hm1 hl hm
    rw [List.replicate_succ, List.flatten_cons] at hl hm
    obtain ⟨l1, l2⟩ := kindsAre_append hl
    obtain ⟨m1, m2⟩ := kindsAre_append hm
    have hss : i * s + s = (i + 1) * s := by rw [Nat.add_mul, Nat.one_mul]
    rw [hks, List.drop_drop, hss] at l2 m2
    rw [hks] at l1 m1
    have hsz := flat_size hke s hse hks
    have b1 : i * s + s ≤ l.length := by rw [hl1, hss]; exact Nat.mul_le_mul_right _ (by omega)
    have b2 : i * s + s ≤ m.length := by rw [hm1, hss]; exact Nat.mul_le_mul_right _ (by omega)
    obtain ⟨u, u1, u2⟩ := VC.part (P := P) (w := w) hse hsz hx b1
    obtain ⟨v, v1, v2⟩ := VC.part (P := P) (w := w) hse hsz hy b2
    have q0 := IH e ke hke _ _ u v l1 m1 u2 v2
    have r := ih (i + 1) l m hx hy (by rw [hl1]; congr 1; omega) (by rw [hm1]; congr 1; omega) l2 m2
    simp only [List.range'_succ, eqElems, Sem.run_bind, u1, v1, q0, Result.andThen_ok, Sem.run_ite, Sem.run_pure, r]
    have td := take_drop_eq b1 b2
    rw [hss] at td
    by_cases q : List.take s (List.drop (i * s) l) = List.take s (List.drop (i * s) m)
    · by_cases q2 : l.drop ((i + 1) * s) = m.drop ((i + 1) * s)
      · simp [q, q2, td]
      · simp [q, q2, td]
    · simp [q, td]
theorem eq_fields {P : Program} {w : World} {sh β} {d : Nat} (D : Nat) (IH : ∀ (t : TypeId) (ks : List CK), flatK P d t = some ks → ∀ (l m : List S) (u v : Value), kindsAre ks l = true → kindsAre ks m = true → VC P sh β t l u → VC P sh β t m v → (Op.equalIn D t u v).run P w = .ok (decide (l = m)) w) : ∀ (fs : List Field) (o : Nat) (ks : List CK), flatFs (flatK P d) (sizeOf' P) fs o = some ks → ∀ (l m : List S) {xs ys : Array Value}, VR sh β (.a l) (.agg xs) → VR sh β (.a m) (.agg ys) →
    o ≤ l.length → o ≤ m.length → kindsAre ks (l.drop o) = true → kindsAre ks (m.drop o) = true → (Op.eqFields D xs ys fs).run P w = .ok (decide (l.drop o = m.drop o)) w := by
  intro fs
  induction fs with
  | nil =>
    intro o ks h l m xs ys hx hy ho1 ho2 hl hm
    simp [flatFs] at h; subst h
    have h1 := kindsAre_length hl
    have h2 := kindsAre_length hm
    have e1 : l.drop o = [] := List.eq_nil_of_length_eq_zero (by simpa using h1)
    have e2 : m.drop o = [] := List.eq_nil_of_length_eq_zero (by simpa using h2)
    simp [Op.eqFields, e1, e2]
  | cons f fs ih =>
    intro o ks h l m xs ys hx hy ho1 ho2 hl hm
    simp only [flatFs] at h
    split at h
    case h_2 => cases h
    rename_i k1 s hk1 hs
    split at h
    case isFalse => cases h
    rename_i hc
    obtain ⟨c1, c2, c3⟩ := hc
    simp only [Option.map_eq_some_iff] at h; obtain ⟨k2, hk2, rfl⟩ := h
    have n1 := kindsAre_length hl
    have n2 := kindsAre_length hm
    simp only [List.length_drop, List.length_append] at n1 n2
    obtain ⟨l1, l2⟩ := kindsAre_append hl
    obtain ⟨m1, m2⟩ := kindsAre_append hm
    rw [c1, List.drop_drop] at l2 m2
    rw [c1] at l1 m1
    have hsz := flat_size hk1 s hs c1
    by_cases hs0 : o + s ≤ l.length ∧ o + s ≤ m.length
    · obtain ⟨u, u1, u2⟩ := VC.part (P := P) (w := w) hs hsz hx hs0.1
      obtain ⟨v, v1, v2⟩ := VC.part (P := P) (w := w) hs hsz hy hs0.2
      have e := IH f.type k1 hk1 _ _ u v l1 m1 u2 v2
      have r := ih (o + s) k2 hk2 l m hx hy hs0.1 hs0.2 l2 m2
      simp only [Op.eqFields, if_pos c3, c2, Sem.run_bind, u1, v1, e, Result.andThen_ok, Sem.run_ite, Sem.run_pure, r]
      have td := take_drop_eq hs0.1 hs0.2
      by_cases q : List.take s (List.drop o l) = List.take s (List.drop o m)
      · by_cases q2 : l.drop (o + s) = m.drop (o + s)
        · simp [q, q2, td]
        · simp [q, q2, td]
      · simp [q, td]
    · exfalso; omega


theorem eq_flat {P : Program} {w : World} {sh β} : ∀ (d : Nat) (t : TypeId) (ks : List CK), flatK P d t = some ks → ∀ (D : Nat), d ≤ D → ∀ (l m : List S) (u v : Value), kindsAre ks l = true → kindsAre ks m = true →
    VC P sh β t l u → VC P sh β t m v → (Op.equalIn D t u v).run P w = .ok (decide (l = m)) w
  | 0, t, ks, h, _, _, _, _, _, _, _, _, _, _ => by simp [flatK] at h
  | d + 1, t, ks, h, D, hD, l, m, u, v, hl, hm, hu, hv => by
    obtain ⟨D, rfl⟩ : ∃ D', D = D' + 1 := ⟨D - 1, by omega⟩
    have agg : ∀ g, aggOf P t = some (some g) → ∃ xs ys, u = .agg xs ∧ v = .agg ys ∧ VR sh β (.a l) (.agg xs) ∧ VR sh β (.a m) (.agg ys) := by
      intro g hg
      rcases hu with ⟨e, _⟩ | ⟨_, hu⟩
      · rw [hg] at e; cases e
      · rcases hv with ⟨e, _⟩ | ⟨_, hv⟩
        · rw [hg] at e; cases e
        · have hu' := hu; have hv' := hv
          obtain ⟨xs, rfl, _⟩ := hu
          obtain ⟨ys, rfl, _⟩ := hv
          exact ⟨xs, ys, rfl, rfl, hu', hv'⟩
    have one : aggOf P t = some none → ∃ x y, l = [x] ∧ m = [y] ∧ SR sh β x u ∧ SR sh β y v := by
      intro hg
      rcases hu with ⟨e, x, hx, hx'⟩ | ⟨e, _⟩
      · rcases hv with ⟨e, y, hy, hy'⟩ | ⟨e, _⟩
        · exact ⟨x, y, hx, hy, hx', hy'⟩
        · rw [hg] at e; cases e
      · rw [hg] at e; cases e
    have hag : ∃ g, aggOf P t = some g := by
      rcases hu with ⟨e, _⟩ | ⟨e, _⟩ <;> exact ⟨_, e⟩
    have hinf : ∃ i, P.info? t = some i := by
      obtain ⟨g, hg⟩ := hag
      unfold aggOf at hg
      split at hg
      · rename_i i _ hi; exact ⟨i, hi⟩
      · rename_i i _ hi; exact ⟨i, hi⟩
      · rename_i i _ _ _ hi; exact ⟨i, hi⟩
      · cases hg
    obtain ⟨i, hi⟩ := hinf
    have scal : ∀ dd, P.underlying t = some dd → (∀ fs, dd ≠ .struct fs) → (∀ n e, dd ≠ .array n e) → aggOf P t = some none := by
      intro dd hd h1 h2
      unfold aggOf
      rw [hd, hi]
      cases dd <;> first | rfl | exact absurd rfl (h1 _) | exact absurd rfl (h2 _ _)
    unfold flatK at h
    split at h
    · rename_i hty
      injection h with h; subst h
      obtain ⟨x, y, rfl, rfl, hx, hy⟩ := one (scal _ hty (by simp) (by simp))
      simp only [kindsAre, Bool.and_true] at hl hm
      cases x <;> simp [CK.is] at hl
      cases y <;> simp [CK.is] at hm
      simp only [SR] at hx hy
      rw [hx, hy, run_equalIn_bool w D t _ _ hty]
      simp [Bool.beq_eq_decide_eq]
    · rename_i k hty
      injection h with h; subst h
      obtain ⟨x, y, rfl, rfl, hx, hy⟩ := one (scal _ hty (by simp) (by simp))
      simp only [kindsAre, Bool.and_true] at hl hm
      cases x <;> simp [CK.is] at hl
      cases y <;> simp [CK.is] at hm
      subst hl hm
      simp only [SR] at hx hy
      rw [hx, hy, run_equalIn_int w D t _ _ _ _ hty]
      simp; rfl
    · rename_i hty
      injection h with h; subst h
      obtain ⟨x, y, rfl, rfl, hx, hy⟩ := one (scal _ hty (by simp) (by simp))
      simp only [kindsAre, Bool.and_true] at hl hm
      cases x <;> simp [CK.is] at hl
      cases y <;> simp [CK.is] at hm
      obtain ⟨a, rfl, ha⟩ := hx
      obtain ⟨b, rfl, hb⟩ := hy
      rw [run_equalIn_string w D t _ _ hty, nats_eq]
      change nats a = _ at ha
      change nats b = _ at hb
      rw [ha, hb]; simp
    · rename_i fs hty
      split at h
      case isTrue => cases h
      rename_i hst
      obtain ⟨xs, ys, rfl, rfl, hx, hy⟩ := agg i.size (by unfold aggOf; rw [hty, hi])
      have hfo : P.fieldsOf t = fs := by simp [Program.fieldsOf, hty]
      rw [run_equalIn_struct w D t xs ys (by rw [hfo]; exact hty) (by simpa using hst), hfo]
      have := eq_fields (w := w) D (fun t ks hk l m u v h1 h2 h3 h4 => eq_flat d t ks hk D (by omega) l m u v h1 h2 h3 h4) fs.toList 0 ks h l m hx hy (Nat.zero_le _) (Nat.zero_le _) (by simpa using hl) (by simpa using hm)
      simpa using this
    · rename_i n e hty
      split at h
      case h_2 => cases h
      rename_i ke s hke hse
      split at h
      case isFalse => cases h
      rename_i hks
      injection h with h; subst h
      obtain ⟨xs, ys, rfl, rfl, hx, hy⟩ := agg i.size (by unfold aggOf; rw [hty, hi])
      have hxl : xs.size = l.length := by obtain ⟨cs, he, h1, _⟩ := hx; injection he with he; subst he; exact h1
      have hyl : ys.size = m.length := by obtain ⟨cs, he, h1, _⟩ := hy; injection he with he; subst he; exact h1
      have n1 := kindsAre_length hl
      have n2 := kindsAre_length hm
      rw [show ((List.replicate n ke).flatten).length = n * ke.length by simp, hks] at n1 n2
      have := eq_elems (w := w) D (fun t ks hk l m u v h1 h2 h3 h4 => eq_flat d t ks hk D (by omega) l m u v h1 h2 h3 h4) e ke s hke hse hks n 0 l m hx hy (by rw [Nat.zero_add]; exact n1) (by rw [Nat.zero_add]; exact n2) (by simpa using hl) (by simpa using hm)
      rw [← run_equalIn_array w D t n e s xs ys hty hse] at this
      simpa using this
    · cases h

/-- A pure operation, an equality of structs or arrays as well. -/
theorem evalP_all {P : Program} {h : Heap} {β : Beta} {w : World} {E : Env} {fr : List V} {loc : Loc} {a : Act} (hr : Rel h β w) (hE : EnvR E (shp h) β fr loc a) {o : Oper} {io : IOp} (hc : cOp P E o.op = some io) {v : V} (hv : evalP h (rho fr loc) loc io = some v) :
    ∃ u, (execOp a.eval o).run P w = .ok (.value u) w ∧ VR (shp h) β v u := by
  by_cases hq : ∃ neg ks x y, io = .eqa neg ks x y
  · obtain ⟨neg, ks, x, y, rfl⟩ := hq
    obtain ⟨dst, op, ty, pos, after, guard⟩ := o
    simp only at hc
    have key : ∀ (bop : BinOp) (t : TypeId) (p q : Operand) (yt : TypeId), flatK P 8 t = some ks → cOpd E p = some x → cOpd E q = some y → (bop = .eql ∨ bop = .neq) → neg = (bop == .neq) → P.eqGuardType P.depth t = false → aggOf P t = some (some ks.length) →
        ∃ u, (execOp a.eval ⟨dst, .binOp bop t p q yt, ty, pos, after, guard⟩).run P w = .ok (.value u) w ∧ VR (shp h) β v u := by
      intro bop t p q yt hk hp hq hb hn hg hag
      simp only [evalP] at hv
      split at hv
      case h_2 => cases hv
      rename_i l m e1 e2
      split at hv
      case isFalse => cases hv
      rename_i hkk
      obtain ⟨k1, k2⟩ := hkk
      injection hv with hv; subst hv
      have h1 := cOpd_ok hE hp
      have h2 := cOpd_ok hE hq
      rw [e1] at h1
      rw [e2] at h2
      have hl := kindsAre_length k1
      have hm := kindsAre_length k2
      have e := eq_flat (P := P) (w := w) (sh := shp h) (β := β) 8 t ks hk 10000 (by omega) l m (a.eval p) (a.eval q) k1 k2 (.inr ⟨by rw [hl]; exact hag, h1⟩) (.inr ⟨by rw [hm]; exact hag, h2⟩)
      obtain ⟨xs, x1, _⟩ := h1
      obtain ⟨ys, y1, _⟩ := h2
      rw [x1, y1] at e
      rcases hb with rfl | rfl
      · exact ⟨.bool (decide (l = m)), by simp only [execOp, x1, y1, Sem.run_bind, run_eqGuard_agg w _ t p q xs ys hg, Result.andThen_ok, run_eql_struct, e]; rfl, by rw [hn]; show _ = _; congr 1; cases decide (l = m) <;> rfl⟩
      · exact ⟨.bool (!decide (l = m)), by simp only [execOp, x1, y1, Sem.run_bind, run_eqGuard_agg w _ t p q xs ys hg, Result.andThen_ok, run_neq_struct, e]; rfl, by rw [hn]; show _ = _; congr 1; cases decide (l = m) <;> rfl⟩
    cases op
    case binOp bop t p q yt =>
      simp only [cOp] at hc
      have hopn : ∀ {c : Prop}, ((bop == .eql || bop == .neq) = true ∧ c) → bop = .eql ∨ bop = .neq := fun hh => by simpa using hh.1
      split at hc
      · split at hc
        · injection hc with hc; cases hc
        · cases hc
      · split at hc
        · injection hc with hc; cases hc
        · cases hc
      · split at hc
        · split at hc
          · injection hc with hc; cases hc
          · cases hc
        · cases hc
      · split at hc
        case h_2 => cases hc
        rename_i hk hp hq
        split at hc
        case isFalse => cases hc
        rename_i hcc
        injection hc with hc; injection hc with i1 i2 i3 i4
        subst i2 i3 i4
        exact key bop t p q yt hk hp hq (hopn hcc) i1.symm hcc.2.1 hcc.2.2
      · split at hc
        case h_2 => cases hc
        rename_i hk hp hq
        split at hc
        case isFalse => cases hc
        rename_i hcc
        injection hc with hc; injection hc with i1 i2 i3 i4
        subst i2 i3 i4
        exact key bop t p q yt hk hp hq (hopn hcc) i1.symm hcc.2.1 hcc.2.2
      · split at hc
        · simp only [Option.map_eq_some_iff] at hc; obtain ⟨_, _, hc⟩ := hc; cases hc
        · cases hc
      · split at hc
        · simp only [Option.map_eq_some_iff] at hc; obtain ⟨_, _, hc⟩ := hc; cases hc
        · cases hc
      · split at hc
        · simp only [Option.map_eq_some_iff] at hc; obtain ⟨_, _, hc⟩ := hc; cases hc
        · cases hc
      · cases hc
    case call c =>
      exfalso
      obtain ⟨callee, args, ats⟩ := c
      simp only [cOp] at hc
      split at hc
      · simp only [Option.map_eq_some_iff] at hc; obtain ⟨_, _, hc⟩ := hc; cases hc
      · split at hc
        · injection hc with hc; cases hc
        · cases hc
      · unfold cBuiltin at hc
        split at hc
        · unfold cClear at hc
          (repeat' (split at hc)) <;> first | (cases hc; done) | (injection hc with hc; cases hc; done)
        rename_i hnc; clear hnc
        unfold cBuiltin0 at hc
        (repeat' (split at hc)) <;> first
          | (cases hc; done)
          | (injection hc with hc; cases hc; done)
          | (simp only [Option.map_eq_some_iff] at hc; obtain ⟨_, _, hc⟩ := hc; cases hc; done)
      · cases hc
    case makeFunc f fs caps =>
      exfalso
      cases f with
      | func f =>
        simp only [cOp] at hc
        split at hc
        · simp only [Option.map_eq_some_iff] at hc; obtain ⟨_, _, hc⟩ := hc; cases hc
        · cases hc
      | _ => simp [cOp] at hc
    case extract x j =>
      exfalso
      cases x with
      | tmp t =>
        simp only [cOp] at hc
        split at hc
        · cases hc
        · simp only [Option.map_eq_some_iff] at hc; obtain ⟨_, _, hc⟩ := hc; cases hc
      | _ => simp [cOp] at hc
    all_goals
      exfalso
      first
      | (simp [cOp] at hc; done)
      | (simp only [cOp] at hc
         (repeat' (split at hc)) <;> first
           | (cases hc; done)
           | (injection hc with hc; cases hc; done)
           | (simp only [Option.map_eq_some_iff] at hc; obtain ⟨_, _, hc⟩ := hc; cases hc; done))
  · exact evalP_ok hr hE hc hv (fun neg n x y he => hq ⟨neg, n, x, y, he⟩)

end Go.Px
