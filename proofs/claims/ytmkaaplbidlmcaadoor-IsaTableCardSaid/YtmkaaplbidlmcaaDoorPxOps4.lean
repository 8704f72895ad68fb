/- Own work over the kit: abstract memory, its rules, and the walk. -/
import Derived.Test.YtmkaaplbidlmcaaDoorPxOps3
import Derived.Laws.Cover3
set_option linter.unusedVariables false
set_option linter.unusedSimpArgs false
namespace Go.Px

section
variable {P : Program} {h : Heap} {β : Beta} {w : World} {E : Env} {fr : List V} {loc : Loc} {a : Act}

theorem PR.off {sh : List Sh} {r g o : Nat} {v : Value} (hp : PR sh β r g o v) (k : Nat) : ∃ ad, v = .pointer (some ad) ∧ PR sh β r g (o + k) (.pointer (some (ad.add k))) := by
  obtain ⟨s, ad, hs, hg, rfl, hc⟩ := hp
  refine ⟨ad, rfl, s, _, hs, hg, rfl, fun e => ?_⟩
  rw [hc e, add_none]
  congr 1; omega

theorem sarr_ok (hE : EnvR E (shp h) β fr loc a) (hr : Rel h β w) {x : Operand} {lo hi : Option Operand} {o : Opd} {l h' : Option Opd} {t e : TypeId} {sz n : Nat}
    (ht : P.underlying t = some (.array n e) ∨ ∃ u, P.underlying t = some (.pointer u) ∧ P.underlying u = some (.array n e)) (hsz : sizeOf' P e = some sz) (hx : cOpd E x = some o)
    (hl : cOpt E lo = some l) (hh : cOpt E hi = some h')
    {v : V} (hv : evalP h (rho fr loc) loc (.sarr n sz o l h') = some v) : ∃ u, (Instr.sliceAt t (a.eval x) (lo.map a.eval) (hi.map a.eval) (Option.map a.eval none)).run P w = .ok u w ∧ VR (shp h) β v u := by
  have hX := cOpd_ok hE hx
  simp only [evalP] at hv
  split at hv
  case h_2 => cases hv
  rename_i r g off hs
  rw [hs] at hX
  split at hv
  case h_2 => cases hv
  rename_i row hrow
  split at hv
  case isFalse => cases hv
  rename_i hn
  split at hv
  case h_2 => cases hv
  rename_i H b2
  split at hv
  case h_2 => cases hv
  rename_i L b3
  injection hv with hv; subst hv
  obtain ⟨e1, e2⟩ := rowAt_some hrow
  have hX' : PR (shp h) β r g off (a.eval x) := hX
  have hcur := hX'.cur e1 e2
  have hm : cOpt E none = some none := rfl
  obtain ⟨k1, k2, k3, k4⟩ := sliceBounds_ok (P := P) (w := w) hE hl hh hm (n := n) (c := n) (cap := n) (M := n) (H := H) (L := L) false (Nat.le_refl _) (Nat.le_refl _) (by simp) rfl b2 b3
  simp only [Option.map_none, Option.isSome_none, Bool.false_eq_true, if_false] at k1
  generalize had : (⟨(β r).blk, (β r).base + off, none⟩ : Addr) = ad at hcur
  refine ⟨.slice (some (if n = L then ad else ad.add (L * sz))) (H - L) (n - L), ?_, ?_⟩
  · rcases ht with ht | ⟨u, ht, hu⟩
    · simp [Instr.sliceAt, run_underlying ht, hcur, Instr.sureAddr, k1, sizeOf_ok hsz]
    · simp [Instr.sliceAt, run_underlying ht, run_underlying hu, Instr.slice, asAddr, hcur, k1, sizeOf_ok hsz]
  · obtain ⟨cs, el, fz, q1, q2, q3, q4, q5⟩ := hr.row r row e1
    have hLs : (n - L) * sz + L * sz = n * sz := by rw [← Nat.add_mul]; congr 1; omega
    refine ⟨row.sh, _, _, shp_some e1, by simp [Row.sh]; omega, rfl, by omega, by omega, by simp [maxLen]; omega, fun _ => rfl, fun hg => ⟨fun h0 => ?_, ?_, fun hrw => ?_⟩⟩
    · rw [if_neg (by omega), ← had, add_none]; congr 1; omega
    · simp only [Row.sh]; omega
    · omega

theorem ba_get (t : ByteArray) (i : Nat) : t[i]? = t.data[i]? := by
  by_cases h : i < t.size
  · rw [getElem?_pos t i h, getElem?_pos t.data i h]; rfl
  · rw [getElem?_neg t i h, getElem?_neg t.data i h]
theorem bytesS_ok : ∀ {l : List S} {bs : List Nat}, bytesS l = some bs → ∃ xs : List Int, l = xs.map (S.i .u8) ∧ bs = xs.map fun n => n.toNat % 256
  | [], bs, h => by simp [bytesS] at h; subst h; exact ⟨[], rfl, rfl⟩
  | x :: l, bs, h => by
    unfold bytesS at h
    split at h
    · rename_i hx; cases hx
    · rename_i n l' hx
      injection hx with h1 h2; subst h1 h2
      simp only [Option.map_eq_some_iff] at h; obtain ⟨r, hr, rfl⟩ := h
      obtain ⟨xs, h1, h2⟩ := bytesS_ok hr
      exact ⟨n :: xs, by simp [h1], by simp [h2]⟩
    · cases h
theorem nats_strOfNums (xs : List Int) : nats (strOfNums xs) = xs.map fun n => n.toNat % 256 := by
  unfold nats
  rw [strOfNums_data, List.map_map]
  apply List.map_congr_left
  intro n _
  simp
theorem evc (a : Act) (v : Value) : a.eval (.const v) = v := rfl
theorem nilConst0 {y : Operand} (h : isNilConst y = some 0) : y = .const (.slice none 0 0) := by unfold isNilConst at h; split at h <;> first | rfl | simp at h
theorem nilConst1 {y : Operand} (h : isNilConst y = some 1) : y = .const (.pointer none) := by unfold isNilConst at h; split at h <;> first | rfl | simp at h
theorem nilConst2 {y : Operand} (h : isNilConst y = some 2) : y = .const .nilFunc := by unfold isNilConst at h; split at h <;> first | rfl | simp at h
theorem run_eqIn_ptr1 (d : Nat) (w : World) (t e : TypeId) (ad : Addr) (hu : P.underlying t = some (.pointer e)) : (Op.equalIn (d + 1) t (.pointer (some ad)) (.pointer none)).run P w = .ok false w := by simp [Op.equalIn, run_underlying hu]
theorem run_eq_ptr1 (w : World) (t e : TypeId) (ad : Addr) (hu : P.underlying t = some (.pointer e)) : (Op.equal t (.pointer (some ad)) (.pointer none)).run P w = .ok false w := run_eqIn_ptr1 9999 w t e ad hu
theorem run_eqIn_ptr0 (d : Nat) (w : World) (t e : TypeId) (hu : P.underlying t = some (.pointer e)) : (Op.equalIn (d + 1) t (.pointer none) (.pointer none)).run P w = .ok true w := by simp [Op.equalIn, run_underlying hu]
theorem run_eq_ptr0 (w : World) (t e : TypeId) (hu : P.underlying t = some (.pointer e)) : (Op.equal t (.pointer none) (.pointer none)).run P w = .ok true w := run_eqIn_ptr0 9999 w t e hu
theorem run_eqIn_fn1 (d : Nat) (w : World) (t : TypeId) (p r : Array TypeId) (b : Bool) (f : Fn) (x y : Array Value) (hu : P.underlying t = some (.func p r b)) : (Op.equalIn (d + 1) t (.func f x y) .nilFunc).run P w = .ok false w := by simp [Op.equalIn, run_underlying hu]
theorem run_eq_fn1 (w : World) (t : TypeId) (p r : Array TypeId) (b : Bool) (f : Fn) (x y : Array Value) (hu : P.underlying t = some (.func p r b)) : (Op.equal t (.func f x y) .nilFunc).run P w = .ok false w := run_eqIn_fn1 9999 w t p r b f x y hu
theorem run_eqIn_fn0 (d : Nat) (w : World) (t : TypeId) (p r : Array TypeId) (b : Bool) (hu : P.underlying t = some (.func p r b)) : (Op.equalIn (d + 1) t .nilFunc .nilFunc).run P w = .ok true w := by simp [Op.equalIn, run_underlying hu]
theorem run_eq_fn0 (w : World) (t : TypeId) (p r : Array TypeId) (b : Bool) (hu : P.underlying t = some (.func p r b)) : (Op.equal t .nilFunc .nilFunc).run P w = .ok true w := run_eqIn_fn0 9999 w t p r b hu

theorem ptrs_ok {sh β} : ∀ {l : List V} {ps : List (Nat × Nat × Nat)} {vs : Array Value}, ptrs l = some ps → VRs sh β l vs →
    vs.size = ps.length ∧ ∀ (j : Nat) (c : Nat × Nat × Nat), ps[j]? = some c → ∃ u, vs[j]? = some u ∧ PR sh β c.1 c.2.1 c.2.2 u := by
  intro l ps vs hp hv
  have key : ∀ (l : List V) (ps : List (Nat × Nat × Nat)), ptrs l = some ps → l = ps.map fun c => V.s (.p c.1 c.2.1 c.2.2) := by
    intro l
    induction l with
    | nil => intro ps hp; simp [ptrs] at hp; subst hp; rfl
    | cons x l ih =>
      intro ps hp
      unfold ptrs at hp
      split at hp
      · rename_i hx; cases hx
      · rename_i hx; injection hx with h1 h2; subst h1 h2
        simp only [Option.map_eq_some_iff] at hp; obtain ⟨q, hq, rfl⟩ := hp
        simp [ih q hq]
      · cases hp
  have := key l ps hp
  subst this
  obtain ⟨h1, h2⟩ := hv
  refine ⟨by simpa using h1, fun j c hj => ?_⟩
  exact h2 j _ (by rw [List.getElem?_map, hj]; rfl)

theorem toArr {α : Type} {xs : Array α} {l : List α} (h : xs.toList = l) : xs = l.toArray := by rw [← h]

theorem builtin_ok (hE : EnvR E (shp h) β fr loc a) {b : Builtin} {args : Array Operand} {ats : Array TypeId} {io : IOp} (hc : cBuiltin P E b args.toList ats.toList = some io) {v : V} (hv : evalP h (rho fr loc) loc io = some v)
    {dst : Option Tmp} {ty : TypeId} {pos : String} {after : Array Edge} {guard : Option (Nat × Bool)} :
    ∃ u, (execOp a.eval ⟨dst, .call ⟨.builtin b, args, ats⟩, ty, pos, after, guard⟩).run P w = .ok (.value u) w ∧ VR (shp h) β v u := by
  unfold cBuiltin at hc
  split at hc
  · unfold cClear at hc
    (repeat' (split at hc)) <;> first | (cases hc; done) | (injection hc with hc; subst hc; simp [evalP] at hv; done)
  rename_i hnc; clear hnc
  unfold cBuiltin0 at hc
  split at hc
  · rename_i x t hxs hts
    have hxs' := toArr hxs
    have hts' := toArr hts
    subst hxs' hts'
    have lenK : ∀ n : Nat, io = .lenK n → (∃ e, P.underlying t = some (.array n e)) ∨ (∃ e q, P.underlying t = some (.pointer e) ∧ P.underlying e = some (.array n q)) →
        ∃ u, (execOp a.eval ⟨dst, .call ⟨.builtin .len, [x].toArray, [t].toArray⟩, ty, pos, after, guard⟩).run P w = .ok (.value u) w ∧ VR (shp h) β v u := by
      intro n he hu
      subst he
      simp only [evalP, Option.some.injEq] at hv; subst hv
      rcases hu with ⟨e, hu⟩ | ⟨e, q, hu, hq⟩
      · exact ⟨goInt n, by simp [execOp, resolve, invoke, builtin, Builtin.len_, run_underlying hu], rfl⟩
      · exact ⟨goInt n, by simp [execOp, resolve, invoke, builtin, Builtin.len_, run_underlying hu, run_underlying hq], rfl⟩
    split at hc
    · rename_i hu
      simp only [Option.map_eq_some_iff] at hc; obtain ⟨o, ho, rfl⟩ := hc
      have hx := cOpd_ok hE ho
      simp only [evalP] at hv
      unfold len1 at hv
      split at hv
      case h_2 => cases hv
      rename_i e1
      injection hv with hv; subst hv
      rw [e1] at hx
      obtain ⟨tt, he, hl⟩ := hx.str
      have hl' := nats_length tt
      rw [hl] at hl'
      exact ⟨goInt tt.size, by simp [execOp, resolve, invoke, builtin, Builtin.len_, run_underlying hu, he], by rw [hl']; rfl⟩
    · rename_i e hu
      simp only [Option.map_eq_some_iff] at hc; obtain ⟨o, ho, rfl⟩ := hc
      have hx := cOpd_ok hE ho
      simp only [evalP] at hv
      unfold len0 at hv
      split at hv
      case h_3 => cases hv
      · rename_i e1
        injection hv with hv; subst hv
        rw [e1] at hx
        have he : a.eval x = .slice none 0 0 := hx
        exact ⟨goInt 0, by simp [execOp, resolve, invoke, builtin, Builtin.len_, run_underlying hu, he], rfl⟩
      · rename_i r g o' sz n c ex e1
        injection hv with hv; subst hv
        rw [e1] at hx
        obtain ⟨s, ad, cap, _, _, he, _⟩ := hx
        exact ⟨goInt n, by simp [execOp, resolve, invoke, builtin, Builtin.len_, run_underlying hu, he], rfl⟩
    · rename_i n e hu
      injection hc with hc
      exact lenK n hc.symm (.inl ⟨e, hu⟩)
    · rename_i e hu
      split at hc
      case h_2 => cases hc
      rename_i n q hq
      injection hc with hc
      exact lenK n hc.symm (.inr ⟨e, q, hu, hq⟩)
    · cases hc
  · split at hc
    · split at hc
      case h_2 => cases hc
      split at hc
      case isTrue => cases hc
      injection hc with hc; subst hc; simp [evalP] at hv
    · cases hc
  · split at hc
    case h_2 => cases hc
    split at hc
    case h_2 => cases hc
    split at hc
    case isTrue => cases hc
    injection hc with hc; subst hc; simp [evalP] at hv
  · rename_i x y hxs
    have hxs' := toArr hxs
    subst hxs'
    split at hc
    case h_2 => cases hc
    rename_i p q hp hq
    injection hc with hc; subst hc
    simp only [evalP] at hv
    split at hv
    case h_2 => cases hv
    rename_i k1 n1 k2 n2 e1 e2
    injection hv with hv; subst hv
    have h1 := cOpd_ok hE hp
    have h2 := cOpd_ok hE hq
    rw [e1] at h1
    rw [e2] at h2
    have v1 := h1.int
    have v2 := h2.int
    exact ⟨_, by simp [execOp, resolve, invoke, builtin, v1, v2, run_min_int2], rfl⟩
  · rename_i x y hxs
    have hxs' := toArr hxs
    subst hxs'
    split at hc
    case h_2 => cases hc
    rename_i p q hp hq
    injection hc with hc; subst hc
    simp only [evalP] at hv
    split at hv
    case h_2 => cases hv
    rename_i k1 n1 k2 n2 e1 e2
    injection hv with hv; subst hv
    have h1 := cOpd_ok hE hp
    have h2 := cOpd_ok hE hq
    rw [e1] at h1
    rw [e2] at h2
    have v1 := h1.int
    have v2 := h2.int
    exact ⟨_, by simp [execOp, resolve, invoke, builtin, v1, v2, run_max_int2], rfl⟩
  · cases hc

/-- A pure operation. -/
theorem evalP_ok (hr : Rel h β w) (hE : EnvR E (shp h) β fr loc a) {o : Oper} {io : IOp} (hc : cOp P E o.op = some io) {v : V} (hv : evalP h (rho fr loc) loc io = some v)
    (hneq : ∀ (neg : Bool) (n : List CK) (x y : Opd), io ≠ .eqa neg n x y) : ∃ u, (execOp a.eval o).run P w = .ok (.value u) w ∧ VR (shp h) β v u := by
  obtain ⟨dst, op, ty, pos, after, guard⟩ := o
  simp only at hc
  cases op
  case move x =>
    simp only [cOp, Option.map_eq_some_iff] at hc; obtain ⟨o, ho, rfl⟩ := hc
    simp only [evalP, Option.some.injEq] at hv; subst hv
    exact ⟨_, rfl, cOpd_ok hE ho⟩
  case assign x =>
    simp only [cOp, Option.map_eq_some_iff] at hc; obtain ⟨o, ho, rfl⟩ := hc
    simp only [evalP, Option.some.injEq] at hv; subst hv
    exact ⟨_, rfl, cOpd_ok hE ho⟩
  case pick c x y =>
    simp only [cOp] at hc
    split at hc
    case h_2 => cases hc
    rename_i c' x' y' h1 h2 h3
    injection hc with hc; subst hc
    simp only [evalP] at hv
    split at hv
    case h_2 => cases hv
    rename_i t ht
    injection hv with hv; subst hv
    have := cOpd_ok hE h1
    rw [ht] at this
    have hb := this.bool
    refine ⟨if t then a.eval x else a.eval y, by simp [execOp, hb, asBool], ?_⟩
    cases t
    · exact cOpd_ok hE h3
    · exact cOpd_ok hE h2
  case alloc t => simp only [cOp] at hc; split at hc <;> first | (simp only [Option.map_eq_some_iff] at hc; obtain ⟨_, _, rfl⟩ := hc; simp [evalP] at hv) | cases hc
  case box t x => simp only [cOp, Option.map_eq_some_iff] at hc; obtain ⟨o, ho, rfl⟩ := hc; simp [evalP] at hv
  case buildSlice t n parts =>
    simp only [cOp] at hc
    split at hc
    case h_2 => cases hc
    split at hc
    case h_2 => cases hc
    split at hc
    case isTrue => cases hc
    simp only [Option.map_eq_some_iff] at hc; obtain ⟨_, _, rfl⟩ := hc; simp [evalP] at hv
  case store t x y =>
    simp only [cOp] at hc
    split at hc
    case h_2 => cases hc
    injection hc with hc; subst hc; simp [evalP] at hv
  case makeSlice t l c =>
    simp only [cOp] at hc
    split at hc
    case h_2 => cases hc
    split at hc
    case h_2 => cases hc
    split at hc
    case isTrue => cases hc
    injection hc with hc; subst hc; simp [evalP] at hv
  case build t parts =>
    simp only [cOp] at hc
    split at hc
    case h_3 => cases hc
    case h_1 fs z hu hz =>
      split at hc
      case h_2 => cases hc
      rename_i pl hpl
      simp only [Option.map_eq_some_iff] at hc; obtain ⟨ps, hps, rfl⟩ := hc
      simp only [evalP, Option.map_eq_some_iff] at hv; obtain ⟨l, hl, rfl⟩ := hv
      obtain ⟨zv, i, z1, z2, z3, z4, z5, z6, z7⟩ := zero_ok hz w (shp h) β
      obtain ⟨cs, c1, c2, c3, c4⟩ := fill_ok hE hps hl z7 z6
      have hpl' := run_places (P := P) w fs.toList pl hpl
      refine ⟨.agg cs, ?_, cs, rfl, c2, c3⟩
      have hp1 : (parts.map fun x => (x.1, a.eval x.2)).toList = parts.toList.map fun p => (p.1, a.eval p.2) := by simp
      simp [execOp, Instr.build, z3, run_underlying hu, Array.mapM_eq_mapM_toList, hpl', c1]
    case h_2 n e z hu hz =>
      split at hc
      case h_2 => cases hc
      rename_i s hs
      simp only [Option.map_eq_some_iff] at hc; obtain ⟨ps, hps, rfl⟩ := hc
      simp only [evalP, Option.map_eq_some_iff] at hv; obtain ⟨l, hl, rfl⟩ := hv
      obtain ⟨zv, i, z1, z2, z3, z4, z5, z6, z7⟩ := zero_ok hz w (shp h) β
      obtain ⟨cs, c1, c2, c3, c4⟩ := fill_ok hE hps hl z7 z6
      refine ⟨.agg cs, ?_, cs, rfl, c2, c3⟩
      simp [execOp, Instr.build, z3, run_underlying hu, sizeOf_ok hs, c1]
  case load t x =>
    simp only [cOp] at hc
    split at hc
    case h_2 => cases hc
    rename_i g o hg ho
    injection hc with hc; subst hc
    simp only [evalP] at hv
    split at hv
    case h_2 => cases hv
    rename_i r gn off hs
    split at hv
    case h_2 => cases hv
    rename_i row hrow
    have hx := cOpd_ok hE ho
    rw [hs] at hx
    obtain ⟨c, h1, h2⟩ := load_ok (P := P) hr hx hrow hg hv
    exact ⟨c, by simp [execOp, h1], h2⟩
  case nilCheck x =>
    simp only [cOp, Option.map_eq_some_iff] at hc; obtain ⟨o, ho, rfl⟩ := hc
    have hx := cOpd_ok hE ho
    simp only [evalP] at hv
    split at hv
    case h_3 => cases hv
    · rename_i r g off hs
      injection hv with hv; subst hv
      rw [hs] at hx
      have hx' := hx
      obtain ⟨s, ad, _, _, he, _⟩ := hx'
      exact ⟨a.eval x, by simp [execOp, he], hx⟩
    · rename_i f caps hs
      injection hv with hv; subst hv
      rw [hs] at hx
      have hx' := hx
      obtain ⟨vs, he, _⟩ := hx'
      exact ⟨a.eval x, by simp [execOp, he], hx⟩
  case binOp op t x y yt =>
    simp only [cOp] at hc
    have two : ∀ {p q : Opd}, cOpd E x = some p → cOpd E y = some q → io = .bin op p q → ∃ u, (execOp a.eval ⟨dst, .binOp op t x y yt, ty, pos, after, guard⟩).run P w = .ok (.value u) w ∧ VR (shp h) β v u := by
      intro p q hp hq he
      subst he
      simp only [evalP] at hv
      split at hv
      case h_2 => cases hv
      rename_i s1 s2 e1 e2
      simp only [Option.map_eq_some_iff] at hv
      obtain ⟨z, hz, rfl⟩ := hv
      have h1 := cOpd_ok hE hp
      have h2 := cOpd_ok hE hq
      rw [e1] at h1
      rw [e2] at h2
      obtain ⟨c, c1, c2⟩ := bin_ok (P := P) (w := w) (t := t) h1 h2 hz
      exact ⟨c, by simp [execOp, eqGuard_ok (P := P) (w := w) h1 h2, c1], c2⟩
    have hopn : ∀ {c : Prop}, ((op == .eql || op == .neq) = true ∧ c) → op = .eql ∨ op = .neq := fun hh => by simpa using hh.1
    split at hc
    · split at hc
      case h_2 => cases hc
      rename_i h1 h2
      injection hc with hc
      exact two h1 h2 hc.symm
    · split at hc
      case h_2 => cases hc
      rename_i h1 h2
      injection hc with hc
      exact two h1 h2 hc.symm
    · rename_i hu
      split at hc
      case h_2 => cases hc
      rename_i p q hp hq
      split at hc
      case isFalse => cases hc
      rename_i hop
      injection hc with hc; subst hc
      simp only [evalP] at hv
      split at hv
      case h_2 => cases hv
      rename_i b1 b2 e1 e2
      injection hv with hv; subst hv
      have h1 := cOpd_ok hE hp
      have h2 := cOpd_ok hE hq
      rw [e1] at h1
      rw [e2] at h2
      have g := eqGuard_ok (P := P) (w := w) (sh := shp h) (β := β) (op := op) (t := t) (p := x) (q := y) (x := .b b1) (y := .b b2) h1 h2
      have v1 := h1.bool
      have v2 := h2.bool
      rw [v1, v2] at g
      have hop' : op = .eql ∨ op = .neq := by simpa using hop
      rcases hop' with rfl | rfl
      · exact ⟨.bool (b1 == b2), by simp [execOp, v1, v2, g, run_eql_bool w t b1 b2 hu], by show _ = _; cases b1 <;> cases b2 <;> rfl⟩
      · exact ⟨.bool (!(b1 == b2)), by simp [execOp, v1, v2, g, run_neq_bool w t b1 b2 hu], by show _ = _; cases b1 <;> cases b2 <;> rfl⟩
    · split at hc
      case h_2 => cases hc
      split at hc
      case isFalse => cases hc
      injection hc with hc
      exact absurd hc.symm (hneq _ _ _ _)
    · split at hc
      case h_2 => cases hc
      split at hc
      case isFalse => cases hc
      injection hc with hc
      exact absurd hc.symm (hneq _ _ _ _)
    · rename_i e hu
      split at hc
      case isFalse => cases hc
      rename_i hop
      simp only [Option.map_eq_some_iff] at hc; obtain ⟨q, hq, rfl⟩ := hc
      have hy := nilConst0 hop.2
      subst hy
      have h1 := cOpd_ok hE hq
      have hop' := hopn hop
      simp only [evalP] at hv
      unfold eqn0 at hv
      split at hv
      case h_3 => cases hv
      all_goals (rename_i e1; rw [e1] at h1; injection hv with hv; subst hv)
      · obtain ⟨s, ad, cap, _, _, he, _⟩ := h1
        rcases hop' with rfl | rfl <;> exact ⟨_, by simp [execOp, he, evc, eqGuard, binOp, run_equal_slice_nil w t e _ _ _ hu], rfl⟩
      · have he : a.eval x = .slice none 0 0 := h1
        rcases hop' with rfl | rfl <;> exact ⟨_, by simp [execOp, he, evc, eqGuard, binOp, run_equal_slice_nil w t e _ _ _ hu], rfl⟩
    · rename_i e hu
      split at hc
      case isFalse => cases hc
      rename_i hop
      simp only [Option.map_eq_some_iff] at hc; obtain ⟨q, hq, rfl⟩ := hc
      have hy := nilConst1 hop.2
      subst hy
      have h1 := cOpd_ok hE hq
      have hop' := hopn hop
      simp only [evalP] at hv
      unfold eqn1 at hv
      split at hv
      case h_3 => cases hv
      all_goals (rename_i e1; rw [e1] at h1; injection hv with hv; subst hv)
      · obtain ⟨s, ad, _, _, he, _⟩ := h1
        rcases hop' with rfl | rfl <;> exact ⟨_, by simp [execOp, he, evc, eqGuard, binOp, run_eq_ptr1 w t e _ hu], rfl⟩
      · have he : a.eval x = .pointer none := h1
        rcases hop' with rfl | rfl <;> exact ⟨_, by simp [execOp, he, evc, eqGuard, binOp, run_eq_ptr0 w t e hu], rfl⟩
    · rename_i p1 p2 p3 hu
      split at hc
      case isFalse => cases hc
      rename_i hop
      simp only [Option.map_eq_some_iff] at hc; obtain ⟨q, hq, rfl⟩ := hc
      have hy := nilConst2 hop.2
      subst hy
      have h1 := cOpd_ok hE hq
      have hop' := hopn hop
      simp only [evalP] at hv
      unfold eqn2 at hv
      split at hv
      case h_3 => cases hv
      all_goals (rename_i e1; rw [e1] at h1; injection hv with hv; subst hv)
      · obtain ⟨vs, he, _⟩ := h1
        rcases hop' with rfl | rfl <;> exact ⟨_, by simp [execOp, he, evc, eqGuard, binOp, run_eq_fn1 w t _ _ _ _ _ _ hu], rfl⟩
      · have he : a.eval x = .nilFunc := h1
        rcases hop' with rfl | rfl <;> exact ⟨_, by simp [execOp, he, evc, eqGuard, binOp, run_eq_fn0 w t _ _ _ hu], rfl⟩
    · cases hc
  case unOp op t x =>
    simp only [cOp, Option.map_eq_some_iff] at hc; obtain ⟨o, ho, rfl⟩ := hc
    have hx := cOpd_ok hE ho
    simp only [evalP] at hv
    split at hv <;> first | cases hv | skip
    all_goals (rename_i e1; rw [e1] at hx)
    · have he := hx.int; exact ⟨_, by simp [execOp, he, Op.unary, Op.intArith]; rfl, by simp [VR, SR]⟩
    · have he := hx.bool; exact ⟨_, by simp [execOp, he, Op.unary], rfl⟩
    · have he := hx.int; exact ⟨_, by simp [execOp, he, Op.unary, Op.intBits]; rfl, by simp [VR, SR]⟩
  case convert s d x =>
    simp only [cOp] at hc
    split at hc
    · rename_i hs hd
      simp only [Option.map_eq_some_iff] at hc; obtain ⟨o, ho, rfl⟩ := hc
      have hx := cOpd_ok hE ho
      simp only [evalP] at hv
      split at hv
      case h_2 => cases hv
      rename_i e1
      injection hv with hv; subst hv
      rw [e1] at hx
      have he := hx.int
      exact ⟨_, by simp [execOp, he, convert, run_underlying hs, run_underlying hd, Conv.intToInt], rfl⟩
    · rename_i hs hd
      simp only [Option.map_eq_some_iff] at hc; obtain ⟨o, ho, rfl⟩ := hc
      have hx := cOpd_ok hE ho
      simp only [evalP] at hv
      split at hv
      case h_2 => cases hv
      rename_i e1
      injection hv with hv; subst hv
      rw [e1] at hx
      obtain ⟨t, he, hl⟩ := hx.str
      exact ⟨.string t, by simp [execOp, he, convert, run_underlying hs, run_underlying hd], t, rfl, hl⟩
    · split at hc
      case h_2 => cases hc
      rename_i e hs hd _ he
      simp only [Option.map_eq_some_iff] at hc; obtain ⟨o, ho, rfl⟩ := hc
      have hx := cOpd_ok hE ho
      simp only [evalP] at hv
      split at hv
      case h_3 => cases hv
      · rename_i e1
        injection hv with hv; subst hv
        rw [e1] at hx
        have hx' : a.eval x = .slice none 0 0 := hx
        have := run_convert_bytes_nil (P := P) w s e hs he 0 0 d hd
        exact ⟨.string ByteArray.empty, by simp [execOp, hx', this], ByteArray.empty, rfl, rfl⟩
      · rename_i r g off sz n c ex e1
        split at hv
        case isFalse => cases hv
        rename_i hsz; subst hsz
        split at hv
        case h_2 => cases hv
        rename_i l hl
        simp only [Option.map_eq_some_iff] at hv; obtain ⟨bs, hbs, rfl⟩ := hv
        rw [e1] at hx
        obtain ⟨sh, ad, cap, q1, q2, q3, q4, q5, q6, q7, q8⟩ := hx
        simp only [slCells, Option.map_eq_some_iff] at hl
        obtain ⟨row, hrow, hl⟩ := hl
        obtain ⟨r1, r2⟩ := rowAt_some hrow
        rw [shp_some r1] at q1
        injection q1 with q1
        obtain ⟨p1, p2, p3⟩ := q8 (by rw [← q1]; exact r2.symm)
        obtain ⟨xs, x1, x2⟩ := bytesS_ok hbs
        have hlen : xs.length = n := by
          have := congrArg List.length (x1.symm.trans hl.symm)
          rw [← q1] at p2
          simp [Row.sh] at this p2
          omega
        refine ⟨.string (strOfNums xs), ?_, strOfNums xs, rfl, by rw [x2]; exact nats_strOfNums xs⟩
        by_cases hcap : 0 < cap
        · have := run_convert_bytes_arg (P := P) w s e hs he (β r).blk ((β r).base + off) n cap xs hlen (fun i hi => by
            obtain ⟨u, hu, hs⟩ := hr.cell (o := off + i) (x := .i .u8 (xs.getD i 0)) r1 (by
              have h1 : l[i]? = some (.i .u8 (xs.getD i 0)) := by
                rw [x1, List.getElem?_map, List.getElem?_eq_getElem (by omega), List.getD_eq_getElem?_getD, List.getElem?_eq_getElem (by omega)]; rfl
              rw [← hl, List.getElem?_take] at h1
              split at h1
              · rwa [List.getElem?_drop] at h1
              · cases h1)
            have hs' : u = .int .u8 (xs.getD i 0) := hs
            rw [hs'] at hu
            rwa [Nat.add_assoc]) d hd
          rw [p1 hcap] at q3
          simp [execOp, q3, this]
        · have hn0 : n = 0 := by omega
          have hx0 : xs = [] := List.eq_nil_of_length_eq_zero (by omega)
          subst hx0 hn0
          simp [execOp, q3, convert, run_underlying hs, run_underlying hd, run_underlying he, Conv.bytesToString, loadCells, loadCellsFrom, strOfNums]
          rfl
    · split at hc
      case h_2 => cases hc
      simp only [Option.map_eq_some_iff] at hc; obtain ⟨o, ho, rfl⟩ := hc; simp [evalP] at hv
    · cases hc
  case makeFunc f first caps =>
    cases f with
    | func f =>
      simp only [cOp] at hc
      split at hc
      case isFalse => cases hc
      rename_i h0
      simp only [Option.map_eq_some_iff] at hc; obtain ⟨l, hl, rfl⟩ := hc
      simp only [evalP, Option.map_eq_some_iff] at hv; obtain ⟨ps, hps, rfl⟩ := hv
      have hcs := cOpds_ok hE hl
      have hf : first = #[] := Array.eq_empty_of_size_eq_zero h0
      subst hf
      refine ⟨.func (.func f) #[] (caps.map a.eval), by simp [execOp, Instr.makeFunc], caps.map a.eval, rfl, ?_⟩
      have := ptrs_ok hps hcs
      simpa using this
    | _ => simp [cOp] at hc
  case slice t x lo hi mx =>
    simp only [cOp] at hc
    split at hc
    case h_2 => cases hc
    rename_i o l h' m h1 h2 h3 h4
    split at hc
    · rename_i hu
      split at hc
      case isFalse => cases hc
      rename_i hm; subst hm
      injection hc with hc; subst hc
      have hmx : mx = none := by cases mx with | none => rfl | some X => simp [cOpt] at h4
      subst hmx
      obtain ⟨u, hu1, hu2⟩ := sstr_ok (h := h) (w := w) hE hu h1 h2 h3 hv
      exact ⟨u, by simp only [execOp, Sem.run_bind, hu1, Result.andThen_ok]; rfl, hu2⟩
    · rename_i e hu
      split at hc
      case h_2 => cases hc
      rename_i sz hsz
      split at hc
      case isTrue => cases hc
      rename_i hmh
      injection hc with hc; subst hc
      obtain ⟨u, hu1, hu2⟩ := ssl_ok (w := w) hE hu hsz h1 h2 h3 h4 (by intro hm; cases hi with | none => exact absurd ⟨hm, rfl⟩ hmh | some _ => rfl) hv
      exact ⟨u, by simp only [execOp, Sem.run_bind, hu1, Result.andThen_ok]; rfl, hu2⟩
    · rename_i n e hu
      split at hc
      case h_2 => cases hc
      rename_i sz hsz
      split at hc
      case isFalse => cases hc
      rename_i hm; subst hm
      injection hc with hc; subst hc
      have hmx : mx = none := by cases mx with | none => rfl | some X => simp [cOpt] at h4
      subst hmx
      obtain ⟨u, hu1, hu2⟩ := sarr_ok hE hr (.inl hu) hsz h1 h2 h3 hv
      exact ⟨u, by simp only [execOp, Sem.run_bind, hu1, Result.andThen_ok]; rfl, hu2⟩
    · rename_i e hu
      split at hc
      case h_2 => cases hc
      rename_i n e' hu'
      split at hc
      case h_2 => cases hc
      rename_i sz hsz
      split at hc
      case isFalse => cases hc
      rename_i hm; subst hm
      injection hc with hc; subst hc
      have hmx : mx = none := by cases mx with | none => rfl | some X => simp [cOpt] at h4
      subst hmx
      obtain ⟨u, hu1, hu2⟩ := sarr_ok hE hr (.inr ⟨e, hu, hu'⟩) hsz h1 h2 h3 hv
      exact ⟨u, by simp only [execOp, Sem.run_bind, hu1, Result.andThen_ok]; rfl, hu2⟩
    · cases hc
  case fieldAddr t x i =>
    simp only [cOp] at hc
    split at hc
    case h_2 => cases hc
    rename_i fs o hu ho
    split at hc
    case h_2 => cases hc
    rename_i f hf
    split at hc
    case h_2 => cases hc
    rename_i s hs
    split at hc
    case isTrue => cases hc
    rename_i hs0
    injection hc with hc; subst hc
    have hx := cOpd_ok hE ho
    simp only [evalP] at hv
    split at hv
    case h_2 => cases hv
    rename_i r g off e1
    injection hv with hv; subst hv
    rw [e1] at hx
    have hx' : PR (shp h) β r g off (a.eval x) := hx
    obtain ⟨ad, he, hp⟩ := hx'.off f.offset
    refine ⟨.pointer (some (ad.add f.offset)), ?_, hp⟩
    simp [execOp, Instr.fieldAt, run_underlying hu, hf, he, Instr.sureAddr, fieldPlace, sizeOf_ok hs, hs0]
  case field t x i =>
    simp only [cOp] at hc
    split at hc
    case h_2 => cases hc
    rename_i fs o hu ho
    split at hc
    case h_2 => cases hc
    rename_i f hf
    simp only [Option.map_eq_some_iff] at hc; obtain ⟨g, hg, rfl⟩ := hc
    have hx := cOpd_ok hE ho
    simp only [evalP] at hv
    split at hv
    case h_2 => cases hv
    rename_i l e1
    rw [e1] at hx
    obtain ⟨cs, he, hsz, hcr⟩ := hx
    obtain ⟨u, hu1, hu2⟩ := part_ok (P := P) (w := w) hcr hsz hg hv
    exact ⟨u, by simp [execOp, Instr.field, run_underlying hu, hf, he, asAgg, hu1], hu2⟩
  case indexAddr t x i =>
    simp only [cOp] at hc
    split at hc
    case h_3 => cases hc
    · rename_i n e o q hu ho hq
      simp only [Option.map_eq_some_iff] at hc; obtain ⟨sz, hsz, rfl⟩ := hc
      have hx := cOpd_ok hE ho
      have hy := cOpd_ok hE hq
      simp only [evalP] at hv
      split at hv
      case h_2 => cases hv
      rename_i r g off k j e1 e2
      split at hv
      case isFalse => cases hv
      rename_i hj
      injection hv with hv; subst hv
      rw [e1] at hx; rw [e2] at hy
      have hx' : PR (shp h) β r g off (a.eval x) := hx
      obtain ⟨ad, he, hp⟩ := hx'.off (j.toNat * sz)
      have hyi := hy.int
      refine ⟨.pointer (some (ad.add (j.toNat * sz))), ?_, hp⟩
      simp [execOp, Instr.indexAt, hyi, asIntOf, run_underlying hu, he, Instr.sureAddr, sizeOf_ok hsz, hj]
    · rename_i e o q hu ho hq
      simp only [Option.map_eq_some_iff] at hc; obtain ⟨sz, hsz, rfl⟩ := hc
      have hx := cOpd_ok hE ho
      have hy := cOpd_ok hE hq
      simp only [evalP] at hv
      split at hv
      case h_2 => cases hv
      rename_i r g off sz' n c ex k j e1 e2
      split at hv
      case isFalse => cases hv
      rename_i hj
      obtain ⟨hzz, hj0, hj1⟩ := hj
      subst hzz
      injection hv with hv; subst hv
      rw [e1] at hx; rw [e2] at hy
      obtain ⟨s, ad, cap, q1, q2, q3, q4, q5, q6, q7, q8⟩ := hx
      have hyi := hy.int
      refine ⟨.pointer (some (ad.add (j.toNat * sz'))), ?_, s, _, q1, q2, rfl, fun hg => ?_⟩
      · simp [execOp, Instr.indexAt, hyi, asIntOf, run_underlying hu, q3, sizeOf_ok hsz, hj0, hj1]
      · rw [(q8 hg).1 (by omega), add_none]; congr 1; omega
  case index t x i =>
    simp only [cOp] at hc
    split at hc
    case h_3 => cases hc
    · rename_i n e o q hu ho hq
      split at hc
      case h_2 => cases hc
      rename_i sz g hsz hg
      injection hc with hc; subst hc
      have hx := cOpd_ok hE ho
      have hy := cOpd_ok hE hq
      simp only [evalP] at hv
      split at hv
      case h_2 => cases hv
      rename_i l k j e1 e2
      split at hv
      case isFalse => cases hv
      rename_i hj
      rw [e1] at hx; rw [e2] at hy
      have hyi := hy.int
      obtain ⟨cs, he, hcs, hcr⟩ := hx
      obtain ⟨u, hu1, hu2⟩ := part_ok (P := P) (w := w) hcr hcs hg hv
      exact ⟨u, by simp [execOp, Instr.index, hyi, asIntOf, run_underlying hu, he, sizeOf_ok hsz, hj, hu1], hu2⟩
    · rename_i o q hu ho hq
      injection hc with hc; subst hc
      have hx := cOpd_ok hE ho
      have hy := cOpd_ok hE hq
      simp only [evalP] at hv
      split at hv
      case h_2 => cases hv
      rename_i l k j e1 e2
      split at hv
      case isFalse => cases hv
      rename_i hj
      rw [e1] at hx; rw [e2] at hy
      have hyi := hy.int
      obtain ⟨t', he, hl⟩ := hx.str
      simp only [Option.map_eq_some_iff] at hv; obtain ⟨b, hb, rfl⟩ := hv
      have hb' : ∃ c : UInt8, t'[j.toNat]? = some c ∧ c.toNat = b := by
        rw [← hl] at hb
        simp only [nats, List.getElem?_map, Option.map_eq_some_iff] at hb
        obtain ⟨c, hc1, hc2⟩ := hb
        exact ⟨c, by rw [ba_get]; simpa using hc1, hc2⟩
      obtain ⟨c, hc1, hc2⟩ := hb'
      exact ⟨.int .u8 c.toNat, by simp [execOp, Instr.index, hyi, asIntOf, run_underlying hu, he, hj, hc1], by rw [hc2]; rfl⟩
  case extract x j =>
    cases x with
    | tmp t =>
      simp only [cOp] at hc
      split at hc
      case h_1 => cases hc
      simp only [Option.map_eq_some_iff] at hc; obtain ⟨k, hk, rfl⟩ := hc
      obtain ⟨vs, h1, h2⟩ := hE.loc_ok t k hk
      simp only [evalP, h1] at hv
      split at hv
      case isTrue => cases hv
      rename_i hlen
      have h3 : ∃ us, a.tmps.getD t undef = .tuple us ∧ VRs (shp h) β vs us := by
        unfold RetV at h2
        split at h2
        · simp at hlen
        · exact h2
      obtain ⟨us, hu, hus⟩ := h3
      obtain ⟨u, hu1, hu2⟩ := hus.2 j v hv
      have he : a.eval (.tmp t) = .tuple us := hu
      exact ⟨u, by simp [execOp, he, Instr.extract, hu1], hu2⟩
    | _ => simp [cOp] at hc
  case call c =>
    obtain ⟨callee, args, ats⟩ := c
    cases callee with
    | invoke r m => simp [cOp] at hc
    | value f =>
      cases f with
      | func f => simp only [cOp, Option.map_eq_some_iff] at hc; obtain ⟨_, _, rfl⟩ := hc; simp [evalP] at hv
      | tmp t => simp only [cOp] at hc; split at hc <;> first | (injection hc with hc; subst hc; simp [evalP] at hv; done) | cases hc
      | const t => simp only [cOp] at hc; split at hc <;> first | (injection hc with hc; subst hc; simp [evalP] at hv; done) | cases hc
      | global t => simp only [cOp] at hc; split at hc <;> first | (injection hc with hc; subst hc; simp [evalP] at hv; done) | cases hc
    | builtin b =>
      simp only [cOp] at hc
      exact builtin_ok hE hc hv
  all_goals (simp [cOp] at hc)

end
end Go.Px
