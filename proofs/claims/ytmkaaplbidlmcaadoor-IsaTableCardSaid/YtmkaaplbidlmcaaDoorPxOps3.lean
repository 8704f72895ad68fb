/- Own work over the kit: abstract memory, its rules, and the walk. -/
import Derived.Test.YtmkaaplbidlmcaaDoorPxOps2
set_option linter.unusedVariables false
set_option linter.unusedSimpArgs false
namespace Go.Px

theorem VR.int {sh β} {k n} {v : Value} (h : VR sh β (.s (.i k n)) v) : v = .int k n := h
theorem VR.bool {sh β} {b} {v : Value} (h : VR sh β (.s (.b b)) v) : v = .bool b := h
theorem VR.str {sh β} {l} {v : Value} (h : VR sh β (.s (.s l)) v) : ∃ t, v = .string t ∧ nats t = l := h

section
variable {P : Program} {h : Heap} {β : Beta} {w : World} {E : Env} {fr : List V} {loc : Loc} {a : Act}

/-- A pure operation gives its value and leaves the world alone. -/
def PureOk (P : Program) (h : Heap) (β : Beta) (w : World) (s : Sem Value) (v : V) : Prop :=
  ∃ u, s.run P w = .ok u w ∧ VR (shp h) β v u

theorem bound1 {sh} (hE : EnvR E sh β fr loc a) {x : Option Operand} {o : Option Opd} (hc : cOpt E x = some o) {d m r : Nat} (hb : bnd (rho fr loc) o d m = some r) :
    (x = none ∧ r = d) ∨ ∃ X k i, x = some X ∧ a.eval X = .int k i ∧ 0 ≤ i ∧ i ≤ (m : Int) ∧ r = i.toNat := by
  cases x with
  | none => simp [cOpt] at hc; subst hc; simp [bnd] at hb; exact .inl ⟨rfl, hb.symm⟩
  | some X =>
    simp only [cOpt] at hc
    cases hX : cOpd E X with
    | none => simp [hX] at hc
    | some q =>
      simp [hX] at hc; subst hc
      have hv := cOpd_ok hE hX
      simp only [bnd] at hb
      split at hb
      case h_2 => cases hb
      rename_i k n hq
      rw [hq] at hv
      split at hb
      case isFalse => cases hb
      rename_i hn
      injection hb with hb
      exact .inr ⟨X, k, n, rfl, hv.int, hn.1, hn.2, hb.symm⟩

theorem sliceBounds_ok {sh} (hE : EnvR E sh β fr loc a) {lo hi mx : Option Operand} {l h' m : Option Opd} (hl : cOpt E lo = some l) (hh : cOpt E hi = some h') (hm : cOpt E mx = some m)
    {n c cap M H L : Nat} (isS : Bool) (hc : c ≤ cap) (hn : n ≤ c) (hmh : mx.isSome = true → hi.isSome = true) (b1 : bnd (rho fr loc) m c c = some M) (b2 : bnd (rho fr loc) h' n M = some H) (b3 : bnd (rho fr loc) l 0 H = some L) :
    (Instr.sliceBounds isS n cap (lo.map a.eval) (hi.map a.eval) (mx.map a.eval)).run P w = .ok (L, H, if mx.isSome then M else cap) w ∧ L ≤ H ∧ H ≤ M ∧ M ≤ c := by
  have e1 := bound1 hE hm b1
  have e2 := bound1 hE hh b2
  have e3 := bound1 hE hl b3
  have hHM : H ≤ M := by
    rcases e1 with ⟨rfl, rfl⟩ | ⟨X1, k1, i1, rfl, q1, q2, q3, rfl⟩ <;> rcases e2 with ⟨rfl, rfl⟩ | ⟨X2, k2, i2, rfl, r1, r2, r3, rfl⟩ <;> simp at hmh <;> omega
  have hMc : M ≤ c := by rcases e1 with ⟨rfl, rfl⟩ | ⟨X1, k1, i1, rfl, q1, q2, q3, rfl⟩ <;> omega
  have hLH : L ≤ H := by rcases e3 with ⟨rfl, rfl⟩ | ⟨X1, k1, i1, rfl, q1, q2, q3, rfl⟩ <;> omega
  refine ⟨?_, hLH, hHM, hMc⟩
  unfold Instr.sliceBounds
  rcases e1 with ⟨rfl, rfl⟩ | ⟨X1, k1, i1, rfl, q1, q2, q3, rfl⟩
  · rcases e2 with ⟨rfl, rfl⟩ | ⟨X2, k2, i2, rfl, r1, r2, r3, rfl⟩
    · rcases e3 with ⟨rfl, rfl⟩ | ⟨X3, k3, i3, rfl, s1, s2, s3, rfl⟩
      · simp
      · simp [s1, run_sliceBound _ k3 i3 H _ s2 s3]
    · have r3' : i2 ≤ (cap : Int) := by omega
      rcases e3 with ⟨rfl, rfl⟩ | ⟨X3, k3, i3, rfl, s1, s2, s3, rfl⟩
      · simp [r1, run_sliceBound _ k2 i2 cap _ r2 r3']
      · simp [r1, s1, run_sliceBound _ k2 i2 cap _ r2 r3', run_sliceBound _ k3 i3 i2.toNat _ s2 s3]
  · have q3' : i1 ≤ (cap : Int) := by omega
    rcases e2 with ⟨rfl, rfl⟩ | ⟨X2, k2, i2, rfl, r1, r2, r3, rfl⟩
    · simp at hmh
    · rcases e3 with ⟨rfl, rfl⟩ | ⟨X3, k3, i3, rfl, s1, s2, s3, rfl⟩
      · simp [q1, r1, run_sliceBound _ k1 i1 cap _ q2 q3', run_sliceBound _ k2 i2 i1.toNat _ r2 r3]
      · simp [q1, r1, s1, run_sliceBound _ k1 i1 cap _ q2 q3', run_sliceBound _ k2 i2 i1.toNat _ r2 r3, run_sliceBound _ k3 i3 i2.toNat _ s2 s3]

theorem nats_extract (t : ByteArray) (l h : Nat) : nats (t.extract l h) = ((nats t).take h).drop l := by
  unfold nats
  rw [ByteArray.data_extract]
  simp [List.map_take, List.map_drop, List.extract_eq_take_drop, List.drop_take]

theorem sstr_ok {sh} (hE : EnvR E sh β fr loc a) {x : Operand} {lo hi : Option Operand} {o : Opd} {l h' : Option Opd} {t : TypeId} (ht : P.underlying t = some .string) (hx : cOpd E x = some o) (hl : cOpt E lo = some l) (hh : cOpt E hi = some h')
    {v : V} (hv : evalP h (rho fr loc) loc (.sstr o l h') = some v) : ∃ u, (Instr.sliceAt t (a.eval x) (lo.map a.eval) (hi.map a.eval) (Option.map a.eval none)).run P w = .ok u w ∧ VR sh β v u := by
  have hX := cOpd_ok hE hx
  simp only [evalP] at hv
  split at hv
  case h_2 => cases hv
  rename_i s hs
  rw [hs] at hX
  obtain ⟨b, hb, hbs⟩ := hX.str
  split at hv
  case h_2 => cases hv
  rename_i H h2
  split at hv
  case h_2 => cases hv
  rename_i L h3
  injection hv with hv; subst hv
  have hlen : s.length = b.size := by rw [← hbs, nats_length]
  have hm : cOpt E none = some none := rfl
  obtain ⟨k1, k2, k3, k4⟩ := sliceBounds_ok (P := P) (w := w) hE hl hh hm (n := s.length) (c := s.length) (cap := s.length) (M := s.length) (H := H) (L := L) false (Nat.le_refl _) (Nat.le_refl _) (by simp) rfl h2 h3
  refine ⟨.string (b.extract L H), ?_, b.extract L H, rfl, ?_⟩
  · rw [hlen] at k1
    simp only [Option.map_none] at k1
    simp [Instr.sliceAt, run_underlying ht, Instr.slice, hb, k1]
  · show nats _ = _
    rw [nats_extract, hbs]

theorem ssl_ok (hE : EnvR E (shp h) β fr loc a) {x : Operand} {lo hi mx : Option Operand} {o : Opd} {l h' m : Option Opd} {t e : TypeId} {sz : Nat} (ht : P.underlying t = some (.slice e)) (hsz : sizeOf' P e = some sz) (hx : cOpd E x = some o)
    (hl : cOpt E lo = some l) (hh : cOpt E hi = some h') (hm : cOpt E mx = some m) (hmh : mx.isSome = true → hi.isSome = true)
    {v : V} (hv : evalP h (rho fr loc) loc (.ssl sz o l h' m) = some v) : ∃ u, (Instr.sliceAt t (a.eval x) (lo.map a.eval) (hi.map a.eval) (mx.map a.eval)).run P w = .ok u w ∧ VR (shp h) β v u := by
  have hX := cOpd_ok hE hx
  simp only [evalP] at hv
  split at hv
  case h_3 => cases hv
  · rename_i hs
    rw [hs] at hX
    have hX' : a.eval x = .slice none 0 0 := hX
    split at hv
    case h_2 => cases hv
    rename_i M H L b1 b2 b3
    injection hv with hv; subst hv
    have e1 := bound1 hE hm b1
    have hM : M = 0 := by rcases e1 with ⟨rfl, rfl⟩ | ⟨X1, k1, i1, rfl, q1, q2, q3, rfl⟩ <;> omega
    subst hM
    have e2 := bound1 hE hh b2
    have hH : H = 0 := by rcases e2 with ⟨rfl, rfl⟩ | ⟨X1, k1, i1, rfl, q1, q2, q3, rfl⟩ <;> omega
    subst hH
    obtain ⟨k1, k2, k3, k4⟩ := sliceBounds_ok (P := P) (w := w) hE hl hh hm (cap := 0) true (Nat.le_refl _) (Nat.le_refl _) hmh b1 b2 b3
    have hL : L = 0 := by omega
    subst hL
    refine ⟨.slice none 0 0, ?_, rfl⟩
    simp [Instr.sliceAt, run_underlying ht, Instr.slice, hX', k1, sizeOf_ok hsz]
  · rename_i r g off sz' n c ex hs
    rw [hs] at hX
    split at hv
    case isFalse => cases hv
    rename_i hszz; subst hszz
    obtain ⟨s, ad, cap, h1, h2, h3, h4, h5, h6, h7, h8⟩ := hX
    split at hv
    case h_2 => cases hv
    rename_i M b1
    split at hv
    case h_2 => cases hv
    rename_i H b2
    split at hv
    case h_2 => cases hv
    rename_i L b3
    injection hv with hv; subst hv
    obtain ⟨k1, k2, k3, k4⟩ := sliceBounds_ok (P := P) (w := w) hE hl hh hm (cap := cap) true h5 h4 hmh b1 b2 b3
    have e1 := bound1 hE hm b1
    generalize hM' : (if mx.isSome then M else cap) = M' at k1
    have hMM : M ≤ M' ∧ M' ≤ cap := by
      rcases e1 with ⟨rfl, rfl⟩ | ⟨X1, q0, i1, rfl, q1, q2, q3, rfl⟩ <;> simp at hM' <;> omega
    have hex : (ex || m.isSome) = true → M' = M := by
      intro hx'
      rcases e1 with ⟨rfl, rfl⟩ | ⟨X1, q0, i1, rfl, q1, q2, q3, rfl⟩
      · simp at hM'
        simp [cOpt] at hm; subst hm
        simp at hx'
        have := h7 hx'
        omega
      · simp at hM'; omega
    refine ⟨.slice (some (if M' = L then ad else ad.add (L * sz'))) (H - L) (M' - L), ?_, s, _, _, h1, h2, rfl, by omega, by omega, by omega, ?_, ?_⟩
    · simp only [Instr.sliceAt, Sem.run_bind, run_underlying ht, Result.andThen_ok, Instr.slice, h3, k1, sizeOf_ok hsz]
      split <;> rfl
    · intro hx'; rw [hex hx']
    · intro hg
      obtain ⟨p1, p2, p3⟩ := h8 hg
      refine ⟨fun h0 => ?_, ?_, ?_⟩
      · rw [if_neg (by omega), p1 (by omega), add_none]; congr 1; omega
      · have : (M - L) * sz' + L * sz' ≤ c * sz' := by rw [← Nat.add_mul]; exact Nat.mul_le_mul_right _ (by omega)
        omega
      · intro hrw
        have := p3 hrw
        have : (M' - L) * sz' + L * sz' ≤ cap * sz' := by rw [← Nat.add_mul]; exact Nat.mul_le_mul_right _ (by omega)
        omega

end
end Go.Px
