/- Own work over the kit: abstract memory, its rules, and the walk. -/
import Derived.Test.YtmkaaplbidlmcaaDoorPxSound
set_option linter.unusedVariables false
set_option linter.unusedSimpArgs false
namespace Go.Px

/-! ### memory told anew: fewer rows, other numbers, less known of slices -/
def WkRef (sh1 sh2 : List Sh) (σ : Nat → Nat) (r g o r' g' o' : Nat) : Prop :=
  ∃ s1 s2, sh1[r]? = some s1 ∧ sh2[r']? = some s2 ∧ σ r' = r ∧ ((g' = g ∧ o' = o ∧ s2.gen = s1.gen) ∨ (g' ≤ s2.gen ∧ (g' = s2.gen → g = s1.gen ∧ o = o')))

def Wk (sh1 sh2 : List Sh) (σ : Nat → Nat) : S → S → Prop
  | .p r g o, .p r' g' o' => WkRef sh1 sh2 σ r g o r' g' o'
  | .sl r g o sz n c e, .sl r' g' o' sz' n' c' e' => WkRef sh1 sh2 σ r g o r' g' o' ∧ sz = sz' ∧ n = n' ∧ (n ≤ c' ∨ c' = c) ∧ c' ≤ c ∧ (e' = true → e = true ∧ c' = c)
  | .f fn caps, .f fn' caps' => fn = fn' ∧ caps.length = caps'.length ∧ ∀ (j : Nat) (c c' : Nat × Nat × Nat), caps[j]? = some c → caps'[j]? = some c' → WkRef sh1 sh2 σ c.1 c.2.1 c.2.2 c'.1 c'.2.1 c'.2.2
  | x, y => x = y

def WkL (sh1 sh2 : List Sh) (σ : Nat → Nat) (l m : List S) : Prop := l.length = m.length ∧ ∀ (j : Nat) (x y : S), l[j]? = some x → m[j]? = some y → Wk sh1 sh2 σ x y

def VWk (sh1 sh2 : List Sh) (σ : Nat → Nat) : V → V → Prop
  | .s x, .s y => Wk sh1 sh2 σ x y
  | .a l, .a m => WkL sh1 sh2 σ l m
  | .u, .u => True
  | _, .any => True
  | _, _ => False

def VsWk (sh1 sh2 : List Sh) (σ : Nat → Nat) (l m : List V) : Prop := l.length = m.length ∧ ∀ (j : Nat) (x y : V), l[j]? = some x → m[j]? = some y → VWk sh1 sh2 σ x y

structure Tidy (n0 : Nat) (h1 h2 : Heap) (σ : Nat → Nat) : Prop where
  low : ∀ r, r < n0 → σ r = r
  len : n0 ≤ h2.length
  rows : ∀ r row2, h2[r]? = some row2 → ∃ row1, h1[σ r]? = some row1 ∧ row1.rw = row2.rw ∧ (r < n0 → row1.gen = row2.gen) ∧ (n0 ≤ r → n0 ≤ σ r) ∧ WkL (shp h1) (shp h2) σ row1.cells row2.cells
  inj : ∀ r r', r < h2.length → r' < h2.length → σ r = σ r' → r = r'
  glob : ∀ r row2, n0 ≤ r → h2[r]? = some row2 → row2.rw = false → 0 < row2.gen → False

structure ShOk (sh1 sh2 : List Sh) (σ : Nat → Nat) (β1 β2 : Beta) : Prop where
  beta : ∀ r, r < sh2.length → β2 r = β1 (σ r)
  sh : ∀ (r : Nat) (s2 : Sh), sh2[r]? = some s2 → ∃ s1, sh1[σ r]? = some s1 ∧ s1.rw = s2.rw ∧ s1.len = s2.len

theorem PR.wk {sh1 sh2 σ β1 β2} (hk : ShOk sh1 sh2 σ β1 β2) {r g o r' g' o' : Nat} {v : Value} (hw : WkRef sh1 sh2 σ r g o r' g' o') (hv : PR sh1 β1 r g o v) : PR sh2 β2 r' g' o' v := by
  obtain ⟨s1, s2, h1, h2, rfl, hc⟩ := hw
  obtain ⟨s, a, e1, e2, rfl, e3⟩ := hv
  rw [h1] at e1; injection e1 with e1; subst e1
  obtain ⟨h3, h4⟩ : g' ≤ s2.gen ∧ (g' = s2.gen → g = s1.gen ∧ o = o') := by
    rcases hc with ⟨rfl, rfl, q⟩ | q
    · exact ⟨by omega, fun z => ⟨by omega, rfl⟩⟩
    · exact q
  refine ⟨s2, a, h2, h3, rfl, fun e => ?_⟩
  obtain ⟨q1, rfl⟩ := h4 e
  rw [hk.beta r' (List.getElem?_eq_some_iff.1 h2).1]
  exact e3 q1

theorem SR.wk {sh1 sh2 σ β1 β2} (hk : ShOk sh1 sh2 σ β1 β2) {x y : S} {v : Value} (hw : Wk sh1 sh2 σ x y) (hv : SR sh1 β1 x v) : SR sh2 β2 y v := by
  cases x <;> cases y <;> simp only [Wk] at hw <;> first | exact S.noConfusion hw | skip
  case b.b => cases hw; exact hv
  case i.i => cases hw; exact hv
  case s.s => cases hw; exact hv
  case p.p => exact PR.wk hk hw hv
  case np.np => exact hv
  case sl.sl r g o sz n c e r' g' o' sz' n' c' e' =>
    obtain ⟨⟨s1, s2, h1, h2, rfl, hc⟩, rfl, rfl, k1, k2, k3⟩ := hw
    obtain ⟨s, a, cap, e1, e2, rfl, q1, q2, q3, q4, q5⟩ := hv
    rw [h1] at e1; injection e1 with e1; subst e1
    obtain ⟨h3, h4⟩ : g' ≤ s2.gen ∧ (g' = s2.gen → g = s1.gen ∧ o = o') := by
      rcases hc with ⟨rfl, rfl, q⟩ | q
      · exact ⟨by omega, fun z => ⟨by omega, rfl⟩⟩
      · exact q
    refine ⟨s2, a, cap, h2, h3, rfl, by omega, by omega, q3, fun e => ?_, fun e => ?_⟩
    · obtain ⟨z1, rfl⟩ := k3 e; exact q4 z1
    · obtain ⟨z1, rfl⟩ := h4 e
      obtain ⟨z2, z3, z4⟩ := q5 z1
      obtain ⟨s1', t1, t2, t3⟩ := hk.sh r' s2 h2
      rw [h1] at t1; injection t1 with t1; subst t1
      rw [hk.beta r' (List.getElem?_eq_some_iff.1 h2).1]
      refine ⟨z2, ?_, fun hrw => z4 (t2.trans hrw)⟩
      have : c' * sz ≤ c * sz := Nat.mul_le_mul_right _ k2
      omega
  case nsl.nsl => exact hv
  case f.f fn caps fn' caps' =>
    obtain ⟨rfl, hl, hw⟩ := hw
    obtain ⟨vs, rfl, h1, h2⟩ := hv
    refine ⟨vs, rfl, h1.trans hl, fun j c' hc' => ?_⟩
    have hj : j < caps.length := by rw [hl]; exact (List.getElem?_eq_some_iff.1 hc').1
    obtain ⟨u, hu, hp⟩ := h2 j caps[j] (List.getElem?_eq_getElem hj)
    exact ⟨u, hu, PR.wk hk (hw j _ c' (List.getElem?_eq_getElem hj) hc') hp⟩
  case nf.nf => exact hv

theorem CR.wk {sh1 sh2 σ β1 β2} (hk : ShOk sh1 sh2 σ β1 β2) {l m : List S} {cs : Array Value} {off : Nat} (hw : WkL sh1 sh2 σ l m) (hv : CR sh1 β1 l cs off) : CR sh2 β2 m cs off := fun j y hj => by
  have hlt : j < l.length := by rw [hw.1]; exact (List.getElem?_eq_some_iff.1 hj).1
  obtain ⟨u, hu, hs⟩ := hv j l[j] (List.getElem?_eq_getElem hlt)
  exact ⟨u, hu, hs.wk hk (hw.2 j _ y (List.getElem?_eq_getElem hlt) hj)⟩

theorem VR.wk {sh1 sh2 σ β1 β2} (hk : ShOk sh1 sh2 σ β1 β2) {x y : V} {v : Value} (hw : VWk sh1 sh2 σ x y) (hv : VR sh1 β1 x v) : VR sh2 β2 y v := by
  cases x <;> cases y <;> simp only [VWk] at hw <;> first | exact hw.elim | exact trivial | skip
  case s.s => exact SR.wk hk hw hv
  case a.a l m =>
    obtain ⟨cs, rfl, h1, h2⟩ := hv
    exact ⟨cs, rfl, h1.trans hw.1, h2.wk hk hw⟩
  case u.u => exact hv

theorem RetV.wk {sh1 sh2 σ β1 β2} (hk : ShOk sh1 sh2 σ β1 β2) {x y : List V} {v : Value} (hw : VsWk sh1 sh2 σ x y) (hv : RetV sh1 β1 x v) : RetV sh2 β2 y v := by
  unfold RetV at hv ⊢
  obtain ⟨hl, hw⟩ := hw
  split at hv
  · rename_i a
    obtain ⟨b, rfl⟩ := List.length_eq_one_iff.1 hl.symm
    exact VR.wk hk (hw 0 a b rfl rfl) hv
  · rename_i hx
    obtain ⟨vs, rfl, h1, h2⟩ := hv
    split
    · rename_i b
      obtain ⟨a, rfl⟩ := List.length_eq_one_iff.1 hl
      exact absurd rfl (hx a)
    · refine ⟨vs, rfl, h1.trans hl, fun j y hj => ?_⟩
      have hlt : j < x.length := by rw [hl]; exact (List.getElem?_eq_some_iff.1 hj).1
      obtain ⟨u, hu, hs⟩ := h2 j x[j] (List.getElem?_eq_getElem hlt)
      exact ⟨u, hu, hs.wk hk (hw j _ y (List.getElem?_eq_getElem hlt) hj)⟩

theorem Tidy.shOk {n0 h1 h2 σ} (ht : Tidy n0 h1 h2 σ) (β1 : Beta) : ShOk (shp h1) (shp h2) σ β1 (fun r => β1 (σ r)) := by
  refine ⟨fun _ _ => rfl, fun r s2 hs => ?_⟩
  rw [shp_get, Option.map_eq_some_iff] at hs
  obtain ⟨row2, e, rfl⟩ := hs
  obtain ⟨row1, h1', h2', h3, h4, h5⟩ := ht.rows r row2 e
  exact ⟨row1.sh, shp_some h1', h2', h5.1⟩

theorem tidy_rel {n h β w h1 β1 w1 h2 σ} (hR : Rel h1 β1 w1) (hS : Step n h β w h1 β1 w1) (ht : Tidy h.length h1 h2 σ) :
    Rel h2 (fun r => β1 (σ r)) w1 ∧ Step n h β w h2 (fun r => β1 (σ r)) w1 := by
  have hk := ht.shOk β1
  have hsh : ∀ r s, (shp h)[r]? = some s → r < h.length := fun r s hs => by have := (List.getElem?_eq_some_iff.1 hs).1; rwa [shp_length] at this
  constructor
  · constructor
    · intro r row2 e
      obtain ⟨row1, e1, erw, egn, elo, ew⟩ := ht.rows r row2 e
      obtain ⟨cs, el, fz, q1, q2, q3, q4, q5⟩ := hR.row _ row1 e1
      exact ⟨cs, el, fz, q1, q2, by rw [← ew.1]; exact q3, q4.wk hk ew, fun hrw => q5 (erw.trans hrw)⟩
    · intro r r' row row' e e' hne hrw
      obtain ⟨row1, e1, erw, egn, elo, ew⟩ := ht.rows r row e
      obtain ⟨row1', e1', erw', egn', elo', ew'⟩ := ht.rows r' row' e'
      exact hR.sep _ _ _ _ e1 e1' (fun q => hne (ht.inj r r' (List.getElem?_eq_some_iff.1 e).1 (List.getElem?_eq_some_iff.1 e').1 q)) (erw.trans hrw)
    · intro r row e hw hg
      obtain ⟨row1, e1, erw, egn, elo, ew⟩ := ht.rows r row e
      by_cases hlt : r < h.length
      · exact hR.glob _ row1 e1 (erw.trans hw) (by rw [egn hlt]; exact hg) |>.imp (fun q => by rw [q, egn hlt]) (And.imp id fun q => by rw [q, ew.1])
      · exact (ht.glob r row (by omega) e hw hg).elim
  · refine ⟨hS.os, hS.tape, hS.output, hS.size, ?_, ?_, ?_, hS.frame⟩
    · intro r s hs
      have hlt := hsh r s hs
      obtain ⟨s1, e1, e2, e3, e4⟩ := hS.evo r s hs
      have hlt2 : r < h2.length := Nat.lt_of_lt_of_le hlt ht.len
      obtain ⟨row1, f1, f2, f3, f4, f5⟩ := ht.rows r h2[r] (List.getElem?_eq_getElem hlt2)
      rw [ht.low r hlt] at f1
      have : s1 = row1.sh := by rw [shp_some f1] at e1; injection e1 with e1; exact e1.symm
      subst this
      have hsame : (h2[r]).sh = row1.sh := by simp only [Row.sh, f2, f3 hlt, f5.1]
      refine ⟨row1.sh, ?_, e2, e3, fun g => ?_⟩
      · rw [shp_some (List.getElem?_eq_getElem hlt2), hsame]
      · obtain ⟨g1, g2⟩ := e4 g
        exact ⟨g1, by simp only [ht.low r hlt]; exact g2⟩
    · intro r s hs
      simp only [ht.low r (hsh r s hs)]
      exact hS.old r s hs
    · intro r s hr hs
      rw [shp_get, Option.map_eq_some_iff] at hs
      obtain ⟨row2, e, rfl⟩ := hs
      obtain ⟨row1, f1, f2, f3, f4, f5⟩ := ht.rows r row2 e
      exact hS.new (σ r) row1.sh (f4 hr) (shp_some f1)

def S.refs : S → List Nat
  | .p r _ _ => [r]
  | .sl r _ _ _ _ _ _ => [r]
  | .f _ caps => caps.map (·.1)
  | _ => []
/-- References lie within. -/
def HSc (h : Heap) : Prop := ∀ (r : Nat) (row : Row) (j : Nat) (x : S), h[r]? = some row → row.cells[j]? = some x → ∀ q ∈ x.refs, q < h.length
theorem SR.refs_lt {sh β} {x : S} {v : Value} (h : SR sh β x v) : ∀ q ∈ x.refs, q < sh.length := by
  cases x <;> simp only [S.refs, List.mem_singleton, List.not_mem_nil, false_imp_iff, implies_true, List.mem_map]
  case p => rintro q rfl; obtain ⟨s, a, hs, _⟩ := h; exact (List.getElem?_eq_some_iff.1 hs).1
  case sl => rintro q rfl; obtain ⟨s, a, cap, hs, _⟩ := h; exact (List.getElem?_eq_some_iff.1 hs).1
  case f fn caps =>
    rintro q ⟨c, hc, rfl⟩
    obtain ⟨vs, _, _, h2⟩ := h
    obtain ⟨j, hj, rfl⟩ := List.mem_iff_getElem.1 hc
    obtain ⟨u, _, s, a, hs, _⟩ := h2 j _ (List.getElem?_eq_getElem hj)
    exact (List.getElem?_eq_some_iff.1 hs).1
theorem Rel.hsc {h β w} (hR : Rel h β w) : HSc h := fun r row j x e hx => by
  obtain ⟨u, _, hs⟩ := hR.cell e hx
  have := hs.refs_lt
  rw [shp_length] at this
  exact this

theorem ACalls.tidy {P n f args h R1 R} (a : ACalls P n f args h R1)
    (ht : HSc h → ∀ rets h1, R1 rets h1 → ∃ rets2 h2 σ, Tidy h.length h1 h2 σ ∧ VsWk (shp h1) (shp h2) σ rets rets2 ∧ R rets2 h2) : ACalls P n f args h R :=
  ⟨a.1, fun w β vs h1 h2 => (a.2 w β vs h1 h2).mono fun e w' ⟨rets, h', β', v, e1, e2, e3, e4, e5⟩ => by
    obtain ⟨rets2, h2', σ, t1, t2, t3⟩ := ht h1.hsc rets h' e2
    obtain ⟨q1, q2⟩ := tidy_rel e4 e5 t1
    exact ⟨rets2, h2', _, v, e1, t3, e3.wk (t1.shOk β') t2, q1, q2⟩⟩

/-! ### from little memory to more: rows from the m-th on are counted k on -/
def shr (m k r : Nat) : Nat := if r < m then r else r + k
def S.shift (m k : Nat) : S → S
  | .p r g o => .p (shr m k r) g o
  | .sl r g o sz n c e => .sl (shr m k r) g o sz n c e
  | .f fn caps => .f fn (caps.map fun c => (shr m k c.1, c.2))
  | x => x
def V.shift (m k : Nat) : V → V
  | .s x => .s (x.shift m k)
  | .a l => .a (l.map (S.shift m k))
  | x => x
def Row.shift (m k : Nat) (r : Row) : Row := { r with cells := r.cells.map (S.shift m k) }
def S.inB (n0 : Nat) (x : S) : Bool := x.refs.all fun r => Nat.blt r n0
def V.inB (n0 : Nat) : V → Bool
  | .s x => x.inB n0
  | .a l => l.all (S.inB n0)
  | _ => true
def Pre (G H : Heap) : Prop := ∀ (r : Nat) (row : Row), G[r]? = some row → H[r]? = some row
theorem Pre.len {G H : Heap} (hp : Pre G H) : G.length ≤ H.length := by
  rcases Nat.eq_zero_or_pos G.length with h | h
  · omega
  · have := hp (G.length - 1) _ (List.getElem?_eq_getElem (by omega))
    have := (List.getElem?_eq_some_iff.1 this).1
    omega
theorem Pre.refl (G : Heap) : Pre G G := fun _ _ h => h
theorem Pre.nil (H : Heap) : Pre [] H := fun _ _ h => by simp at h
theorem Pre.append {G H : Heap} (hp : Pre G H) (g : Heap) : Pre G (H ++ g) := fun r row h => by
  have := hp r row h
  rw [List.getElem?_append_left (List.getElem?_eq_some_iff.1 this).1]; exact this

theorem PR.low {sh sh' β} {m : Nat} (hs : ∀ (r : Nat) (s : Sh), r < m → sh[r]? = some s → sh'[r]? = some s) {r g o : Nat} {v : Value} (hr : r < m) (hv : PR sh β r g o v) : PR sh' β r g o v := by
  obtain ⟨s, a, e1, e2, e3⟩ := hv
  exact ⟨s, a, hs r s hr e1, e2, e3⟩
theorem blt_lt {a b : Nat} (h : Nat.blt a b = true) : a < b := by simp [Nat.blt] at h; omega
theorem SR.low {sh sh' β} {m : Nat} (hs : ∀ (r : Nat) (s : Sh), r < m → sh[r]? = some s → sh'[r]? = some s) {x : S} {v : Value} (hn : x.inB m = true) (hv : SR sh β x v) : SR sh' β x v := by
  cases x <;> simp only [S.inB, S.refs] at hn <;> try exact hv
  case p => exact PR.low hs (blt_lt (by simpa using hn)) hv
  case sl r g o sz n c e =>
    obtain ⟨s, a, cap, e1, e2⟩ := hv
    exact ⟨s, a, cap, hs r s (blt_lt (by simpa using hn)) e1, e2⟩
  case f fn caps =>
    obtain ⟨vs, rfl, h1, h2⟩ := hv
    refine ⟨vs, rfl, h1, fun j c hc => ?_⟩
    obtain ⟨u, hu, hp⟩ := h2 j c hc
    exact ⟨u, hu, hp.low hs (blt_lt ((List.all_eq_true.1 hn) c.1 (List.mem_map_of_mem (List.mem_of_getElem? hc))))⟩
theorem VR.low {sh sh' β} {m : Nat} (hs : ∀ (r : Nat) (s : Sh), r < m → sh[r]? = some s → sh'[r]? = some s) {x : V} {v : Value} (hn : x.inB m = true) (hv : VR sh β x v) : VR sh' β x v := by
  cases x <;> simp only [VR] at hv ⊢
  case s x => exact SR.low hs hn hv
  case a l =>
    obtain ⟨cs, rfl, h1, h2⟩ := hv
    refine ⟨cs, rfl, h1, fun j x hj => ?_⟩
    obtain ⟨u, hu, hsr⟩ := h2 j x hj
    exact ⟨u, hu, hsr.low hs ((List.all_eq_true.1 hn) x (List.mem_of_getElem? hj))⟩
  case u => exact hv
theorem VRs.low {sh sh' β} {m : Nat} (hs : ∀ (r : Nat) (s : Sh), r < m → sh[r]? = some s → sh'[r]? = some s) {l : List V} {vs : Array Value} (hn : l.all (V.inB m) = true) (hv : VRs sh β l vs) : VRs sh' β l vs :=
  ⟨hv.1, fun j x hj => let ⟨u, hu, h2⟩ := hv.2 j x hj; ⟨u, hu, h2.low hs ((List.all_eq_true.1 hn) x (List.mem_of_getElem? hj))⟩⟩

structure Shf (m k : Nat) (sh1 sh2 : List Sh) (β1 β2 : Beta) : Prop where
  sh : ∀ (r : Nat) (s : Sh), sh1[r]? = some s → sh2[shr m k r]? = some s ∧ β2 (shr m k r) = β1 r

theorem PR.shift {m k sh1 sh2 β1 β2} (hk : Shf m k sh1 sh2 β1 β2) {r g o : Nat} {v : Value} (hv : PR sh1 β1 r g o v) : PR sh2 β2 (shr m k r) g o v := by
  obtain ⟨s, a, e1, e2, rfl, e3⟩ := hv
  obtain ⟨k1, k2⟩ := hk.sh r s e1
  exact ⟨s, a, k1, e2, rfl, by rw [k2]; exact e3⟩
theorem SR.shift {m k sh1 sh2 β1 β2} (hk : Shf m k sh1 sh2 β1 β2) {x : S} {v : Value} (hv : SR sh1 β1 x v) : SR sh2 β2 (x.shift m k) v := by
  cases x <;> simp only [S.shift] <;> try exact hv
  case p => exact PR.shift hk hv
  case sl r g o sz n c e =>
    obtain ⟨s, a, cap, e1, e2, rfl, q1, q2, q3, q4, q5⟩ := hv
    obtain ⟨k1, k2⟩ := hk.sh r s e1
    exact ⟨s, a, cap, k1, e2, rfl, q1, q2, q3, q4, by rw [k2]; exact q5⟩
  case f fn caps =>
    obtain ⟨vs, rfl, h1, h2⟩ := hv
    refine ⟨vs, rfl, by simpa using h1, fun j c hc => ?_⟩
    rw [List.getElem?_map, Option.map_eq_some_iff] at hc
    obtain ⟨c0, hc0, rfl⟩ := hc
    obtain ⟨u, hu, hp⟩ := h2 j c0 hc0
    exact ⟨u, hu, PR.shift hk hp⟩
theorem CR.shift {m k sh1 sh2 β1 β2} (hk : Shf m k sh1 sh2 β1 β2) {l : List S} {cs : Array Value} {off : Nat} (hv : CR sh1 β1 l cs off) : CR sh2 β2 (l.map (S.shift m k)) cs off := fun j y hj => by
  rw [List.getElem?_map, Option.map_eq_some_iff] at hj
  obtain ⟨x, hx, rfl⟩ := hj
  obtain ⟨u, hu, hs⟩ := hv j x hx
  exact ⟨u, hu, hs.shift hk⟩
theorem VR.shift {m k sh1 sh2 β1 β2} (hk : Shf m k sh1 sh2 β1 β2) {x : V} {v : Value} (hv : VR sh1 β1 x v) : VR sh2 β2 (x.shift m k) v := by
  cases x <;> simp only [V.shift, VR] at hv ⊢
  case s => exact SR.shift hk hv
  case a l =>
    obtain ⟨cs, rfl, h1, h2⟩ := hv
    exact ⟨cs, rfl, by simpa using h1, h2.shift hk⟩
  case u => exact hv
theorem RetV.shift {m k sh1 sh2 β1 β2} (hk : Shf m k sh1 sh2 β1 β2) {x : List V} {v : Value} (hv : RetV sh1 β1 x v) : RetV sh2 β2 (x.map (V.shift m k)) v := by
  unfold RetV at hv ⊢
  split at hv
  · exact VR.shift hk hv
  · rename_i hx
    obtain ⟨vs, rfl, h1, h2⟩ := hv
    split
    · rename_i b hb
      have : x.length = 1 := by have := congrArg List.length hb; simpa using this
      obtain ⟨a, rfl⟩ := List.length_eq_one_iff.1 this
      exact absurd rfl (hx a)
    · refine ⟨vs, rfl, by simpa using h1, fun j y hj => ?_⟩
      rw [List.getElem?_map, Option.map_eq_some_iff] at hj
      obtain ⟨z, hz, rfl⟩ := hj
      obtain ⟨u, hu, hs⟩ := h2 j z hz
      exact ⟨u, hu, hs.shift hk⟩

theorem Row.shift_sh (m k : Nat) (r : Row) : (r.shift m k).sh = r.sh := by simp [Row.shift, Row.sh]

/-- Memory in which the call has run; what it does there it does wherever that lies. -/
theorem ACalls.lift {P n f args} {rets : List V} {G g : Heap} (a : ACalls P n f args G (fun r h => r = rets ∧ h = G ++ g)) (hGn : G.length ≤ n)
    (hG : (G.all fun row => row.cells.all (S.inB G.length)) = true) (hn : args.all (V.inB G.length) = true) (hrw : g.all Row.rw = true) (H : Heap) (hp : Pre G H) :
    ACalls P H.length f args H (fun r h => r = rets.map (V.shift G.length (H.length - G.length)) ∧ h = H ++ g.map (Row.shift G.length (H.length - G.length))) := by
  refine ⟨a.1, fun w β vs hR hv => ?_⟩
  have hle := hp.len
  have hlow : ∀ (r : Nat) (s : Sh), r < G.length → (shp H)[r]? = some s → (shp G)[r]? = some s := fun r s hr hs => by
    rw [shp_some (hp r _ (List.getElem?_eq_getElem hr))] at hs
    rw [shp_some (List.getElem?_eq_getElem hr)]; exact hs
  have hR0 : Rel G β w := by
    refine ⟨fun r row e => ?_, fun r r' row row' e e' hne hrw => hR.sep _ _ _ _ (hp r row e) (hp r' row' e') hne hrw, fun r row e => hR.glob r row (hp r row e)⟩
    obtain ⟨cs, el, fz, q1, q2, q3, q4, q5⟩ := hR.row r row (hp r row e)
    refine ⟨cs, el, fz, q1, q2, q3, fun j x hj => ?_, q5⟩
    obtain ⟨u, hu, hs⟩ := q4 j x hj
    exact ⟨u, hu, hs.low hlow ((List.all_eq_true.1 ((List.all_eq_true.1 hG) row (List.mem_of_getElem? e))) x (List.mem_of_getElem? hj))⟩
  refine (a.2 w β vs hR0 (hv.low hlow hn)).mono ?_
  rintro e w' ⟨rets0, g0, β', v, rfl, ⟨hr0, hg0⟩, hret, hR', hS⟩
  rw [hr0] at hret; rw [hg0] at hret hR' hS
  let k := H.length - G.length
  let β2 : Beta := fun r => if r < H.length then β r else β' (r - k)
  let h' : Heap := H ++ g.map (Row.shift G.length k)
  have hfr : ∀ b, b < w.heap.size → w'.heap[b]? = w.heap[b]? := fun b hb => hS.frame b hb (by
    intro r s hr hs
    have := (List.getElem?_eq_some_iff.1 hs).1
    rw [shp_length] at this; omega)
  have hlo : ∀ r, r < H.length → β2 r = β r := fun r hr => by simp [β2, hr]
  have hhi : ∀ r, G.length ≤ r → β2 (r + k) = β' r := fun r hr => by simp [β2, k, show ¬ r + (H.length - G.length) < H.length by omega]
  have hsame : ∀ r, r < G.length → β' r = β r := fun r hr => by
    obtain ⟨s', e1, e2, e3, e4⟩ := hS.evo r _ (shp_some (List.getElem?_eq_getElem hr))
    rw [shp_append, List.getElem?_append_left (by rwa [shp_length]), shp_some (List.getElem?_eq_getElem hr)] at e1
    injection e1 with e1
    exact (e4 (by rw [← e1])).2
  have hk : Shf G.length k (shp (G ++ g)) (shp h') β' β2 := by
    refine ⟨fun r s hs => ?_⟩
    rw [shp_get, Option.map_eq_some_iff] at hs
    obtain ⟨row, e, rfl⟩ := hs
    unfold shr
    by_cases hr : r < G.length
    · rw [if_pos hr]
      rw [List.getElem?_append_left hr] at e
      have := (hp.append (g.map (Row.shift G.length k))) r row e
      exact ⟨shp_some this, by rw [hlo r (by omega), hsame r hr]⟩
    · rw [if_neg hr]
      rw [List.getElem?_append_right (by omega)] at e
      have : h'[r + k]? = some (row.shift G.length k) := by
        simp only [h', k]
        rw [List.getElem?_append_right (by omega), List.getElem?_map, show r + (H.length - G.length) - H.length = r - G.length by omega, e]; rfl
      exact ⟨by rw [shp_some this, Row.shift_sh], hhi r (by omega)⟩
  have hev : Evo (shp H) β (shp h') β2 := evo_append _ (fun r hr => hlo r (by rwa [shp_length] at hr)) (shp_append _ _)
  have get : ∀ (r : Nat) (row : Row), h'[r]? = some row → (r < H.length ∧ H[r]? = some row) ∨ (∃ r0 row0, r = r0 + k ∧ G.length ≤ r0 ∧ row = row0.shift G.length k ∧ (G ++ g)[r0]? = some row0 ∧ row0 ∈ g) := by
    intro r row e
    by_cases hlt : r < H.length
    · rw [List.getElem?_append_left hlt] at e; exact .inl ⟨hlt, e⟩
    · rw [List.getElem?_append_right (by omega), List.getElem?_map, Option.map_eq_some_iff] at e
      obtain ⟨row0, e, rfl⟩ := e
      exact .inr ⟨r - k, row0, by omega, by omega, rfl, by rw [List.getElem?_append_right (by omega), show r - k - G.length = r - H.length by omega]; exact e, List.mem_of_getElem? e⟩
  have blkLo : ∀ (r : Nat) (row : Row), H[r]? = some row → (β r).blk < w.heap.size := by
    intro r row e
    obtain ⟨cs1, el1, fz1, k1, _⟩ := hR.row r row e
    exact (Array.getElem?_eq_some_iff.1 k1).1
  have blkHi : ∀ (r : Nat) (row : Row), G.length ≤ r → (G ++ g)[r]? = some row → row ∈ g → w.heap.size ≤ (β' r).blk := fun r row hr e hm =>
    hS.new r row.sh hr (shp_some e)
  refine ⟨_, h', β2, v, rfl, ⟨rfl, rfl⟩, hret.shift hk, ⟨?_, ?_, ?_⟩, ⟨hS.os, hS.tape, hS.output, hS.size, hev, ?_, ?_, fun b hb _ => hfr b hb⟩⟩
  · intro r row e
    rcases get r row e with ⟨hlt, e⟩ | ⟨r0, row0, rfl, hr0, rfl, e0, hm⟩
    · obtain ⟨cs, el, fz, q1, q2, q3, q4, q5⟩ := hR.row r row e
      unfold RowR
      rw [hlo r hlt]
      exact ⟨cs, el, fz, by rw [hfr _ (blkLo r row e)]; exact q1, q2, q3, q4.evo hev, q5⟩
    · obtain ⟨cs, el, fz, q1, q2, q3, q4, q5⟩ := hR'.row r0 row0 e0
      unfold RowR
      rw [hhi r0 hr0]
      exact ⟨cs, el, fz, q1, q2, by simpa [Row.shift] using q3, q4.shift hk, q5⟩
  · intro r r' row row' e e' hne hrw'
    rcases get r row e with ⟨hlt, e⟩ | ⟨r0, row0, rfl, hr0, rfl, e0, hm⟩ <;> rcases get r' row' e' with ⟨hlt', e'⟩ | ⟨r0', row0', rfl, hr0', rfl, e0', hm'⟩
    · rw [hlo r hlt, hlo r' hlt']; exact hR.sep _ _ _ _ e e' hne hrw'
    · rw [hlo r hlt, hhi r0' hr0']; have := blkLo r row e; have := blkHi r0' row0' hr0' e0' hm'; omega
    · rw [hhi r0 hr0, hlo r' hlt']; have := blkLo r' row' e'; have := blkHi r0 row0 hr0 e0 hm; omega
    · rw [hhi _ hr0, hhi _ hr0']; exact hR'.sep _ _ _ _ e0 e0' (by omega) hrw'
  · intro r row e hw hg
    rcases get r row e with ⟨hlt, e⟩ | ⟨r0, row0, rfl, hr0, rfl, e0, hm⟩
    · rw [hlo r hlt]; exact hR.glob r row e hw hg
    · have := (List.all_eq_true.1 hrw) row0 hm
      simp only [Row.shift] at hw
      rw [this] at hw; cases hw
  · intro r s hs
    have := (List.getElem?_eq_some_iff.1 hs).1
    rw [shp_length] at this
    rw [hlo r this]; exact .inl rfl
  · intro r s hr hs
    rw [shp_get, Option.map_eq_some_iff] at hs
    obtain ⟨row, e, rfl⟩ := hs
    rcases get r row e with ⟨hlt, e⟩ | ⟨r0, row0, rfl, hr0, rfl, e0, hm⟩
    · omega
    · rw [hhi _ hr0]; exact blkHi r0 row0 hr0 e0 hm

end Go.Px
