/- Own work over the kit: abstract memory, its rules, and the walk. -/
import Derived.Test.YtmkaaplbidlmcaaDoorPxRunS
import Derived.Lib.LaidTab
import Derived.Lib.Fields
import Derived.Lib.Space
import Derived.Shelf.Strconv.Itoa3
set_option linter.unusedVariables false
set_option linter.unusedSimpArgs false
namespace Go.Px

theorem tabIs_of_row {P : Program} {h : Heap} {β : Beta} {w : World} {r : Nat} {row : Row} {name : String} {k : IntKind} {zs : List Int} {g : Nat} (hr : Rel h β w) (e : h[r]? = some row) (hrw : row.rw = false) (hg : row.gen = g + 1)
    (hname : P.globalNamed name = some g) (hcells : row.cells = zs.map (S.i k)) : Lib.TabIs P w name k zs := by
  obtain ⟨g1, g2, g3⟩ := hr.glob r row e hrw (by omega)
  obtain ⟨cs, el, fz, q1, q2, q3, q4, q5⟩ := hr.row r row e
  have hb : (β r).blk = g := by omega
  unfold Lib.TabIs World.var?
  rw [hname]
  simp only [Option.bind_some]
  rw [hb] at q1
  rw [q1]
  simp only [Option.some.injEq]
  apply Array.ext_getElem?
  intro i
  by_cases hi : i < zs.length
  · obtain ⟨u, hu, hs⟩ := q4 i (.i k zs[i]) (by rw [hcells, List.getElem?_map, List.getElem?_eq_getElem hi]; rfl)
    rw [g2, Nat.zero_add] at hu
    rw [hu]
    have : u = .int k zs[i] := hs
    simp [this, hi]
  · have : cs.size = zs.length := by rw [q2, g3, hcells, List.length_map]
    rw [Array.getElem?_eq_none (by omega), Array.getElem?_eq_none (by simp; omega)]

def asciiRow (g : Nat) : Row := ⟨Lib.asciiSpaceTab.map (S.i .u8), false, g + 1⟩

def fieldsB (l : List Nat) : List (List Nat) := (Lib.fields (l.map UInt8.ofNat)).map (·.map UInt8.toNat)
/-- strings.Fields on ASCII. -/
def fieldsO (f : Nat) : Orc := fun f' args h => match Nat.beq f f' with
  | true => match args with
    | [.s (.s l)] => match (l.all fun b => Nat.blt b 128) && Nat.blt l.length 4294967281 with
      | true => forceN (fieldsB l).length fun n => match Nat.ble n 4294967296 with
        | true => some ([.s (.sl h.length 0 0 1 n n true)], [⟨(fieldsB l).map S.s, true, 0⟩])
        | false => none
      | false => none
    | _ => none
  | false => none

theorem fieldsO_ok {P : Program} {G : Heap} {f g r : Nat} {t : TypeId} (hcal : Callable P f)
    (hcon : ∀ (s : ByteArray) (w : World), s.size < 4294967281 → (∀ (j : Nat) b, s.data.toList[j]? = some b → b.toNat < 128) → Lib.TabIs P w "strings.asciiSpace" .u8 Lib.asciiSpaceTab →
      Calls P f #[.string s] w fun e w' => e = .returned (.slice (some ⟨w.heap.size, 0, none⟩) (Lib.fields s.data.toList).length (Lib.fields s.data.toList).length) ∧ w' = w.alloc (.cells ((Lib.fields s.data.toList).map fun l => Value.string ⟨l.toArray⟩).toArray t))
    (hname : P.globalNamed "strings.asciiSpace" = some g) (hG : G[r]? = some (asciiRow g)) : OrcOk P G (fieldsO f) := by
  intro f' args rr gg H hp e
  simp only [fieldsO, forceN_eq] at e
  split at e <;> try cases e
  rename_i hf
  have hf := Nat.eq_of_beq_eq_true hf
  subst hf
  split at e <;> try cases e
  rename_i l
  split at e <;> try cases e
  rename_i hl
  split at e <;> try cases e
  rename_i hn
  have hn := Nat.le_of_ble_eq_true hn
  rw [Bool.and_eq_true] at hl
  obtain ⟨ha, hlen⟩ := hl
  have hlen := blt_lt hlen
  refine ⟨hcal, fun w β vs hR hv => ?_⟩
  obtain ⟨v1, v2⟩ := hv
  obtain ⟨u, hu, t', rfl, ht⟩ := v2 0 _ rfl
  have hvs : vs = #[.string t'] := by
    apply Array.ext_getElem?
    intro i
    cases i with
    | zero => simpa using hu
    | succ i => rw [Array.getElem?_eq_none (by rw [v1]; simp), Array.getElem?_eq_none (by simp)]
  subst hvs
  have hsz : t'.size = l.length := by rw [← nats_length t']; unfold nats; rw [ht]
  have hbytes : l.map UInt8.ofNat = t'.data.toList := by rw [← ht, List.map_map]; simp [Function.comp_def]
  have hasc : ∀ (j : Nat) b, t'.data.toList[j]? = some b → b.toNat < 128 := by
    intro j b hb
    have : l[j]? = some b.toNat := by rw [← ht, List.getElem?_map, hb]; rfl
    exact blt_lt ((List.all_eq_true.1 ha) _ (List.mem_of_getElem? this))
  have htab := tabIs_of_row (P := P) hR (hp r _ hG) rfl rfl hname rfl
  have hlenF : (fieldsB l).length = (Lib.fields t'.data.toList).length := by simp [fieldsB, hbytes]
  refine (hcon t' w (by omega) hasc htab).mono ?_
  rintro e w' ⟨rfl, rfl⟩
  have hcr : CR (shp H) β ((fieldsB l).map S.s) ((Lib.fields t'.data.toList).map fun l => Value.string ⟨l.toArray⟩).toArray 0 := by
    intro j x hj
    simp only [fieldsB, List.getElem?_map, Option.map_eq_some_iff, hbytes] at hj
    obtain ⟨_, ⟨y, hy, rfl⟩, rfl⟩ := hj
    exact ⟨.string ⟨y.toArray⟩, by simp [hy], ⟨y.toArray⟩, rfl, by simp⟩
  obtain ⟨r1, r2⟩ := alloc_ok (n := H.length) hR ((fieldsB l).map S.s) ((Lib.fields t'.data.toList).map fun l => Value.string ⟨l.toArray⟩).toArray t (by simp [hlenF]) hcr
  refine ⟨_, _, _, _, rfl, ⟨rfl, rfl⟩, ?_, r1, r2⟩
  rw [hlenF]
  exact slice_value ⟨w.heap.size, 0, _⟩ 1 _ _ _ true (Nat.le_refl _) (Nat.le_refl _) (by simp [maxLen]; omega) (by simp) (by simp [hlenF]) (by simp)

/-- strconv.Itoa below a hundred. -/
def itoaO (f : Nat) : Orc := fun f' args _ => match Nat.beq f f' with
  | true => match args with
    | [.s (.i .i64 n)] => match decide (0 ≤ n) && decide (n < 100) with
      | true => some ([.s (.s (if n < 10 then [48 + n.toNat] else [48 + n.toNat / 10, 48 + n.toNat % 10]))], [])
      | false => none
    | _ => none
  | false => none

theorem dec_small (i : Nat) (hi : i < 100) : (Lib.decDigits i).map UInt8.toNat = if i < 10 then [48 + i] else [48 + i / 10, 48 + i % 10] := by
  have h1 : ∀ k, k < 10 → (Lib.decDigits k).map UInt8.toNat = [48 + k] := by
    intro k hk
    rw [Lib.decDigits, dif_pos hk]
    simp only [List.map_cons, List.map_nil, List.cons.injEq, and_true, UInt8.toNat_ofNat']
    omega
  by_cases h : i < 10
  · rw [if_pos h]; exact h1 i h
  · rw [if_neg h, Lib.decDigits, dif_neg h, List.map_append, h1 (i / 10) (by omega)]
    simp only [List.map_cons, List.map_nil, List.cons_append, List.nil_append, List.cons.injEq, and_true, true_and, UInt8.toNat_ofNat']
    omega

theorem itoaO_ok {P : Program} {G : Heap} {f : Nat} (hcal : Callable P f)
    (hcon : ∀ (i : Nat), i < 100 → ∀ w : World, Calls P f #[.int .i64 i] w fun e w' => e = .returned (.string ⟨(Lib.decDigits i).toArray⟩) ∧ w' = w) : OrcOk P G (itoaO f) := by
  intro f' args rr gg H hp e
  simp only [itoaO] at e
  split at e <;> try cases e
  rename_i hf
  have hf := Nat.eq_of_beq_eq_true hf
  subst hf
  split at e <;> try cases e
  rename_i n
  split at e <;> try cases e
  rename_i hn
  simp only [Bool.and_eq_true, decide_eq_true_eq] at hn
  refine ⟨hcal, fun w β vs hR hv => ?_⟩
  obtain ⟨v1, v2⟩ := hv
  obtain ⟨u, hu, hx⟩ := v2 0 _ rfl
  have hx : u = .int .i64 n := hx
  have hvs : vs = #[.int .i64 ((n.toNat : Nat) : Int)] := by
    apply Array.ext_getElem?
    intro i
    cases i with
    | zero => rw [Int.toNat_of_nonneg hn.1, ← hx]; simpa using hu
    | succ i => rw [Array.getElem?_eq_none (by rw [v1]; simp), Array.getElem?_eq_none (by simp)]
  subst hvs
  refine (hcon n.toNat (by omega) w).mono ?_
  rintro e w' ⟨rfl, rfl⟩
  refine ⟨_, _, β, _, rfl, ⟨rfl, rfl⟩, ?_, by simpa using hR, by simpa using Step.refl _ _ _ _⟩
  refine ⟨_, rfl, ?_⟩
  have := dec_small n.toNat (by omega)
  simp only [this]
  have h10 : n.toNat < 10 ↔ n < 10 := by omega
  simp only [h10]

end Go.Px
