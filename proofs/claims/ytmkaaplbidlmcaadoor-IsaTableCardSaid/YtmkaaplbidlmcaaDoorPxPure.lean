/- Own work over the kit: abstract memory, its rules, and the walk. -/
import Derived.Test.YtmkaaplbidlmcaaDoorPxHeap
set_option linter.unusedVariables false
set_option linter.unusedSimpArgs false
namespace Go.Px

/-! ### bytes as numbers -/
def nats (t : ByteArray) : List Nat := t.data.toList.map UInt8.toNat
theorem nats_length (t : ByteArray) : (nats t).length = t.size := by unfold nats; rw [List.length_map]; rfl
theorem u8_inj : ∀ {a b : List UInt8}, a.map UInt8.toNat = b.map UInt8.toNat → a = b
  | [], [], _ => rfl
  | [], _ :: _, h => by simp at h
  | _ :: _, [], h => by simp at h
  | a :: as, b :: bs, h => by
    simp at h
    rw [u8_inj h.2, UInt8.toNat_inj.1 h.1]
theorem nats_inj {a b : ByteArray} (h : nats a = nats b) : a = b := by
  have := u8_inj h
  cases a; cases b
  simp at this
  simpa using this
theorem nats_eq (a b : ByteArray) : (a.toList == b.toList) = decide (nats a = nats b) := by
  rw [ByteArray.toList_eq, ByteArray.toList_eq]
  by_cases h : a.data.toList = b.data.toList
  · have : nats a = nats b := by unfold nats; rw [h]
    simp [h, this]
  · have h2 : ¬ nats a = nats b := fun k => h (u8_inj k)
    rw [decide_eq_false h2]
    simp only [beq_eq_false_iff_ne, ne_eq]
    exact h
def natLess : List Nat → List Nat → Bool
  | _, [] => false
  | [], _ :: _ => true
  | a :: x, b :: y => decide (a < b) || (decide (a = b) && natLess x y)
theorem natLess_eq : ∀ (a b : List UInt8), Op.bytesLess a b = natLess (a.map UInt8.toNat) (b.map UInt8.toNat)
  | a, [] => by cases a <;> rfl
  | [], _ :: _ => rfl
  | a :: x, b :: y => by
    simp only [Op.bytesLess, List.map_cons, natLess]
    rw [natLess_eq x y]
    congr 1
    congr 1
    rw [Bool.eq_iff_iff]; simp [UInt8.toNat_inj]
theorem nats_append (a b : ByteArray) : nats (a ++ b) = nats a ++ nats b := by simp [nats, ByteArray.data_append]

/-! ### binary operators -/
def intBin (op : BinOp) (k : IntKind) (a b : Int) : Option S :=
  match op with
  | .add => some (.i k (k.wrap (a + b)))
  | .sub => some (.i k (k.wrap (a - b)))
  | .mul => some (.i k (k.wrap (a * b)))
  | .quo => if b = 0 then none else some (.i k (k.wrap (a.tdiv b)))
  | .rem => if b = 0 then none else some (.i k (a.tmod b))
  | .and => some (.i k (k.wrap (BitVec.ofInt k.bits a &&& BitVec.ofInt k.bits b).toNat))
  | .or => some (.i k (k.wrap (BitVec.ofInt k.bits a ||| BitVec.ofInt k.bits b).toNat))
  | .xor => some (.i k (k.wrap (BitVec.ofInt k.bits a ^^^ BitVec.ofInt k.bits b).toNat))
  | .andNot => some (.i k (k.wrap (BitVec.ofInt k.bits a &&& ~~~ BitVec.ofInt k.bits b).toNat))
  | .eql => some (.b (decide (a = b)))
  | .neq => some (.b (!decide (a = b)))
  | .lss => some (.b (decide (a < b)))
  | .leq => some (.b (decide (a ≤ b)))
  | .gtr => some (.b (decide (b < a)))
  | .geq => some (.b (decide (b ≤ a)))
  | .shl | .shr => none
def shiftBin (op : BinOp) (k : IntKind) (a b : Int) : Option S :=
  if b < 0 then none else
  match op with
  | .shl => some (.i k (k.wrap (a * 2 ^ (min b.toNat k.bits))))
  | .shr => some (.i k (a.fdiv (2 ^ (min b.toNat k.bits))))
  | _ => none
def strBin (op : BinOp) (a b : List Nat) : Option S :=
  match op with
  | .add => if a.length + b.length ≤ 9223372036854775807 then some (.s (a ++ b)) else none
  | .eql => some (.b (decide (a = b)))
  | .neq => some (.b (!decide (a = b)))
  | .lss => some (.b (natLess a b))
  | .leq => some (.b (natLess a b || decide (a = b)))
  | .gtr => some (.b (!(natLess a b || decide (a = b))))
  | .geq => some (.b (!natLess a b))
  | _ => none
def isShift : BinOp → Bool
  | .shl | .shr => true
  | _ => false
def binS (op : BinOp) (x y : S) : Option S :=
  match x, y with
  | .i k a, .i k' b => if isShift op then shiftBin op k a b else if k = k' then intBin op k a b else none
  | .s a, .s b => strBin op a b
  | _, _ => none

theorem bin_ok {P : Program} {w : World} {sh β} {op : BinOp} {t : TypeId} {x y z : S} {a b : Value} (hx : SR sh β x a) (hy : SR sh β y b) (hz : binS op x y = some z) :
    ∃ c, (binOp op t a b).run P w = .ok c w ∧ SR sh β z c := by
  cases x <;> cases y <;> simp only [binS] at hz <;> try cases hz
  case i.i k a k' b =>
    simp only [SR] at hx hy
    subst hx hy
    by_cases hs : isShift op = true
    · rw [if_pos hs] at hz
      have hb : ¬ b < 0 := by intro hb; simp [shiftBin, hb] at hz
      cases op <;> simp [isShift] at hs <;> simp [shiftBin, hb] at hz <;> subst hz <;> simp [binOp, Op.shift, hb, SR]
    · rw [if_neg hs] at hz
      by_cases hk : k = k'
      · subst hk
        rw [if_pos rfl] at hz
        cases op <;> simp [isShift] at hs <;> simp [intBin] at hz <;> first
          | (subst hz; simp [binOp, Op.intArith, Op.intBits, Op.intCmp, SR]; done)
          | (obtain ⟨h0, hz⟩ := hz; subst hz; simp [binOp, Op.intDiv, h0, SR]; done)
          | (subst hz; exact ⟨_, rfl, rfl⟩)
          | (subst hz; simp only [binOp, if_neg (not_not_intro rfl)]; refine ⟨_, rfl, ?_⟩; simp only [SR]; congr 1; done)
          | (subst hz; simp only [binOp, ne_eq, not_true, if_false]; refine ⟨_, rfl, ?_⟩; simp only [SR]; congr 1; done)
      · rw [if_neg hk] at hz; cases hz
  case s.s a b =>
    simp only [SR] at hx hy
    obtain ⟨u, rfl, hu⟩ := hx
    obtain ⟨v, rfl, hv⟩ := hy
    have hul := nats_length u
    have hvl := nats_length v
    have he := nats_eq u v
    have hl := natLess_eq u.data.toList v.data.toList
    have hap := nats_append u v
    change nats u = a at hu
    change nats v = b at hv
    rw [← ByteArray.toList_eq, ← ByteArray.toList_eq] at hl
    rw [ByteArray.toList_eq, ByteArray.toList_eq] at hl
    change _ = natLess (nats u) (nats v) at hl
    rw [← ByteArray.toList_eq, ← ByteArray.toList_eq] at hl
    rw [hu, hv] at he hl hap
    rw [hu] at hul
    rw [hv] at hvl
    cases op <;> simp [strBin] at hz <;> first
      | (subst hz; simp [binOp, Op.stringOp, SR, he, hl]; done)
      | (obtain ⟨h0, hz⟩ := hz; subst hz
         refine ⟨.string (u ++ v), ?_, _, rfl, hap⟩
         simp only [binOp, Op.stringOp]
         have h2 : ¬ (((u.size + v.size : Nat) : Int) > IntKind.i64.max) := by simp only [IntKind.max, IntKind.signed, IntKind.bits]; simp; omega
         rw [if_neg h2]; rfl)

theorem eqGuard_ok {P : Program} {w : World} {sh β} {op : BinOp} {t : TypeId} {x y : S} {a b : Value} {p q : Operand} (hx : SR sh β x a) (hy : SR sh β y b) :
    (eqGuard op t p q a b).run P w = .ok () w := by
  have h1 := hx.oneCell
  have hni : a ≠ .nilIface := by
    intro e; subst e
    cases x <;> simp [SR, PR] at hx
  cases op <;> simp [eqGuard] <;> (cases a <;> cases b <;> first | (simp [Value.oneCell'] at h1; done) | exact absurd rfl hni | rfl)

end Go.Px
