/- Own work over the kit: abstract memory, its rules, and the walk. -/
import Derived.Test.YtmkaaplbidlmcaaDoorPxRunS
set_option linter.unusedVariables false
set_option linter.unusedSimpArgs false
namespace Go.Px

/-! ### the walk: continuations under names; nothing is looked at before its turn -/
def kSeq (P : Program) (n : Nat) (b : IC) (Q : Ex → List V → Heap → Prop) : Ex → List V → Heap → Prop :=
  fun e fr h => match e with | .n => iwp P n b Q fr h | e => Q e fr h
def kBlk (id : Nat) (Q : Ex → List V → Heap → Prop) : Ex → List V → Heap → Prop :=
  fun e fr h => match e with | .x i => if i = id then Q .n fr h else Q (.x i) fr h | e => Q e fr h
def kEnd (res : List IRes) (R : List V → Heap → Prop) : Ex → List V → Heap → Prop :=
  fun e fr h' => (match e with | .x _ => False | _ => True) ∧ ∃ rets, resV fr h' res = some rets ∧ R rets h'
/-- A mark that keeps the simplifier from looking at x ahead of its turn. -/
inductive Tk.{u} {α : Sort u} (x : α) : Type
  | mk
def bnd0 {α : Type} (o : Option α) (K : α → Prop) (t : Tk K) : Prop := ∃ v, o = some v ∧ K v
def bnd' {α : Type} (o : Option α) (K : α → Prop) : Prop := bnd0 o K .mk
@[simp ↓] theorem bnd'_def {α : Type} (o : Option α) (K : α → Prop) : bnd' o K = bnd0 o K .mk := _root_.id rfl
def Br0 (c : Prop) (A B : Prop) (t1 : Tk A) (t2 : Tk B) : Prop := (c → A) ∧ (¬ c → B)
def Br (c : Prop) (A B : Prop) : Prop := Br0 c A B .mk .mk
@[simp ↓] theorem Br_def (c : Prop) (A B : Prop) : Br c A B = Br0 c A B .mk .mk := _root_.id rfl
theorem Br_intro {c A B : Prop} (h1 : c → A) (h2 : ¬ c → B) : Br0 c A B .mk .mk := ⟨h1, h2⟩
@[simp] theorem Br_true {A B : Prop} : Br0 True A B .mk .mk = A := by simp [Br0]
@[simp] theorem Br_false {A B : Prop} : Br0 False A B .mk .mk = B := by simp [Br0]
@[simp] theorem Br_not {c A B : Prop} : Br0 (¬ c) A B .mk .mk = Br0 c B A .mk .mk := by
  simp only [Br0, Classical.not_not]; exact propext And.comm
@[simp] theorem bnd'_some {α : Type} {v : α} {K : α → Prop} : bnd0 (some v) K .mk = K v := by simp [bnd0]

@[congr] theorem iwp_congr {P : Program} {n : Nat} {c : IC} {Q : Ex → List V → Heap → Prop} {fr fr' : List V} {h h' : Heap} (e1 : fr = fr') (e2 : h = h') : iwp P n c Q fr h = iwp P n c Q fr' h' := by rw [e1, e2]
@[congr] theorem rwp_congr {P : Program} {n : Nat} {Q : List V → Heap → Prop} {ops : List IOq} {fr fr' : List V} {loc loc' : Loc} {h h' : Heap} (e1 : fr = fr') (e2 : loc = loc') (e3 : h = h') : rwp P n Q ops fr loc h = rwp P n Q ops fr' loc' h' := by rw [e1, e2, e3]
@[congr] theorem kSeq_congr {P : Program} {n : Nat} {c : IC} {Q : Ex → List V → Heap → Prop} {e : Ex} {fr fr' : List V} {h h' : Heap} (e1 : fr = fr') (e2 : h = h') : kSeq P n c Q e fr h = kSeq P n c Q e fr' h' := by rw [e1, e2]
@[congr] theorem kBlk_congr {id : Nat} {Q : Ex → List V → Heap → Prop} {e : Ex} {fr fr' : List V} {h h' : Heap} (e1 : fr = fr') (e2 : h = h') : kBlk id Q e fr h = kBlk id Q e fr' h' := by rw [e1, e2]

section
variable {P : Program} {n : Nat} {Q : Ex → List V → Heap → Prop} {fr : List V} {h : Heap} {loc : Loc}
@[simp] theorem kSeq_n {b : IC} : kSeq P n b Q .n fr h = iwp P n b Q fr h := _root_.id rfl
@[simp] theorem kSeq_r {b : IC} : kSeq P n b Q .r fr h = Q .r fr h := _root_.id rfl
@[simp] theorem kSeq_x {b : IC} {i : Nat} : kSeq P n b Q (.x i) fr h = Q (.x i) fr h := _root_.id rfl
@[simp] theorem kBlk_n {id : Nat} : kBlk id Q .n fr h = Q .n fr h := _root_.id rfl
@[simp] theorem kBlk_r {id : Nat} : kBlk id Q .r fr h = Q .r fr h := _root_.id rfl
theorem kBlk_x {id i : Nat} : kBlk id Q (.x i) fr h = if i = id then Q .n fr h else Q (.x i) fr h := _root_.id rfl
@[simp] theorem kBlk_eq {id : Nat} : kBlk id Q (.x id) fr h = Q .n fr h := by simp [kBlk]
@[simp] theorem kBlk_ne {id i : Nat} (hne : ¬ i = id) : kBlk id Q (.x i) fr h = Q (.x i) fr h := by simp [kBlk, hne]
@[simp] theorem kEnd_r {res : List IRes} {R : List V → Heap → Prop} : kEnd res R .r fr h = bnd' (resV fr h res) (fun rets => R rets h) := by simp [kEnd, bnd', bnd0]
@[simp] theorem kEnd_n {res : List IRes} {R : List V → Heap → Prop} : kEnd res R .n fr h = bnd' (resV fr h res) (fun rets => R rets h) := by simp [kEnd, bnd', bnd0]

@[simp] theorem iwp_skip : iwp P n .skip Q fr h = Q .n fr h := _root_.id rfl
@[simp] theorem iwp_reg {ops : List IOq} : iwp P n (.reg ops) Q fr h = rwp P n (Q .n) ops fr [] h := _root_.id rfl
@[simp] theorem iwp_seq {a b : IC} : iwp P n (.seq a b) Q fr h = iwp P n a (kSeq P n b Q) fr h := _root_.id rfl
@[simp] theorem iwp_blk {id : Nat} {a : IC} : iwp P n (.blk id a) Q fr h = iwp P n a (kBlk id Q) fr h := _root_.id rfl
@[simp] theorem iwp_exit {id : Nat} : iwp P n (.exit id) Q fr h = Q (.x id) fr h := _root_.id rfl
@[simp] theorem iwp_ret : iwp P n .ret Q fr h = Q .r fr h := _root_.id rfl
def boolV : V → Option Bool
  | .s (.b t) => some t
  | _ => none
@[simp] theorem boolV_b {t : Bool} : boolV (.s (.b t)) = some t := rfl
@[simp] theorem iwp_cond {c : Opd} {a b : IC} : iwp P n (.cond c a b) Q fr h = bnd' (boolV (rho fr [] c)) (fun t => Br (t = true) (iwp P n a Q fr h) (iwp P n b Q fr h)) := by
  apply propext
  simp only [iwp, bnd', bnd0, Br, Br0]
  constructor
  · rintro ⟨t, e, k⟩
    refine ⟨t, by rw [e]; rfl, fun ht => by simpa [ht] using k, fun ht => by simpa [ht] using k⟩
  · rintro ⟨t, e, k1, k2⟩
    refine ⟨t, ?_, ?_⟩
    · generalize rho fr [] c = v at e
      cases v with
      | s x => cases x <;> simp [boolV] at e; subst e; rfl
      | _ => simp [boolV] at e
    · split
      · rename_i ht; exact k1 ht
      · rename_i ht; exact k2 ht

/-! ### operations -/
variable {R : List V → Heap → Prop} {os : List IOq} {d : Option Nat}
@[simp] theorem rwp_nil : rwp P n R [] fr loc h = R fr h := _root_.id rfl
@[simp] theorem setv_none {v : V} : setv fr none v = fr := rfl
@[simp] theorem setv_some {i : Nat} {v : V} : setv fr (some i) v = fr.set i v := rfl
@[simp] theorem rho_v {i : Nat} : rho fr loc (.v i) = fr.getD i .any := rfl
@[simp] theorem rho_c {x : V} : rho fr loc (.c x) = x := rfl
def oneV : Option (List V) → V
  | some [x] => x
  | _ => .any
@[simp] theorem oneV_one {x : V} : oneV (some [x]) = x := rfl
@[simp] theorem rho_l {j : Nat} : rho fr loc (.l j) = oneV loc[j]? := by
  simp only [rho, oneV]
  generalize loc[j]? = q
  rcases q with _ | (_ | ⟨x, _ | _⟩) <;> rfl

theorem rwp_pure {op : IOp} (hk : op.kind = .p) (ht : tupMov loc op = none) :
    rwp P n R (⟨none, d, op⟩ :: os) fr loc h = bnd' (evalP h (rho fr loc) loc op) (fun v => rwp P n R os (setv fr d v) (loc ++ [[v]]) h) := by
  simp only [rwp, hk, ht, bnd', bnd0]
theorem rwp_eff {op : IOp} (hk : op.kind = .e) :
    rwp P n R (⟨none, d, op⟩ :: os) fr loc h = bnd' (evalE h (rho fr loc) op) (fun x => (∀ r, x.2.2 = some r → n ≤ r) ∧ rwp P n R os (setv fr d x.1) (loc ++ [[x.1]]) x.2.1) := by
  simp only [rwp, hk, bnd', bnd0]
  apply propext
  constructor
  · rintro ⟨v, h', t, e, a, b⟩; exact ⟨(v, h', t), e, a, b⟩
  · rintro ⟨⟨v, h', t⟩, e, a, b⟩; exact ⟨v, h', t, e, a, b⟩
theorem rwp_call {op : IOp} (hk : op.kind = .c) :
    rwp P n R (⟨none, d, op⟩ :: os) fr loc h = bnd' (callOf (rho fr loc) op) (fun x => ACalls P n x.1 x.2 h fun rets h' => (∃ x, rets = [x] ∧ rwp P n R os (setv fr d x) (loc ++ [[x]]) h') ∨ (rets.length ≠ 1 ∧ d = none ∧ rwp P n R os fr (loc ++ [rets]) h')) := by
  simp only [rwp, hk, bnd', bnd0]
  apply propext
  constructor
  · rintro ⟨f, args, e, a⟩; exact ⟨(f, args), e, a⟩
  · rintro ⟨⟨f, args⟩, e, a⟩; exact ⟨f, args, e, a⟩
def grdV : Option (List V) → Option (Option Bool)
  | some [.s (.b x)] => some (some x)
  | some [.u] => some none
  | _ => none
@[simp] theorem grdV_b {x : Bool} : grdV (some [.s (.b x)]) = some (some x) := rfl
@[simp] theorem grdV_u : grdV (some [.u]) = some none := rfl
def gBr0 (o : Option Bool) (want : Bool) (A B : Prop) (t1 : Tk A) (t2 : Tk B) : Prop := match o with | some x => Br (x = want) A B | none => B
def gBr (o : Option Bool) (want : Bool) (A B : Prop) : Prop := gBr0 o want A B .mk .mk
@[simp ↓] theorem gBr_def (o : Option Bool) (want : Bool) (A B : Prop) : gBr o want A B = gBr0 o want A B .mk .mk := _root_.id rfl
@[simp] theorem gBr_some {x : Bool} {A B : Prop} : gBr0 (some x) true A B .mk .mk = Br (x = true) A B := _root_.id rfl
@[simp] theorem gBr_some_f {x : Bool} {A B : Prop} : gBr0 (some x) false A B .mk .mk = Br (x = true) B A := by cases x <;> simp [gBr0, Br, Br0]
@[simp] theorem gBr_none {want : Bool} {A B : Prop} : gBr0 none want A B .mk .mk = B := _root_.id rfl
@[simp] theorem rwp_guard {g : Nat} {want : Bool} {op : IOp} :
    rwp P n R (⟨some (g, want), d, op⟩ :: os) fr loc h = bnd' (grdV loc[g]?) (fun o => gBr o want (rwp P n R (⟨none, d, op⟩ :: os) fr loc h) (rwp P n R os (setv fr d .u) (loc ++ [[.u]]) h)) := by
  apply propext
  rw [show rwp P n R (⟨none, d, op⟩ :: os) fr loc h = _ from rfl]
  simp only [rwp, bnd', bnd0]
  generalize loc[g]? = q
  rcases q with _ | l
  · simp [grdV]
  · rcases l with _ | ⟨x, l⟩
    · simp [grdV]
    · rcases l with _ | ⟨y, l⟩
      · cases x with
        | s x =>
          cases x <;> simp only [grdV, Option.some.injEq, exists_eq_left', gBr, gBr0, Br, Br0, reduceCtorEq, false_and, exists_false] <;> try rfl
          rename_i x
          by_cases hx : x = want
          · simp only [hx, if_true, true_implies, not_true, false_implies, and_true]
          · simp only [hx, if_false, false_implies, not_false_eq_true, true_implies, true_and]
        | _ => simp [grdV, gBr, gBr0, Br, Br0]
      · cases x with
        | s x => cases x <;> simp [grdV]
        | _ => simp [grdV]

/-! #### pure operations, one by one -/
def tupOr0 (o : Option (List V)) (A : V → Prop) (B : List V → Prop) (t1 : Tk A) (t2 : Tk B) : Prop := match o with | some [x] => A x | some l => B l | none => A .any
def tupOr (o : Option (List V)) (A : V → Prop) (B : List V → Prop) : Prop := tupOr0 o A B .mk .mk
@[simp ↓] theorem tupOr_def (o : Option (List V)) (A : V → Prop) (B : List V → Prop) : tupOr o A B = tupOr0 o A B .mk .mk := _root_.id rfl
@[simp] theorem tupOr_one {x : V} {A : V → Prop} {B : List V → Prop} : tupOr0 (some [x]) A B .mk .mk = A x := _root_.id rfl
@[simp] theorem tupOr_nil {A : V → Prop} {B : List V → Prop} : tupOr0 (some []) A B .mk .mk = B [] := _root_.id rfl
@[simp] theorem tupOr_two {x y : V} {l : List V} {A : V → Prop} {B : List V → Prop} : tupOr0 (some (x :: y :: l)) A B .mk .mk = B (x :: y :: l) := _root_.id rfl
@[simp] theorem rwp_mov_l {j : Nat} : rwp P n R (⟨none, d, .mov (.l j)⟩ :: os) fr loc h = tupOr loc[j]? (fun v => rwp P n R os (setv fr d v) (loc ++ [[v]]) h) (fun l => d = none ∧ rwp P n R os fr (loc ++ [l]) h) := by
  simp only [rwp, IOp.kind, tupMov, evalP, rho]
  generalize loc[j]? = q
  rcases q with _ | (_ | ⟨x, _ | _⟩)
  · simp [tupOr, tupOr0]
  · simp [tupOr, tupOr0]
  · simp [tupOr, tupOr0]
  · simp [tupOr, tupOr0]
@[simp] theorem rwp_mov_v {i : Nat} : rwp P n R (⟨none, d, .mov (.v i)⟩ :: os) fr loc h = rwp P n R os (setv fr d (fr.getD i .any)) (loc ++ [[fr.getD i .any]]) h := by
  simp [rwp, IOp.kind, tupMov, evalP]
@[simp] theorem rwp_mov_c {x : V} : rwp P n R (⟨none, d, .mov (.c x)⟩ :: os) fr loc h = rwp P n R os (setv fr d x) (loc ++ [[x]]) h := by
  simp [rwp, IOp.kind, tupMov, evalP]
def pickV (c a b : V) : Option V := match c with | .s (.b t) => some (if t then a else b) | _ => none
@[simp] theorem pickV_true {a b : V} : pickV (.s (.b true)) a b = some a := rfl
@[simp] theorem pickV_false {a b : V} : pickV (.s (.b false)) a b = some b := rfl
@[simp] theorem pickV_b {t x y : Bool} : pickV (.s (.b t)) (.s (.b x)) (.s (.b y)) = some (.s (.b (if t then x else y))) := by cases t <;> rfl
@[simp] theorem rwp_pick {c a b : Opd} : rwp P n R (⟨none, d, .pick c a b⟩ :: os) fr loc h = bnd' (pickV (rho fr loc c) (rho fr loc a) (rho fr loc b)) (fun v => rwp P n R os (setv fr d v) (loc ++ [[v]]) h) :=
  rwp_pure (op := .pick c a b) rfl rfl
def binV (op : BinOp) : V → V → Option V
  | .s a, .s b => (binS op a b).map V.s
  | _, _ => none
@[simp] theorem rwp_bin {op : BinOp} {a b : Opd} : rwp P n R (⟨none, d, .bin op a b⟩ :: os) fr loc h = bnd' (binV op (rho fr loc a) (rho fr loc b)) (fun v => rwp P n R os (setv fr d v) (loc ++ [[v]]) h) := by
  rw [rwp_pure (op := .bin op a b) rfl rfl]
  congr 1
section bin
variable {k : IntKind} {a b : Int} {s t : List Nat}
@[simp] theorem binV_add : binV .add (.s (.i k a)) (.s (.i k b)) = some (.s (.i k (k.wrap (a + b)))) := by simp [binV, binS, isShift, intBin]
@[simp] theorem binV_sub : binV .sub (.s (.i k a)) (.s (.i k b)) = some (.s (.i k (k.wrap (a - b)))) := by simp [binV, binS, isShift, intBin]
@[simp] theorem binV_mul : binV .mul (.s (.i k a)) (.s (.i k b)) = some (.s (.i k (k.wrap (a * b)))) := by simp [binV, binS, isShift, intBin]
@[simp] theorem binV_eql : binV .eql (.s (.i k a)) (.s (.i k b)) = some (.s (.b (decide (a = b)))) := by simp [binV, binS, isShift, intBin]
@[simp] theorem binV_neq : binV .neq (.s (.i k a)) (.s (.i k b)) = some (.s (.b (!decide (a = b)))) := by simp [binV, binS, isShift, intBin]
@[simp] theorem binV_lss : binV .lss (.s (.i k a)) (.s (.i k b)) = some (.s (.b (decide (a < b)))) := by simp [binV, binS, isShift, intBin]
@[simp] theorem binV_leq : binV .leq (.s (.i k a)) (.s (.i k b)) = some (.s (.b (decide (a ≤ b)))) := by simp [binV, binS, isShift, intBin]
@[simp] theorem binV_gtr : binV .gtr (.s (.i k a)) (.s (.i k b)) = some (.s (.b (decide (b < a)))) := by simp [binV, binS, isShift, intBin]
@[simp] theorem binV_geq : binV .geq (.s (.i k a)) (.s (.i k b)) = some (.s (.b (decide (b ≤ a)))) := by simp [binV, binS, isShift, intBin]
@[simp] theorem binV_and : binV .and (.s (.i k a)) (.s (.i k b)) = some (.s (.i k (k.wrap (BitVec.ofInt k.bits a &&& BitVec.ofInt k.bits b).toNat))) := by simp [binV, binS, isShift, intBin]
@[simp] theorem binV_or : binV .or (.s (.i k a)) (.s (.i k b)) = some (.s (.i k (k.wrap (BitVec.ofInt k.bits a ||| BitVec.ofInt k.bits b).toNat))) := by simp [binV, binS, isShift, intBin]
@[simp] theorem binV_xor : binV .xor (.s (.i k a)) (.s (.i k b)) = some (.s (.i k (k.wrap (BitVec.ofInt k.bits a ^^^ BitVec.ofInt k.bits b).toNat))) := by simp [binV, binS, isShift, intBin]
theorem binV_quo : binV .quo (.s (.i k a)) (.s (.i k b)) = if b = 0 then none else some (.s (.i k (k.wrap (a.tdiv b)))) := by by_cases hb : b = 0 <;> simp [binV, binS, isShift, intBin, hb]
theorem binV_rem : binV .rem (.s (.i k a)) (.s (.i k b)) = if b = 0 then none else some (.s (.i k (a.tmod b))) := by by_cases hb : b = 0 <;> simp [binV, binS, isShift, intBin, hb]
@[simp] theorem binV_quo_ok (hb : ¬ b = 0) : binV .quo (.s (.i k a)) (.s (.i k b)) = some (.s (.i k (k.wrap (a.tdiv b)))) := by simp [binV_quo, hb]
@[simp] theorem binV_rem_ok (hb : ¬ b = 0) : binV .rem (.s (.i k a)) (.s (.i k b)) = some (.s (.i k (a.tmod b))) := by simp [binV_rem, hb]
@[simp] theorem binV_shl {k' : IntKind} (hb : 0 ≤ b) : binV .shl (.s (.i k a)) (.s (.i k' b)) = some (.s (.i k (k.wrap (a * 2 ^ (min b.toNat k.bits))))) := by
  have : ¬ b < 0 := by omega
  simp [binV, binS, isShift, shiftBin, this]
@[simp] theorem binV_shr {k' : IntKind} (hb : 0 ≤ b) : binV .shr (.s (.i k a)) (.s (.i k' b)) = some (.s (.i k (a.fdiv (2 ^ (min b.toNat k.bits))))) := by
  have : ¬ b < 0 := by omega
  simp [binV, binS, isShift, shiftBin, this]
@[simp] theorem binV_seql : binV .eql (.s (.s s)) (.s (.s t)) = some (.s (.b (decide (s = t)))) := by simp [binV, binS, strBin]
@[simp] theorem binV_sneq : binV .neq (.s (.s s)) (.s (.s t)) = some (.s (.b (!decide (s = t)))) := by simp [binV, binS, strBin]
@[simp] theorem binV_slss : binV .lss (.s (.s s)) (.s (.s t)) = some (.s (.b (natLess s t))) := by simp [binV, binS, strBin]
@[simp] theorem binV_sadd (hl : s.length + t.length ≤ 9223372036854775807) : binV .add (.s (.s s)) (.s (.s t)) = some (.s (.s (s ++ t))) := by simp [binV, binS, strBin, hl]
end bin
def eqbV (neg : Bool) : V → V → Option V
  | .s (.b a), .s (.b b) => some (.s (.b (decide (a = b) != neg)))
  | _, _ => none
@[simp] theorem eqbV_b {neg a b : Bool} : eqbV neg (.s (.b a)) (.s (.b b)) = some (.s (.b (decide (a = b) != neg))) := rfl
@[simp] theorem rwp_eqb {neg : Bool} {a b : Opd} : rwp P n R (⟨none, d, .eqb neg a b⟩ :: os) fr loc h = bnd' (eqbV neg (rho fr loc a) (rho fr loc b)) (fun v => rwp P n R os (setv fr d v) (loc ++ [[v]]) h) := by
  rw [rwp_pure (op := .eqb neg a b) rfl rfl]; congr 1
def unV (op : UnOp) (x : V) : Option V := match op, x with
    | .neg, .s (.i k n) => some (.s (.i k (k.wrap (0 - n))))
    | .not, .s (.b b) => some (.s (.b (!b)))
    | .xor, .s (.i k n) => some (.s (.i k (k.wrap (BitVec.ofInt k.bits (if k.signed then -1 else k.max) ^^^ BitVec.ofInt k.bits n).toNat)))
    | _, _ => none
@[simp] theorem unV_not {b : Bool} : unV .not (.s (.b b)) = some (.s (.b (!b))) := rfl
@[simp] theorem unV_neg {k : IntKind} {a : Int} : unV .neg (.s (.i k a)) = some (.s (.i k (k.wrap (0 - a)))) := rfl
@[simp] theorem rwp_un {op : UnOp} {a : Opd} : rwp P n R (⟨none, d, .un op a⟩ :: os) fr loc h = bnd' (unV op (rho fr loc a)) (fun v => rwp P n R os (setv fr d v) (loc ++ [[v]]) h) := by
  rw [rwp_pure (op := .un op a) rfl rfl]; congr 1
def cvtV (k : IntKind) : V → Option V
  | .s (.i _ n) => some (.s (.i k (k.wrap n)))
  | _ => none
@[simp] theorem cvtV_i {k k' : IntKind} {a : Int} : cvtV k (.s (.i k' a)) = some (.s (.i k (k.wrap a))) := rfl
@[simp] theorem rwp_cvt {k : IntKind} {a : Opd} : rwp P n R (⟨none, d, .cvt k a⟩ :: os) fr loc h = bnd' (cvtV k (rho fr loc a)) (fun v => rwp P n R os (setv fr d v) (loc ++ [[v]]) h) := by
  rw [rwp_pure (op := .cvt k a) rfl rfl]; congr 1
@[simp] theorem rwp_lenK {m : Nat} : rwp P n R (⟨none, d, .lenK m⟩ :: os) fr loc h = rwp P n R os (setv fr d (.s (.i .i64 m))) (loc ++ [[.s (.i .i64 m)]]) h := by
  rw [rwp_pure (op := .lenK m) rfl rfl]; simp [evalP]
@[simp] theorem rwp_len_s {a : Opd} : rwp P n R (⟨none, d, .len true a⟩ :: os) fr loc h = bnd' (len1 (rho fr loc a)) (fun v => rwp P n R os (setv fr d v) (loc ++ [[v]]) h) := by
  rw [rwp_pure (op := .len true a) rfl rfl]; rfl
@[simp] theorem rwp_len_l {a : Opd} : rwp P n R (⟨none, d, .len false a⟩ :: os) fr loc h = bnd' (len0 (rho fr loc a)) (fun v => rwp P n R os (setv fr d v) (loc ++ [[v]]) h) := by
  rw [rwp_pure (op := .len false a) rfl rfl]; rfl
@[simp] theorem len1_s {l : List Nat} : len1 (.s (.s l)) = some (.s (.i .i64 l.length)) := rfl
@[simp] theorem len0_nsl : len0 (.s .nsl) = some (.s (.i .i64 0)) := rfl
@[simp] theorem len0_sl {r g o sz m c : Nat} {e : Bool} : len0 (.s (.sl r g o sz m c e)) = some (.s (.i .i64 m)) := rfl
def ixSV : V → V → Option V
  | .s (.s l), .s (.i _ j) => if 0 ≤ j then (l[j.toNat]?).map fun (b : Nat) => V.s (.i .u8 (b : Int)) else none
  | _, _ => none
@[simp] theorem ixSV_ok {l : List Nat} {k : IntKind} {j : Int} {h0 : 0 ≤ j} {h1 : j.toNat < l.length} : ixSV (.s (.s l)) (.s (.i k j)) = some (.s (.i .u8 (l[j.toNat] : Int))) := by simp [ixSV, h0, h1]
@[simp] theorem rwp_ixS {a b : Opd} : rwp P n R (⟨none, d, .ixS a b⟩ :: os) fr loc h = bnd' (ixSV (rho fr loc a) (rho fr loc b)) (fun v => rwp P n R os (setv fr d v) (loc ++ [[v]]) h) := by
  rw [rwp_pure (op := .ixS a b) rfl rfl]; congr 1
def iadSV (sz : Nat) : V → V → Option V
  | .s (.sl r g o sz' n _ _), .s (.i _ j) => if sz' = sz ∧ 0 ≤ j ∧ j < n then some (.s (.p r g (o + j.toNat * sz))) else none
  | _, _ => none
@[simp] theorem iadSV_ok {sz r g o m c : Nat} {e : Bool} {k : IntKind} {j : Int} (h0 : 0 ≤ j) (h1 : j < m) : iadSV sz (.s (.sl r g o sz m c e)) (.s (.i k j)) = some (.s (.p r g (o + j.toNat * sz))) := by simp [iadSV, h0, h1]
@[simp] theorem rwp_iadS {sz : Nat} {a b : Opd} : rwp P n R (⟨none, d, .iadS sz a b⟩ :: os) fr loc h = bnd' (iadSV sz (rho fr loc a) (rho fr loc b)) (fun v => rwp P n R os (setv fr d v) (loc ++ [[v]]) h) := by
  rw [rwp_pure (op := .iadS sz a b) rfl rfl]; congr 1
def iadAV (N sz : Nat) : V → V → Option V
  | .s (.p r g o), .s (.i _ j) => if 0 ≤ j ∧ j < N then some (.s (.p r g (o + j.toNat * sz))) else none
  | _, _ => none
@[simp] theorem iadAV_ok {N sz r g o : Nat} {k : IntKind} {j : Int} (h0 : 0 ≤ j) (h1 : j < N) : iadAV N sz (.s (.p r g o)) (.s (.i k j)) = some (.s (.p r g (o + j.toNat * sz))) := by simp [iadAV, h0, h1]
@[simp] theorem rwp_iadA {N sz : Nat} {a b : Opd} : rwp P n R (⟨none, d, .iadA N sz a b⟩ :: os) fr loc h = bnd' (iadAV N sz (rho fr loc a) (rho fr loc b)) (fun v => rwp P n R os (setv fr d v) (loc ++ [[v]]) h) := by
  rw [rwp_pure (op := .iadA N sz a b) rfl rfl]; congr 1
def fadV (off : Nat) : V → Option V
  | .s (.p r g o) => some (.s (.p r g (o + off)))
  | _ => none
@[simp] theorem fadV_p {off r g o : Nat} : fadV off (.s (.p r g o)) = some (.s (.p r g (o + off))) := rfl
@[simp] theorem rwp_fad {off : Nat} {a : Opd} : rwp P n R (⟨none, d, .fad off a⟩ :: os) fr loc h = bnd' (fadV off (rho fr loc a)) (fun v => rwp P n R os (setv fr d v) (loc ++ [[v]]) h) := by
  rw [rwp_pure (op := .fad off a) rfl rfl]; congr 1
def nilcV : V → Option V
    | .s (.p r g o) => some (.s (.p r g o))
    | .s (.f fn caps) => some (.s (.f fn caps))
    | _ => none
@[simp] theorem nilcV_p {r g o : Nat} : nilcV (.s (.p r g o)) = some (.s (.p r g o)) := rfl
@[simp] theorem nilcV_f {f : Nat} {c : List (Nat × Nat × Nat)} : nilcV (.s (.f f c)) = some (.s (.f f c)) := rfl
@[simp] theorem rwp_nilc {a : Opd} : rwp P n R (⟨none, d, .nilc a⟩ :: os) fr loc h = bnd' (nilcV (rho fr loc a)) (fun v => rwp P n R os (setv fr d v) (loc ++ [[v]]) h) := by
  rw [rwp_pure (op := .nilc a) rfl rfl]; congr 1
/-- What a place holds. -/
def ldV (h : Heap) (agg : Option Nat) : V → Option V
  | .s (.p r g o) => (rowAt h r g).bind fun row => getAgg agg row.cells o
  | _ => none
@[simp] theorem rwp_ld {agg : Option Nat} {a : Opd} : rwp P n R (⟨none, d, .ld agg a⟩ :: os) fr loc h = bnd' (ldV h agg (rho fr loc a)) (fun v => rwp P n R os (setv fr d v) (loc ++ [[v]]) h) := by
  rw [rwp_pure (op := .ld agg a) rfl rfl]; congr 1
  simp only [evalP, ldV]
  generalize rho fr loc a = v
  cases v with
  | s x => cases x <;> simp only []; rename_i r g o; cases rowAt h r g <;> rfl
  | _ => rfl
@[simp] theorem ldV_p {agg : Option Nat} {r g o : Nat} : ldV h agg (.s (.p r g o)) = (rowAt h r g).bind fun row => getAgg agg row.cells o := rfl
@[simp] theorem getAgg_none {l : List S} {o : Nat} : getAgg none l o = (l[o]?).map V.s := rfl
def fldV (off : Nat) (agg : Option Nat) : V → Option V
  | .a l => getAgg agg l off
  | _ => none
@[simp] theorem fldV_a {off : Nat} {agg : Option Nat} {l : List S} : fldV off agg (.a l) = getAgg agg l off := rfl
@[simp] theorem rwp_fld {off : Nat} {agg : Option Nat} {a : Opd} : rwp P n R (⟨none, d, .fld off agg a⟩ :: os) fr loc h = bnd' (fldV off agg (rho fr loc a)) (fun v => rwp P n R os (setv fr d v) (loc ++ [[v]]) h) := by
  rw [rwp_pure (op := .fld off agg a) rfl rfl]; congr 1
@[simp] theorem rwp_ext {k j : Nat} : rwp P n R (⟨none, d, .ext k j⟩ :: os) fr loc h = bnd' (evalP h (rho fr loc) loc (.ext k j)) (fun v => rwp P n R os (setv fr d v) (loc ++ [[v]]) h) :=
  rwp_pure (op := .ext k j) rfl rfl
def extV (o : Option (List V)) (j : Nat) : Option V := match o with
    | some vs => if vs.length = 1 then none else vs[j]?
    | none => none
@[simp] theorem evalP_ext {ρ : Opd → V} {k j : Nat} : evalP h ρ loc (.ext k j) = extV loc[k]? j := rfl
@[simp] theorem extV_two {x y : V} {l : List V} {j : Nat} : extV (some (x :: y :: l)) j = (x :: y :: l)[j]? := by simp [extV]
/-! #### calls -/
def cCl (P : Program) (n f : Nat) (args : List V) (h : Heap) (K1 : V → Heap → Prop) (K2 : List V → Heap → Prop) (t1 : Tk K1) (t2 : Tk K2) : Prop :=
  ACalls P n f args h (fun rets h' => (∃ x, rets = [x] ∧ K1 x h') ∨ (rets.length ≠ 1 ∧ K2 rets h'))
@[simp] theorem rwp_callf {f : Nat} {args : List Opd} : rwp P n R (⟨none, d, .call f args⟩ :: os) fr loc h = cCl P n f (args.map (rho fr loc)) h (fun x h' => rwp P n R os (setv fr d x) (loc ++ [[x]]) h') (fun rets h' => d = none ∧ rwp P n R os fr (loc ++ [rets]) h') .mk .mk := by
  rw [rwp_call (op := .call f args) rfl]; simp [callOf, cCl]
def caldV (args : List V) : V → Option (Nat × List V)
  | .s (.f fn caps) => some (fn, args ++ caps.map fun c => .s (.p c.1 c.2.1 c.2.2))
  | _ => none
@[simp] theorem caldV_f {args : List V} {fn : Nat} {caps : List (Nat × Nat × Nat)} : caldV args (.s (.f fn caps)) = some (fn, args ++ caps.map fun c => .s (.p c.1 c.2.1 c.2.2)) := rfl
@[simp] theorem rwp_cald {f : Opd} {args : List Opd} : rwp P n R (⟨none, d, .cald f args⟩ :: os) fr loc h = bnd' (caldV (args.map (rho fr loc)) (rho fr loc f)) (fun c => cCl P n c.1 c.2 h (fun x h' => rwp P n R os (setv fr d x) (loc ++ [[x]]) h') (fun rets h' => d = none ∧ rwp P n R os fr (loc ++ [rets]) h') .mk .mk) := by
  rw [rwp_call (op := .cald f args) rfl]
  simp only [callOf, cCl]
  generalize rho fr loc f = v
  cases v with
  | s x => cases x <;> simp [bnd', bnd0, caldV]
  | _ => simp [bnd', bnd0, caldV]
theorem cCl_one {f : Nat} {args : List V} {x : V} {h1 : Heap} (c : ACalls P n f args h (fun r h' => r = [x] ∧ h' = h1)) {K : V → Heap → Prop} {K2 : List V → Heap → Prop} (k : K x h1) : cCl P n f args h K K2 .mk .mk :=
  c.mono fun rets h' ⟨e1, e2⟩ => .inl ⟨x, e1, by rw [e2]; exact k⟩
theorem cCl_more {f : Nat} {args : List V} {l : List V} {h1 : Heap} (c : ACalls P n f args h (fun r h' => r = l ∧ h' = h1)) {K : V → Heap → Prop} {K2 : List V → Heap → Prop} (hl : l.length ≠ 1) (k : K2 l h1) : cCl P n f args h K K2 .mk .mk :=
  c.mono fun rets h' ⟨e1, e2⟩ => .inr (by subst e1 e2; exact ⟨hl, k⟩)
theorem cCl_ex {f : Nat} {args : List V} {R1 : List V → Heap → Prop} (c : ACalls P n f args h R1) {K : V → Heap → Prop} {K2 : List V → Heap → Prop} (k : ∀ rets h', R1 rets h' → (∃ x, rets = [x] ∧ K x h') ∨ (rets.length ≠ 1 ∧ K2 rets h')) : cCl P n f args h K K2 .mk .mk := c.mono k
theorem step_one {f : Nat} {args : List V} {x : V} {h1 : Heap} (c : ACalls P n f args h (fun r h' => r = [x] ∧ h' = h1)) {K : V → Heap → Prop} {K2 : List V → Heap → Prop} (k : K x h1) :
    ACalls P n f args h (fun rets h' => (∃ x, rets = [x] ∧ K x h') ∨ K2 rets h') :=
  c.mono fun rets h' ⟨e1, e2⟩ => .inl ⟨x, e1, by rw [e2]; exact k⟩
theorem step_more {f : Nat} {args : List V} {l : List V} {h1 : Heap} (c : ACalls P n f args h (fun r h' => r = l ∧ h' = h1)) {K : V → Heap → Prop} {K2 : List V → Heap → Prop} (hl : l.length ≠ 1) (hd : d = none) (k : K2 l h1) :
    ACalls P n f args h (fun rets h' => (∃ x, rets = [x] ∧ K x h') ∨ (rets.length ≠ 1 ∧ d = none ∧ K2 rets h')) :=
  c.mono fun rets h' ⟨e1, e2⟩ => .inr (by subst e1 e2; exact ⟨hl, hd, k⟩)
theorem step_ex {f : Nat} {args : List V} {R1 : List V → Heap → Prop} (c : ACalls P n f args h R1) {K : V → Heap → Prop} {K2 : List V → Heap → Prop} (k : ∀ rets h', R1 rets h' → (∃ x, rets = [x] ∧ K x h') ∨ K2 rets h') :
    ACalls P n f args h (fun rets h' => (∃ x, rets = [x] ∧ K x h') ∨ K2 rets h') := c.mono k

/-! #### loops -/
def kLoop {α : Type} (F : α → List V) (H : α → Heap) (C : α → Prop) (μ : α → Nat) (a : α) (Q : Ex → List V → Heap → Prop) (t1 : Tk F) (t2 : Tk H) (t3 : Tk C) (t4 : Tk μ) : Ex → List V → Heap → Prop :=
  fun e fr' h' => match e with | .n => ∃ a', C a' ∧ μ a' < μ a ∧ fr' = F a' ∧ h' = H a' | e => Q e fr' h'
theorem kLoop_n {α : Type} {F : α → List V} {H : α → Heap} {C : α → Prop} {μ : α → Nat} {a : α} : kLoop F H C μ a Q .mk .mk .mk .mk .n fr h = ∃ a', C a' ∧ μ a' < μ a ∧ fr = F a' ∧ h = H a' := _root_.id rfl
@[simp] theorem kLoop_r {α : Type} {F : α → List V} {H : α → Heap} {C : α → Prop} {μ : α → Nat} {a : α} : kLoop F H C μ a Q .mk .mk .mk .mk .r fr h = Q .r fr h := _root_.id rfl
@[simp] theorem kLoop_x {α : Type} {F : α → List V} {H : α → Heap} {C : α → Prop} {μ : α → Nat} {a : α} {i : Nat} : kLoop F H C μ a Q .mk .mk .mk .mk (.x i) fr h = Q (.x i) fr h := _root_.id rfl
theorem rwp_mono {P : Program} {n : Nat} {R R' : List V → Heap → Prop} (hR : ∀ fr h, R fr h → R' fr h) : ∀ (os : List IOq) (fr : List V) (loc : Loc) (h : Heap), rwp P n R os fr loc h → rwp P n R' os fr loc h
  | [], fr, loc, h, k => hR _ _ k
  | o :: os, fr, loc, h, k => by
    have ih := fun fr loc h => rwp_mono (P := P) (n := n) hR os fr loc h
    have hgo : (match o.op.kind with
      | .p => match tupMov loc o.op with
        | some vs => o.d = none ∧ rwp P n R os fr (loc ++ [vs]) h
        | none => ∃ v, evalP h (rho fr loc) loc o.op = some v ∧ rwp P n R os (setv fr o.d v) (loc ++ [[v]]) h
      | .e => ∃ v h' t, evalE h (rho fr loc) o.op = some (v, h', t) ∧ (∀ r, t = some r → n ≤ r) ∧ rwp P n R os (setv fr o.d v) (loc ++ [[v]]) h'
      | .c => ∃ f args, callOf (rho fr loc) o.op = some (f, args) ∧ ACalls P n f args h fun rets h' => (∃ x, rets = [x] ∧ rwp P n R os (setv fr o.d x) (loc ++ [[x]]) h') ∨ (rets.length ≠ 1 ∧ o.d = none ∧ rwp P n R os fr (loc ++ [rets]) h')
      | .x => False) → (match o.op.kind with
      | .p => match tupMov loc o.op with
        | some vs => o.d = none ∧ rwp P n R' os fr (loc ++ [vs]) h
        | none => ∃ v, evalP h (rho fr loc) loc o.op = some v ∧ rwp P n R' os (setv fr o.d v) (loc ++ [[v]]) h
      | .e => ∃ v h' t, evalE h (rho fr loc) o.op = some (v, h', t) ∧ (∀ r, t = some r → n ≤ r) ∧ rwp P n R' os (setv fr o.d v) (loc ++ [[v]]) h'
      | .c => ∃ f args, callOf (rho fr loc) o.op = some (f, args) ∧ ACalls P n f args h fun rets h' => (∃ x, rets = [x] ∧ rwp P n R' os (setv fr o.d x) (loc ++ [[x]]) h') ∨ (rets.length ≠ 1 ∧ o.d = none ∧ rwp P n R' os fr (loc ++ [rets]) h')
      | .x => False) := by
      cases o.op.kind <;> simp only []
      · cases tupMov loc o.op <;> simp only []
        · rintro ⟨v, e, k⟩; exact ⟨v, e, ih _ _ _ k⟩
        · rintro ⟨e, k⟩; exact ⟨e, ih _ _ _ k⟩
      · rintro ⟨v, h', t, e, e2, k⟩; exact ⟨v, h', t, e, e2, ih _ _ _ k⟩
      · rintro ⟨f, args, e, k⟩
        refine ⟨f, args, e, k.mono fun rets h' q => ?_⟩
        rcases q with ⟨x, e1, k⟩ | ⟨e1, e2, k⟩
        · exact .inl ⟨x, e1, ih _ _ _ k⟩
        · exact .inr ⟨e1, e2, ih _ _ _ k⟩
      · exact id
    unfold rwp at k ⊢
    simp only at k ⊢
    cases hg : o.g with
    | none => rw [hg] at k; exact hgo k
    | some q =>
      obtain ⟨gi, want⟩ := q
      rw [hg] at k
      simp only at k ⊢
      generalize loc[gi]? = q at k ⊢
      split at k
      · split at k
        · rename_i hx; simp only [hx, if_true]; exact hgo k
        · rename_i hx; simp only [hx, if_false]; exact ih _ _ _ k
      · exact ih _ _ _ k
      · exact k.elim
theorem dwp_mono {P : Program} {K K' : List V → Loc → Heap → Prop} (hK : ∀ fr loc h, K fr loc h → K' fr loc h) : ∀ (os : List IOq) (fr : List V) (loc : Loc) (h : Heap), dwp P K os fr loc h → dwp P K' os fr loc h
  | [], fr, loc, h, k => hK _ _ _ k
  | o :: os, fr, loc, h, k => by
    obtain ⟨vs, h', e, k⟩ := k
    refine ⟨vs, h', e, ?_⟩
    rcases k with ⟨v, e1, k⟩ | ⟨e1, e2, k⟩
    · exact .inl ⟨v, e1, dwp_mono hK _ _ _ _ k⟩
    · exact .inr ⟨e1, e2, dwp_mono hK _ _ _ _ k⟩
theorem iwp_mono {P : Program} {n : Nat} : ∀ (c : IC) {Q Q' : Ex → List V → Heap → Prop} (hQ : ∀ e fr h, Q e fr h → Q' e fr h) {fr : List V} {h : Heap}, iwp P n c Q fr h → iwp P n c Q' fr h
  | .skip, Q, Q', hQ, fr, h, k => hQ _ _ _ k
  | .reg ops, Q, Q', hQ, fr, h, k => rwp_mono (hQ .n) _ _ _ _ k
  | .dreg j ops, Q, Q', hQ, fr, h, k => ⟨k.1, dwp_mono (fun fr loc h k => rwp_mono (hQ .n) _ _ _ _ k) _ _ _ _ k.2⟩
  | .seq a b, Q, Q', hQ, fr, h, k => iwp_mono a (fun e fr h k => by
      cases e <;> simp only at k ⊢
      · exact iwp_mono b hQ k
      · exact hQ _ _ _ k
      · exact hQ _ _ _ k) k
  | .cond c a b, Q, Q', hQ, fr, h, k => by
    obtain ⟨t, e, k⟩ := k
    refine ⟨t, e, ?_⟩
    cases t
    · exact iwp_mono b hQ k
    · exact iwp_mono a hQ k
  | .blk id a, Q, Q', hQ, fr, h, k => iwp_mono a (fun e fr h k => by
      cases e <;> simp only at k ⊢
      · exact hQ _ _ _ k
      · rename_i i
        by_cases hi : i = id
        · rw [if_pos hi] at k ⊢; exact hQ _ _ _ k
        · rw [if_neg hi] at k ⊢; exact hQ _ _ _ k
      · exact hQ _ _ _ k) k
  | .loop a, Q, Q', hQ, fr, h, k => by
    obtain ⟨I, μ, h0, hs⟩ := k
    exact ⟨I, μ, h0, fun fr h hI => iwp_mono a (fun e fr' h' k => by
      cases e <;> simp only at k ⊢
      · exact k
      · exact hQ _ _ _ k
      · exact hQ _ _ _ k) (hs fr h hI)⟩
  | .exit id, Q, Q', hQ, fr, h, k => hQ _ _ _ k
  | .ret, Q, Q', hQ, fr, h, k => hQ _ _ _ k
theorem iwp_loopI {P : Program} {n : Nat} {Q : Ex → List V → Heap → Prop} {fr : List V} {h : Heap} {α : Type} (I : α → List V → Heap → Prop) (μ : α → Nat) (a : α) {body : IC} (h1 : I a fr h)
    (step : ∀ a fr h, I a fr h → iwp P n body (fun e fr' h' => match e with | .n => ∃ a', μ a' < μ a ∧ I a' fr' h' | e => Q e fr' h') fr h) : iwp P n (.loop body) Q fr h := by
  have key : ∀ fr h, (∃ k, ∃ a, I a fr h ∧ μ a = k) → ∃ k, (∃ a, I a fr h ∧ μ a = k) ∧ ∀ m, (∃ a, I a fr h ∧ μ a = m) → k ≤ m := fun fr h hx => least hx
  classical
  let ν : List V → Heap → Nat := fun fr h => if hx : (∃ k, ∃ a, I a fr h ∧ μ a = k) then Classical.choose (key fr h hx) else 0
  have hν : ∀ fr h (hx : ∃ k, ∃ a, I a fr h ∧ μ a = k), (∃ a, I a fr h ∧ μ a = ν fr h) ∧ ∀ m, (∃ a, I a fr h ∧ μ a = m) → ν fr h ≤ m := fun fr h hx => by
    have := Classical.choose_spec (key fr h hx)
    simp only [ν, dif_pos hx]; exact this
  refine ⟨fun fr h => ∃ k, ∃ a, I a fr h ∧ μ a = k, ν, ⟨_, a, h1, rfl⟩, fun fr h hI => ?_⟩
  obtain ⟨⟨b, b1, b2⟩, _⟩ := hν fr h hI
  refine iwp_mono body ?_ (step b fr h b1)
  intro e fr' h' k
  cases e <;> simp only at k ⊢
  · obtain ⟨a', k1, k2⟩ := k
    have hI' : ∃ k, ∃ a, I a fr' h' ∧ μ a = k := ⟨_, a', k2, rfl⟩
    exact ⟨hI', by have := (hν fr' h' hI').2 _ ⟨a', k2, rfl⟩; omega⟩
  · exact k
  · exact k
theorem iwp_loop {α : Type} (F : α → List V) (H : α → Heap) (C : α → Prop) (μ : α → Nat) (a : α) {body : IC} (h1 : fr = F a) (h2 : h = H a) (h3 : C a)
    (step : ∀ a, C a → iwp P n body (kLoop F H C μ a Q .mk .mk .mk .mk) (F a) (H a)) : iwp P n (.loop body) Q fr h := by
  refine iwp_loopI (fun a fr h => C a ∧ fr = F a ∧ h = H a) μ a ⟨h3, h1, h2⟩ ?_
  rintro a fr h ⟨c1, rfl, rfl⟩
  refine iwp_mono body ?_ (step a c1)
  intro e fr' h' k
  cases e <;> simp only [kLoop] at k ⊢
  · obtain ⟨a', k1, k2, k3, k4⟩ := k
    exact ⟨a', k2, k1, k3, k4⟩
  · exact k
  · exact k
/-- A loop by a relation. -/
def kLoopI {α : Type} (I : α → List V → Heap → Prop) (μ : α → Nat) (a : α) (Q : Ex → List V → Heap → Prop) (t1 : Tk I) (t2 : Tk μ) : Ex → List V → Heap → Prop :=
  fun e fr' h' => match e with | .n => ∃ a', μ a' < μ a ∧ I a' fr' h' | e => Q e fr' h'
@[simp] theorem kLoopI_r {α : Type} {I : α → List V → Heap → Prop} {μ : α → Nat} {a : α} : kLoopI I μ a Q .mk .mk .r fr h = Q .r fr h := _root_.id rfl
@[simp] theorem kLoopI_x {α : Type} {I : α → List V → Heap → Prop} {μ : α → Nat} {a : α} {i : Nat} : kLoopI I μ a Q .mk .mk (.x i) fr h = Q (.x i) fr h := _root_.id rfl
theorem kLoopI_next {α : Type} {I : α → List V → Heap → Prop} {μ : α → Nat} {a : α} (a' : α) (h1 : μ a' < μ a) (h2 : I a' fr h) : kLoopI I μ a Q .mk .mk .n fr h := ⟨a', h1, h2⟩
theorem iwp_loopR {α : Type} (I : α → List V → Heap → Prop) (μ : α → Nat) (a : α) {body : IC} (h1 : I a fr h)
    (step : ∀ a fr h, I a fr h → iwp P n body (kLoopI I μ a Q .mk .mk) fr h) : iwp P n (.loop body) Q fr h := iwp_loopI I μ a h1 step
/-- A function, by its walk. -/
theorem acalls_walk {f : Nat} {fn : IFn} {args : List V} (hm : P.follows .mixedOrders = true) (hf : FnIs P f fn) (hna : args.length = fn.np)
    (hw : iwp P n fn.body (kEnd fn.results R) (initFr fn args) h) : ACalls P n f args h R := acalls_raw hm hf hna hw
end
end Go.Px
