/- Own work over the kit: abstract memory, its rules, and the walk. -/
import Derived.Test.YtmkaaplbidlmcaaDoorPxIR
set_option linter.unusedVariables false
set_option linter.unusedSimpArgs false
namespace Go.Px

def cCell : Value → Option S
  | .bool b => some (.b b)
  | .int k n => some (.i k n)
  | .string t => some (.s (nats t))
  | .pointer none => some .np
  | .slice none 0 0 => some .nsl
  | .nilFunc => some .nf
  | _ => none
def cCells : List Value → Option (List S)
  | [] => some []
  | v :: l => match cCell v, cCells l with
    | some x, some r => some (x :: r)
    | _, _ => none
def cVal : Value → Option V
  | .agg cs => (cCells cs.toList).map V.a
  | v => (cCell v).map V.s

/-- Where temporaries are found: persistent ones, and those of the region so far. -/
structure Env where
  slots : List Nat
  loc : List (Nat × Nat)

def cOpd (E : Env) : Operand → Option Opd
  | .tmp t => match E.slots.idxOf? t with
    | some i => some (.v i)
    | none => (E.loc.lookup t).map Opd.l
  | .const v => (cVal v).map Opd.c
  | .func f => some (.c (.s (.f f [])))
  | .global _ => none
def cOpds (E : Env) : List Operand → Option (List Opd)
  | [] => some []
  | x :: l => match cOpd E x, cOpds E l with
    | some a, some r => some (a :: r)
    | _, _ => none
def cOpt (E : Env) : Option Operand → Option (Option Opd)
  | none => some none
  | some x => (cOpd E x).map some

/-- Is the type of several cells: how many; else: none. -/
def aggOf (P : Program) (t : TypeId) : Option (Option Nat) :=
  match P.underlying t, P.info? t with
  | some (.struct _), some i => some (some i.size)
  | some (.array _ _), some i => some (some i.size)
  | some _, some _ => some none
  | _, _ => none
def sizeOf' (P : Program) (t : TypeId) : Option Nat := (P.info? t).map (·.size)
def zeroOf (P : Program) (t : TypeId) : Option (List S) := do
  let i ← P.info? t
  let z ← i.zero
  let v ← cVal z
  let l ← v.cells
  if l.length = i.size then some l else none

/-- A type whose values are equal as their cells are: what the cells hold. -/
def flatFs (rec : TypeId → Option (List CK)) (szf : TypeId → Option Nat) : List Field → Nat → Option (List CK)
  | [], o => some []
  | f :: fs, o => match rec f.type, szf f.type with
    | some ks, some s => if ks.length = s ∧ f.offset = o ∧ f.name ≠ "_" then (flatFs rec szf fs (o + s)).map (ks ++ ·) else none
    | _, _ => none
def flatK (P : Program) : Nat → TypeId → Option (List CK)
  | 0, _ => none
  | d + 1, t => match P.underlying t with
    | some .bool => some [.b]
    | some (.int k) => some [.i k]
    | some .string => some [.s]
    | some (.struct fs) => if P.stoodInHeld t then none else flatFs (flatK P d) (sizeOf' P) fs.toList 0
    | some (.array n e) => match flatK P d e, sizeOf' P e with
      | some ks, some s => if ks.length = s then some ((List.replicate n ks).flatten) else none
      | _, _ => none
    | _ => none

def isNilConst : Operand → Option Nat
  | .const (.slice none 0 0) => some 0
  | .const (.pointer none) => some 1
  | .const .nilFunc => some 2
  | _ => none

def cParts (E : Env) (place : Nat → Option (Nat × Nat)) : List (Nat × Operand) → Option (List (Nat × Nat × Opd))
  | [] => some []
  | (i, x) :: l => match place i, cOpd E x, cParts E place l with
    | some (o, s), some x, some r => some ((o, s, x) :: r)
    | _, _, _ => none
def placesOf (P : Program) (fs : Array Field) : Option (List (Nat × Nat)) := fs.toList.mapM fun f => (P.info? f.type).map fun i => (f.offset, i.size)

def isSeq : Option TypeDesc → Bool
  | some (.slice _) | some .string => true
  | _ => false

def cClear (P : Program) (E : Env) (args : List Operand) (ts : List TypeId) : Option IOp :=
  match args, ts with
  | [x], [t] => match P.underlying t with
    | some (.slice e) => match zeroOf P e, cOpd E x with
      | some z, some a => some (.clr z.length z a)
      | _, _ => none
    | _ => none
  | _, _ => none
def cBuiltin0 (P : Program) (E : Env) (b : Builtin) (args : List Operand) (ts : List TypeId) : Option IOp :=
  match b, args, ts with
  | .len, [x], [t] => match P.underlying t with
    | some .string => (cOpd E x).map (.len true)
    | some (.slice _) => (cOpd E x).map (.len false)
    | some (.array n _) => some (.lenK n)
    | some (.pointer a) => match P.underlying a with
      | some (.array n _) => some (.lenK n)
      | _ => none
    | _ => none
  | .append, [x, y], [t, u] => match P.underlying t, isSeq (P.underlying u) with
    | some (.slice e), true => match P.info? e, cOpd E x, cOpd E y with
      | some i, some a, some b => if i.size = 0 ∨ (zeroOf P e).isNone then none else some (.app i.size i.bytes a b)
      | _, _, _ => none
    | _, _ => none
  | .copy, [x, y], [t, _] => match P.underlying t with
    | some (.slice e) => match P.info? e, cOpd E x, cOpd E y with
      | some i, some a, some b => if i.size = 0 then none else some (.cpy i.size a b)
      | _, _, _ => none
    | _ => none
  | .min, [x, y], _ => match cOpd E x, cOpd E y with
    | some a, some b => some (.mm false a b)
    | _, _ => none
  | .max, [x, y], _ => match cOpd E x, cOpd E y with
    | some a, some b => some (.mm true a b)
    | _, _ => none
  | _, _, _ => none

def cBuiltin (P : Program) (E : Env) (b : Builtin) (args : List Operand) (ts : List TypeId) : Option IOp :=
  if b = .clear then cClear P E args ts else cBuiltin0 P E b args ts

def cOp (P : Program) (E : Env) (op : Op) : Option IOp :=
  match op with
  | .move x => (cOpd E x).map .mov
  | .assign x => (cOpd E x).map .mov
  | .pick c a b => match cOpd E c, cOpd E a, cOpd E b with
    | some c, some a, some b => some (.pick c a b)
    | _, _, _ => none
  | .alloc t => match (P.info? t).bind (·.zero) with
    | some z => (cVal z).map fun v => .newv (.c v)
    | none => none
  | .box _ x => (cOpd E x).map .newv
  | .build t parts => match P.underlying t, zeroOf P t with
    | some (.struct fs), some z => match placesOf P fs with
      | some pl => (cParts E (fun i => pl[i]?) parts.toList).map fun l => .mkagg z l
      | none => none
    | some (.array _ e), some z => match sizeOf' P e with
      | some s => (cParts E (fun i => some (i * s, s)) parts.toList).map fun l => .mkagg z l
      | none => none
    | _, _ => none
  | .buildSlice t n parts => match P.underlying t with
    | some (.slice e) => match zeroOf P e with
      | some z => if z.length = 0 ∨ n * z.length > 2 ^ 24 then none else (cParts E (fun i => some (i * z.length, z.length)) parts.toList).map fun l => .mksl z.length n z l
      | none => none
    | _ => none
  | .load t x => match aggOf P t, cOpd E x with
    | some a, some o => some (.ld a o)
    | _, _ => none
  | .store t x v => match sizeOf' P t, cOpd E x, cOpd E v with
    | some s, some a, some b => some (.st s a b)
    | _, _, _ => none
  | .nilCheck x => (cOpd E x).map .nilc
  | .binOp op t x y _ =>
    let neg := op == .neq
    let eq := op == .eql || op == .neq
    match P.underlying t with
    | some (.int _) => match cOpd E x, cOpd E y with
      | some a, some b => some (.bin op a b)
      | _, _ => none
    | some .string => match cOpd E x, cOpd E y with
      | some a, some b => some (.bin op a b)
      | _, _ => none
    | some .bool => match cOpd E x, cOpd E y with
      | some a, some b => if eq then some (.eqb neg a b) else none
      | _, _ => none
    | some (.struct _) => match flatK P 8 t, cOpd E x, cOpd E y with
      | some n, some a, some b => if eq ∧ P.eqGuardType P.depth t = false ∧ aggOf P t = some (some n.length) then some (.eqa neg n a b) else none
      | _, _, _ => none
    | some (.array _ _) => match flatK P 8 t, cOpd E x, cOpd E y with
      | some n, some a, some b => if eq ∧ P.eqGuardType P.depth t = false ∧ aggOf P t = some (some n.length) then some (.eqa neg n a b) else none
      | _, _, _ => none
    | some (.slice _) => if eq ∧ isNilConst y = some 0 then (cOpd E x).map (.eqn 0 neg) else none
    | some (.pointer _) => if eq ∧ isNilConst y = some 1 then (cOpd E x).map (.eqn 1 neg) else none
    | some (.func _ _ _) => if eq ∧ isNilConst y = some 2 then (cOpd E x).map (.eqn 2 neg) else none
    | _ => none
  | .unOp op _ x => (cOpd E x).map (.un op)
  | .convert s d x => match P.underlying s, P.underlying d with
    | some (.int _), some (.int k) => (cOpd E x).map (.cvt k)
    | some .string, some .string => (cOpd E x).map .cvs
    | some (.slice e), some .string => match P.underlying e with
      | some (.int .u8) => (cOpd E x).map .b2s
      | _ => none
    | some .string, some (.slice e) => match P.underlying e with
      | some (.int .u8) => (cOpd E x).map .s2b
      | _ => none
    | _, _ => none
  | .makeFunc (.func f) first caps => if first.size = 0 then (cOpds E caps.toList).map (.mkf f) else none
  | .makeSlice t l c => match P.underlying t with
    | some (.slice e) => match P.info? e, zeroOf P e, cOpd E l, cOpd E c with
      | some i, some z, some a, some b => if i.size = 0 then none else some (.mks i.size i.bytes z a b)
      | _, _, _, _ => none
    | _ => none
  | .slice t x lo hi mx => match cOpd E x, cOpt E lo, cOpt E hi, cOpt E mx with
    | some a, some l, some h, some m => match P.underlying t with
      | some .string => if m = none then some (.sstr a l h) else none
      | some (.slice e) => match sizeOf' P e with
        | some s => if mx.isSome ∧ hi.isNone then none else some (.ssl s a l h m)
        | none => none
      | some (.array n e) => match sizeOf' P e with
        | some s => if m = none then some (.sarr n s a l h) else none
        | none => none
      | some (.pointer u) => match P.underlying u with
        | some (.array n e) => match sizeOf' P e with
          | some s => if m = none then some (.sarr n s a l h) else none
          | none => none
        | _ => none
      | _ => none
    | _, _, _, _ => none
  | .fieldAddr t x i => match P.underlying t, cOpd E x with
    | some (.struct fs), some a => match fs[i]? with
      | some f => match sizeOf' P f.type with
        | some s => if s = 0 then none else some (.fad f.offset a)
        | none => none
      | none => none
    | _, _ => none
  | .field t x i => match P.underlying t, cOpd E x with
    | some (.struct fs), some a => match fs[i]? with
      | some f => (aggOf P f.type).map fun g => .fld f.offset g a
      | none => none
    | _, _ => none
  | .indexAddr t x i => match P.underlying t, cOpd E x, cOpd E i with
    | some (.array n e), some a, some b => (sizeOf' P e).map fun s => .iadA n s a b
    | some (.slice e), some a, some b => (sizeOf' P e).map fun s => .iadS s a b
    | _, _, _ => none
  | .index t x i => match P.underlying t, cOpd E x, cOpd E i with
    | some (.array n e), some a, some b => match sizeOf' P e, aggOf P e with
      | some s, some g => some (.ixA n s g a b)
      | _, _ => none
    | some .string, some a, some b => some (.ixS a b)
    | _, _, _ => none
  | .extract (.tmp t) j => match E.slots.idxOf? t with
    | some _ => none
    | none => (E.loc.lookup t).map fun k => .ext k j
  | .call c => match c.callee with
    | .value (.func f) => (cOpds E c.args.toList).map (.call f)
    | .value f => match cOpd E f, cOpds E c.args.toList with
      | some o, some l => some (.cald o l)
      | _, _ => none
    | .builtin b => cBuiltin P E b c.args.toList c.argTypes.toList
    | _ => none
  | _ => none

def cGuard (seen : List (Option Nat)) (slots : List Nat) : Option (Nat × Bool) → Bool
  | none => true
  | some (g, _) => match seen[g]? with
    | some (some t) => !slots.contains t
    | _ => false

/-- A region. seen: the temporaries of the operations so far. -/
def cOps (P : Program) (E : Env) (seen : List (Option Nat)) : List Oper → Option (List IOq)
  | [] => some []
  | o :: os =>
    if cGuard seen E.slots o.guard = false then none else
    let i := (cOp P E o.op).getD .bad
    match o.dst with
    | none => (cOps P E (seen ++ [none]) os).map fun r => ⟨o.guard, none, i⟩ :: r
    | some t => match E.slots.idxOf? t with
      | some k => (cOps P E (seen ++ [some t]) os).map fun r => ⟨o.guard, some k, i⟩ :: r
      | none => if (E.loc.lookup t).isSome then none else
        (cOps P ⟨E.slots, (t, seen.length) :: E.loc⟩ (seen ++ [some t]) os).map fun r => ⟨o.guard, none, i⟩ :: r

/-! ### which slots a function needs (nothing leans on it) -/
def opTmps (os : List Operand) : List Nat := os.filterMap fun | .tmp t => some t | _ => none
def needR : List Oper → List Nat → List Nat
  | [], _ => []
  | o :: os, seen => ((opTmps o.op.operands.toList).filter fun t => !seen.contains t) ++ needR os (o.dst.toList ++ seen)
def dupR : List Oper → List Nat → List Nat
  | [], _ => []
  | o :: os, seen => (o.dst.toList.filter fun t => seen.contains t) ++ dupR os (o.dst.toList ++ seen)
def need : Code → List Nat
  | .region _ ops _ => needR ops.toList [] ++ dupR ops.toList []
  | .seq a b => need a ++ need b
  | .cond c a b => opTmps [c] ++ need a ++ need b
  | .block _ a => need a
  | .loop a => need a
  | _ => []
def dstC : Code → List Nat
  | .region _ ops _ => ops.toList.flatMap fun o => o.dst.toList
  | .seq a b => dstC a ++ dstC b
  | .cond _ a b => dstC a ++ dstC b
  | .block _ a => dstC a
  | .loop a => dstC a
  | _ => []
def slotsOf (f : Func) : List Nat :=
  let np := f.params.size + f.nfree
  let res := f.results.toList.map fun | .tmp t => t | .cell t _ => t
  let body := f.body.getD .skip
  (List.range np) ++ ((res ++ need body).filter (fun t => decide (np ≤ t))).eraseDups

end Go.Px
