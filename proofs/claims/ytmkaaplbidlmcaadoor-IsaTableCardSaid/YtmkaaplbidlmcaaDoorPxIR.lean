/- Own work over the kit: abstract memory, its rules, and the walk. -/
import Derived.Test.YtmkaaplbidlmcaaDoorPxPure
set_option linter.unusedVariables false
set_option linter.unusedSimpArgs false
namespace Go.Px

inductive Opd where
  | v (i : Nat)
  | l (j : Nat)
  | c (x : V)
  deriving DecidableEq

/-- What a cell of a comparable value holds. -/
inductive CK where
  | b
  | i (k : IntKind)
  | s
  deriving DecidableEq
def CK.is : CK → S → Bool
  | .b, .b _ => true
  | .i k, .i k' _ => decide (k = k')
  | .s, .s _ => true
  | _, _ => false
def kindsAre : List CK → List S → Bool
  | [], [] => true
  | k :: ks, x :: xs => k.is x && kindsAre ks xs
  | _, _ => false

inductive IOp where
  | mov (x : Opd)
  | pick (c a b : Opd)
  | newv (x : Opd)
  | mkagg (zero : List S) (parts : List (Nat × Nat × Opd))
  | mksl (sz n : Nat) (zero : List S) (parts : List (Nat × Nat × Opd))
  | ld (agg : Option Nat) (x : Opd)
  | st (sz : Nat) (x v : Opd)
  | nilc (x : Opd)
  | bin (op : BinOp) (x y : Opd)
  | eqb (neg : Bool) (x y : Opd)
  | eqn (k : Nat) (neg : Bool) (x : Opd)
  | eqa (neg : Bool) (ks : List CK) (x y : Opd)
  | un (op : UnOp) (x : Opd)
  | cvt (k : IntKind) (x : Opd)
  | cvs (x : Opd)
  | b2s (x : Opd)
  | s2b (x : Opd)
  | mkf (fn : Nat) (caps : List Opd)
  | mks (sz bytes : Nat) (zero : List S) (len cap : Opd)
  | sstr (x : Opd) (lo hi : Option Opd)
  | ssl (sz : Nat) (x : Opd) (lo hi mx : Option Opd)
  | sarr (n sz : Nat) (x : Opd) (lo hi : Option Opd)
  | fad (off : Nat) (x : Opd)
  | fld (off : Nat) (agg : Option Nat) (x : Opd)
  | iadA (n sz : Nat) (x i : Opd)
  | iadS (sz : Nat) (x i : Opd)
  | ixA (n sz : Nat) (agg : Option Nat) (x i : Opd)
  | ixS (x i : Opd)
  | ext (k j : Nat)
  | len (str : Bool) (x : Opd)
  | lenK (n : Nat)
  | app (sz bytes : Nat) (x y : Opd)
  | cpy (sz : Nat) (x y : Opd)
  | clr (sz : Nat) (zero : List S) (x : Opd)
  | mm (isMax : Bool) (x y : Opd)
  | bad
  | call (f : Nat) (args : List Opd)
  | cald (f : Opd) (args : List Opd)
  deriving DecidableEq

structure IOq where
  g : Option (Nat × Bool)
  d : Option Nat
  op : IOp
  deriving DecidableEq

inductive IC where
  | skip
  | reg (ops : List IOq)
  | dreg (k : Nat) (ops : List IOq)
  | seq (a b : IC)
  | cond (c : Opd) (a b : IC)
  | blk (id : Nat) (body : IC)
  | loop (body : IC)
  | exit (id : Nat)
  | ret
  deriving DecidableEq

inductive IRes where
  | tmp (i : Nat)
  | cell (i : Nat) (agg : Option Nat)
  deriving DecidableEq

structure IFn where
  np : Nat
  slots : List Nat
  results : List IRes
  body : IC

/-! ### values of operands -/
abbrev Loc := List (List V)
def rho (fr : List V) (loc : Loc) : Opd → V
  | .v i => fr.getD i .any
  | .l j => match loc[j]? with | some [x] => x | _ => .any
  | .c x => x
def V.cells : V → Option (List S)
  | .s x => some [x]
  | .a l => some l
  | _ => none
def V.isInt : V → Option Int
  | .s (.i _ n) => some n
  | _ => none
def getAgg (agg : Option Nat) (l : List S) (o : Nat) : Option V :=
  match agg with
  | none => (l[o]?).map V.s
  | some n => if o + n ≤ l.length then some (.a ((l.drop o).take n)) else none
/-- A row by a reference that is not stale. -/
def rowAt (h : Heap) (r g : Nat) : Option Row :=
  match h[r]? with
  | some row => if row.gen = g then some row else none
  | none => none
def fillParts (ρ : Opd → V) : List (Nat × Nat × Opd) → List S → Option (List S)
  | [], z => some z
  | (off, sz, x) :: rest, z =>
    match (ρ x).cells with
    | some l => if l.length = sz ∧ off + sz ≤ z.length then fillParts ρ rest (splice z off l) else none
    | none => none
def ptrs : List V → Option (List (Nat × Nat × Nat))
  | [] => some []
  | .s (.p r g o) :: rest => (ptrs rest).map ((r, g, o) :: ·)
  | _ => none
/-- A bound of a slice expression: within 0..m. -/
def bnd (ρ : Opd → V) (x : Option Opd) (d m : Nat) : Option Nat :=
  match x with
  | none => some d
  | some o => match ρ o with
    | .s (.i _ n) => if 0 ≤ n ∧ n ≤ m then some n.toNat else none
    | _ => none
/-- What n cells from a slice are. -/
def slCells (h : Heap) : S → Option (List S)
  | .nsl => some []
  | .sl r g o sz n _ _ => (rowAt h r g).map fun row => (row.cells.drop o).take (n * sz)
  | _ => none

def bytesS : List S → Option (List Nat)
  | [] => some []
  | .i .u8 n :: l => (bytesS l).map (n.toNat % 256 :: ·)
  | _ => none

def eqn0 (neg : Bool) : V → Option V
  | .s (.sl _ _ _ _ _ _ _) => some (.s (.b neg))
  | .s .nsl => some (.s (.b (!neg)))
  | _ => none
def eqn1 (neg : Bool) : V → Option V
  | .s (.p _ _ _) => some (.s (.b neg))
  | .s .np => some (.s (.b (!neg)))
  | _ => none
def eqn2 (neg : Bool) : V → Option V
  | .s (.f _ _) => some (.s (.b neg))
  | .s .nf => some (.s (.b (!neg)))
  | _ => none

def len1 : V → Option V
  | .s (.s l) => some (.s (.i .i64 l.length))
  | _ => none
def len0 : V → Option V
  | .s .nsl => some (.s (.i .i64 0))
  | .s (.sl _ _ _ _ n _ _) => some (.s (.i .i64 n))
  | _ => none

/-- Operations that leave memory alone. -/
def evalP (h : Heap) (ρ : Opd → V) (loc : Loc) : IOp → Option V
  | .mov x => some (ρ x)
  | .pick c a b => match ρ c with
    | .s (.b t) => some (if t then ρ a else ρ b)
    | _ => none
  | .mkagg z parts => (fillParts ρ parts z).map V.a
  | .ld agg x => match ρ x with
    | .s (.p r g o) => match rowAt h r g with
      | some row => getAgg agg row.cells o
      | none => none
    | _ => none
  | .nilc x => match ρ x with
    | .s (.p r g o) => some (.s (.p r g o))
    | .s (.f fn caps) => some (.s (.f fn caps))
    | _ => none
  | .bin op x y => match ρ x, ρ y with
    | .s a, .s b => (binS op a b).map V.s
    | _, _ => none
  | .eqb neg x y => match ρ x, ρ y with
    | .s (.b a), .s (.b b) => some (.s (.b (decide (a = b) != neg)))
    | _, _ => none
  | .eqn k neg x => match k with
    | 0 => eqn0 neg (ρ x)
    | 1 => eqn1 neg (ρ x)
    | _ => eqn2 neg (ρ x)
  | .eqa neg ks x y => match ρ x, ρ y with
    | .a l, .a m => if kindsAre ks l = true ∧ kindsAre ks m = true then some (.s (.b (decide (l = m) != neg))) else none
    | _, _ => none
  | .un op x => match op, ρ x with
    | .neg, .s (.i k n) => some (.s (.i k (k.wrap (0 - n))))
    | .not, .s (.b b) => some (.s (.b (!b)))
    | .xor, .s (.i k n) => some (.s (.i k (k.wrap (BitVec.ofInt k.bits (if k.signed then -1 else k.max) ^^^ BitVec.ofInt k.bits n).toNat)))
    | _, _ => none
  | .cvt k x => match ρ x with
    | .s (.i _ n) => some (.s (.i k (k.wrap n)))
    | _ => none
  | .mkf fn caps => (ptrs (caps.map ρ)).map fun l => .s (.f fn l)
  | .sstr x lo hi => match ρ x with
    | .s (.s l) => match bnd ρ hi l.length l.length with
      | some h' => match bnd ρ lo 0 h' with
        | some l' => some (.s (.s ((l.take h').drop l')))
        | none => none
      | none => none
    | _ => none
  | .ssl sz x lo hi mx => match ρ x with
    | .s .nsl => match bnd ρ mx 0 0, bnd ρ hi 0 0, bnd ρ lo 0 0 with
      | some _, some _, some _ => some (.s .nsl)
      | _, _, _ => none
    | .s (.sl r g o sz' n c e) => if sz' = sz then
      match bnd ρ mx c c with
      | some m => match bnd ρ hi n m with
        | some h' => match bnd ρ lo 0 h' with
          | some l' => some (.s (.sl r g (o + l' * sz) sz (h' - l') (m - l') (e || mx.isSome)))
          | none => none
        | none => none
      | none => none
      else none
    | _ => none
  | .sarr n sz x lo hi => match ρ x with
    | .s (.p r g o) => match rowAt h r g with
      | some row => if o + n * sz ≤ row.cells.length ∧ n ≤ 1048576 then
        match bnd ρ hi n n with
        | some h' => match bnd ρ lo 0 h' with
          | some l' => some (.s (.sl r g (o + l' * sz) sz (h' - l') (n - l') true))
          | none => none
        | none => none
        else none
      | none => none
    | _ => none
  | .fad off x => match ρ x with
    | .s (.p r g o) => some (.s (.p r g (o + off)))
    | _ => none
  | .fld off agg x => match ρ x with
    | .a l => getAgg agg l off
    | _ => none
  | .iadA n sz x i => match ρ x, ρ i with
    | .s (.p r g o), .s (.i _ j) => if 0 ≤ j ∧ j < n then some (.s (.p r g (o + j.toNat * sz))) else none
    | _, _ => none
  | .iadS sz x i => match ρ x, ρ i with
    | .s (.sl r g o sz' n _ _), .s (.i _ j) => if sz' = sz ∧ 0 ≤ j ∧ j < n then some (.s (.p r g (o + j.toNat * sz))) else none
    | _, _ => none
  | .ixA n sz agg x i => match ρ x, ρ i with
    | .a l, .s (.i _ j) => if 0 ≤ j ∧ j < n then getAgg agg l (j.toNat * sz) else none
    | _, _ => none
  | .ixS x i => match ρ x, ρ i with
    | .s (.s l), .s (.i _ j) => if 0 ≤ j then (l[j.toNat]?).map fun (b : Nat) => V.s (.i .u8 (b : Int)) else none
    | _, _ => none
  | .ext k j => match loc[k]? with
    | some vs => if vs.length = 1 then none else vs[j]?
    | none => none
  | .len str x => match str with
    | true => len1 (ρ x)
    | false => len0 (ρ x)
  | .lenK n => some (.s (.i .i64 n))
  | .mm mx x y => match ρ x, ρ y with
    | .s (.i k a), .s (.i k' b) => some (.s (.i k (if mx then (if b > a then b else a) else (if b < a then b else a))))
    | _, _ => none
  | .cvs x => match ρ x with
    | .s (.s l) => some (.s (.s l))
    | _ => none
  | .b2s x => match ρ x with
    | .s .nsl => some (.s (.s []))
    | .s (.sl r g o sz n c e) => if sz = 1 then
      match slCells h (.sl r g o sz n c e) with
      | some l => (bytesS l).map fun bs => V.s (.s bs)
      | none => none
      else none
    | _ => none
  | _ => none

/-- The row behind an append that need not lie in place: generation and contents are new. -/
def appRow (row : Row) (o : Nat) (old new : List S) : Row := { row with cells := (row.cells.drop o).take old.length ++ new, gen := row.gen + 1 }

def byteS (l : List Nat) : List S := l.map fun (b : Nat) => S.i .u8 (b : Int)
/-- What an append's or a copy's second operand bears. -/
def srcCells (h : Heap) (sz : Nat) : S → Option (Nat × List S)
  | .s l => if sz = 1 then some (l.length, byteS l) else none
  | .nsl => some (0, [])
  | .sl r g o sz' n c e => if sz' = sz then (slCells h (.sl r g o sz' n c e)).map fun l => (n, l) else none
  | _ => none

/-- Operations that write: the value, the heap, the row that is written (if one that was there is). -/
def evalE (h : Heap) (ρ : Opd → V) : IOp → Option (V × Heap × Option Nat)
  | .newv x => (ρ x).cells.map fun l => (.s (.p h.length 0 0), h ++ [⟨l, true, 0⟩], none)
  | .mksl sz n z parts => (fillParts ρ parts ((List.replicate n z).flatten)).map fun l =>
      (.s (.sl h.length 0 0 sz n n true), h ++ [⟨l, true, 0⟩], none)
  | .mks sz bytes z len cap => match ρ len, ρ cap with
    | .s (.i _ l), .s (.i _ c) => if 0 ≤ l ∧ l ≤ c ∧ c ≤ 9223372036854775807 ∧ c * bytes ≤ 140737488355328 then
        some (.s (.sl h.length 0 0 sz l.toNat c.toNat true), h ++ [⟨(List.replicate c.toNat z).flatten, true, 0⟩], none) else none
    | _, _ => none
  | .s2b x => match ρ x with
    | .s (.s l) => if l.length ≤ 9223372036854775807 then some (.s (.sl h.length 0 0 1 l.length l.length false), h ++ [⟨byteS l, true, 0⟩], none) else none
    | _ => none
  | .st sz x v => match ρ x, (ρ v).cells with
    | .s (.p r g o), some l => match rowAt h r g with
      | some row => if row.rw = true ∧ l.length = sz ∧ o + sz ≤ row.cells.length then some (.u, setCells h r row (splice row.cells o l), some r) else none
      | none => none
    | _, _ => none
  | .app sz bytes x y => match ρ x, ρ y with
    | .s x, .s y => match srcCells h sz y with
      | none => none
      | some (m, new) =>
        if m = 0 then (match x with
          | .nsl => some (.s .nsl, h, none)
          | .sl r g o sz' n c e => some (.s (.sl r g o sz' n c e), h, none)
          | _ => none) else
        match x with
        | .nsl =>
          if m ≤ 9223372036854775807 ∧ m * bytes ≤ 140737488355328 then some (.s (.sl h.length 0 0 sz m m false), h ++ [⟨new, true, 0⟩], none) else none
        | .sl r g o sz' n c e => if sz' = sz then
          match rowAt h r g with
          | none => none
          | some row =>
            if n + m ≤ c then if row.rw = true then some (.s (.sl r g o sz (n + m) c e), setCells h r row (splice row.cells (o + n * sz) new), some r) else none
            else if n + m ≤ 9223372036854775807 ∧ (n + m) * bytes ≤ 140737488355328 then
              if e then some (.s (.sl h.length 0 0 sz (n + m) (n + m) false), h ++ [⟨(row.cells.drop o).take (n * sz) ++ new, true, 0⟩], none)
              else if row.rw = true then
                some (.s (.sl r (g + 1) 0 sz (n + m) (n + m) false), h.set r ⟨(row.cells.drop o).take (n * sz) ++ new, true, g + 1⟩, some r)
              else none
            else none
          else none
        | _ => none
    | _, _ => none
  | .clr sz z x => match ρ x with
    | .s .nsl => some (.any, h, none)
    | .s (.sl r g o sz' n c e) => if sz' = sz then
      if n = 0 then some (.any, h, none) else
      match rowAt h r g with
      | none => none
      | some row => if row.rw = true then some (.any, setCells h r row (splice row.cells o (List.replicate n z).flatten), some r) else none
      else none
    | _ => none
  | .cpy sz x y => match ρ x, ρ y with
    | .s x, .s y => match srcCells h sz y with
      | none => none
      | some (m, new) =>
        match x with
        | .nsl => some (.s (.i .i64 0), h, none)
        | .sl r g o sz' n c e => if sz' = sz then
          match rowAt h r g with
          | none => none
          | some row => if row.rw = true then some (.s (.i .i64 (min m n : Nat)), setCells h r row (splice row.cells o (new.take (min m n * sz))), some r) else none
          else none
        | _ => none
    | _, _ => none
  | _ => none

def callOf (ρ : Opd → V) : IOp → Option (Nat × List V)
  | .call f args => some (f, args.map ρ)
  | .cald f args => match ρ f with
    | .s (.f fn caps) => some (fn, args.map ρ ++ caps.map fun c => .s (.p c.1 c.2.1 c.2.2))
    | _ => none
  | _ => none

inductive K where | p | e | c | x
def IOp.kind : IOp → K
  | .call .. | .cald .. => .c
  | .newv .. | .mksl .. | .mks .. | .s2b .. | .st .. | .app .. | .cpy .. | .clr .. => .e
  | .bad => .x
  | _ => .p

/-! ### contracts and the predicate transformer -/
def Callable (P : Program) (f : Nat) : Prop := ∃ fn, P.funcs[f]? = some fn ∧ fn.body.isSome = true ∧ (fn.name == "runtime.NumGoroutine") = false

def VRs (sh : List Sh) (β : Beta) (l : List V) (vs : Array Value) : Prop := vs.size = l.length ∧ ∀ (j : Nat) (x : V), l[j]? = some x → ∃ u, vs[j]? = some u ∧ VR sh β x u

def RetV (sh : List Sh) (β : Beta) (rets : List V) (v : Value) : Prop :=
  match rets with
  | [x] => VR sh β x v
  | l => ∃ vs, v = .tuple vs ∧ VRs sh β l vs

def ACalls (P : Program) (n : Nat) (f : Nat) (args : List V) (h : Heap) (R : List V → Heap → Prop) : Prop :=
  Callable P f ∧ ∀ (w : World) (β : Beta) (vs : Array Value), Rel h β w → VRs (shp h) β args vs →
    Calls P f vs w (fun e w' => ∃ rets h' β' v, e = .returned v ∧ R rets h' ∧ RetV (shp h') β' rets v ∧ Rel h' β' w' ∧ Step n h β w h' β' w')

theorem ACalls.mono {P n f args h R R'} (a : ACalls P n f args h R) (hr : ∀ rets h', R rets h' → R' rets h') : ACalls P n f args h R' :=
  ⟨a.1, fun w β vs h1 h2 => (a.2 w β vs h1 h2).mono fun e w' ⟨rets, h', β', v, e1, e2, e3⟩ => ⟨rets, h', β', v, e1, hr _ _ e2, e3⟩⟩
theorem ACalls.le {P n n' f args h R} (a : ACalls P n f args h R) (hn : n' ≤ n) : ACalls P n' f args h R :=
  ⟨a.1, fun w β vs h1 h2 => (a.2 w β vs h1 h2).mono fun e w' ⟨rets, h', β', v, e1, e2, e3, e4, e5⟩ => ⟨rets, h', β', v, e1, e2, e3, e4, e5.mono hn⟩⟩

def setv (fr : List V) (d : Option Nat) (v : V) : List V :=
  match d with
  | some i => fr.set i v
  | none => fr

/-- Values that are one concrete value alone. -/
def S.det : S → Bool
  | .b _ | .i _ _ | .s _ | .p _ _ _ | .np | .nsl | .nf => true
  | _ => false
def V.det : V → Bool
  | .s x => x.det
  | .a l => l.all S.det
  | .u => true
  | .any => false

/-- A call's several results, handed on. -/
def tupMov (loc : Loc) : IOp → Option (List V)
  | .mov (.l j) => match loc[j]? with
    | some vs => if vs.length = 1 then none else some vs
    | none => none
  | _ => none

def rwp (P : Program) (n : Nat) (Q : List V → Heap → Prop) : List IOq → List V → Loc → Heap → Prop
  | [], fr, _, h => Q fr h
  | o :: os, fr, loc, h =>
    let skip : Prop := rwp P n Q os (setv fr o.d .u) (loc ++ [[.u]]) h
    let go : Prop := match o.op.kind with
      | .p => match tupMov loc o.op with
        | some vs => o.d = none ∧ rwp P n Q os fr (loc ++ [vs]) h
        | none => ∃ v, evalP h (rho fr loc) loc o.op = some v ∧ rwp P n Q os (setv fr o.d v) (loc ++ [[v]]) h
      | .e => ∃ v h' t, evalE h (rho fr loc) o.op = some (v, h', t) ∧ (∀ r, t = some r → n ≤ r) ∧ rwp P n Q os (setv fr o.d v) (loc ++ [[v]]) h'
      | .c => ∃ f args, callOf (rho fr loc) o.op = some (f, args) ∧ ACalls P n f args h fun rets h' => (∃ x, rets = [x] ∧ rwp P n Q os (setv fr o.d x) (loc ++ [[x]]) h') ∨ (rets.length ≠ 1 ∧ o.d = none ∧ rwp P n Q os fr (loc ++ [rets]) h')
      | .x => False
    match o.g with
    | none => go
    | some (gi, want) => match loc[gi]? with
      | some [.s (.b x)] => if x = want then go else skip
      | some [.u] => skip
      | _ => False

inductive Ex where
  | n
  | x (id : Nat)
  | r

end Go.Px
