/- Own work over the kit: abstract memory, its rules, and the walk. -/
import Derived.Test.YtmkaaplbidlmcaaDoorPxRen
set_option linter.unusedVariables false
set_option linter.unusedSimpArgs false
namespace Go.Px

/-! ### values reckoned at once (for the kernel) -/
section force
universe u
variable {α : Type u}
def forceN (n : Nat) (k : Nat → α) : α := match n with | 0 => k 0 | p + 1 => k (Nat.succ p)
theorem forceN_eq (n : Nat) (k : Nat → α) : forceN n k = k n := by cases n <;> rfl
def forceB (b : Bool) (k : Bool → α) : α := match b with | false => k false | true => k true
theorem forceB_eq (b : Bool) (k : Bool → α) : forceB b k = k b := by cases b <;> rfl
def forceI (n : Int) (k : Int → α) : α := match n with | .ofNat m => forceN m fun m => k (.ofNat m) | .negSucc m => forceN m fun m => k (.negSucc m)
theorem forceI_eq (n : Int) (k : Int → α) : forceI n k = k n := by cases n <;> simp [forceI, forceN_eq]
def forceNs : List Nat → (List Nat → α) → α
  | [], k => k []
  | a :: l, k => forceN a fun a => forceNs l fun l => k (a :: l)
theorem forceNs_eq : ∀ (l : List Nat) (k : List Nat → α), forceNs l k = k l
  | [], _ => rfl
  | a :: l, k => by show forceN a _ = _; rw [forceN_eq]; exact forceNs_eq l _
def forceC (c : Nat × Nat × Nat) (k : Nat × Nat × Nat → α) : α := forceN c.1 fun a => forceN c.2.1 fun b => forceN c.2.2 fun d => k (a, b, d)
theorem forceC_eq (c : Nat × Nat × Nat) (k : Nat × Nat × Nat → α) : forceC c k = k c := by simp [forceC, forceN_eq]
def forceCs : List (Nat × Nat × Nat) → (List (Nat × Nat × Nat) → α) → α
  | [], k => k []
  | a :: l, k => forceC a fun a => forceCs l fun l => k (a :: l)
theorem forceCs_eq : ∀ (l : List (Nat × Nat × Nat)) (k : List (Nat × Nat × Nat) → α), forceCs l k = k l
  | [], _ => rfl
  | a :: l, k => by show forceC a _ = _; rw [forceC_eq]; exact forceCs_eq l _
def forceS (x : S) (k : S → α) : α :=
  match x with
  | .b x => forceB x fun x => k (.b x)
  | .i t n => forceI n fun n => k (.i t n)
  | .s l => forceNs l fun l => k (.s l)
  | .p r g o => forceN r fun r => forceN g fun g => forceN o fun o => k (.p r g o)
  | .np => k .np
  | .sl r g o sz n c e => forceN r fun r => forceN g fun g => forceN o fun o => forceN sz fun sz => forceN n fun n => forceN c fun c => forceB e fun e => k (.sl r g o sz n c e)
  | .nsl => k .nsl
  | .f fn caps => forceCs caps fun caps => k (.f fn caps)
  | .nf => k .nf
theorem forceS_eq (x : S) (k : S → α) : forceS x k = k x := by cases x <;> simp [forceS, forceN_eq, forceB_eq, forceI_eq, forceNs_eq, forceCs_eq]
def forceSs : List S → (List S → α) → α
  | [], k => k []
  | a :: l, k => forceS a fun a => forceSs l fun l => k (a :: l)
theorem forceSs_eq : ∀ (l : List S) (k : List S → α), forceSs l k = k l
  | [], _ => rfl
  | a :: l, k => by show forceS a _ = _; rw [forceS_eq]; exact forceSs_eq l _
def forceV (x : V) (k : V → α) : α :=
  match x with
  | .s x => forceS x fun x => k (.s x)
  | .a l => forceSs l fun l => k (.a l)
  | .u => k .u
  | .any => k .any
theorem forceV_eq (x : V) (k : V → α) : forceV x k = k x := by cases x <;> simp [forceV, forceS_eq, forceSs_eq]
/-- The spine of a list alone. -/
def spine {γ : Type} : List γ → (List γ → α) → α
  | [], k => k []
  | a :: l, k => spine l fun l => k (a :: l)
theorem spine_eq {γ : Type} : ∀ (l : List γ) (k : List γ → α), spine l k = k l
  | [], _ => rfl
  | a :: l, k => by show spine l _ = _; rw [spine_eq l]
def spineV (x : V) (k : V → α) : α :=
  match x with
  | .s x => k (.s x)
  | .a l => spine l fun l => k (.a l)
  | .u => k .u
  | .any => k .any
theorem spineV_eq (x : V) (k : V → α) : spineV x k = k x := by cases x <;> simp [spineV, spine_eq]
def spineVs : List V → (List V → α) → α
  | [], k => k []
  | a :: l, k => spineV a fun a => spineVs l fun l => k (a :: l)
theorem spineVs_eq : ∀ (l : List V) (k : List V → α), spineVs l k = k l
  | [], _ => rfl
  | a :: l, k => by show spineV a _ = _; rw [spineV_eq]; exact spineVs_eq l _
def setK {γ : Type} : List γ → Nat → γ → (List γ → α) → α
  | [], _, _, k => k []
  | _ :: l, 0, v, k => k (v :: l)
  | a :: l, i + 1, v, k => setK l i v fun l => k (a :: l)
theorem setK_eq {γ : Type} : ∀ (l : List γ) (i : Nat) (v : γ) (k : List γ → α), setK l i v k = k (l.set i v)
  | [], _, _, _ => rfl
  | _ :: _, 0, _, _ => rfl
  | a :: l, i + 1, v, k => by show setK l i v _ = _; rw [setK_eq l]; rfl
def setvK (fr : List V) (d : Option Nat) (v : V) (k : List V → α) : α :=
  match d with
  | some i => setK fr i v k
  | none => k fr
theorem setvK_eq (fr : List V) (d : Option Nat) (v : V) (k : List V → α) : setvK fr d v k = k (setv fr d v) := by cases d <;> simp [setvK, setv, setK_eq]
def snocK {γ : Type} : List γ → γ → (List γ → α) → α
  | [], x, k => k [x]
  | a :: l, x, k => snocK l x fun l => k (a :: l)
theorem snocK_eq {γ : Type} : ∀ (l : List γ) (x : γ) (k : List γ → α), snocK l x k = k (l ++ [x])
  | [], _, _ => rfl
  | a :: l, x, k => by show snocK l x _ = _; rw [snocK_eq l]; rfl
def forceRow (r : Row) (k : Row → α) : α := forceSs r.cells fun c => forceB r.rw fun w => forceN r.gen fun g => k ⟨c, w, g⟩
theorem forceRow_eq (r : Row) (k : Row → α) : forceRow r k = k r := by simp [forceRow, forceSs_eq, forceB_eq, forceN_eq]
/-- Memory's spine; of the rows the one that is told, or the last one. -/
def forceHs : Heap → Nat → (Heap → α) → α
  | [], _, k => k []
  | r :: l, 0, k => forceRow r fun r => k (r :: l)
  | r :: l, i + 1, k => forceHs l i fun l => k (r :: l)
theorem forceHs_eq : ∀ (l : Heap) (i : Nat) (k : Heap → α), forceHs l i k = k l
  | [], _, _ => rfl
  | r :: l, 0, k => by show forceRow r _ = _; rw [forceRow_eq]
  | r :: l, i + 1, k => by show forceHs l i _ = _; rw [forceHs_eq l]
def forceHl : Heap → (Heap → α) → α
  | [], k => k []
  | r :: l, k => match l with
    | [] => forceRow r fun r => k [r]
    | r' :: l => forceHl (r' :: l) fun l => k (r :: l)
theorem forceHl_eq : ∀ (l : Heap) (k : Heap → α), forceHl l k = k l
  | [], _ => rfl
  | [r], k => by show forceRow r _ = _; rw [forceRow_eq]
  | r :: r' :: l, k => by show forceHl (r' :: l) _ = _; rw [forceHl_eq (r' :: l)]
def forceH (t : Option Nat) (h : Heap) (k : Heap → α) : α :=
  match t with
  | some i => forceHs h i k
  | none => forceHl h k
theorem forceH_eq (t : Option Nat) (h : Heap) (k : Heap → α) : forceH t h k = k h := by cases t <;> simp [forceH, forceHs_eq, forceHl_eq]
def forceRows : List Row → (List Row → α) → α
  | [], k => k []
  | a :: l, k => forceRow a fun a => forceRows l fun l => k (a :: l)
theorem forceRows_eq : ∀ (l : Heap) (k : Heap → α), forceRows l k = k l
  | [], _ => rfl
  | a :: l, k => by show forceRow a _ = _; rw [forceRow_eq]; exact forceRows_eq l _
def forceVs : List V → (List V → α) → α
  | [], k => k []
  | a :: l, k => forceV a fun a => forceVs l fun l => k (a :: l)
theorem forceVs_eq : ∀ (l : List V) (k : List V → α), forceVs l k = k l
  | [], _ => rfl
  | a :: l, k => by show forceV a _ = _; rw [forceV_eq]; exact forceVs_eq l _
end force

def nth {γ : Type} : List γ → Nat → Option γ
  | [], _ => none
  | a :: _, 0 => some a
  | _ :: l, i + 1 => nth l i
theorem nth_eq {γ : Type} : ∀ (l : List γ) (i : Nat), nth l i = l[i]?
  | [], _ => by simp [nth]
  | _ :: _, 0 => rfl
  | a :: l, i + 1 => by simp [nth, nth_eq l]
def rhoF (fr : List V) (loc : Loc) : Opd → V
  | .v i => match nth fr i with | some x => x | none => .any
  | .l j => match nth loc j with | some [x] => x | _ => .any
  | .c x => x
theorem rhoF_eq (fr : List V) (loc : Loc) : rhoF fr loc = rho fr loc := by
  funext o
  cases o
  case v i =>
    simp only [rhoF, rho, nth_eq, List.getD_eq_getElem?_getD]
    cases fr[i]? <;> rfl
  case l j =>
    simp only [rhoF, rho, nth_eq]
    generalize loc[j]? = q
    rcases q with _ | (_ | ⟨x, _ | _⟩) <;> rfl
  case c x => rfl
def lenGe {γ : Type} : Nat → List γ → Bool
  | 0, _ => true
  | _ + 1, [] => false
  | n + 1, _ :: l => lenGe n l
theorem lenGe_iff {γ : Type} : ∀ (n : Nat) (l : List γ), lenGe n l = true ↔ n ≤ l.length
  | 0, _ => by simp [lenGe]
  | n + 1, [] => by simp [lenGe]
  | n + 1, _ :: l => by simp [lenGe, lenGe_iff n l]

/-- Operations that hand on what is there. -/
def IOp.hands : IOp → Bool
  | .mov _ | .pick _ _ _ | .ld _ _ | .nilc _ | .ext _ _ | .fld _ _ _ | .ixA _ _ _ _ _ => true
  | _ => false
def forceOp {α : Type} (o : IOp) (v : V) (k : V → α) : α := match o.hands with | true => spineV v k | false => forceV v k
theorem forceOp_eq {α : Type} (o : IOp) (v : V) (k : V → α) : forceOp o v k = k v := by unfold forceOp; cases o.hands <;> simp [spineV_eq, forceV_eq]

/-! ### collecting what is not reached -/
def V.refs : V → List Nat
  | .s x => x.refs
  | .a l => l.flatMap S.refs
  | _ => []
def mark (n0 : Nat) (fresh : Heap) : Nat → List Nat → List Nat → List Nat
  | 0, _, seen => seen
  | _ + 1, [], seen => seen
  | k + 1, r :: todo, seen => match Nat.ble n0 r with
    | false => mark n0 fresh k todo seen
    | true => forceN (r - n0) fun i => match seen.elem i with
      | true => mark n0 fresh k todo seen
      | false => match nth fresh i with
        | some row => mark n0 fresh k (row.cells.flatMap S.refs ++ todo) (seen ++ [i])
        | none => mark n0 fresh k todo seen
def renR (n0 : Nat) (sel : List Nat) (r : Nat) : Option Nat := if r < n0 then some r else (sel.idxOf? (r - n0)).map (n0 + ·)
def renCaps (n0 : Nat) (sel : List Nat) : List (Nat × Nat × Nat) → Option (List (Nat × Nat × Nat))
  | [] => some []
  | c :: l => match renR n0 sel c.1, renCaps n0 sel l with
    | some r, some l => some ((r, c.2) :: l)
    | _, _ => none
def renS (n0 : Nat) (sel : List Nat) : S → Option S
  | .p r g o => match renR n0 sel r with | some r => some (.p r g o) | none => none
  | .sl r g o sz n c e => match renR n0 sel r with | some r => some (.sl r g o sz n c e) | none => none
  | .f fn caps => match renCaps n0 sel caps with | some l => some (.f fn l) | none => none
  | x => some x
def renSs (n0 : Nat) (sel : List Nat) : List S → Option (List S)
  | [] => some []
  | x :: l => match renS n0 sel x, renSs n0 sel l with
    | some x, some l => some (x :: l)
    | _, _ => none
def renV (n0 : Nat) (sel : List Nat) : V → Option V
  | .s x => match renS n0 sel x with | some x => some (.s x) | none => none
  | .a l => match renSs n0 sel l with | some l => some (.a l) | none => none
  | x => some x
def renVs (n0 : Nat) (sel : List Nat) : List V → Option (List V)
  | [] => some []
  | x :: l => match renV n0 sel x, renVs n0 sel l with
    | some x, some l => some (x :: l)
    | _, _ => none
def renRows (n0 : Nat) (sel : List Nat) (fresh : Heap) : List Nat → Option Heap
  | [] => some []
  | i :: l => match nth fresh i with
    | some row => match renSs n0 sel row.cells, renRows n0 sel fresh l with
      | some c, some g => some ({ row with cells := c } :: g)
      | _, _ => none
    | none => none
def nodupB : List Nat → Bool
  | [] => true
  | a :: l => !l.elem a && nodupB l
def oldIn (n n0 : Nat) (h1 : Heap) : Bool := ((h1.take n0).drop n).all fun r => r.cells.all fun x => x.inB n0
/-- Memory behind a call: old rows, and those that the results reach. -/
def gcTry (n : Nat) (h h1 : Heap) (rets : List V) : Option (List V × Heap) :=
  forceN h.length fun n0 =>
  match Nat.ble n0 n || oldIn n n0 h1 with
  | true => spine (h1.drop n0) fun fresh =>
    forceNs (mark n0 fresh 1000 (rets.flatMap V.refs) []) fun sel =>
    match nodupB sel with
    | true => match renRows n0 sel fresh sel, renVs n0 sel rets with
      | some g, some r => forceRows g fun g => match g.all Row.rw with
        | true => forceVs r fun r => spine (h1.take n0 ++ g) fun h2 => some (r, h2)
        | false => none
      | _, _ => none
    | false => none
  | false => none
def gc (n : Nat) (h h1 : Heap) (rets : List V) : List V × Heap :=
  match lenGe (h.length + 1) h1 with
  | true => match gcTry n h h1 rets with
    | some x => x
    | none => (rets, h1)
  | false => (rets, h1)

/-! ### the run -/
abbrev Call := Nat → Nat → List V → Heap → Option (List V × Heap)

def pxR (n : Nat) (call : Call) : List IOq → List V → Loc → Heap → Option (List V × Heap)
  | [], fr, _, h => some (fr, h)
  | o :: os, fr, loc, h =>
    let skip : Unit → Option (List V × Heap) := fun _ => setvK fr o.d .u fun fr => snocK loc [.u] fun loc => pxR n call os fr loc h
    let go : Unit → Option (List V × Heap) := fun _ => match o.op.kind with
      | .p => match tupMov loc o.op with
        | some vs => match o.d with
          | none => snocK loc vs fun loc => pxR n call os fr loc h
          | some _ => none
        | none => match evalP h (rhoF fr loc) loc o.op with
          | some v => forceOp o.op v fun v => setvK fr o.d v fun fr => snocK loc [v] fun loc => pxR n call os fr loc h
          | none => none
      | .e => match evalE h (rhoF fr loc) o.op with
        | some (v, h', t) => match (match t with | some r => Nat.ble n r | none => true) with
          | true => forceV v fun v => forceH t h' fun h' => setvK fr o.d v fun fr => snocK loc [v] fun loc => pxR n call os fr loc h'
          | false => none
        | none => none
      | .c => match callOf (rhoF fr loc) o.op with
        | some (f, args) => match call n f args h with
          | some (rets, h') => match rets with
            | [x] => setvK fr o.d x fun fr => snocK loc [x] fun loc => pxR n call os fr loc h'
            | _ => match o.d with
              | none => snocK loc rets fun loc => pxR n call os fr loc h'
              | some _ => none
          | none => none
        | none => none
      | .x => none
    match o.g with
    | none => go ()
    | some (gi, want) => match nth loc gi with
      | some [.s (.b x)] => match x == want with | true => go () | false => skip ()
      | some [.u] => skip ()
      | _ => none

/-- Operations whose order is left open: nothing old is written. -/
def pxD (call : Call) : List IOq → List V → Loc → Heap → Option (List V × Loc × Heap)
  | [], fr, loc, h => some (fr, loc, h)
  | o :: os, fr, loc, h =>
    let skip : Unit → Option (List V × Loc × Heap) := fun _ => setvK fr o.d .u fun fr => snocK loc [.u] fun loc => pxD call os fr loc h
    let go : Unit → Option (List V × Loc × Heap) := fun _ => match o.op.kind with
      | .p => match evalP h (rhoF fr loc) loc o.op with
        | some v => forceOp o.op v fun v => setvK fr o.d v fun fr => snocK loc [v] fun loc => pxD call os fr loc h
        | none => none
      | .e => match evalE h (rhoF fr loc) o.op with
        | some (v, h', none) => forceV v fun v => forceH none h' fun h' => setvK fr o.d v fun fr => snocK loc [v] fun loc => pxD call os fr loc h'
        | _ => none
      | .c => match callOf (rhoF fr loc) o.op with
        | some (f, args) => forceN h.length fun n => match call n f args h with
          | some (rets, h') => match rets with
            | [x] => setvK fr o.d x fun fr => snocK loc [x] fun loc => pxD call os fr loc h'
            | _ => match o.d with
              | none => snocK loc rets fun loc => pxD call os fr loc h'
              | some _ => none
          | none => none
        | none => none
      | .x => none
    match o.g with
    | none => go ()
    | some (gi, want) => match nth loc gi with
      | some [.s (.b x)] => match x == want with | true => go () | false => skip ()
      | some [.u] => skip ()
      | _ => none

def pxL (body : List V → Heap → Option (Ex × List V × Heap)) : Nat → List V → Heap → Option (Ex × List V × Heap)
  | 0, _, _ => none
  | k + 1, fr, h => match body fr h with
    | some (e, fr', h') => match e with
      | .n => pxL body k fr' h'
      | e => some (e, fr', h')
    | none => none

def pxC (n : Nat) (call : Call) (fuel : Nat) : IC → List V → Heap → Option (Ex × List V × Heap)
  | .skip, fr, h => some (.n, fr, h)
  | .reg ops, fr, h => match pxR n call ops fr [] h with
    | some (fr, h) => some (.n, fr, h)
    | none => none
  | .dreg k ops, fr, h => match lenGe n h with
    | true => match pxD call (ops.take k) fr [] h with
      | some (fr, loc, h) => match pxR n call (ops.drop k) fr loc h with
        | some (fr, h) => some (.n, fr, h)
        | none => none
      | none => none
    | false => none
  | .seq a b, fr, h => match pxC n call fuel a fr h with
    | some (e, fr, h) => match e with
      | .n => pxC n call fuel b fr h
      | e => some (e, fr, h)
    | none => none
  | .cond c a b, fr, h => match rhoF fr [] c with
    | .s (.b t) => match t with
      | true => pxC n call fuel a fr h
      | false => pxC n call fuel b fr h
    | _ => none
  | .blk id body, fr, h => match pxC n call fuel body fr h with
    | some (e, fr, h) => match e with
      | .x i => match Nat.beq i id with | true => some (.n, fr, h) | false => some (.x i, fr, h)
      | e => some (e, fr, h)
    | none => none
  | .loop body, fr, h => pxL (pxC n call fuel body) fuel fr h
  | .exit id, fr, h => some (.x id, fr, h)
  | .ret, fr, h => some (.r, fr, h)

def getT : List (Nat × IFn) → Nat → Option IFn
  | [], _ => none
  | (k, x) :: l, f => match Nat.beq k f with | true => some x | false => getT l f

/-- What is known of a call: results, fresh rows. -/
abbrev Orc := Nat → List V → Heap → Option (List V × Heap)

def pxF (T : List (Nat × IFn)) (O : Orc) (fuel : Nat) : Nat → Call
  | 0, _, _, _, _ => none
  | d + 1, n, f, args, h => spineVs args fun args =>
    match O f args h with
    | some (r, g) => forceRows g fun g => forceVs r fun r => spine (h ++ g) fun h => some (r, h)
    | none => match getT T f with
      | some fn => match Nat.beq args.length fn.np with
        | true => spine (initFr fn args) fun fr => match pxC n (pxF T O fuel d) fuel fn.body fr h with
          | some (e, fr, h1) => match e with
            | .x _ => none
            | _ => match resV fr h1 fn.results with
              | some rets => spineVs rets fun rets => some (gc n h h1 rets)
              | none => none
          | none => none
        | false => none
      | none => none

/-- Calls whose answers are known in little memory (its rows: m), by function and arguments. -/
def memo (m : Nat) : List (Nat × List V × List V × Heap) → Orc
  | [], _, _, _ => none
  | (f, args, r, g) :: l, f', args', h => match Nat.beq f f' && decide (args = args') with
    | true => let k := h.length - m; some (r.map (V.shift m k), g.map (Row.shift m k))
    | false => memo m l f' args' h
def orc2 (a b : Orc) : Orc := fun f args h => match a f args h with
  | some x => some x
  | none => b f args h

end Go.Px
