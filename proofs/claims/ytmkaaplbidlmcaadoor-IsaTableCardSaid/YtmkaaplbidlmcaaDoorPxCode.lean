/- Own work over the kit: abstract memory, its rules, and the walk. -/
import Derived.Test.YtmkaaplbidlmcaaDoorPxFl4
set_option linter.unusedVariables false
set_option linter.unusedSimpArgs false
namespace Go.Px

def iwp (P : Program) (n : Nat) : IC → (Ex → List V → Heap → Prop) → List V → Heap → Prop
  | .skip, Q, fr, h => Q .n fr h
  | .reg ops, Q, fr, h => rwp P n (Q .n) ops fr [] h
  | .dreg k ops, Q, fr, h => n ≤ h.length ∧ dwp P (fun fr loc h' => rwp P n (Q .n) (ops.drop k) fr loc h') (ops.take k) fr [] h
  | .seq a b, Q, fr, h => iwp P n a (fun e fr h => match e with | .n => iwp P n b Q fr h | e => Q e fr h) fr h
  | .cond c a b, Q, fr, h => ∃ t, rho fr [] c = .s (.b t) ∧ if t = true then iwp P n a Q fr h else iwp P n b Q fr h
  | .blk id body, Q, fr, h => iwp P n body (fun e fr h => match e with | .x i => if i = id then Q .n fr h else Q (.x i) fr h | e => Q e fr h) fr h
  | .loop body, Q, fr, h => ∃ (I : List V → Heap → Prop) (μ : List V → Heap → Nat), I fr h ∧ ∀ fr h, I fr h →
      iwp P n body (fun e fr' h' => match e with | .n => I fr' h' ∧ μ fr' h' < μ fr h | e => Q e fr' h') fr h
  | .exit id, Q, fr, h => Q (.x id) fr h
  | .ret, Q, fr, h => Q .r fr h


/-- From where on the operations come up one behind the other. -/
def tailAt (all : List Oper) : Nat :=
  let M := ancs all []
  ((List.range all.length).reverse.takeWhile fun j => (List.range j).all fun i => (M.getD j 0).testBit i).reverse.headD all.length

def cCode (P : Program) (slots : List Nat) : Code → Option IC
  | .skip => some .skip
  | .region _ ops false => (cOps P ⟨slots, []⟩ [] ops.toList).map .reg
  | .region _ ops true => match cOps P ⟨slots, []⟩ [] ops.toList with
    | some l => let k := tailAt ops.toList; if dChk ops.toList l k = true then some (.dreg k l) else cFreg P slots ops
    | none => none
  | .seq a b => match cCode P slots a, cCode P slots b with
    | some x, some y => some (.seq x y)
    | _, _ => none
  | .cond c a b => match cOpd ⟨slots, []⟩ c, cCode P slots a, cCode P slots b with
    | some o, some x, some y => some (.cond o x y)
    | _, _, _ => none
  | .block id a => (cCode P slots a).map (.blk id)
  | .loop a => (cCode P slots a).map .loop
  | .exit id => some (.exit id)
  | .ret => some .ret
  | .refuse _ => some (.reg [⟨none, none, .bad⟩])
  | _ => none

def cRes (P : Program) (slots : List Nat) : List ResultVar → Option (List IRes)
  | [] => some []
  | .tmp t :: l => match slots.idxOf? t, cRes P slots l with
    | some i, some r => some (.tmp i :: r)
    | _, _ => none
  | .cell t ty :: l => match slots.idxOf? t, aggOf P ty, cRes P slots l with
    | some i, some g, some r => some (.cell i g :: r)
    | _, _, _ => none

def cFn (P : Program) (slots : List Nat) (f : Func) : Option IFn :=
  let np := f.params.size + f.nfree
  match f.body with
  | some c => match cCode P slots c, cRes P slots f.results.toList with
    | some b, some r => if slots.take np = List.range np ∧ slots.Nodup ∧ (slots.all fun t => decide (t < f.ntmps)) = true ∧ (f.name == "runtime.NumGoroutine") = false ∧ ((dstC c).all fun t => decide (t < f.ntmps)) = true
      then some ⟨np, slots, r, b⟩ else none
    | _, _ => none
  | none => none

end Go.Px
