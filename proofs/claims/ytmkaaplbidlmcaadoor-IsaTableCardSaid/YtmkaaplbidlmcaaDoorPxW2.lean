/- Own work over the kit: abstract memory, its rules, and the walk. -/
import Derived.Test.YtmkaaplbidlmcaaDoorPxV
set_option linter.all false
set_option linter.unusedVariables false
set_option linter.unusedSimpArgs false
namespace Go.Px

def eqnV (k : Nat) (neg : Bool) (x : V) : Option V := match k with | 0 => eqn0 neg x | 1 => eqn1 neg x | _ => eqn2 neg x
@[simp] theorem eqnV_0 {neg : Bool} {x : V} : eqnV 0 neg x = eqn0 neg x := rfl
@[simp] theorem eqnV_1 {neg : Bool} {x : V} : eqnV 1 neg x = eqn1 neg x := rfl
@[simp] theorem eqnV_2 {neg : Bool} {x : V} : eqnV 2 neg x = eqn2 neg x := rfl
@[simp] theorem eqn0_sl {neg : Bool} {r g o sz n c : Nat} {e : Bool} : eqn0 neg (.s (.sl r g o sz n c e)) = some (.s (.b neg)) := rfl
@[simp] theorem eqn0_nsl {neg : Bool} : eqn0 neg (.s .nsl) = some (.s (.b (!neg))) := rfl
@[simp] theorem eqn1_p {neg : Bool} {r g o : Nat} : eqn1 neg (.s (.p r g o)) = some (.s (.b neg)) := rfl
@[simp] theorem eqn1_np {neg : Bool} : eqn1 neg (.s .np) = some (.s (.b (!neg))) := rfl
def eqaV (neg : Bool) (ks : List CK) : V → V → Option V
  | .a l, .a m => if kindsAre ks l = true ∧ kindsAre ks m = true then some (.s (.b (decide (l = m) != neg))) else none
  | _, _ => none
theorem eqaV_a {neg : Bool} {ks : List CK} {l m : List S} (h1 : kindsAre ks l = true) (h2 : kindsAre ks m = true) : eqaV neg ks (.a l) (.a m) = some (.s (.b (decide (l = m) != neg))) := by simp [eqaV, h1, h2]
def cvsV : V → Option V
  | .s (.s l) => some (.s (.s l))
  | _ => none
@[simp] theorem cvsV_s {l : List Nat} : cvsV (.s (.s l)) = some (.s (.s l)) := rfl
def b2sV (h : Heap) : V → Option V
    | .s .nsl => some (.s (.s []))
    | .s (.sl r g o sz n c e) => if sz = 1 then
      match slCells h (.sl r g o sz n c e) with
      | some l => (bytesS l).map fun bs => V.s (.s bs)
      | none => none
      else none
    | _ => none
def sstrV (ρ : Opd → V) (x : Opd) (lo hi : Option Opd) : Option V := match ρ x with
    | .s (.s l) => match bnd ρ hi l.length l.length with
      | some h' => match bnd ρ lo 0 h' with
        | some l' => some (.s (.s ((l.take h').drop l')))
        | none => none
      | none => none
    | _ => none
def ixAV (n sz : Nat) (agg : Option Nat) : V → V → Option V
    | .a l, .s (.i _ j) => if 0 ≤ j ∧ j < n then getAgg agg l (j.toNat * sz) else none
    | _, _ => none
@[simp] theorem ixAV_ok {N sz : Nat} {agg : Option Nat} {l : List S} {k : IntKind} {j : Int} (h0 : 0 ≤ j) (h1 : j < N) : ixAV N sz agg (.a l) (.s (.i k j)) = getAgg agg l (j.toNat * sz) := by simp [ixAV, h0, h1]
def mmV (mx : Bool) : V → V → Option V
  | .s (.i k a), .s (.i k' b) => some (.s (.i k (if mx then (if b > a then b else a) else (if b < a then b else a))))
  | _, _ => none
@[simp] theorem mmV_i {mx : Bool} {k k' : IntKind} {a b : Int} : mmV mx (.s (.i k a)) (.s (.i k' b)) = some (.s (.i k (if mx then (if b > a then b else a) else (if b < a then b else a)))) := rfl
@[simp] theorem getAgg_some {m o : Nat} {l : List S} : getAgg (some m) l o = if o + m ≤ l.length then some (.a ((l.drop o).take m)) else none := rfl
@[simp] theorem ptrs_nil : ptrs [] = some [] := rfl
@[simp] theorem ptrs_cons {r g o : Nat} {l : List V} : ptrs (.s (.p r g o) :: l) = (ptrs l).map ((r, g, o) :: ·) := rfl
@[simp] theorem cells_s {x : S} : V.cells (.s x) = some [x] := rfl
@[simp] theorem cells_a {l : List S} : V.cells (.a l) = some l := rfl

section
variable {P : Program} {n k : Nat} {Q : Ex → List V → Heap → Prop} {R : List V → Heap → Prop} {fr : List V} {h : Heap} {loc : Loc} {os : List IOq} {d : Option Nat}
/-- The first k operations in whatever order, the rest in the text's. -/
def dwk (P : Program) (n : Nat) (R : List V → Heap → Prop) (k : Nat) (ops : List IOq) (fr : List V) (loc : Loc) (h : Heap) : Prop :=
  dwp P (fun fr loc h' => rwp P n R (ops.drop k) fr loc h') (ops.take k) fr loc h
@[congr] theorem dwk_congr {ops : List IOq} {fr' : List V} {loc' : Loc} {h' : Heap} (e1 : fr = fr') (e2 : loc = loc') (e3 : h = h') : dwk P n R k ops fr loc h = dwk P n R k ops fr' loc' h' := by rw [e1, e2, e3]
@[simp] theorem iwp_dreg {ops : List IOq} : iwp P n (.dreg k ops) Q fr h = (n ≤ h.length ∧ dwk P n (Q .n) k ops fr [] h) := _root_.id rfl
@[simp] theorem dwk_zero {ops : List IOq} : dwk P n R 0 ops fr loc h = rwp P n R ops fr loc h := _root_.id rfl
@[simp] theorem dwk_nil : dwk P n R k [] fr loc h = R fr h := by simp [dwk, dwp]
theorem dwk_pure {op : IOp} (hk : op.kind = .p) : dwk P n R (k + 1) (⟨none, d, op⟩ :: os) fr loc h = bnd' (evalP h (rho fr loc) loc op) (fun v => dwk P n R k os (setv fr d v) (loc ++ [[v]]) h) := by
  simp only [dwk, List.take_succ_cons, List.drop_succ_cons, dwp, dstep, hk, bnd', bnd0]
  apply propext
  constructor
  · rintro ⟨vs, h', ⟨v, e, rfl, rfl⟩, k⟩
    rcases k with ⟨v', e', k⟩ | ⟨e', _⟩
    · simp only [List.cons.injEq, and_true] at e'; subst e'; exact ⟨_, e, k⟩
    · simp at e'
  · rintro ⟨v, e, k⟩
    exact ⟨[v], h, ⟨v, e, rfl, rfl⟩, .inl ⟨v, rfl, k⟩⟩
@[simp] theorem dwk_guard {g : Nat} {want : Bool} {op : IOp} :
    dwk P n R (k + 1) (⟨some (g, want), d, op⟩ :: os) fr loc h = bnd' (grdV loc[g]?) (fun o => gBr o want (dwk P n R (k + 1) (⟨none, d, op⟩ :: os) fr loc h) (dwk P n R k os (setv fr d .u) (loc ++ [[.u]]) h)) := by
  apply propext
  simp only [dwk, List.take_succ_cons, List.drop_succ_cons]
  generalize hA : dwp P (fun fr loc h' => rwp P n R (os.drop k) fr loc h') (os.take k) (setv fr d .u) (loc ++ [[.u]]) h = A
  have skip : (∃ vs h', (vs = [.u] ∧ h' = h) ∧ ((∃ v, vs = [v] ∧ dwp P (fun fr loc h' => rwp P n R (os.drop k) fr loc h') (os.take k) (setv fr d v) (loc ++ [[v]]) h') ∨ (vs.length ≠ 1 ∧ d = none ∧ dwp P (fun fr loc h' => rwp P n R (os.drop k) fr loc h') (os.take k) fr (loc ++ [vs]) h'))) ↔ A := by
    rw [← hA]
    constructor
    · rintro ⟨vs, h', ⟨rfl, rfl⟩, k⟩
      rcases k with ⟨v', e', k⟩ | ⟨e', _⟩
      · simp only [List.cons.injEq, and_true] at e'; subst e'; exact k
      · simp at e'
    · intro k; exact ⟨_, _, ⟨rfl, rfl⟩, .inl ⟨_, rfl, k⟩⟩
  simp only [dwp, dstep]
  generalize loc[g]? = q
  rcases q with _ | l
  · simp [grdV, bnd', bnd0]
  · rcases l with _ | ⟨x, l⟩
    · simp [grdV, bnd', bnd0]
    · rcases l with _ | ⟨y, l⟩
      · cases x with
        | s x =>
          cases x <;> simp only [grdV, bnd', bnd0, gBr, gBr0, Br, Br0, Option.some.injEq, exists_eq_left', reduceCtorEq, false_and, exists_false, iff_self]
          rename_i x
          by_cases hx : x = want
          · simp only [hx, if_true, true_implies, not_true, false_implies, and_true]
          · simp only [hx, if_false, false_implies, not_false_eq_true, true_implies, true_and]
            exact skip
        | u =>
          simp only [grdV, bnd', bnd0, gBr, gBr0, Option.some.injEq, exists_eq_left']
          exact skip
        | _ => simp [grdV, bnd', bnd0]
      · cases x with
        | s x => cases x <;> simp [grdV, bnd', bnd0]
        | _ => simp [grdV, bnd', bnd0]
@[simp] theorem dwk_mov_l {j : Nat} : dwk P n R (k + 1) (⟨none, d, .mov (.l j)⟩ :: os) fr loc h = dwk P n R k os (setv fr d (oneV loc[j]?)) (loc ++ [[oneV loc[j]?]]) h := by
  rw [dwk_pure (op := .mov (.l j)) rfl]
  simp only [evalP, bnd'_def, bnd'_some, rho_l]
@[simp] theorem dwk_mov_v {i : Nat} : dwk P n R (k + 1) (⟨none, d, .mov (.v i)⟩ :: os) fr loc h = dwk P n R k os (setv fr d (fr.getD i .any)) (loc ++ [[fr.getD i .any]]) h := by
  rw [dwk_pure (op := .mov (.v i)) rfl]
  simp only [evalP, bnd'_def, bnd'_some, rho_v]
@[simp] theorem dwk_mov_c {x : V} : dwk P n R (k + 1) (⟨none, d, .mov (.c x)⟩ :: os) fr loc h = dwk P n R k os (setv fr d x) (loc ++ [[x]]) h := by
  rw [dwk_pure (op := .mov (.c x)) rfl]
  simp only [evalP, bnd'_def, bnd'_some, rho_c]
@[simp] theorem dwk_lenK {m : Nat} : dwk P n R (k + 1) (⟨none, d, .lenK m⟩ :: os) fr loc h = dwk P n R k os (setv fr d (.s (.i .i64 m))) (loc ++ [[.s (.i .i64 m)]]) h := by
  rw [dwk_pure (op := .lenK m) rfl]
  simp only [evalP, bnd'_def, bnd'_some]
@[simp] theorem dwk_ext {k' j : Nat} : dwk P n R (k + 1) (⟨none, d, .ext k' j⟩ :: os) fr loc h = bnd' (extV loc[k']? j) (fun v => dwk P n R k os (setv fr d v) (loc ++ [[v]]) h) := by
  rw [dwk_pure (op := .ext k' j) rfl]; rfl
@[simp] theorem rwp_mkagg {z : List S} {ps : List (Nat × Nat × Opd)} : rwp P n R (⟨none, d, .mkagg z ps⟩ :: os) fr loc h = bnd' ((fillParts (rho fr loc) ps z).map V.a) (fun v => rwp P n R os (setv fr d v) (loc ++ [[v]]) h) := by
  rw [rwp_pure (op := .mkagg z ps) rfl rfl]; congr 1
@[simp] theorem rwp_eqn {k' : Nat} {neg : Bool} {a : Opd} : rwp P n R (⟨none, d, .eqn k' neg a⟩ :: os) fr loc h = bnd' (eqnV k' neg (rho fr loc a)) (fun v => rwp P n R os (setv fr d v) (loc ++ [[v]]) h) := by
  rw [rwp_pure (op := .eqn k' neg a) rfl rfl]; congr 1
@[simp] theorem rwp_eqa {neg : Bool} {ks : List CK} {a b : Opd} : rwp P n R (⟨none, d, .eqa neg ks a b⟩ :: os) fr loc h = bnd' (eqaV neg ks (rho fr loc a) (rho fr loc b)) (fun v => rwp P n R os (setv fr d v) (loc ++ [[v]]) h) := by
  rw [rwp_pure (op := .eqa neg ks a b) rfl rfl]; congr 1
@[simp] theorem rwp_cvs {a : Opd} : rwp P n R (⟨none, d, .cvs a⟩ :: os) fr loc h = bnd' (cvsV (rho fr loc a)) (fun v => rwp P n R os (setv fr d v) (loc ++ [[v]]) h) := by
  rw [rwp_pure (op := .cvs a) rfl rfl]; congr 1
@[simp] theorem rwp_b2s {a : Opd} : rwp P n R (⟨none, d, .b2s a⟩ :: os) fr loc h = bnd' (b2sV h (rho fr loc a)) (fun v => rwp P n R os (setv fr d v) (loc ++ [[v]]) h) := by
  rw [rwp_pure (op := .b2s a) rfl rfl]; congr 1
@[simp] theorem rwp_mkf {f : Nat} {caps : List Opd} : rwp P n R (⟨none, d, .mkf f caps⟩ :: os) fr loc h = bnd' ((ptrs (caps.map (rho fr loc))).map fun l => V.s (.f f l)) (fun v => rwp P n R os (setv fr d v) (loc ++ [[v]]) h) := by
  rw [rwp_pure (op := .mkf f caps) rfl rfl]; congr 1
@[simp] theorem rwp_sstr {a : Opd} {lo hi : Option Opd} : rwp P n R (⟨none, d, .sstr a lo hi⟩ :: os) fr loc h = bnd' (sstrV (rho fr loc) a lo hi) (fun v => rwp P n R os (setv fr d v) (loc ++ [[v]]) h) := by
  rw [rwp_pure (op := .sstr a lo hi) rfl rfl]; congr 1
@[simp] theorem rwp_ssl {sz : Nat} {a : Opd} {lo hi mx : Option Opd} : rwp P n R (⟨none, d, .ssl sz a lo hi mx⟩ :: os) fr loc h = bnd' (evalP h (rho fr loc) loc (.ssl sz a lo hi mx)) (fun v => rwp P n R os (setv fr d v) (loc ++ [[v]]) h) := by
  rw [rwp_pure (op := .ssl sz a lo hi mx) rfl rfl]
@[simp] theorem rwp_sarr {N sz : Nat} {a : Opd} {lo hi : Option Opd} : rwp P n R (⟨none, d, .sarr N sz a lo hi⟩ :: os) fr loc h = bnd' (evalP h (rho fr loc) loc (.sarr N sz a lo hi)) (fun v => rwp P n R os (setv fr d v) (loc ++ [[v]]) h) := by
  rw [rwp_pure (op := .sarr N sz a lo hi) rfl rfl]
@[simp] theorem rwp_ixA {N sz : Nat} {agg : Option Nat} {a b : Opd} : rwp P n R (⟨none, d, .ixA N sz agg a b⟩ :: os) fr loc h = bnd' (ixAV N sz agg (rho fr loc a) (rho fr loc b)) (fun v => rwp P n R os (setv fr d v) (loc ++ [[v]]) h) := by
  rw [rwp_pure (op := .ixA N sz agg a b) rfl rfl]; congr 1
@[simp] theorem rwp_mm {mx : Bool} {a b : Opd} : rwp P n R (⟨none, d, .mm mx a b⟩ :: os) fr loc h = bnd' (mmV mx (rho fr loc a) (rho fr loc b)) (fun v => rwp P n R os (setv fr d v) (loc ++ [[v]]) h) := by
  rw [rwp_pure (op := .mm mx a b) rfl rfl]; congr 1
@[simp] theorem dwk_pick {c a b : Opd} : dwk P n R (k + 1) (⟨none, d, .pick c a b⟩ :: os) fr loc h = bnd' (pickV (rho fr loc c) (rho fr loc a) (rho fr loc b)) (fun v => dwk P n R k os (setv fr d v) (loc ++ [[v]]) h) := by
  rw [dwk_pure (op := .pick c a b) rfl]; congr 1
@[simp] theorem dwk_bin {op : BinOp} {a b : Opd} : dwk P n R (k + 1) (⟨none, d, .bin op a b⟩ :: os) fr loc h = bnd' (binV op (rho fr loc a) (rho fr loc b)) (fun v => dwk P n R k os (setv fr d v) (loc ++ [[v]]) h) := by
  rw [dwk_pure (op := .bin op a b) rfl]; congr 1
@[simp] theorem dwk_eqb {neg : Bool} {a b : Opd} : dwk P n R (k + 1) (⟨none, d, .eqb neg a b⟩ :: os) fr loc h = bnd' (eqbV neg (rho fr loc a) (rho fr loc b)) (fun v => dwk P n R k os (setv fr d v) (loc ++ [[v]]) h) := by
  rw [dwk_pure (op := .eqb neg a b) rfl]; congr 1
@[simp] theorem dwk_un {op : UnOp} {a : Opd} : dwk P n R (k + 1) (⟨none, d, .un op a⟩ :: os) fr loc h = bnd' (unV op (rho fr loc a)) (fun v => dwk P n R k os (setv fr d v) (loc ++ [[v]]) h) := by
  rw [dwk_pure (op := .un op a) rfl]; congr 1
@[simp] theorem dwk_cvt {k' : IntKind} {a : Opd} : dwk P n R (k + 1) (⟨none, d, .cvt k' a⟩ :: os) fr loc h = bnd' (cvtV k' (rho fr loc a)) (fun v => dwk P n R k os (setv fr d v) (loc ++ [[v]]) h) := by
  rw [dwk_pure (op := .cvt k' a) rfl]; congr 1
@[simp] theorem dwk_len_s {a : Opd} : dwk P n R (k + 1) (⟨none, d, .len true a⟩ :: os) fr loc h = bnd' (len1 (rho fr loc a)) (fun v => dwk P n R k os (setv fr d v) (loc ++ [[v]]) h) := by
  rw [dwk_pure (op := .len true a) rfl]; congr 1
@[simp] theorem dwk_len_l {a : Opd} : dwk P n R (k + 1) (⟨none, d, .len false a⟩ :: os) fr loc h = bnd' (len0 (rho fr loc a)) (fun v => dwk P n R k os (setv fr d v) (loc ++ [[v]]) h) := by
  rw [dwk_pure (op := .len false a) rfl]; congr 1
@[simp] theorem dwk_ixS {a b : Opd} : dwk P n R (k + 1) (⟨none, d, .ixS a b⟩ :: os) fr loc h = bnd' (ixSV (rho fr loc a) (rho fr loc b)) (fun v => dwk P n R k os (setv fr d v) (loc ++ [[v]]) h) := by
  rw [dwk_pure (op := .ixS a b) rfl]; congr 1
@[simp] theorem dwk_iadS {sz : Nat} {a b : Opd} : dwk P n R (k + 1) (⟨none, d, .iadS sz a b⟩ :: os) fr loc h = bnd' (iadSV sz (rho fr loc a) (rho fr loc b)) (fun v => dwk P n R k os (setv fr d v) (loc ++ [[v]]) h) := by
  rw [dwk_pure (op := .iadS sz a b) rfl]; congr 1
@[simp] theorem dwk_iadA {N sz : Nat} {a b : Opd} : dwk P n R (k + 1) (⟨none, d, .iadA N sz a b⟩ :: os) fr loc h = bnd' (iadAV N sz (rho fr loc a) (rho fr loc b)) (fun v => dwk P n R k os (setv fr d v) (loc ++ [[v]]) h) := by
  rw [dwk_pure (op := .iadA N sz a b) rfl]; congr 1
@[simp] theorem dwk_fad {off : Nat} {a : Opd} : dwk P n R (k + 1) (⟨none, d, .fad off a⟩ :: os) fr loc h = bnd' (fadV off (rho fr loc a)) (fun v => dwk P n R k os (setv fr d v) (loc ++ [[v]]) h) := by
  rw [dwk_pure (op := .fad off a) rfl]; congr 1
@[simp] theorem dwk_nilc {a : Opd} : dwk P n R (k + 1) (⟨none, d, .nilc a⟩ :: os) fr loc h = bnd' (nilcV (rho fr loc a)) (fun v => dwk P n R k os (setv fr d v) (loc ++ [[v]]) h) := by
  rw [dwk_pure (op := .nilc a) rfl]; congr 1
@[simp] theorem dwk_ld {agg : Option Nat} {a : Opd} : dwk P n R (k + 1) (⟨none, d, .ld agg a⟩ :: os) fr loc h = bnd' (ldV h agg (rho fr loc a)) (fun v => dwk P n R k os (setv fr d v) (loc ++ [[v]]) h) := by
  rw [dwk_pure (op := .ld agg a) rfl]; congr 1
  simp only [evalP, ldV]
  generalize rho fr loc a = v
  cases v with
  | s x => cases x <;> simp only []; rename_i r g o; cases rowAt h r g <;> rfl
  | _ => rfl
@[simp] theorem dwk_fld {off : Nat} {agg : Option Nat} {a : Opd} : dwk P n R (k + 1) (⟨none, d, .fld off agg a⟩ :: os) fr loc h = bnd' (fldV off agg (rho fr loc a)) (fun v => dwk P n R k os (setv fr d v) (loc ++ [[v]]) h) := by
  rw [dwk_pure (op := .fld off agg a) rfl]; congr 1
@[simp] theorem dwk_mkagg {z : List S} {ps : List (Nat × Nat × Opd)} : dwk P n R (k + 1) (⟨none, d, .mkagg z ps⟩ :: os) fr loc h = bnd' ((fillParts (rho fr loc) ps z).map V.a) (fun v => dwk P n R k os (setv fr d v) (loc ++ [[v]]) h) := by
  rw [dwk_pure (op := .mkagg z ps) rfl]; congr 1
@[simp] theorem dwk_eqn {k' : Nat} {neg : Bool} {a : Opd} : dwk P n R (k + 1) (⟨none, d, .eqn k' neg a⟩ :: os) fr loc h = bnd' (eqnV k' neg (rho fr loc a)) (fun v => dwk P n R k os (setv fr d v) (loc ++ [[v]]) h) := by
  rw [dwk_pure (op := .eqn k' neg a) rfl]; congr 1
@[simp] theorem dwk_eqa {neg : Bool} {ks : List CK} {a b : Opd} : dwk P n R (k + 1) (⟨none, d, .eqa neg ks a b⟩ :: os) fr loc h = bnd' (eqaV neg ks (rho fr loc a) (rho fr loc b)) (fun v => dwk P n R k os (setv fr d v) (loc ++ [[v]]) h) := by
  rw [dwk_pure (op := .eqa neg ks a b) rfl]; congr 1
@[simp] theorem dwk_cvs {a : Opd} : dwk P n R (k + 1) (⟨none, d, .cvs a⟩ :: os) fr loc h = bnd' (cvsV (rho fr loc a)) (fun v => dwk P n R k os (setv fr d v) (loc ++ [[v]]) h) := by
  rw [dwk_pure (op := .cvs a) rfl]; congr 1
@[simp] theorem dwk_b2s {a : Opd} : dwk P n R (k + 1) (⟨none, d, .b2s a⟩ :: os) fr loc h = bnd' (b2sV h (rho fr loc a)) (fun v => dwk P n R k os (setv fr d v) (loc ++ [[v]]) h) := by
  rw [dwk_pure (op := .b2s a) rfl]; congr 1
@[simp] theorem dwk_mkf {f : Nat} {caps : List Opd} : dwk P n R (k + 1) (⟨none, d, .mkf f caps⟩ :: os) fr loc h = bnd' ((ptrs (caps.map (rho fr loc))).map fun l => V.s (.f f l)) (fun v => dwk P n R k os (setv fr d v) (loc ++ [[v]]) h) := by
  rw [dwk_pure (op := .mkf f caps) rfl]; congr 1
@[simp] theorem dwk_sstr {a : Opd} {lo hi : Option Opd} : dwk P n R (k + 1) (⟨none, d, .sstr a lo hi⟩ :: os) fr loc h = bnd' (sstrV (rho fr loc) a lo hi) (fun v => dwk P n R k os (setv fr d v) (loc ++ [[v]]) h) := by
  rw [dwk_pure (op := .sstr a lo hi) rfl]; congr 1
@[simp] theorem dwk_ssl {sz : Nat} {a : Opd} {lo hi mx : Option Opd} : dwk P n R (k + 1) (⟨none, d, .ssl sz a lo hi mx⟩ :: os) fr loc h = bnd' (evalP h (rho fr loc) loc (.ssl sz a lo hi mx)) (fun v => dwk P n R k os (setv fr d v) (loc ++ [[v]]) h) := by
  rw [dwk_pure (op := .ssl sz a lo hi mx) rfl]
@[simp] theorem dwk_sarr {N sz : Nat} {a : Opd} {lo hi : Option Opd} : dwk P n R (k + 1) (⟨none, d, .sarr N sz a lo hi⟩ :: os) fr loc h = bnd' (evalP h (rho fr loc) loc (.sarr N sz a lo hi)) (fun v => dwk P n R k os (setv fr d v) (loc ++ [[v]]) h) := by
  rw [dwk_pure (op := .sarr N sz a lo hi) rfl]
@[simp] theorem dwk_ixA {N sz : Nat} {agg : Option Nat} {a b : Opd} : dwk P n R (k + 1) (⟨none, d, .ixA N sz agg a b⟩ :: os) fr loc h = bnd' (ixAV N sz agg (rho fr loc a) (rho fr loc b)) (fun v => dwk P n R k os (setv fr d v) (loc ++ [[v]]) h) := by
  rw [dwk_pure (op := .ixA N sz agg a b) rfl]; congr 1
@[simp] theorem dwk_mm {mx : Bool} {a b : Opd} : dwk P n R (k + 1) (⟨none, d, .mm mx a b⟩ :: os) fr loc h = bnd' (mmV mx (rho fr loc a) (rho fr loc b)) (fun v => dwk P n R k os (setv fr d v) (loc ++ [[v]]) h) := by
  rw [dwk_pure (op := .mm mx a b) rfl]; congr 1

/-! ### operations that write -/
def effK0 (n : Nat) (o : Option (V × Heap × Option Nat)) (K : V → Heap → Prop) (t : Tk K) : Prop := bnd' o (fun x => (∀ r, x.2.2 = some r → n ≤ r) ∧ K x.1 x.2.1)
def effK (n : Nat) (o : Option (V × Heap × Option Nat)) (K : V → Heap → Prop) : Prop := effK0 n o K .mk
@[simp ↓] theorem effK_def (o : Option (V × Heap × Option Nat)) (K : V → Heap → Prop) : effK n o K = effK0 n o K .mk := _root_.id rfl
@[simp] theorem effK_none {v : V} {h' : Heap} {K : V → Heap → Prop} : effK0 n (some (v, h', none)) K .mk = K v h' := by simp [effK0]
@[simp] theorem effK_some {v : V} {h' : Heap} {r : Nat} {K : V → Heap → Prop} : effK0 n (some (v, h', some r)) K .mk = (n ≤ r ∧ K v h') := by simp [effK0]
theorem rwp_effK {op : IOp} (hk : op.kind = .e) : rwp P n R (⟨none, d, op⟩ :: os) fr loc h = effK n (evalE h (rho fr loc) op) (fun v h' => rwp P n R os (setv fr d v) (loc ++ [[v]]) h') := rwp_eff hk
def newvV (h : Heap) (x : V) : Option (V × Heap × Option Nat) := x.cells.map fun l => (.s (.p h.length 0 0), h ++ [⟨l, true, 0⟩], none)
@[simp] theorem newvV_s {x : S} : newvV h (.s x) = some (.s (.p h.length 0 0), h ++ [⟨[x], true, 0⟩], none) := rfl
@[simp] theorem newvV_a {l : List S} : newvV h (.a l) = some (.s (.p h.length 0 0), h ++ [⟨l, true, 0⟩], none) := rfl
@[simp] theorem rwp_newv {a : Opd} : rwp P n R (⟨none, d, .newv a⟩ :: os) fr loc h = effK n (newvV h (rho fr loc a)) (fun v h' => rwp P n R os (setv fr d v) (loc ++ [[v]]) h') := rwp_effK (op := .newv a) rfl
def mkslV (h : Heap) (sz m : Nat) (o : Option (List S)) : Option (V × Heap × Option Nat) := o.map fun l => (.s (.sl h.length 0 0 sz m m true), h ++ [⟨l, true, 0⟩], none)
@[simp] theorem mkslV_some {sz m : Nat} {l : List S} : mkslV h sz m (some l) = some (.s (.sl h.length 0 0 sz m m true), h ++ [⟨l, true, 0⟩], none) := rfl
@[simp] theorem rwp_mksl {sz m : Nat} {z : List S} {ps : List (Nat × Nat × Opd)} : rwp P n R (⟨none, d, .mksl sz m z ps⟩ :: os) fr loc h = effK n (mkslV h sz m (fillParts (rho fr loc) ps ((List.replicate m z).flatten))) (fun v h' => rwp P n R os (setv fr d v) (loc ++ [[v]]) h') := rwp_effK (op := .mksl sz m z ps) rfl
def mksV (h : Heap) (sz bytes : Nat) (z : List S) : V → V → Option (V × Heap × Option Nat)
  | .s (.i _ l), .s (.i _ c) => if 0 ≤ l ∧ l ≤ c ∧ c ≤ 9223372036854775807 ∧ c * bytes ≤ 140737488355328 then
        some (.s (.sl h.length 0 0 sz l.toNat c.toNat true), h ++ [⟨(List.replicate c.toNat z).flatten, true, 0⟩], none) else none
  | _, _ => none
@[simp] theorem rwp_mks {sz bytes : Nat} {z : List S} {a b : Opd} : rwp P n R (⟨none, d, .mks sz bytes z a b⟩ :: os) fr loc h = effK n (mksV h sz bytes z (rho fr loc a) (rho fr loc b)) (fun v h' => rwp P n R os (setv fr d v) (loc ++ [[v]]) h') := rwp_effK (op := .mks sz bytes z a b) rfl
def stV (h : Heap) (sz : Nat) : V → V → Option (V × Heap × Option Nat)
  | .s (.p r g o), v => (v.cells).bind fun l => (rowAt h r g).bind fun row => if row.rw = true ∧ l.length = sz ∧ o + sz ≤ row.cells.length then some (.u, setCells h r row (splice row.cells o l), some r) else none
  | _, _ => none
@[simp] theorem rwp_st {sz : Nat} {a b : Opd} : rwp P n R (⟨none, d, .st sz a b⟩ :: os) fr loc h = effK n (stV h sz (rho fr loc a) (rho fr loc b)) (fun v h' => rwp P n R os (setv fr d v) (loc ++ [[v]]) h') := by
  rw [rwp_effK (op := .st sz a b) rfl]; congr 1
  simp only [evalE, stV]
  generalize rho fr loc a = v
  generalize rho fr loc b = u
  cases v with
  | s x =>
    cases x
    case p r g o =>
      simp only []
      generalize V.cells u = c
      cases c with
      | none => rfl
      | some l => cases e : rowAt h r g <;> simp [e]
    all_goals (generalize V.cells u = c; cases c <;> rfl)
  | _ => generalize V.cells u = c; cases c <;> rfl
theorem rwp_app {sz bytes : Nat} {a b : Opd} : rwp P n R (⟨none, d, .app sz bytes a b⟩ :: os) fr loc h = effK n (evalE h (rho fr loc) (.app sz bytes a b)) (fun v h' => rwp P n R os (setv fr d v) (loc ++ [[v]]) h') := rwp_effK (op := .app sz bytes a b) rfl
@[simp] theorem rwp_cpy {sz : Nat} {a b : Opd} : rwp P n R (⟨none, d, .cpy sz a b⟩ :: os) fr loc h = effK n (evalE h (rho fr loc) (.cpy sz a b)) (fun v h' => rwp P n R os (setv fr d v) (loc ++ [[v]]) h') := rwp_effK (op := .cpy sz a b) rfl
/-- An effect in a drawn region: nothing old is written. -/
def effD (h : Heap) (o : Option (V × Heap × Option Nat)) (K : V → Heap → Prop) : Prop := ∃ v g, o = some (v, h ++ g, none) ∧ K v (h ++ g)
/-! ### calls -/
def dCl (P : Program) (f : Nat) (args : List V) (h : Heap) (K1 : V → Heap → Prop) (K2 : List V → Heap → Prop) (t1 : Tk K1) (t2 : Tk K2) : Prop :=
  ∃ vs h', ACalls P h.length f args h (fun r h'' => r = vs ∧ h'' = h') ∧ (∃ g, h' = h ++ g) ∧ ((∃ v, vs = [v] ∧ K1 v h') ∨ (vs.length ≠ 1 ∧ K2 vs h'))
theorem dCl_one {f : Nat} {args : List V} {x : V} {g : Heap} {K1 : V → Heap → Prop} {K2 : List V → Heap → Prop} (c : ∀ n, ACalls P n f args h (fun r h' => r = [x] ∧ h' = h ++ g)) (k : K1 x (h ++ g)) : dCl P f args h K1 K2 .mk .mk :=
  ⟨[x], h ++ g, c _, ⟨g, rfl⟩, .inl ⟨x, rfl, k⟩⟩
theorem dCl_same {f : Nat} {args : List V} {x : V} {K1 : V → Heap → Prop} {K2 : List V → Heap → Prop} (c : ∀ n, ACalls P n f args h (fun r h' => r = [x] ∧ h' = h)) (k : K1 x h) : dCl P f args h K1 K2 .mk .mk :=
  ⟨[x], h, c _, ⟨[], by simp⟩, .inl ⟨x, rfl, k⟩⟩
@[simp] theorem dwk_call {f : Nat} {args : List Opd} : dwk P n R (k + 1) (⟨none, d, .call f args⟩ :: os) fr loc h = dCl P f (args.map (rho fr loc)) h (fun v h' => dwk P n R k os (setv fr d v) (loc ++ [[v]]) h') (fun l h' => d = none ∧ dwk P n R k os fr (loc ++ [l]) h') .mk .mk := by
  simp only [dwk, List.take_succ_cons, List.drop_succ_cons, dwp, dstep, IOp.kind, callOf, dCl]
  apply propext
  constructor
  · rintro ⟨vs, h', ⟨f', args', e, c, g⟩, k⟩
    injection e with e; injection e with e1 e2; subst e1 e2
    exact ⟨vs, h', c, g, k⟩
  · rintro ⟨vs, h', c, g, k⟩
    exact ⟨vs, h', ⟨_, _, rfl, c, g⟩, k⟩
/-- A region's end at once. -/
theorem rwp_cut (F : List V) (H : Heap) {ops : List IOq} (h1 : rwp P n (fun fr' h' => fr' = F ∧ h' = H) ops fr loc h) (h2 : R F H) : rwp P n R ops fr loc h :=
  rwp_mono (fun fr' h' ⟨e1, e2⟩ => by subst e1 e2; exact h2) _ _ _ _ h1
theorem iwp_cut (F : List V) (H : Heap) {c : IC} (h1 : iwp P n c (fun e fr' h' => e = .n ∧ fr' = F ∧ h' = H) fr h) (h2 : Q .n F H) : iwp P n c Q fr h :=
  iwp_mono c (fun e fr' h' ⟨e0, e1, e2⟩ => by subst e0 e1 e2; exact h2) h1
theorem iwp_cutP (R : List V → Heap → Prop) {c : IC} (h1 : iwp P n c (fun e fr' h' => e = .n ∧ R fr' h') fr h) (h2 : ∀ fr' h', R fr' h' → Q .n fr' h') : iwp P n c Q fr h :=
  iwp_mono c (fun e fr' h' ⟨e0, k⟩ => by subst e0; exact h2 _ _ k) h1
theorem kLoop_next {α : Type} {F : α → List V} {H : α → Heap} {C : α → Prop} {μ : α → Nat} {a : α} (a' : α) (h1 : C a') (h2 : μ a' < μ a) (h3 : fr = F a') (h4 : h = H a') : kLoop F H C μ a Q .mk .mk .mk .mk .n fr h := ⟨a', h1, h2, h3, h4⟩
end
end Go.Px
