/- Own work over the kit: abstract memory, its rules, and the walk. -/
import Derived.Test.YtmkaaplbidlmcaaDoorE1
import Derived.Test.YtmkaaplbidlmcaaDoorC1
set_option linter.all false
set_option linter.unusedVariables false
set_option maxRecDepth 100000
namespace Go.Proofs.YtmkaaplbidlmcaaDoor
open Go Go.Px
def i64v (n : Int) : V := .s (.i .i64 n)
def opK (k : Nat) : Int := (k : Int) - 2
def valK (k : Nat) : Bool := Nat.ble 2 k && Nat.blt k 36
def errK (k : Nat) : Int := if valK k then 0 else 1
def nmK (k : Nat) : List Nat := if valK k then namesL.getD (k - 2) [] else []
def all38 (f : Nat → Bool) : Bool := (List.range 38).all f
def all34 (f : Nat → Bool) : Bool := (List.range 38).all fun k => !valK k || f k
def rn (f : Nat) (args rets : List V) (g : Heap) : Bool := runIs T O2 100 10 G0 f args rets g
def slotRow (k : Nat) : Row := ⟨(slotsL (opK k)).map (S.i .i64) ++ List.replicate (4 - (slotsL (opK k)).length) (S.i .i64 0), true, 0⟩
def slotRow2 (k : Nat) : Row := ⟨(slotsL (opK k)).map (S.i .i64), true, 0⟩
def nSl (k : Nat) : Nat := (slotsL (opK k)).length
theorem r4 : (all38 fun k => rn 4 [i64v (opK k)] [.s (.s (nmK k)), i64v (errK k)] []) = true := by kernel_rfl
theorem r5 : (all38 fun k => rn 5 [i64v (opK k)] [i64v (if valK k then shapeI (opK k) else 0), i64v (errK k)] []) = true := by kernel_rfl
theorem r6 : (all38 fun k => rn 6 [i64v (opK k)] [i64v (if valK k then lateI (opK k) else 0), i64v (errK k)] []) = true := by kernel_rfl
theorem r7 : (all38 fun k => rn 7 [i64v (opK k)] [.s (if valK k then .sl 1 0 0 1 (nSl k) 4 true else .nsl), i64v (errK k)] (if valK k then [slotRow k] else [])) = true := by kernel_rfl
theorem r8 : (all38 fun k => rn 8 [i64v (opK k)] [.s (.b (valK k))] []) = true := by kernel_rfl
theorem r10 : (all34 fun k => rn 10 [i64v (opK k)] [i64v (shapeI (opK k))] []) = true := by kernel_rfl
theorem r11 : (all34 fun k => rn 11 [i64v (opK k)] [i64v (lateI (opK k))] []) = true := by kernel_rfl
theorem r12 : (all34 fun k => rn 12 [i64v (opK k)] [.s (.sl 1 0 0 1 (nSl k) (nSl k) true)] [slotRow2 k]) = true := by kernel_rfl
theorem r13 : (all34 fun k => rn 13 [.s (.s (nmK k))] [i64v (opK k), i64v 0] []) = true := by kernel_rfl
theorem r16 : (all38 fun k => rn 16 [i64v (opK k)] [.s (.b (endsB (opK k)))] []) = true := by kernel_rfl
theorem r17 : (all38 fun k => rn 17 [i64v (opK k)] [.s (.b (endsB (opK k)))] []) = true := by kernel_rfl
theorem r18 : (all38 fun k => rn 18 [i64v (opK k)] [.s (.b (effectB (opK k)))] []) = true := by kernel_rfl
theorem r19 : (all38 fun k => rn 19 [i64v (opK k)] [.s (.b (effectB (opK k)))] []) = true := by kernel_rfl
theorem r21 : (all38 fun k => (List.range 7).all fun j => rn 21 [i64v (opK k), i64v ((j : Int) - 1)] [.s (.b (mayB (opK k) ((j : Int) - 1)))] []) = true := by kernel_rfl
end Go.Proofs.YtmkaaplbidlmcaaDoor
