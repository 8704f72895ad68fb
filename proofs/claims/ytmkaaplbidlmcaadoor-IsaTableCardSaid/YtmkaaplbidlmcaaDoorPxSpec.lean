/- Own work over the kit: abstract memory, its rules, and the walk. -/
import Derived.Test.YtmkaaplbidlmcaaDoorPxW2
set_option linter.all false
/-! Plain functions over numbers: what the small functions of 'isa' and of the document's references answer. -/
namespace Go.Px

def isB (op : Int) : Bool := decide (0 ≤ op) && decide (op ≤ 33)
def betweenB (n low high : Int) : Bool := decide (low ≤ n) && decide (n ≤ high)
def shapeI (op : Int) : Int :=
  if op = 21 then 2 else if op = 22 then 3 else if op = 24 then 3 else if op = 23 then 4 else if op = 25 then 5 else if op = 26 then 6 else if op = 27 then 7 else
  if op = 28 then 8 else if op = 31 then 8 else if op = 29 then 9 else if op = 30 then 9 else if op = 0 then 0 else if op = 32 then 0 else if op = 33 then 0 else 1
def lateI (op : Int) : Int :=
  if op = 14 then 2 else if op = 15 then 2 else if op = 26 then 2 else if op = 20 then 3 else if op = 24 then 3 else if op = 16 then 4 else if op = 17 then 4 else 1
def endsB (op : Int) : Bool := decide (28 ≤ op) && decide (op ≤ 33)
def effectB (op : Int) : Bool := decide (op = 16) || decide (op = 17) || decide (op = 24) || decide (op = 25) || decide (op = 26) || decide (op = 27) || decide (op = 31) || decide (op = 32) || decide (op = 33)
def mayB (op slot : Int) : Bool :=
  if isB op = false ∨ slot < 0 ∨ 3 < slot then false else
  if op = 0 then true else
  if op = 14 ∨ op = 15 ∨ op = 16 ∨ op = 17 ∨ op = 20 then decide (slot = 3) else
  if op = 18 ∨ op = 19 ∨ op = 21 then decide (slot = 1) else
  if op = 24 ∨ op = 25 ∨ op = 26 ∨ op = 27 then decide (slot = 2) else
  decide (slot = 0) || (decide (slot = 1) && !endsB op)
def hasDB (f : Int) : Bool := (decide (1 ≤ f) && decide (f ≤ 4)) || decide (f = 6)
def hasAB (f : Int) : Bool := decide (f = 1) || decide (f = 2) || decide (f = 3) || decide (f = 5) || decide (f = 7) || decide (f = 9)
def hasBB (f : Int) : Bool := decide (f = 1) || decide (f = 5)
def targetB (f : Int) : Bool := decide (f = 8) || decide (f = 9)
def bitsI (f : Int) : Int := if f = 3 then 14 else if f = 5 then 14 else if f = 9 then 14 else if f = 4 then 18 else if f = 8 then 18 else 0
def letterB (c : Int) : Bool := decide (c = 95) || (decide (97 ≤ c) && decide (c ≤ 122))
def digitB (c : Int) : Bool := decide (48 ≤ c) && decide (c ≤ 57)
def regB (has : Bool) (n : Int) : Bool := decide (n = 0) || (has && decide (0 < n) && decide (n < 16))
def formL : List Int := [0, 1, 1, 1, 1, 1, 1, 1, 1, 1, 1, 1, 1, 1, 1, 1, 1, 1, 1, 1, 1, 2, 3, 4, 3, 5, 6, 7, 8, 9, 9, 8, 0, 0]
theorem formL_shape : ∀ i : Fin 34, formL[i.val]? = some (shapeI i.val) := by decide
/-- A text that may be a name. -/
def nameB (s : List Nat) : Bool := decide (s ≠ []) && decide (s.length ≤ 12) && !(digitB (s.headD 0)) && s.all fun c => letterB c || digitB c
def slotsL (op : Int) : List Int :=
  if op = 0 then [0, 1, 2, 3] else if op = 18 ∨ op = 19 ∨ op = 21 then [1] else if (14 ≤ op ∧ op ≤ 17) ∨ op = 20 then [3] else if 24 ≤ op ∧ op ≤ 27 then [2] else if endsB op = true then [0] else [0, 1]
/-- Where a number is; -1: nowhere. -/
def inI (n : Int) : List Int → Int → Int
  | [], _ => -1
  | x :: l, i => if x = n then i else inI n l (i + 1)
/-- Where a text is; -1: nowhere. -/
def atI (s : List Nat) : List (List Nat) → Int → Int
  | [], _ => -1
  | x :: l, i => if x = s then i else atI s l (i + 1)
def encS (s : List Nat) : List S := [.s s]
def encI (k : IntKind) (n : Int) : List S := [.i k n]
end Go.Px
