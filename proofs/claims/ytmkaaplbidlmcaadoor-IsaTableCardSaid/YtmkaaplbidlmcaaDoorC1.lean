/- Own work over the kit: abstract memory, its rules, and the walk. -/
import Derived.Test.YtmkaaplbidlmcaaDoorPxSpec
import Derived.Test.YtmkaaplbidlmcaaDoorIr
set_option linter.all false
set_option linter.unusedVariables false
set_option linter.unusedSimpArgs false
set_option maxRecDepth 100000
namespace Go.Proofs.YtmkaaplbidlmcaaDoor
open Go Go.Px
/- Contracts of the small functions: walks. -/
theorem mixed : Tryd.prog.follows .mixedOrders = true := by kernel_rfl
section
variable {n : Nat} {h : Heap}
theorem c_isa_Is (op : Int) : ACalls Tryd.prog n 26 [.s (.i .i64 op)] h (fun r h' => r = [.s (.b (isB op))] ∧ h' = h) := by
  refine acalls_walk mixed fn26 rfl ?_
  simp [ir26, b26, initFr]
  repeat' (refine Br_intro (fun hc => ?_) (fun hc => ?_) <;> simp [*])
  all_goals simp [resV, isB, *]
theorem c_ref0_Between (m low high : Int) : ACalls Tryd.prog n 32 [.s (.i .i64 m), .s (.i .i64 low), .s (.i .i64 high)] h (fun r h' => r = [.s (.b (betweenB m low high))] ∧ h' = h) := by
  refine acalls_walk mixed fn32 rfl ?_
  simp [ir32, b32, initFr]
  repeat' (refine Br_intro (fun hc => ?_) (fun hc => ?_) <;> simp [*])
  all_goals simp [resV, betweenB, *]
theorem c_isa_Shape (op : Int) : ACalls Tryd.prog n 28 [.s (.i .i64 op)] h (fun r h' => r = [.s (.i .i64 (shapeI op))] ∧ h' = h) := by
  refine acalls_walk mixed fn28 rfl ?_
  simp [ir28, b28, initFr]
  repeat' (refine Br_intro (fun hc => ?_) (fun hc => ?_) <;> simp [*])
  all_goals simp [resV, shapeI, *]
theorem c_isa_Late (op : Int) : ACalls Tryd.prog n 29 [.s (.i .i64 op)] h (fun r h' => r = [.s (.i .i64 (lateI op))] ∧ h' = h) := by
  refine acalls_walk mixed fn29 rfl ?_
  simp [ir29, b29, initFr]
  repeat' (refine Br_intro (fun hc => ?_) (fun hc => ?_) <;> simp [*])
  all_goals simp [resV, lateI, *]
theorem c_ref3_Latency (op : Int) : ACalls Tryd.prog n 11 [.s (.i .i64 op)] h (fun r h' => r = [.s (.i .i64 (lateI op))] ∧ h' = h) := by
  refine acalls_walk mixed fn11 rfl ?_
  simp [ir11, b11, initFr]
  repeat' (refine Br_intro (fun hc => ?_) (fun hc => ?_) <;> simp [*])
  all_goals simp [resV, lateI, *]
theorem c_isa_Ends (op : Int) : ACalls Tryd.prog n 16 [.s (.i .i64 op)] h (fun r h' => r = [.s (.b (endsB op))] ∧ h' = h) := by
  refine acalls_walk mixed fn16 rfl ?_
  simp [ir16, b16, initFr]
  repeat' (refine Br_intro (fun hc => ?_) (fun hc => ?_) <;> simp [*])
  all_goals simp [resV, endsB, *]
theorem c_isa_Effect (op : Int) : ACalls Tryd.prog n 18 [.s (.i .i64 op)] h (fun r h' => r = [.s (.b (effectB op))] ∧ h' = h) := by
  refine acalls_walk mixed fn18 rfl ?_
  simp [ir18, b18, initFr]
  repeat' (refine Br_intro (fun hc => ?_) (fun hc => ?_) <;> simp [*])
  all_goals simp [resV, effectB, *]
theorem c_isa_May (op slot : Int) : ACalls Tryd.prog n 20 [.s (.i .i64 op), .s (.i .i64 slot)] h (fun r h' => r = [.s (.b (mayB op slot))] ∧ h' = h) := by
  refine acalls_walk mixed fn20 rfl ?_
  simp [ir20, b20, initFr]
  repeat' (first | (refine step_one (c_isa_Is _) ?_; simp) | (refine step_one (c_isa_Ends _) ?_; simp) | (refine Br_intro (fun hc => ?_) (fun hc => ?_) <;> simp [*]))
  all_goals (simp [resV, mayB, *] <;> (try (intros; decide)))
end
end Go.Proofs.YtmkaaplbidlmcaaDoor
