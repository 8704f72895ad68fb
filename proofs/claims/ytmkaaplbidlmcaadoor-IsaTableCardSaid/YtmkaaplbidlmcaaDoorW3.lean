/- Own work over the kit: abstract memory, its rules, and the walk. -/
import Derived.Test.YtmkaaplbidlmcaaDoorW2
set_option linter.all false
set_option linter.unusedVariables false
set_option linter.unusedSimpArgs false
set_option maxRecDepth 100000
namespace Go.Proofs.YtmkaaplbidlmcaaDoor
open Go Go.Px
theorem call46 : Callable Tryd.prog 46 := ⟨Tryd.f46, Tryd.func46, by kernel_rfl, by kernel_rfl⟩
def O3 : Orc := orc2 (joinO 46) O2
theorem O3_ok : OrcOk Tryd.prog G0 O3 := orc2_ok (joinO_ok call46 (fun bk o c xs sep w h1 h2 h3 h4 h5 => Tryd.strings_Join bk o c xs sep w h1 h2 h3 h4 h5)) O2_ok
theorem r25 : runIs T O3 100 12 G0 25 [] [.s (.b true)] [] = true := by kernel_rfl
theorem c25 {n : Nat} {H : Heap} (hp : Pre G0 H) : ACalls Tryd.prog n 25 [] H (fun r h => r = [.s (.b true)] ∧ h = H) :=
  ((entry_of_run mixed T_ok O3_ok r25 H hp).top n).mono fun r h ⟨e1, e2⟩ => ⟨by rw [e1]; rfl, by rw [e2]; simp⟩
theorem Pre.app {G H : Heap} (hp : Pre G H) (g : Heap) : Pre G (H ++ g) := hp.append g
theorem vwNames {H g : Heap} : Vw (H ++ (⟨namesL.map S.s, true, 0⟩ : Row) :: g) 1 encS (.sl H.length 0 0 1 34 34 true) namesL := by
  refine .inr ⟨H.length, 0, 0, 34, true, ⟨namesL.map S.s, true, 0⟩, rfl, by simp, fun i x hx => ⟨rfl, fun j y hy => ?_⟩⟩
  match j with
  | 0 => simp [encS] at hy; subst hy; simp [hx]
  | j + 1 => simp [encS] at hy
theorem c13g {n : Nat} {H : Heap} (hp : Pre G0 H) (s : List Nat) : ACalls Tryd.prog n 13 [.s (.s s)] H (fun r h => r = [.s (.i .i64 (if atI s namesL 0 < 0 then 0 else atI s namesL 0)), .s (.i .i64 (if atI s namesL 0 < 0 then 9 else 0))] ∧ ∃ g, h = H ++ g) := by
  refine acalls_walk mixed fn13 rfl ?_
  simp [ir13, b13, initFr]
  refine cCl_one (c27 hp) ?_
  simp
  refine cCl_one (c33 s (vwNames (g := []))) ?_
  simp
  refine Br_intro (fun hd => ?_) (fun hd => ?_)
  · simp [resV, hd]
  · simp [resV, hd]
end Go.Proofs.YtmkaaplbidlmcaaDoor
