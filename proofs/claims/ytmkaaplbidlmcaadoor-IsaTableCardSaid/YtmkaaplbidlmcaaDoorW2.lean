/- Own work over the kit: abstract memory, its rules, and the walk. -/
import Derived.Test.YtmkaaplbidlmcaaDoorW1
set_option linter.all false
set_option linter.unusedVariables false
set_option linter.unusedSimpArgs false
set_option maxRecDepth 100000
namespace Go.Proofs.YtmkaaplbidlmcaaDoor
open Go Go.Px
theorem c35 {n : Nat} {h : Heap} (c : Int) : ACalls Tryd.prog n 35 [.s (.i .u8 c)] h (fun r h' => r = [.s (.b (letterB c))] ∧ h' = h) := by
  refine acalls_walk mixed fn35 rfl ?_
  simp [ir35, b35, initFr]
  repeat' (refine Br_intro (fun hc => ?_) (fun hc => ?_) <;> simp [*])
  all_goals simp [resV, letterB, *]
theorem nat_i64 {i : Nat} {x : Int} (hx : (i : Int) + 1 ≤ 9223372036854775807) : IntKind.i64.wrap ((i : Int) + 1) = ((i + 1 : Nat) : Int) := by rw [wrap_i64 (by omega) (by omega)]; rfl
theorem all_take_succ {s : List Nat} {f : Nat → Bool} {i : Nat} (hi : i < s.length) : (s.take (i + 1)).all f = ((s.take i).all f && f s[i]) := by
  rw [List.take_add_one, List.all_append, List.getElem?_eq_getElem hi]; simp
theorem all_false {s : List Nat} {f : Nat → Bool} {i : Nat} (hi : i < s.length) (h : f s[i] = false) : s.all f = false := by
  rw [List.all_eq_false]
  exact ⟨s[i], List.getElem_mem hi, by simp [h]⟩
theorem c23 {n : Nat} {h : Heap} (s : List Nat) : ACalls Tryd.prog n 23 [.s (.s s)] h (fun r h' => r = [.s (.b (nameB s))] ∧ h' = h) := by
  refine acalls_walk mixed fn23 rfl ?_
  simp [ir23, b23, initFr]
  refine Br_intro (fun hc => ?_) (fun hc => ?_)
  · simp [hc, resV, nameB]
  simp [hc]
  have h0 : 0 < s.length := List.length_pos_iff.2 hc
  refine Br_intro (fun hl => ?_) (fun hl => ?_)
  · have : ¬ s.length ≤ 12 := by omega
    simp [hl, resV, nameB, this]
  have hl12 : s.length ≤ 12 := by omega
  simp [hl, h0]
  refine cCl_one (c35 _) ?_
  simp
  have hh : s.headD 0 = s[0] := by cases s with | nil => simp at h0 | cons a l => rfl
  refine Br_intro (fun hd => ?_) (fun hd => ?_)
  · simp [resV]
    simp only [nameB, hh]
    by_cases hg : digitB s[0] = true
    · simp [hg]
    · have : s.all (fun c => letterB c || digitB c) = false := all_false (f := fun c => letterB c || digitB c) h0 (by simp [hd, hg])
      simp [this]
  · simp
    refine iwp_loop (α := Nat × V × V × V × V) (fun a => [.s (.s s), .s (.b false), .s (.b false), .s (.i .i64 (a.1 : Int)), .s (.i .i64 s.length), a.2.1, a.2.2.1, a.2.2.2.1, a.2.2.2.2]) (fun _ => h) (fun a => a.1 ≤ s.length ∧ (s.take a.1).all (fun c => letterB c || digitB c) = true) (fun a => s.length - a.1) (0, .u, .u, .u, .u) (by simp [hd]) rfl (by simp) ?_
    rintro ⟨i, j1, j2, j3, j4⟩ ⟨hi, ha⟩
    simp only at hi ha
    simp
    refine Br_intro (fun hc => ?_) (fun hc => ?_)
    · simp [hc]
      refine cCl_one (c35 _) ?_
      have hn := nat_i64 (i := i) (x := 0) (by omega)
      simp [hn]
      have hstep : (letterB (s[i] : Int) || digitB (s[i] : Int)) = true → (s.take (i + 1)).all (fun c => letterB c || digitB c) = true := fun hx => by rw [all_take_succ hc, ha, hx]; rfl
      have hfail : (letterB (s[i] : Int) || digitB (s[i] : Int)) = false → nameB s = false := fun hx => by
        simp only [nameB]; rw [all_false (f := fun c => letterB c || digitB c) hc hx]; simp
      refine Br_intro (fun he => ?_) (fun he => ?_)
      · simp [he]
        repeat' (refine Br_intro (fun hc => ?_) (fun hc => ?_) <;> simp [*])
        all_goals first
          | exact kLoop_next (i + 1, _, _, _, _) ⟨by simp only; omega, hstep (by simp [digitB, *]; omega)⟩ (by simp only; omega) rfl rfl
          | (simp [resV]; exact hfail (by simp [digitB, *]; try omega))
      · simp [he, hn]
        exact kLoop_next (i + 1, _, _, _, _) ⟨by simp only; omega, hstep (by simp [he])⟩ (by simp only; omega) rfl rfl
    · have : i = s.length := by omega
      subst this
      rw [List.take_length] at ha
      have hd' : digitB (s[0] : Int) = false := by
        simp only [letterB, digitB] at hd ⊢
        simp at hd ⊢
        omega
      have hne : ¬ s = [] := by intro e; simp [e] at h0
      simp [resV, nameB, ha, hl12, hne]
      rw [← List.headD_eq_head?_getD, hh]; exact hd'
def lp24 : IC := match b24 with | .seq _ (.seq _ (.seq (.seq _ (.blk _ (.loop l))) _)) => l | _ => .skip
theorem c24 {n : Nat} {h : Heap} (s : List Nat) : ACalls Tryd.prog n 24 [.s (.s s)] h (fun r h' => r = [.s (.b (nameB s))] ∧ h' = h) := by
  refine acalls_walk mixed fn24 rfl ?_
  simp [ir24, b24, initFr]
  refine Br_intro (fun hc => ?_) (fun hc => ?_)
  · simp [hc, resV, nameB]
  have h0 : 0 < s.length := List.length_pos_iff.2 hc
  have hh : s.headD 0 = s[0] := by cases s with | nil => simp at h0 | cons a l => rfl
  have hne : ¬ s = [] := hc
  simp [hc]
  refine Br_intro (fun hl => ?_) (fun hl => ?_)
  · have : ¬ s.length ≤ 12 := by omega
    simp [hl, resV, nameB, this]
  have hl12 : s.length ≤ 12 := by omega
  have hbad : digitB (s[0] : Int) = true → nameB s = false := fun hx => by simp only [nameB, hh, hx]; simp
  have main : digitB (s[0] : Int) = false → ∀ j0 : V, iwp Tryd.prog n (.loop lp24) (kBlk 0 (kSeq Tryd.prog n (.seq (.reg [⟨none, (some 1), .mov (.c (.s (.b true)))⟩]) .ret) (kEnd [.tmp 1] fun r h' => r = [.s (.b (nameB s))] ∧ h' = h)))
      [.s (.s s), .s (.b false), j0, .s (.i .i64 0), .u, .u] h := by
    intro hd j0
    simp only [lp24, b24]
    refine iwp_loop (α := Nat × V × V) (fun a => [.s (.s s), .s (.b false), j0, .s (.i .i64 (a.1 : Int)), a.2.1, a.2.2]) (fun _ => h) (fun a => a.1 ≤ s.length ∧ (s.take a.1).all (fun c => letterB c || digitB c) = true) (fun a => s.length - a.1) (0, .u, .u) rfl rfl (by simp) ?_
    rintro ⟨i, j1, j2⟩ ⟨hi, ha⟩
    simp only at hi ha
    simp
    refine Br_intro (fun hc => ?_) (fun hc => ?_)
    · simp [hc]
      have hn := nat_i64 (i := i) (x := 0) (by omega)
      have hstep : (letterB (s[i] : Int) || digitB (s[i] : Int)) = true → (s.take (i + 1)).all (fun c => letterB c || digitB c) = true := fun hx => by rw [all_take_succ hc, ha, hx]; rfl
      have hfail : (letterB (s[i] : Int) || digitB (s[i] : Int)) = false → nameB s = false := fun hx => by
        simp only [nameB]; rw [all_false (f := fun c => letterB c || digitB c) hc hx]; simp
      simp only [letterB, digitB] at hstep hfail
      repeat' (refine Br_intro (fun hc => ?_) (fun hc => ?_) <;> simp [*])
      all_goals first
        | exact kLoop_next (i + 1, _, _) ⟨by simp only; omega, hstep (by simp; try omega)⟩ (by simp only; omega) rfl rfl
        | (simp [resV] <;> exact hfail (by simp; try omega))
    · have : i = s.length := by omega
      subst this
      rw [List.take_length] at ha
      simp [resV, nameB, ha, hl12, hne]
      rw [← List.headD_eq_head?_getD, hh]; exact hd
  simp [hl, h0]
  refine Br_intro (fun hd => ?_) (fun hd => ?_)
  · simp [h0, hd]
    refine Br_intro (fun he => ?_) (fun he => ?_)
    · simp [resV]
      exact hbad (by simp [digitB, *])
    · simp
      exact main (by simp [digitB]; omega) (.s (.b _))
  · simp [hd]
    exact main (by simp [digitB]; omega) (.s (.b _))
theorem c33 {n : Nat} {h : Heap} {v : S} {xs : List (List Nat)} (s : List Nat) (hv : Vw h 1 encS v xs) : ACalls Tryd.prog n 33 [.s v, .s (.s s)] h (fun r h' => r = [.s (.i .i64 (atI s xs 0))] ∧ h' = h) := by
  refine ACalls.len fn33.call hv (j := 0) rfl fun hl => ?_
  refine acalls_walk mixed fn33 rfl ?_
  simp [ir33, b33, initFr, hv.len]
  refine iwp_loop (α := Nat × V × V × V) (fun a => [.s v, .s (.s s), .s (.i .i64 0), .s (.i .i64 (a.1 : Int)), .s (.i .i64 xs.length), a.2.1, a.2.2.1, a.2.2.2]) (fun _ => h) (fun a => a.1 ≤ xs.length ∧ atI s (xs.drop a.1) a.1 = atI s xs 0) (fun a => xs.length - a.1) (0, .u, .u, .u) rfl rfl (by simp) ?_
  rintro ⟨i, j1, j2, j3⟩ ⟨hi, ha⟩
  simp only at hi ha
  simp
  refine Br_intro (fun hc => ?_) (fun hc => ?_)
  · rw [List.drop_eq_getElem_cons hc, atI] at ha
    simp [hv.iad, hv.ld, hc, encS]
    refine Br_intro (fun hd => ?_) (fun hd => ?_)
    · rw [if_pos hd.symm] at ha
      simp [resV, ha]
    · rw [if_neg (fun e => hd e.symm)] at ha
      have hn := nat_i64 (i := i) (x := 0) (by omega)
      simp [hn]
      exact kLoop_next (i + 1, _, _, _) ⟨by simp only; omega, by simpa using ha⟩ (by simp only; omega) rfl rfl
  · have : xs.drop i = [] := by simp; omega
    simp [this, atI] at ha
    simp [resV, ← ha]
theorem c22 {n : Nat} {h : Heap} {v : S} {xs : List (List Nat)} (s : List Nat) (hv : Vw h 1 encS v xs) : ACalls Tryd.prog n 22 [.s v, .s (.s s)] h (fun r h' => r = [.s (.i .i64 (atI s xs 0))] ∧ h' = h) := by
  refine ACalls.len fn22.call hv (j := 0) rfl fun hl => ?_
  refine acalls_walk mixed fn22 rfl ?_
  simp [ir22, b22, initFr]
  refine iwp_loop (α := Nat × V × V) (fun a => [.s v, .s (.s s), .s (.i .i64 0), .s (.i .i64 (a.1 : Int)), a.2.1, a.2.2]) (fun _ => h) (fun a => a.1 ≤ xs.length ∧ atI s (xs.drop a.1) a.1 = atI s xs 0) (fun a => xs.length - a.1) (0, .u, .u) rfl rfl (by simp) ?_
  rintro ⟨i, j1, j2⟩ ⟨hi, ha⟩
  simp only at hi ha
  simp [hv.len]
  refine Br_intro (fun hc => ?_) (fun hc => ?_)
  · rw [List.drop_eq_getElem_cons hc, atI] at ha
    simp [hv.iad, hv.ld, hc, encS]
    refine Br_intro (fun hd => ?_) (fun hd => ?_)
    · simp [resV, ← ha, hd]
    · rw [if_neg hd] at ha
      have hn := nat_i64 (i := i) (x := 0) (by omega)
      simp [hn]
      exact kLoop_next (i + 1, _, _) ⟨by simp only; omega, by simpa using ha⟩ (by simp only; omega) rfl rfl
  · have : xs.drop i = [] := by simp; omega
    simp [this, atI] at ha
    simp [resV, ← ha]
end Go.Proofs.YtmkaaplbidlmcaaDoor
