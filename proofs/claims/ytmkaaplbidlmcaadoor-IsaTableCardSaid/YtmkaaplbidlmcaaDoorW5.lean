/- Own work over the kit: abstract memory, its rules, and the walk. -/
import Derived.Test.YtmkaaplbidlmcaaDoorW4
import Derived.Test.YtmkaaplbidlmcaaDoorPxA
set_option linter.all false
set_option linter.unusedVariables false
set_option linter.unusedSimpArgs false
set_option maxRecDepth 100000
namespace Go.Proofs.YtmkaaplbidlmcaaDoor
open Go Go.Px
def L2 : IC := match b3 with | .seq _ (.seq _ (.seq _ (.seq (.seq _ (.blk _ (.loop l))) _))) => l | _ => .skip
theorem atI_lt (s : List Nat) : ∀ (l : List (List Nat)) (i : Int), atI s l i = -1 ∨ (i ≤ atI s l i ∧ atI s l i < i + l.length)
  | [], i => .inl rfl
  | x :: l, i => by
    unfold atI
    split
    · right; simp; omega
    · rcases atI_lt s l (i + 1) with h | h
      · exact .inl h
      · right; simp; omega
theorem c13a {n : Nat} {H : Heap} (hp : Pre G0 H) (s : List Nat) {a : Int} (ha : atI s namesL 0 = a) : ACalls Tryd.prog n 13 [.s (.s s)] H (fun r h => r = [.s (.i .i64 (if a < 0 then 0 else a)), .s (.i .i64 (if a < 0 then 9 else 0))] ∧ ∃ g, h = H ++ g) := by
  subst ha; exact c13g hp s
theorem c22a {n : Nat} {H : Heap} (s : List Nat) {a : Int} (ha : atI s namesL 0 = a) : ACalls Tryd.prog n 22 [.s (.sl H.length 0 0 1 34 34 true), .s (.s s)] (H ++ [(⟨namesL.map S.s, true, 0⟩ : Row)]) (fun r h' => r = [.s (.i .i64 a)] ∧ h' = (H ++ [(⟨namesL.map S.s, true, 0⟩ : Row)])) := by
  subst ha; exact c22 s (vwNames (g := []))
theorem loop2_ok {n : Nat} {H h2 : Heap} {u : S} {xs : List (List Nat)} {Q : Ex → List V → Heap → Prop} {a0 b j3 j4 j5 j6 j7 j8 j9 j10 j11 j12 j13 j14 j15 j16 j17 j18 j19 j20 j21 j22 j23 j24 : V} {op : V} (hnl2 : n ≤ h2.length) (hp2 : Pre G0 h2) (hh2 : ∃ g, h2 = H ++ g) (hu2 : Vw h2 1 encS u xs)
    (hQ : ∀ v26 v27 v28 v29 v30 v31 v32 h, Pre G0 h → (∃ g, h = H ++ g) → Q (.x 4) [a0, V.s (S.b false), op, j3, j4, j5, j6, j7, j8, j9, j10, j11, j12, j13, j14, j15, j16, j17, j18, j19, j20, j21, j22, j23, j24, b, v26, v27, v28, v29, v30, v31, v32] h) :
    iwp Tryd.prog n (.loop L2) Q [a0, V.s (S.b false), op, j3, j4, j5, j6, j7, j8, j9, j10, j11, j12, j13, j14, j15, j16, j17, j18, j19, j20, j21, j22, j23, j24, b, .s (.i .i64 0), .s u, .u, .u, .u, .u, .u] h2 := by
  refine iwp_loopR (fun (k : Nat) fr h => k ≤ xs.length ∧ k ≤ 20 ∧ n ≤ h.length ∧ Pre G0 h ∧ (∃ g, h = H ++ g) ∧ Vw h 1 encS u xs ∧
    ∃ j28 j29 j30 j31 j32 : V, fr = [a0, V.s (S.b false), op, j3, j4, j5, j6, j7, j8, j9, j10, j11, j12, j13, j14, j15, j16, j17, j18, j19, j20, j21, j22, j23, j24, b, .s (.i .i64 (k : Int)), .s u, j28, j29, j30, j31, j32]) (fun k => 21 - k) 0 ⟨by omega, by omega, hnl2, hp2, hh2, hu2, _, _, _, _, _, rfl⟩ ?_
  clear hnl2 hp2 hh2 hu2
  rintro k fr h ⟨hk, hk20, hnl, hp1, hh, hu, j28, j29, j30, j31, j32, rfl⟩
  simp only [L2, b3]
  simp [hu.len]
  refine Br_intro (fun hc => ?_) (fun hc => ?_)
  · simp [hc]
    refine Br_intro (fun hd => ?_) (fun hd => ?_)
    · simp [hu.iad, hu.ld, hc, encS]
      obtain ⟨a, ha⟩ : ∃ a, atI xs[k] namesL 0 = a := ⟨_, rfl⟩
      refine cCl_ex (c13a hp1 _ ha) ?_
      rintro rets h2 ⟨rfl, g2, e2⟩
      have hp2 : Pre G0 h2 := by rw [e2]; exact hp1.append _
      have hh2 : ∃ g, h2 = H ++ g := by obtain ⟨g, rfl⟩ := hh; rw [e2]; exact ⟨g ++ g2, by simp⟩
      have hu2 : Vw h2 1 encS u xs := by rw [e2]; exact hu.append _
      have hn2 : n ≤ h2.length := by rw [e2]; simp; omega
      clear e2 hp1 hh hu hnl
      refine .inr ⟨by simp, ?_⟩
      simp [hn2]
      refine dCl_one (fun n => c9 hp2) ?_
      simp [hu2.iad, (hu2.append _).ld, hc, encS]
      refine cCl_one (c22a _ ha) ?_
      clear ha
      have hp3 : Pre G0 (h2 ++ [(⟨namesL.map S.s, true, 0⟩ : Row)]) := hp2.append _
      have hn3 : n ≤ (h2 ++ [(⟨namesL.map S.s, true, 0⟩ : Row)]).length := by simp; omega
      have hh3 : ∃ g, (h2 ++ [(⟨namesL.map S.s, true, 0⟩ : Row)]) = H ++ g := by obtain ⟨g, rfl⟩ := hh2; exact ⟨g ++ _, by simp; rfl⟩
      have hu3 : Vw (h2 ++ [(⟨namesL.map S.s, true, 0⟩ : Row)]) 1 encS u xs := hu2.append _
      generalize (h2 ++ [(⟨namesL.map S.s, true, 0⟩ : Row)]) = h3 at *
      clear hu2 hh2 hp2 hn2
      simp [hn3]
      have hw := nat_i64 (i := k) (x := 0) (by omega)
      by_cases hneg : a < 0
      · have h1 : ¬ 0 ≤ a := by omega
        simp [hneg, h1]
        refine dCl_same (fun n => c14 _) ?_
        simp [hu3.iad, hu3.ld, hc, encS]
        refine dCl_same (fun n => c23 _) ?_
        simp [hu3.iad, hu3.ld, hc, encS]
        refine cCl_one (c24 _) ?_
        simp [hw]
        exact kLoopI_next (k + 1) (by omega) ⟨by omega, by omega, hn3, hp3, hh3, hu3, _, _, _, _, _, rfl⟩
      · have h1 : 0 ≤ a := by omega
        simp [hneg, h1]
        refine dCl_same (fun n => c14 _) ?_
        simp [hu3.iad, hu3.ld, hc, encS, hneg]
        refine dCl_same (fun n => c23 _) ?_
        simp [hu3.iad, hu3.ld, hc, encS, hneg]
        refine cCl_one (c24 _) ?_
        simp [hw]
        exact kLoopI_next (k + 1) (by omega) ⟨by omega, by omega, hn3, hp3, hh3, hu3, _, _, _, _, _, rfl⟩
    · exact hQ _ _ _ _ _ _ _ _ hp1 hh
  · simp [hc]
    exact hQ _ _ _ _ _ _ _ _ hp1 hh
def five : List (List Nat) := [[], [65, 68, 68], [97, 100], [110, 111, 112, 32], [46, 99, 111, 100, 101]]
theorem five_len : five.length = 5 := rfl
theorem walk {n : Nat} {x y : S} {ss : List (List Nat)} {H : Heap} (hp : Pre G0 H) (hn : n ≤ H.length) (hy : Vw H 1 encS y ss) (hlen : (5 + ss.length) * 16 ≤ 140737488355328) : ACalls Tryd.prog n 3 [.a [x, y]] H (fun r h => r = [.s (.b true)] ∧ ∃ g, h = H ++ g) := by
  refine acalls_walk mixed fn3 rfl ?_
  simp [ir3, b3, initFr]
  have hpx : Pre G0 (H ++ [(⟨[x, y], true, 0⟩ : Row)]) := hp.append _
  refine loop1_ok (x := x) (y := y) (H := H) hp hn ?_ ⟨by omega, ⟨[], by simp⟩, _, _, _, _, _, _, _, _, _, _, _, _, _, _, _, _, _, _, _, _, _, _, rfl⟩
  rintro fr h ⟨_, hh, j3, j4, j5, j6, j7, j8, j9, j10, j11, j12, j13, j14, j15, j16, j17, j18, j19, j20, j21, j22, j23, j24, rfl⟩
  simp [fillParts, splice]
  have e1 : Px.rowAt h H.length 0 = some ⟨[x, y], true, 0⟩ := by
    obtain ⟨g, rfl⟩ := hh
    simp
  have hl : H.length < h.length := rowAt_lt e1
  have hp1 : Pre G0 h := by obtain ⟨g, rfl⟩ := hh; exact hp.append _
  have hy1 : Vw h 1 encS y ss := by obtain ⟨g, rfl⟩ := hh; exact hy.append _
  have hnl : n ≤ h.length := by omega
  simp [hl, e1]
  have hfive : Vw (h ++ [(⟨[.s [], .s [65, 68, 68], .s [97, 100], .s [110, 111, 112, 32], .s [46, 99, 111, 100, 101]], true, 0⟩ : Row)]) 1 encS (.sl h.length 0 0 1 five.length five.length true) five :=
    Vw.of_row (row := ⟨[.s [], .s [65, 68, 68], .s [97, 100], .s [110, 111, 112, 32], .s [46, 99, 111, 100, 101]], true, 0⟩) (by simp) (fun x _ => rfl) rfl
  obtain ⟨u, g', e2, hu⟩ := appV_exact (bytes := 16) hfive (hy1.append _) (by rw [five_len]; exact hlen) (by omega)
  rw [five_len] at e2
  rw [e2]
  simp
  have hp2 : Pre G0 (h ++ (⟨[.s [], .s [65, 68, 68], .s [97, 100], .s [110, 111, 112, 32], .s [46, 99, 111, 100, 101]], true, 0⟩ : Row) :: g') := hp1.append _
  have hnl2 : n ≤ (h ++ (⟨[.s [], .s [65, 68, 68], .s [97, 100], .s [110, 111, 112, 32], .s [46, 99, 111, 100, 101]], true, 0⟩ : Row) :: g').length := by simp; omega
  have hh2 : ∃ g, (h ++ (⟨[.s [], .s [65, 68, 68], .s [97, 100], .s [110, 111, 112, 32], .s [46, 99, 111, 100, 101]], true, 0⟩ : Row) :: g') = H ++ g := by obtain ⟨g, rfl⟩ := hh; exact ⟨_, by simp; rfl⟩
  have hu2 : Vw (h ++ (⟨[.s [], .s [65, 68, 68], .s [97, 100], .s [110, 111, 112, 32], .s [46, 99, 111, 100, 101]], true, 0⟩ : Row) :: g') 1 encS u (five ++ ss) := by simpa using hu
  refine loop2_ok (H := H) (xs := five ++ ss) hnl2 hp2 hh2 hu2 ?_
  intro v26 v27 v28 v29 v30 v31 v32 h hp1 hh
  simp
  refine cCl_one (c25 hp1) ?_
  simp [resV]; exact hh
end Go.Proofs.YtmkaaplbidlmcaaDoor
