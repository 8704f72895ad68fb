/- Own work over the kit: abstract memory, its rules, and the walk. -/
import Derived.Test.YtmkaaplbidlmcaaDoorE2
import Derived.Test.YtmkaaplbidlmcaaDoorPxLib2
set_option linter.all false
set_option linter.unusedVariables false
set_option linter.unusedSimpArgs false
set_option maxRecDepth 100000
namespace Go.Proofs.YtmkaaplbidlmcaaDoor
open Go Go.Px
theorem sh_b {m k : Nat} {x : Bool} : V.shift m k (.s (.b x)) = .s (.b x) := rfl
theorem tc {f : Nat} {args rets : List V} {g : Heap} (hr : rn f args rets g = true) {H : Heap} (hp : Pre G0 H) (n : Nat) :
    ACalls Tryd.prog n f args H (fun r h => r = rets.map (V.shift 1 (H.length - 1)) ∧ h = H ++ g.map (Row.shift 1 (H.length - 1))) :=
  (entry_of_run mixed T_ok O2_ok hr H hp).top n
/-- A call of one scalar. -/
theorem tc1 {f : Nat} {args : List V} {x : V} (hr : rn f args [x] [] = true) (hx : ∀ m k, V.shift m k x = x) {H : Heap} (hp : Pre G0 H) (n : Nat) : ACalls Tryd.prog n f args H (fun r h => r = [x] ∧ h = H) :=
  (tc hr hp n).mono fun r h ⟨e1, e2⟩ => ⟨by rw [e1]; simp [hx], by rw [e2]; simp⟩
theorem tc2 {f : Nat} {args : List V} {x y : V} (hr : rn f args [x, y] [] = true) (hx : ∀ m k, V.shift m k x = x) (hy : ∀ m k, V.shift m k y = y) {H : Heap} (hp : Pre G0 H) (n : Nat) : ACalls Tryd.prog n f args H (fun r h => r = [x, y] ∧ h = H) :=
  (tc hr hp n).mono fun r h ⟨e1, e2⟩ => ⟨by rw [e1]; simp [hx, hy], by rw [e2]; simp⟩
theorem at38 {f : Nat → Bool} (h : all38 f = true) {k : Nat} (hk : k < 38) : f k = true := (List.all_eq_true.1 h) k (by simpa using hk)
theorem at34 {f : Nat → Bool} (h : all34 f = true) {k : Nat} (hk : k < 38) (hv : valK k = true) : f k = true := by
  have := (List.all_eq_true.1 h) k (by simpa using hk)
  simpa [hv] using this

section
variable {n k : Nat} {H : Heap} (hp : Pre G0 H) (hk : k < 38)
include hp hk
theorem c4 : ACalls Tryd.prog n 4 [.s (.i .i64 (opK k))] H (fun r h => r = [.s (.s (nmK k)), .s (.i .i64 (errK k))] ∧ h = H) := tc2 (at38 r4 hk) (fun _ _ => rfl) (fun _ _ => rfl) hp n
theorem c5 : ACalls Tryd.prog n 5 [.s (.i .i64 (opK k))] H (fun r h => r = [.s (.i .i64 (if valK k then shapeI (opK k) else 0)), .s (.i .i64 (errK k))] ∧ h = H) := tc2 (at38 r5 hk) (fun _ _ => rfl) (fun _ _ => rfl) hp n
theorem c6 : ACalls Tryd.prog n 6 [.s (.i .i64 (opK k))] H (fun r h => r = [.s (.i .i64 (if valK k then lateI (opK k) else 0)), .s (.i .i64 (errK k))] ∧ h = H) := tc2 (at38 r6 hk) (fun _ _ => rfl) (fun _ _ => rfl) hp n
theorem c7 : ACalls Tryd.prog n 7 [.s (.i .i64 (opK k))] H (fun r h => ∃ v g, r = [.s v, .s (.i .i64 (errK k))] ∧ h = H ++ g ∧ Vw h 1 (encI .i64) v (if valK k then slotsL (opK k) else [])) := by
  refine (tc (at38 r7 hk) hp n).mono fun r h ⟨e1, e2⟩ => ?_
  cases hv : valK k
  · simp only [hv] at e1 e2
    exact ⟨.nsl, [], e1, by simpa using e2, .inl ⟨rfl, rfl⟩⟩
  · simp only [hv] at e1 e2
    have hl := hp.len
    have hl1 : G0.length = 1 := rfl
    refine ⟨.sl H.length 0 0 1 (nSl k) 4 true, [(slotRow k).shift 1 (H.length - 1)], ?_, by simpa using e2, .inr ⟨H.length, 0, 0, 4, true, (slotRow k).shift 1 (H.length - 1), rfl, ?_, ?_⟩⟩
    · rw [e1]
      have : 1 + (H.length - 1) = H.length := by omega
      simp [V.shift, S.shift, shr, this, i64v]
    · rw [e2]; simp [slotRow, Row.shift]
    · intro i x hx
      simp only [if_true] at hx
      have hi := (List.getElem?_eq_some_iff.1 hx).1
      refine ⟨rfl, fun j y hy => ?_⟩
      match j with
      | 0 =>
        simp only [encI, List.getElem?_cons_zero, Option.some.injEq] at hy
        subst hy
        simp only [slotRow, Row.shift, List.map_append, Nat.zero_add, Nat.mul_one, Nat.add_zero]
        rw [List.getElem?_append_left (by simpa using hi)]
        simp [hx, S.shift]
      | j + 1 => simp [encI] at hy
theorem c8 : ACalls Tryd.prog n 8 [.s (.i .i64 (opK k))] H (fun r h => r = [.s (.b (valK k))] ∧ h = H) := tc1 (at38 r8 hk) (fun _ _ => rfl) hp n
theorem c16 : ACalls Tryd.prog n 16 [.s (.i .i64 (opK k))] H (fun r h => r = [.s (.b (endsB (opK k)))] ∧ h = H) := tc1 (at38 r16 hk) (fun _ _ => rfl) hp n
theorem c17 : ACalls Tryd.prog n 17 [.s (.i .i64 (opK k))] H (fun r h => r = [.s (.b (endsB (opK k)))] ∧ h = H) := tc1 (at38 r17 hk) (fun _ _ => rfl) hp n
theorem c18 : ACalls Tryd.prog n 18 [.s (.i .i64 (opK k))] H (fun r h => r = [.s (.b (effectB (opK k)))] ∧ h = H) := tc1 (at38 r18 hk) (fun _ _ => rfl) hp n
theorem c19 : ACalls Tryd.prog n 19 [.s (.i .i64 (opK k))] H (fun r h => r = [.s (.b (effectB (opK k)))] ∧ h = H) := tc1 (at38 r19 hk) (fun _ _ => rfl) hp n
theorem c21 {j : Nat} (hj : j < 7) : ACalls Tryd.prog n 21 [.s (.i .i64 (opK k)), .s (.i .i64 ((j : Int) - 1))] H (fun r h => r = [.s (.b (mayB (opK k) ((j : Int) - 1)))] ∧ h = H) :=
  tc1 ((List.all_eq_true.1 (at38 r21 hk)) j (by simpa using hj)) (fun _ _ => rfl) hp n
variable (hv : valK k = true)
include hv
theorem c10 : ACalls Tryd.prog n 10 [.s (.i .i64 (opK k))] H (fun r h => r = [.s (.i .i64 (shapeI (opK k)))] ∧ h = H) := tc1 (at34 r10 hk hv) (fun _ _ => rfl) hp n
theorem c11 : ACalls Tryd.prog n 11 [.s (.i .i64 (opK k))] H (fun r h => r = [.s (.i .i64 (lateI (opK k)))] ∧ h = H) := tc1 (at34 r11 hk hv) (fun _ _ => rfl) hp n
theorem c12 : ACalls Tryd.prog n 12 [.s (.i .i64 (opK k))] H (fun r h => r = [.s (.sl H.length 0 0 1 (nSl k) (nSl k) true)] ∧ h = H ++ [slotRow2 k]) := by
  refine (tc (at34 r12 hk hv) hp n).mono fun r h ⟨e1, e2⟩ => ?_
  have hl := hp.len
  have hl1 : G0.length = 1 := rfl
  have : 1 + (H.length - 1) = H.length := by omega
  refine ⟨by rw [e1]; simp [V.shift, S.shift, shr, this], by rw [e2]; simp [slotRow2, Row.shift, S.shift, Function.comp_def]⟩
theorem c13 : ACalls Tryd.prog n 13 [.s (.s (nmK k))] H (fun r h => r = [.s (.i .i64 (opK k)), .s (.i .i64 0)] ∧ h = H) := tc2 (at34 r13 hk hv) (fun _ _ => rfl) (fun _ _ => rfl) hp n
end
theorem c9 {n : Nat} {H : Heap} (hp : Pre G0 H) : ACalls Tryd.prog n 9 [] H (fun r h => r = [.s (.sl H.length 0 0 1 34 34 true)] ∧ h = H ++ [⟨namesL.map S.s, true, 0⟩]) := by
  refine ((e9 H hp).top n).mono fun r h ⟨e1, e2⟩ => ?_
  have hl := hp.len
  have hl1 : G0.length = 1 := rfl
  have : 1 + (H.length - 1) = H.length := by omega
  refine ⟨by rw [e1]; simp [V.shift, S.shift, shr, hl1, this], by rw [e2]; simp [Row.shift, S.shift, Function.comp_def]⟩
theorem c27 {n : Nat} {H : Heap} (hp : Pre G0 H) : ACalls Tryd.prog n 27 [] H (fun r h => r = [.s (.sl H.length 0 0 1 34 34 true)] ∧ h = H ++ [⟨namesL.map S.s, true, 0⟩]) := by
  refine ((e27 H hp).top n).mono fun r h ⟨e1, e2⟩ => ?_
  have hl := hp.len
  have hl1 : G0.length = 1 := rfl
  have : 1 + (H.length - 1) = H.length := by omega
  refine ⟨by rw [e1]; simp [V.shift, S.shift, shr, hl1, this], by rw [e2]; simp [Row.shift, S.shift, Function.comp_def]⟩
theorem c14 {n : Nat} {h : Heap} (e : Int) : ACalls Tryd.prog n 14 [.s (.i .i64 e)] h (fun r h' => r = [.s (.i .i64 e)] ∧ h' = h) := by
  refine acalls_walk mixed fn14 rfl ?_
  simp [ir14, b14, initFr, resV]
theorem c15 {n : Nat} {h : Heap} {v u : S} {xs ys : List Int} (hn : n ≤ h.length) (hv : Vw h 1 (encI .i64) v xs) (hu : Vw h 1 (encI .i64) u ys) : ACalls Tryd.prog n 15 [.s v, .s u] h (fun r h' => r = [.s (.b (decide (xs = ys)))] ∧ h' = h) := by
  refine ACalls.len fn15.call hv (j := 0) rfl fun hl => ?_
  refine acalls_walk mixed fn15 rfl ?_
  simp [ir15, b15, initFr, hv.len, hu.len]
  refine Br_intro (fun hc => ?_) (fun hc => ?_)
  · have hlen : xs.length = ys.length := by omega
    simp
    refine iwp_loop (α := Nat × V × V) (fun a => [.s v, .s u, .s (.b false), .s (.b false), .s (.i .i64 (a.1 : Int)), a.2.1, a.2.2]) (fun _ => h) (fun a => a.1 ≤ xs.length ∧ xs.take a.1 = ys.take a.1) (fun a => xs.length - a.1) (0, .u, .u) (by simp [hlen]) rfl (by simp) ?_
    rintro ⟨i, j1, j2⟩ ⟨hi, ha⟩
    simp only at hi ha
    simp [hv.len]
    refine Br_intro (fun hc => ?_) (fun hc => ?_)
    · have hcy : i < ys.length := by omega
      simp [hv.iad, hv.ld, hu.iad, hu.ld, hc, hcy, encI, hn]
      refine Br_intro (fun hd => ?_) (fun hd => ?_)
      · have hw : IntKind.i64.wrap ((i : Int) + 1) = ((i + 1 : Nat) : Int) := by rw [wrap_i64 (by omega) (by omega)]; rfl
        simp [hw]
        exact kLoop_next (i + 1, _, _) ⟨by simp only; omega, by simp only; rw [List.take_add_one, List.take_add_one, ha, List.getElem?_eq_getElem hc, List.getElem?_eq_getElem hcy, hd]⟩ (by simp only; omega) rfl rfl
      · have : ¬ xs = ys := fun e => hd (by simp [e])
        simp [resV, this]
    · have h1 : i = xs.length := by omega
      have : xs = ys := by rw [h1, List.take_length] at ha; rw [ha, hlen, List.take_length]
      simp [resV, this]
  · simp [resV]
    have : ¬ xs = ys := fun e => hc (by rw [e])
    simp [this]
end Go.Proofs.YtmkaaplbidlmcaaDoor
