/- Own work over the kit: abstract memory, its rules, and the walk. -/
import Derived.Test.YtmkaaplbidlmcaaDoorW3
set_option linter.all false
set_option linter.unusedVariables false
set_option linter.unusedSimpArgs false
set_option maxRecDepth 100000
namespace Go.Proofs.YtmkaaplbidlmcaaDoor
open Go Go.Px
def L1 : IC := match b3 with | .seq _ (.seq (.seq _ (.blk _ (.loop l))) _) => l | _ => .skip
def I1 (x y : S) (H : Heap) (k : Nat) (fr : List V) (h : Heap) : Prop := k ≤ 38 ∧ (∃ g, h = H ++ (⟨[x, y], true, 0⟩ : Row) :: g) ∧
  ∃ j3 j4 j5 j6 j7 j8 j9 j10 j11 j12 j13 j14 j15 j16 j17 j18 j19 j20 j21 j22 j23 j24 : V,
    fr = [.a [x, y], .s (.b false), .s (.i .i64 (opK k)), j3, j4, j5, j6, j7, j8, j9, j10, j11, j12, j13, j14, j15, j16, j17, j18, j19, j20, j21, j22, j23, j24, .s (.p H.length 0 0), .u, .u, .u, .u, .u, .u, .u]
theorem opK_le {k : Nat} : opK k ≤ 35 ↔ k < 38 := by unfold opK; omega
theorem valK_iff {k : Nat} : valK k = true ↔ 2 ≤ k ∧ k < 36 := by simp [valK, Nat.blt]; omega
theorem ldNames {H : Heap} {l : Heap} {op : Int} (h0 : 0 ≤ op) (h1 : op < 34) : ldV (H ++ (⟨namesL.map S.s, true, 0⟩ : Row) :: l) none (.s (.p H.length 0 (0 + op.toNat * 1))) = some (.s (.s (namesL.getD op.toNat []))) := by
  have hl : namesL.length = 34 := rfl
  have : op.toNat < namesL.length := by omega
  simp [ldV, List.getElem?_eq_getElem this]
/-- What holds behind the 'if'. -/
def I2 (x y : S) (H : Heap) (k : Nat) (fr : List V) (h : Heap) : Prop := (∃ g, h = H ++ (⟨[x, y], true, 0⟩ : Row) :: g) ∧
  ∃ (j3 j4 j6 j7 j8 j21 j22 j23 j24 : V) (nm : List Nat) (e f l : Int) (v u : S) (sl : List Int), Vw h 1 (encI .i64) v sl ∧ Vw h 1 (encI .i64) u sl ∧
    fr = [.a [x, y], .s (.b false), .s (.i .i64 (opK k)), j3, j4, .s (.s nm), j6, j7, j8, .s (.i .i64 e), .s (.i .i64 e), .s (.s nm), .s (.i .i64 e), .s (.i .i64 f), .s (.i .i64 f), .s (.i .i64 e), .s (.i .i64 l), .s (.i .i64 l), .s (.i .i64 e), .s v, .s u, j21, j22, j23, j24, .s (.p H.length 0 0), .u, .u, .u, .u, .u, .u, .u]
theorem grow {H : Heap} {row : Row} {h : Heap} (hh : ∃ g, h = H ++ row :: g) (l : Heap) : ∃ g, h ++ l = H ++ row :: g := by
  obtain ⟨g, rfl⟩ := hh; exact ⟨g ++ l, by simp⟩
theorem loop1_ok {n : Nat} {x y : S} {H : Heap} {Q : Ex → List V → Heap → Prop} (hp : Pre G0 H) (hn : n ≤ H.length) (hQ : ∀ fr h, I1 x y H 38 fr h → Q (.x 0) fr h) {fr : List V} {h : Heap} (h0 : I1 x y H 0 fr h) : iwp Tryd.prog n (.loop L1) Q fr h := by
  refine iwp_loopR (I1 x y H) (fun k => 38 - k) 0 h0 ?_
  rintro k fr h ⟨hk, hh, j3, j4, j5, j6, j7, j8, j9, j10, j11, j12, j13, j14, j15, j16, j17, j18, j19, j20, j21, j22, j23, j24, rfl⟩
  simp only [L1, b3]
  simp
  refine Br_intro (fun hc => ?_) (fun hc => ?_)
  · have hk' : k < 38 := opK_le.1 hc
    have hp1 : Pre G0 h := by obtain ⟨g, rfl⟩ := hh; exact hp.append _
    simp
    refine cCl_more (c4 hp1 hk') (by simp) ?_
    simp
    refine cCl_more (c5 hp1 hk') (by simp) ?_
    simp
    refine cCl_more (c6 hp1 hk') (by simp) ?_
    simp
    refine cCl_ex (c7 hp1 hk') ?_
    rintro rets h2 ⟨v7, g7, rfl, e2, hv7⟩
    have hp2 : Pre G0 h2 := by rw [e2]; exact hp1.append _
    have hh2 : ∃ g, h2 = H ++ (⟨[x, y], true, 0⟩ : Row) :: g := by rw [e2]; exact grow hh _
    have hl2 : n ≤ h2.length := by obtain ⟨g, rfl⟩ := hh2; simp; omega
    clear e2 hh hp1 h0
    refine .inr ⟨by simp, ?_⟩
    simp
    refine cCl_one (c8 hp2 hk') ?_
    refine iwp_cutP (I2 x y H k) ?_ ?_
    · simp
      refine Br_intro (fun hv => ?_) (fun hv => ?_)
      · have hv' := valK_iff.1 hv
        have hop0 : 0 ≤ opK k := by unfold opK; omega
        have hop1 : opK k < 34 := by unfold opK; omega
        have hopn : (opK k).toNat = k - 2 := by unfold opK; omega
        have hlen : k - 2 < namesL.length := by have : namesL.length = 34 := rfl; omega
        have hnm : nmK k = namesL[k - 2] := by simp [nmK, hv, List.getElem?_eq_getElem hlen]
        simp [hl2]
        refine dCl_one (fun n => c9 hp2) ?_
        simp [hop0, hop1, hopn, List.getElem?_eq_getElem hlen, ← hnm]
        have hp3 : Pre G0 (h2 ++ [(⟨namesL.map S.s, true, 0⟩ : Row)]) := hp2.append _
        refine dCl_same (fun n => c10 hp3 hk' hv) ?_
        simp
        refine dCl_same (fun n => c11 hp3 hk' hv) ?_
        simp
        refine dCl_one (fun n => c12 hp3 hk' hv) ?_
        simp
        have hp4 : Pre G0 (h2 ++ [(⟨namesL.map S.s, true, 0⟩ : Row), slotRow2 k]) := hp2.append _
        refine cCl_more (c13 hp4 hk' hv) (by simp) ?_
        simp
        refine cCl_one (c14 _) ?_
        simp [hv, errK] at hv7 ⊢
        have hu : Vw (h2 ++ [(⟨namesL.map S.s, true, 0⟩ : Row), slotRow2 k]) 1 (encI .i64) (.sl (h2.length + 1) 0 0 1 (nSl k) (nSl k) true) (slotsL (opK k)) := by
          refine .inr ⟨h2.length + 1, 0, 0, nSl k, true, slotRow2 k, rfl, by simp [Px.rowAt, List.getElem?_append_right, slotRow2], fun i x hx => ⟨rfl, fun j y hy => ?_⟩⟩
          match j with
          | 0 => simp [encI] at hy; subst hy; simp [slotRow2, hx]
          | j + 1 => simp [encI] at hy
        exact ⟨grow hh2 _, _, _, _, _, _, _, _, _, _, _, _, _, _, _, _, slotsL (opK k), hv7.append _, hu, rfl⟩
      · simp at hv
        simp [hv, errK, nmK] at hv7 ⊢
        exact ⟨hh2, _, _, _, _, _, _, _, _, _, _, _, _, _, _, _, _, hv7, Vw.nil, rfl⟩
    · clear hv7 hh2 hp2 hl2
      rintro fr h ⟨hh, j3, j4, j6, j7, j8, j21, j22, j23, j24, nm, e, f, l, v, u, sl, hv, hu, rfl⟩
      have hl : n ≤ h.length := by obtain ⟨g, rfl⟩ := hh; simp; omega
      have hp1 : Pre G0 h := by obtain ⟨g, rfl⟩ := hh; exact hp.append _
      simp
      refine cCl_one (c14 _) ?_
      simp
      refine cCl_one (c14 _) ?_
      simp
      refine cCl_one (c14 _) ?_
      simp
      refine cCl_one (c14 _) ?_
      simp
      refine cCl_one (c15 hl hv hu) ?_
      simp
      refine cCl_one (c16 hp1 hk') ?_
      simp
      refine cCl_one (c17 hp1 hk') ?_
      simp
      refine cCl_one (c18 hp1 hk') ?_
      simp
      refine cCl_one (c19 hp1 hk') ?_
      simp
      refine iwp_loop (α := Nat × V × V) (fun a => [V.a [x, y], V.s (S.b false), V.s (S.i IntKind.i64 (opK k)), j3, j4, V.s (S.s nm), j6, j7, j8,
        V.s (S.i IntKind.i64 e), V.s (S.i IntKind.i64 e), V.s (S.s nm), V.s (S.i IntKind.i64 e), V.s (S.i IntKind.i64 f),
        V.s (S.i IntKind.i64 f), V.s (S.i IntKind.i64 e), V.s (S.i IntKind.i64 l), V.s (S.i IntKind.i64 l),
        V.s (S.i IntKind.i64 e), V.s v, V.s u, V.s (S.b false), V.s (S.i IntKind.i64 ((a.1 : Int) - 1)), a.2.1, a.2.2,
        V.s (S.p (List.length H) 0 0), V.u, V.u, V.u, V.u, V.u, V.u, V.u]) (fun _ => h) (fun a => a.1 ≤ 7) (fun a => 7 - a.1) (0, _, _) rfl rfl (by simp) ?_
      rintro ⟨i, j1, j2⟩ hi
      simp only at hi
      simp
      refine Br_intro (fun hc => ?_) (fun hc => ?_)
      · simp
        refine cCl_one (c_isa_May _ _) ?_
        simp
        refine cCl_one (c21 hp1 hk' (by omega)) ?_
        simp
        have hw : IntKind.i64.wrap (i : Int) = (i : Int) := wrap_i64 (by omega) (by omega)
        simp [hw]
        exact kLoop_next (i + 1, .s (.b (decide ((i : Int) - 1 ≤ 5))), .s (.b false)) (by simp only; omega) (by simp only; omega) (by simp) rfl
      · have hw : IntKind.i64.wrap (opK k + 1) = opK (k + 1) := by unfold opK; rw [wrap_i64 (by omega) (by omega)]; omega
        simp [hw]
        exact kLoopI_next (k + 1) (by omega) ⟨by omega, hh, _, _, _, _, _, _, _, _, _, _, _, _, _, _, _, _, _, _, _, _, _, _, rfl⟩
  · obtain rfl : k = 38 := by
      have : ¬ k < 38 := fun h => hc (opK_le.2 h)
      omega
    exact hQ _ _ ⟨Nat.le_refl _, hh, _, _, _, _, _, _, _, _, _, _, _, _, _, _, _, _, _, _, _, _, _, _, rfl⟩
end Go.Proofs.YtmkaaplbidlmcaaDoor
