/- Own work over the kit: abstract memory, its rules, and the walk. -/
import Derived.Test.YtmkaaplbidlmcaaDoorW5
import Derived.Test.YtmkaaplbidlmcaaDoorRows
import Derived.Test.YtmkaaplbidlmcaaDoorPxArg
import Derived.ProofKit
import Derived.ChangeOld
import Derived.Below
import Derived.SizedLaws
import Derived.Lay
import Derived.Stop.LaidErr
import Derived.MakeChecks
import Derived.Carry
import Derived.Stop.Joined
import Derived.MakeChecks
import Derived.Carry
import Derived.Stop.Joined
set_option linter.all false
namespace Go.Proofs.YtmkaaplbidlmcaaDoor
open Go.ChangeShapes Go.WideShapes Go.ChangeAt Go.RowKit Go.Px
set_option linter.unusedVariables false

theorem own : ownKnob Tryd.prog.godebug = none := by kernel_rfl
theorem laidOut : laidOutB Tryd.prog = true := by kernel_rfl
abbrev laidList : List (String × DataW Unit) := Rows.isaTableRow.laid
theorem laid_tab : (Rows.laid_strings_asciiSpace : DataW Unit) = Lib.tabData .u8 Lib.asciiSpaceTab := by kernel_rfl

/-- What the condition gives: the table's cells. -/
theorem of_laid {W : World} (h : laidMetH Tryd.prog laidList W) : Lib.TabIs Tryd.prog W "strings.asciiSpace" .u8 Lib.asciiSpaceTab := by
  rw [MakeChecks.laidMetH_plain _ _ _ (by kernel_rfl)] at h
  have h1 := h.tail.tail.tail.tail
  rw [laid_tab] at h1
  exact Lib.tabIs_of_head (n := 256) (e := 5) gname (by kernel_rfl) Tryd.underlying60 Tryd.underlying5 (by kernel_rfl) (by kernel_rfl) h1

theorem door_met (os : Os) (args : Array Value) : laidMetH Tryd.prog laidList ((World.laidAll Tryd.prog os laidList).forCall (fun _ _ => 0) ⟨#[], args, []⟩).memory := by
  rw [MakeChecks.laidMetH_plain _ _ _ (by kernel_rfl)]
  exact laidMet_laidAll _ (by kernel_rfl) (by kernel_rfl)

/-- Row 0: the table. -/
theorem rel0 {W : World} (h : Lib.TabIs Tryd.prog W "strings.asciiSpace" .u8 Lib.asciiSpaceTab) : ∃ sz, Rel G0 (fun _ => ⟨0, 0, sz⟩) W := by
  unfold Lib.TabIs World.var? at h
  rw [gname] at h
  simp only [Option.bind_some] at h
  split at h
  · rename_i cs el fz e
    injection h with h
    subst h
    have get : ∀ (r : Nat) (row : Row), G0[r]? = some row → r = 0 ∧ row = asciiRow 0 := by
      intro r row hr
      cases r with
      | zero => simp [G0] at hr; exact ⟨rfl, hr.symm⟩
      | succ r => simp [G0] at hr
    refine ⟨Lib.asciiSpaceTab.length, ?_, ?_, ?_⟩
    · intro r row hr
      obtain ⟨rfl, rfl⟩ := get r row hr
      refine ⟨_, el, fz, e, by simp, by simp [asciiRow], ?_, fun k => by cases k⟩
      intro j x hj
      simp only [asciiRow, List.getElem?_map, Option.map_eq_some_iff] at hj
      obtain ⟨z, hz, rfl⟩ := hj
      exact ⟨.int .u8 z, by simp [hz], rfl⟩
    · intro r r' row row' h1 h2 hne
      exact absurd ((get r row h1).1.trans (get r' row' h2).1.symm) hne
    · intro r row hr _ _
      obtain ⟨rfl, rfl⟩ := get r row hr
      exact ⟨rfl, rfl, by simp [asciiRow]⟩
  · cases h

set_option maxRecDepth 100000 in
/-- The walk over what is handed in. -/
theorem walked {H : Type} {enc : TypeId × Value → H} {W : World} {base fuel : Nat} {v : Value} {d : DataW H} {p : List MemPlace} (hL : laidMetH Tryd.prog laidList W)
    (hv : Value.okWide Tryd.prog W .any base 25 v) (h0 : DataW.trod enc Tryd.prog W 0 (fun _ => true) true fuel 25 v.cells.toList = some (d, p))
    (hsz : (DataW.weightsEach Tryd.prog ([25] ++ []) ([d] ++ [])).all (· ≤ reachBytes) = true) :
    Calls Tryd.prog 3 #[v] W fun e w' => e = .returned (.bool true) ∧ Below W.heap.size W w' := by
  obtain ⟨sz, hR0⟩ := rel0 (of_laid hL)
  obtain ⟨cs, rfl, hcs⟩ := okWide_struct Tryd.underlying25 hv
  have c25 : Tryd.prog.cellsOf 25 = 2 := by kernel_rfl
  have c22 : Tryd.prog.cellsOf 22 = 1 := by kernel_rfl
  have c23 : Tryd.prog.cellsOf 23 = 1 := by kernel_rfl
  rw [c25] at hcs
  obtain ⟨l⟩ := cs
  match l, hcs with
  | [a, b], _ =>
  obtain ⟨y0, y1, n, hx, _, ht0, ht1⟩ := trod_struct2 Tryd.underlying25 h0
  simp only [c22, c23, Value.cells, List.drop_zero, List.take_succ_cons, List.take_zero, List.drop_succ_cons] at ht0 ht1
  have hx0 : ∃ x, SR (shp G0) (fun _ => ⟨0, 0, sz⟩) x a := by
    rcases Deep.open_slice Tryd.underlying22 ht0 with ⟨hv, _⟩ | ⟨ad, len, cap, m, n', D, Pl, hv, _, hl, hm, _, _, _⟩
    · simp at hv; subst hv; exact ⟨.nsl, rfl⟩
    · simp at hv; subst hv
      exact ⟨_, stale (s := (asciiRow 0).sh) (sz := 1) rfl (by decide) hl hm⟩
  obtain ⟨x, hx0⟩ := hx0
  have ro : ∀ (r : Nat) (row : Row), G0[r]? = some row → row.rw = false := by
    intro r row hr
    cases r with
    | zero => simp [G0] at hr; rw [← hr]; rfl
    | succ r => simp [G0] at hr
  obtain ⟨y, ss, g, β', hR, hev, hy, hvw, hlen⟩ := open_strs hR0 (show G0[0]? = some (asciiRow 0) from rfl) ro Tryd.underlying23 Tryd.underlying9 (by kernel_rfl) ht1
  have hb : (5 + ss.length) * 16 ≤ 140737488355328 := by
    rcases hlen with ⟨_, rfl⟩ | ⟨elems, spare, e1, e2⟩
    · decide
    · injection hx with hd hp
      subst hd
      have h1 : ((elems.length + spare.length) * Tryd.prog.bytesOf 9) ∈ DataW.weightsEach Tryd.prog ([25] ++ []) ([DataW.agg [y0.1, y1.1]] ++ []) := by
        rw [e1]
        simp [DataW.weightsEach, DataW.weights, Tryd.underlying25, Tryd.underlying22, Tryd.underlying23]
      have h2 := List.all_eq_true.1 hsz _ h1
      have b9 : Tryd.prog.bytesOf 9 = 16 := by kernel_rfl
      rw [b9] at h2
      have h3 : (elems.length + spare.length) * 16 ≤ 140737488351232 := of_decide_eq_true h2
      omega
  have W1 := walk (n := (G0 ++ g).length) (x := x) (y := y) (ss := ss) (H := G0 ++ g) ((Pre.refl G0).append g) (Nat.le_refl _) hvw hb
  refine (W1.2 W β' #[.agg ⟨[a, b]⟩] hR ⟨rfl, ?_⟩).mono ?_
  · intro j z hj
    cases j with
    | zero =>
      simp at hj; subst hj
      refine ⟨_, rfl, _, rfl, rfl, ?_⟩
      intro j z hj
      match j, hj with
      | 0, hj => simp at hj; subst hj; exact ⟨a, by simp, hx0.evo hev⟩
      | 1, hj => simp at hj; subst hj; exact ⟨b, by simp, hy⟩
    | succ j => simp at hj
  · rintro e w' ⟨rets, h', β2, u, rfl, ⟨rfl, _⟩, hu, _, hst⟩
    obtain rfl : u = .bool true := hu
    exact ⟨rfl, hst.below (Nat.le_refl _)⟩

set_option maxRecDepth 100000 in
theorem lifted (os : Os) (started : os.Started) (H : Type) (enc : TypeId × Value → H) :
    ReturnsInHanded {} Tryd.checked os 3 .any (fun w args => (Rows.isaTableSpec.pre enc Tryd.prog Tryd.f3 [] false w args ∧ laidMetH Tryd.prog laidList w) ∧ sizedMet enc Tryd.prog Tryd.f3 (OpenSpec.ofChange Rows.isaTableSpec) false w args)
      (Rows.isaTableSpec.post enc Tryd.prog Tryd.f3 false true false false) := by
  refine returnsInHanded_of_change_and (C := Tryd.checked) (X := fun w _ => laidMetH Tryd.prog laidList w) (fun _ _ _ hh h => h.of_heap hh) own started (by kernel_rfl) Tryd.func3
    (ChangeSpec.witness_shaped (enc := enc) (C := Tryd.checked) (os := os) (X := fun w _ => laidMetH Tryd.prog laidList w) false (World.laidAll Tryd.prog os laidList) #[.agg #[.slice none 0 0, .slice none 0 0]] 8 (World.laidAll_os _ _ _)
      (World.shaped_of_ZipB (by kernel_rfl) (by kernel_rfl)) (by kernel_rfl) (by kernel_rfl) (by kernel_rfl) (door_met os _)) ?_
  intro W base args ds gs before hval0 hW _ hz hL _
  have hval : ∀ (j : Nat) t v, Tryd.f3.params[j]? = some t → args[j]? = some v → Value.okWide Tryd.prog W .any base t v := hval0
  have hW' := hW
  obtain ⟨p, q, hA0, hV, rfl, hfz, hnd⟩ := hW
  have hA : DataW.TrodAll enc Tryd.prog W 0 (fun _ => true) true Tryd.f3.params.toList args.toList ds p := hA0
  have hz' : (DataW.weightsEach Tryd.prog (Tryd.f3.params.toList ++ []) (ds ++ gs)).all (· ≤ reachBytes) = true := hz
  rw [Tryd.params3] at hA hval hz'
  obtain ⟨v0, d0, rfl, rfl, h0⟩ := trodAll_one hA
  obtain ⟨rfl, rfl⟩ := trodVars_none hV
  clear hA0 hval0 hz
  simp only [List.append_nil] at hW'
  have k0 := h0
  have lt0 : ∀ x ∈ p, x.block < W.heap.size := by obtain ⟨m, hm⟩ := k0; exact DataW.trod_lt m _ _ _ hm
  obtain ⟨fuel, hf⟩ := h0
  refine (walked hL (hval 0 25 v0 rfl rfl) hf hz').mono fun e W' ⟨he, bel⟩ => ?_
  subst he
  exact ⟨_, rfl, _, _, _, [], _, [], hW', trodAll_mk1 (shut_bool Tryd.underlying4 _), trodAll_mk1 (Below.trod laidOut (by kernel_rfl) (of_decide_eq_true (by kernel_rfl)) k0 bel lt0), rfl, bel.frame _, fun h => by cases h⟩

theorem isaTable_holds : Rows.IsaTableSaid :=
  OpenClaim.holds_of_wide 3 Tryd.f3 rfl rfl rfl rfl rfl rfl rfl ⟨rfl, rfl, rfl, rfl, rfl⟩ rfl rfl rfl rfl rfl (by kernel_rfl) Tryd.func3 (by kernel_rfl)
    (of_decide_eq_true (by kernel_rfl)) (by unfold Func.isWrapper; first | (rw [if_pos (by decide +kernel)]; kernel_rfl) | (rw [if_neg (by decide +kernel)]; exact ⟨rfl, rfl⟩))
    (fun os started H enc _ => lifted os started H enc)
#print axioms isaTable_holds
end Go.Proofs.YtmkaaplbidlmcaaDoor
