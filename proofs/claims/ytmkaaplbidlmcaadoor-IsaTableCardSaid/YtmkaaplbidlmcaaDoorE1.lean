/- Own work over the kit: abstract memory, its rules, and the walk. -/
import Derived.Test.YtmkaaplbidlmcaaDoorIr
import Derived.Test.YtmkaaplbidlmcaaDoorPxLib
import Derived.Test.YtmkaaplbidlmcaaDoorShelf
set_option linter.unusedVariables false
set_option maxRecDepth 100000
namespace Go.Proofs.YtmkaaplbidlmcaaDoor
open Go Go.Px
def namesL : List (List Nat) := [[110, 111, 112], [97, 100, 100], [115, 117, 98], [97, 110, 100], [111, 114], [120, 111, 114], [115, 104, 108], [115, 104, 114], [115, 97, 114], [115, 108, 116], [115, 108, 116, 117], [101, 113], [109, 105, 110], [109, 97, 120], [109, 117, 108], [109, 117, 108, 104], [100, 105, 118], [114, 101, 109], [99, 97, 100, 100], [99, 115, 117, 98], [99, 109, 117, 108], [99, 111, 110, 106], [97, 100, 100, 105], [108, 105], [108, 100], [115, 116], [105, 110], [111, 117, 116], [106, 109, 112], [98, 122], [98, 110, 122], [99, 97, 108, 108], [114, 101, 116], [104, 97, 108, 116]]
def G0 : Heap := [asciiRow 0]
def O1 : Orc := orc2 (fieldsO 37) (itoaO 41)
theorem call37 : Callable Tryd.prog 37 := ⟨Tryd.f37, Tryd.func37, by kernel_rfl, by kernel_rfl⟩
theorem call41 : Callable Tryd.prog 41 := ⟨Tryd.f41, Tryd.func41, by kernel_rfl, by kernel_rfl⟩
theorem gname : Tryd.prog.globalNamed "strings.asciiSpace" = some 0 := by kernel_rfl
theorem mixed : Tryd.prog.follows .mixedOrders = true := by kernel_rfl
theorem O1_ok : OrcOk Tryd.prog G0 O1 :=
  orc2_ok (fieldsO_ok call37 (fun s w h1 h2 h3 => Tryd.strings_Fields s w h1 h2 h3) gname (r := 0) rfl) (itoaO_ok call41 (fun i hi w => Tryd.strconv_Itoa_small i hi w))
theorem e27 : EntryOk Tryd.prog G0 (27, [], [.s (.sl 1 0 0 1 34 34 true)], [⟨namesL.map S.s, true, 0⟩]) := entry_of_run mixed (fuel := 100) (d := 10) T_ok O1_ok (by kernel_rfl)
theorem e9 : EntryOk Tryd.prog G0 (9, [], [.s (.sl 1 0 0 1 34 34 true)], [⟨namesL.map S.s, true, 0⟩]) := entry_of_run mixed (fuel := 100) (d := 10) T_ok O1_ok (by kernel_rfl)
def O2 : Orc := orc2 (memo 1 [(27, [], [.s (.sl 1 0 0 1 34 34 true)], [⟨namesL.map S.s, true, 0⟩]), (9, [], [.s (.sl 1 0 0 1 34 34 true)], [⟨namesL.map S.s, true, 0⟩])]) O1
theorem O2_ok : OrcOk Tryd.prog G0 O2 := orc2_ok (memo_ok (G := G0) (by
  intro x hx
  simp only [List.mem_cons, List.not_mem_nil, or_false] at hx
  rcases hx with rfl | rfl
  · exact e27
  · exact e9)) O1_ok
end Go.Proofs.YtmkaaplbidlmcaaDoor
