/- Library functions of the seat, each by the shelf's contract in the engine's words. -/
import Derived.Test.YtanbffihggdcaaaDoorEng17
import Derived.Test.YtanbffihggdcaaaDoorShelf
import Derived.Test.YtanbffihggdcaaaDoorProg
set_option linter.unusedVariables false
set_option maxRecDepth 100000
namespace Go.Wd
open Go.Proofs Go.Eng
theorem mixed : Tryd.prog.follows .mixedOrders = true := by kernel_rfl
theorem eq37 : EqOk Tryd.prog 37 [.int .i64, .bool, .int .i64] := eq_mk (by kernel_rfl) (by kernel_rfl) (by kernel_rfl) (by kernel_rfl)

abbrev A_strings_Split : List Ty := [.c .str, .c .str]
abbrev R_strings_Split : List Ty := [.c .slice]
noncomputable def strings_Split (N : Nat) (x : ByteArray × ByteArray) : M Sl := splitM 9 x
theorem row_strings_Split (N : Nat) : RowOk Tryd.prog ⟨41, A_strings_Split, R_strings_Split, strings_Split N⟩ :=
  rowOk_of (split_sp fun s sep m w h1 h2 h3 => Tryd.strings_Split s sep m w h1 h2 h3) Tryd.func41 (by kernel_rfl) (by kernel_rfl)
abbrev A_strings_Join : List Ty := [.c .slice, .c .str]
abbrev R_strings_Join : List Ty := [.c .str]
noncomputable def strings_Join (N : Nat) (x : Sl × ByteArray) : M ByteArray := joinM x
theorem row_strings_Join (N : Nat) : RowOk Tryd.prog ⟨51, A_strings_Join, R_strings_Join, strings_Join N⟩ :=
  rowOk_of (join_sp Tryd.strings_Join_none Tryd.strings_Join) Tryd.func51 (by kernel_rfl) (by kernel_rfl)
abbrev A_slices_Sorted_int : List Ty := [.cl 39]
abbrev R_slices_Sorted_int : List Ty := [.c .slice]
noncomputable def slices_Sorted_int (N : Nat) (x : Ts A_slices_Sorted_int) : M (Ts R_slices_Sorted_int) := sortedM 3 x
theorem row_slices_Sorted_int (N : Nat) : RowOk Tryd.prog ⟨25, A_slices_Sorted_int, R_slices_Sorted_int, slices_Sorted_int N⟩ :=
  rowOk_of (sorted_sp (K := 3) (by kernel_rfl) fun Bm m nn D0 w h1 h2 h3 h4 h5 => Tryd.sorted_contract Bm m nn D0 w h1 h2 h3 h4 h5) Tryd.func25 (by kernel_rfl) (by kernel_rfl)
end Go.Wd
