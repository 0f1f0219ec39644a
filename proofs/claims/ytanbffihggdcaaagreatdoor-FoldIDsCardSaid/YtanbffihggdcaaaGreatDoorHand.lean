/- Library functions of the seat, each by the shelf's contract in the engine's words. -/
import Derived.Test.YtanbffihggdcaaaGreatDoorEng18
import Derived.Test.YtanbffihggdcaaaGreatDoorShelf
import Derived.Test.YtanbffihggdcaaaGreatDoorProg
set_option linter.unusedVariables false
set_option maxRecDepth 100000
namespace Go.Wz
open Go.Proofs Go.Eng
theorem mixed : Tryz.prog.follows .mixedOrders = true := by kernel_rfl

abbrev A_strings_Split : List Ty := [.c .str, .c .str]
abbrev R_strings_Split : List Ty := [.c .slice]
noncomputable def strings_Split (N : Nat) (x : ByteArray × ByteArray) : M Sl := splitM 1 9 x
theorem row_strings_Split (N : Nat) : RowOk Tryz.prog ⟨163, A_strings_Split, R_strings_Split, strings_Split N⟩ :=
  rowOk_of (split_sp fun s sep m w h1 h2 h3 => Tryz.strings_Split s sep m w h1 h2 h3) Tryz.func163 (by kernel_rfl) (by kernel_rfl)
abbrev A_strings_Join : List Ty := [.c .slice, .c .str]
abbrev R_strings_Join : List Ty := [.c .str]
noncomputable def strings_Join (N : Nat) (x : Sl × ByteArray) : M ByteArray := joinM x
theorem row_strings_Join (N : Nat) : RowOk Tryz.prog ⟨166, A_strings_Join, R_strings_Join, strings_Join N⟩ :=
  rowOk_of (join_sp Tryz.strings_Join_none Tryz.strings_Join) Tryz.func166 (by kernel_rfl) (by kernel_rfl)
abbrev A_slices_Sorted_int : List Ty := [.cl 142]
abbrev R_slices_Sorted_int : List Ty := [.c .slice]
noncomputable def slices_Sorted_int (N : Nat) (x : Ts A_slices_Sorted_int) : M (Ts R_slices_Sorted_int) := sortedM 3 x
theorem row_slices_Sorted_int (N : Nat) : RowOk Tryz.prog ⟨76, A_slices_Sorted_int, R_slices_Sorted_int, slices_Sorted_int N⟩ :=
  rowOk_of (sorted_sp (K := 3) (by kernel_rfl) fun Bm m nn D0 w h1 h2 h3 h4 h5 => Tryz.sorted_contractA Bm m nn D0 w h1 h2 h3 h4 h5) Tryz.func76 (by kernel_rfl) (by kernel_rfl)
abbrev A_slices_Sorted_string : List Ty := [.cl 195]
abbrev R_slices_Sorted_string : List Ty := [.c .slice]
noncomputable def slices_Sorted_string (N : Nat) (x : Ts A_slices_Sorted_string) : M (Ts R_slices_Sorted_string) := sortedMS 9 x
theorem row_slices_Sorted_string (N : Nat) : RowOk Tryz.prog ⟨145, A_slices_Sorted_string, R_slices_Sorted_string, slices_Sorted_string N⟩ :=
  rowOk_of (sortedS_sp (K := 9) (by kernel_rfl) fun Bm m nn D0 w h1 h2 h3 h4 h5 => Tryz.sorted_contractS Bm m nn D0 w h1 h2 h3 h4 h5) Tryz.func145 (by kernel_rfl) (by kernel_rfl)
abbrev A_maps_Clone_map_int_body_Body_int_body_Body : List Ty := [.c .map]
abbrev R_maps_Clone_map_int_body_Body_int_body_Body : List Ty := [.c .map]
noncomputable def maps_Clone_map_int_body_Body_int_body_Body (N : Nat) (x : Option Nat) : M (Option Nat) := cloneM x
theorem row_maps_Clone_map_int_body_Body_int_body_Body (N : Nat) : RowOk Tryz.prog ⟨79, A_maps_Clone_map_int_body_Body_int_body_Body, R_maps_Clone_map_int_body_Body_int_body_Body, maps_Clone_map_int_body_Body_int_body_Body N⟩ :=
  rowOk_of (clone_sp (fun b es clock w h => AnyW.maps_Clone Tryz.cloneB b es clock w h) (fun w => AnyW.maps_Clone_nil Tryz.cloneB w)) Tryz.func79 (by kernel_rfl) (by kernel_rfl)
abbrev A_maps_Clone_map_string_tree_Node_string_tree_Node : List Ty := [.c .map]
abbrev R_maps_Clone_map_string_tree_Node_string_tree_Node : List Ty := [.c .map]
noncomputable def maps_Clone_map_string_tree_Node_string_tree_Node (N : Nat) (x : Option Nat) : M (Option Nat) := cloneM x
theorem row_maps_Clone_map_string_tree_Node_string_tree_Node (N : Nat) : RowOk Tryz.prog ⟨143, A_maps_Clone_map_string_tree_Node_string_tree_Node, R_maps_Clone_map_string_tree_Node_string_tree_Node, maps_Clone_map_string_tree_Node_string_tree_Node N⟩ :=
  rowOk_of (clone_sp (fun b es clock w h => AnyW.maps_Clone Tryz.cloneN b es clock w h) (fun w => AnyW.maps_Clone_nil Tryz.cloneN w)) Tryz.func143 (by kernel_rfl) (by kernel_rfl)
theorem eq137 : EqOk Tryz.prog 137 [.int .i64, .bool, .int .i64] := eq_mk (by kernel_rfl) (by kernel_rfl) (by kernel_rfl) (by kernel_rfl)
end Go.Wz
