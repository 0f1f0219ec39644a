/- The walk, part 2: what each function of the program computes, and that it does (printed by a program of ours). -/
import Derived.Test.YtanbffihggdcaaaGreatDoorWalk1
set_option linter.unusedVariables false
set_option maxRecDepth 100000
namespace Go.Wz
open Go.Proofs Go.Eng

/-! (*treering/tree.Tree).Paths -/
abbrev A_tree_Tree_Paths : List Ty := [.c .ptr]
abbrev R_tree_Tree_Paths : List Ty := [.c .slice]
noncomputable def tree_Tree_Paths (N : Nat) (x : Option Addr) : M (Sl) :=
 vl (Option.isNone x) fun t1 =>
 cnd t1 (
 M.pure ⟨none, 0, 0⟩) (
 nz x fun a2 =>
 ld [.map] (Addr.add a2 0) fun (r3 : Option Nat) =>
 M.bind (maps_Keys_map_string_tree_Node_string_tree_Node N r3) fun (r4 : Nat) =>
 M.bind (slices_Sorted_string N r4) fun (r5 : Sl) =>
 M.pure r5)
noncomputable def pl_tree_Tree_Paths : Plan := .leaf
theorem E_tree_Tree_Paths (N : Nat) (x : Ts A_tree_Tree_Paths) : evF ⟨Tryz.prog, [⟨146, A_maps_Keys_map_string_tree_Node_string_tree_Node, R_maps_Keys_map_string_tree_Node_string_tree_Node, maps_Keys_map_string_tree_Node_string_tree_Node N⟩, ⟨145, A_slices_Sorted_string, R_slices_Sorted_string, slices_Sorted_string N⟩], [], []⟩ 11 N Tryz.f80.results.toList (Tryz.f80.body.getD .skip) pl_tree_Tree_Paths A_tree_Tree_Paths R_tree_Tree_Paths x = tree_Tree_Paths N x := by kernel_rfl
theorem row_tree_Tree_Paths (N : Nat) : RowOk Tryz.prog ⟨80, A_tree_Tree_Paths, R_tree_Tree_Paths, tree_Tree_Paths N⟩ :=
  row_mk 80 Tryz.f80 A_tree_Tree_Paths R_tree_Tree_Paths (tree_Tree_Paths N) _ _ _ 11 N pl_tree_Tree_Paths (rows_cons (row_maps_Keys_map_string_tree_Node_string_tree_Node N) (rows_cons (row_slices_Sorted_string N) rows_nil)) (eqs_nil) mixed Tryz.func80 (by kernel_rfl) Tryz.ntmps80 (by kernel_rfl) (E_tree_Tree_Paths N) (by kernel_rfl)
/-! (*treering/tree.Tree).Nodes -/
abbrev A_tree_Tree_Nodes : List Ty := [.c .ptr]
abbrev R_tree_Tree_Nodes : List Ty := [.c .slice]
noncomputable def tree_Tree_Nodes_L0 (N : Nat) (x : Option Addr) (r1 : Sl) (s2 : Sl × Int) : M ((Sl × Int) ⊕ (Sl)) :=
 vl (decide (s2.2 < (r1.len : Int))) fun t3 =>
 cnd t3 (
 ixA r1.a r1.len s2.2 1 fun a4 =>
 ld [.str] a4 fun (r5 : ByteArray) =>
 nz x fun a6 =>
 ld [.map] (Addr.add a6 0) fun (r7 : Option Nat) =>
 M.rd (lookR .string (.string r5) r7 (.agg [.str, .int .i64, .bool]) ((⟨#[]⟩ : ByteArray), 0, false)) fun (r8 : (ByteArray × Int × Bool) × Bool) =>
 M.new (ob [.string r8.1.1, .int .i64 r8.1.2.1, .bool r8.1.2.2] 51) fun b9 =>
 M.bind (appM 51 3 32 [.string (⟨#[]⟩ : ByteArray), .int .i64 0, .bool false] s2.1 (.sl (some ⟨b9, 0, none⟩) 1)) fun s10 =>
 vl (wi (s2.2 + (1 : Int))) fun i11 =>
 M.pure (inlS (s10, i11))) (
 M.pure (inrS s2.1))
noncomputable def tree_Tree_Nodes (N : Nat) (x : Option Addr) : M (Sl) :=
 M.bind (tree_Tree_Paths N x) fun (r1 : Sl) =>
 M.bind (M.loop N (tree_Tree_Nodes_L0 N x r1) (⟨none, 0, 0⟩, 0)) fun (r12 : Sl) =>
 M.pure r12
noncomputable def pl_tree_Tree_Nodes : Plan := .kids (.leaf) (.kids (.leaf) (.kids (.kids (.leaf) (.kids (.loop [(3, .c .slice), (9, .c (.int .i64))] [(.exit 0, [(3, .c .slice)])] (.leaf)) .leaf)) (.leaf)))
theorem E_tree_Tree_Nodes (N : Nat) (x : Ts A_tree_Tree_Nodes) : evF ⟨Tryz.prog, [⟨80, A_tree_Tree_Paths, R_tree_Tree_Paths, tree_Tree_Paths N⟩], [], []⟩ 24 N Tryz.f24.results.toList (Tryz.f24.body.getD .skip) pl_tree_Tree_Nodes A_tree_Tree_Nodes R_tree_Tree_Nodes x = tree_Tree_Nodes N x := by kernel_rfl
theorem row_tree_Tree_Nodes (N : Nat) : RowOk Tryz.prog ⟨24, A_tree_Tree_Nodes, R_tree_Tree_Nodes, tree_Tree_Nodes N⟩ :=
  row_mk 24 Tryz.f24 A_tree_Tree_Nodes R_tree_Tree_Nodes (tree_Tree_Nodes N) _ _ _ 24 N pl_tree_Tree_Nodes (rows_cons (row_tree_Tree_Paths N) rows_nil) (eqs_nil) mixed Tryz.func24 (by kernel_rfl) Tryz.ntmps24 (by kernel_rfl) (E_tree_Tree_Nodes N) (by kernel_rfl)
/-! (*treering/fold.State).Body -/
abbrev A_fold_State_Body : List Ty := [.c .ptr, .c (.int .i64)]
abbrev R_fold_State_Body : List Ty := [.agg [.int .i64, .slice], .c .bool]
noncomputable def fold_State_Body (N : Nat) (x : (Option Addr) × Int) : M ((Int × Sl) × Bool) :=
 M.new (ob [.int .i64 0, .slice none 0 0] 47) fun b1 =>
 vl (Option.isNone x.1) fun t2 =>
 cnd t2 (
 st ⟨b1, 0, none⟩ [.int .i64 0, .slice none 0 0] <|
 ld [.int .i64, .slice] ⟨b1, 0, none⟩ fun (r3 : Int × Sl) =>
 M.pure ((r3.1, r3.2), false)) (
 nz x.1 fun a4 =>
 ld [.map] (Addr.add a4 1) fun (r5 : Option Nat) =>
 M.rd (lookR (.int .i64) (.int .i64 x.2) r5 (.agg [.int .i64, .slice]) (0, ⟨none, 0, 0⟩)) fun (r6 : (Int × Sl) × Bool) =>
 M.new (ob [.int .i64 0, .slice none 0 0] 47) fun b7 =>
 st ⟨b7, 0, none⟩ [.int .i64 r6.1.1, .slice r6.1.2.a r6.1.2.len r6.1.2.cap] <|
 ld [.slice] (Addr.add ⟨b7, 0, none⟩ 1) fun (r8 : Sl) =>
 M.bind (slices_Clone_body_Part_body_Part N r8) fun (r9 : Sl) =>
 st (Addr.add ⟨b7, 0, none⟩ 1) [.slice r9.a r9.len r9.cap] <|
 ld [.int .i64, .slice] ⟨b7, 0, none⟩ fun (r10 : Int × Sl) =>
 st ⟨b1, 0, none⟩ [.int .i64 r10.1, .slice r10.2.a r10.2.len r10.2.cap] <|
 ld [.int .i64, .slice] ⟨b1, 0, none⟩ fun (r11 : Int × Sl) =>
 M.pure ((r11.1, r11.2), r6.2))
noncomputable def pl_fold_State_Body : Plan := .leaf
theorem E_fold_State_Body (N : Nat) (x : Ts A_fold_State_Body) : evF ⟨Tryz.prog, [⟨81, A_slices_Clone_body_Part_body_Part, R_slices_Clone_body_Part_body_Part, slices_Clone_body_Part_body_Part N⟩], [], []⟩ 26 N Tryz.f25.results.toList (Tryz.f25.body.getD .skip) pl_fold_State_Body A_fold_State_Body R_fold_State_Body x = fold_State_Body N x := by kernel_rfl
theorem row_fold_State_Body (N : Nat) : RowOk Tryz.prog ⟨25, A_fold_State_Body, R_fold_State_Body, fold_State_Body N⟩ :=
  row_mk 25 Tryz.f25 A_fold_State_Body R_fold_State_Body (fold_State_Body N) _ _ _ 26 N pl_fold_State_Body (rows_cons (row_slices_Clone_body_Part_body_Part N) rows_nil) (eqs_nil) mixed Tryz.func25 (by kernel_rfl) Tryz.ntmps25 (by kernel_rfl) (E_fold_State_Body N) (by kernel_rfl)
/-! (*treering/tree.Tree).Next -/
abbrev A_tree_Tree_Next : List Ty := [.c .ptr]
abbrev R_tree_Tree_Next : List Ty := [.c (.int .i64)]
noncomputable def tree_Tree_Next (N : Nat) (x : Option Addr) : M (Int) :=
 vl (Option.isNone x) fun t1 =>
 cnd t1 (
 M.pure 0) (
 nz x fun a2 =>
 ld [.int .i64] (Addr.add a2 1) fun (r3 : Int) =>
 M.pure r3)
noncomputable def pl_tree_Tree_Next : Plan := .leaf
theorem E_tree_Tree_Next (N : Nat) (x : Ts A_tree_Tree_Next) : evF ⟨Tryz.prog, [], [], []⟩ 9 N Tryz.f26.results.toList (Tryz.f26.body.getD .skip) pl_tree_Tree_Next A_tree_Tree_Next R_tree_Tree_Next x = tree_Tree_Next N x := by kernel_rfl
theorem row_tree_Tree_Next (N : Nat) : RowOk Tryz.prog ⟨26, A_tree_Tree_Next, R_tree_Tree_Next, tree_Tree_Next N⟩ :=
  row_mk 26 Tryz.f26 A_tree_Tree_Next R_tree_Tree_Next (tree_Tree_Next N) _ _ _ 9 N pl_tree_Tree_Next (rows_nil) (eqs_nil) mixed Tryz.func26 (by kernel_rfl) Tryz.ntmps26 (by kernel_rfl) (E_tree_Tree_Next N) (by kernel_rfl)
/-! treering/treeringlaw15.FoldIDs -/
abbrev A_law15_FoldIDs : List Ty := [.c .slice]
abbrev R_law15_FoldIDs : List Ty := [.c .bool]
noncomputable def law15_FoldIDs_L0 (N : Nat) (x : Sl) (r17 : Sl) (r5 : Option Addr) (r8 : Option Addr) (s6 : Sl × Int) (s18 : Int) : M (Int ⊕ (Unit ⊕ Bool)) :=
 vl (decide (s18 < (r17.len : Int))) fun t19 =>
 cnd t19 (
 ixA r17.a r17.len s18 3 fun a20 =>
 ld [.int .i64] (Addr.add a20 1) fun (r21 : Int) =>
 M.bind (fold_State_Body N (r8, r21)) fun (r22 : (Int × Sl) × Bool) =>
 M.new (ob [.int .i64 0, .slice none 0 0] 47) fun b23 =>
 st ⟨b23, 0, none⟩ [.int .i64 r22.1.1, .slice r22.1.2.a r22.1.2.len r22.1.2.cap] <|
 ixA r17.a r17.len s18 3 fun a24 =>
 ld [.int .i64] (Addr.add a24 1) fun (r25 : Int) =>
 M.bind (fold_State_Body N (r5, r25)) fun (r26 : (Int × Sl) × Bool) =>
 M.new (ob [.int .i64 0, .slice none 0 0] 47) fun b27 =>
 st ⟨b27, 0, none⟩ [.int .i64 r26.1.1, .slice r26.1.2.a r26.1.2.len r26.1.2.cap] <|
 ixA r17.a r17.len s18 3 fun a28 =>
 ld [.int .i64] (Addr.add a28 1) fun (r29 : Int) =>
 M.bind (fold_State_Body N (r8, r29)) fun (r30 : (Int × Sl) × Bool) =>
 M.new (ob [.int .i64 0, .slice none 0 0] 47) fun b31 =>
 st ⟨b31, 0, none⟩ [.int .i64 r30.1.1, .slice r30.1.2.a r30.1.2.len r30.1.2.cap] <|
 ixA r17.a r17.len s18 3 fun a32 =>
 ld [.int .i64] (Addr.add a32 1) fun (r33 : Int) =>
 M.bind (fold_State_Tree N r8) fun (r34 : Option Addr) =>
 M.again (ldR [.int .i64] (Addr.add a32 1)) r33 <|
 M.bind (tree_Tree_Next N r34) fun (r35 : Int) =>
 M.again (ldR [.int .i64] (Addr.add a32 1)) r33 <|
 vl (decide (r33 < r35)) fun t36 =>
 M.bind ((
 ixA r17.a r17.len s18 3 fun a37 =>
 ld [.bool] (Addr.add a37 2) fun (r38 : Bool) =>
 vl (r26.2 == r38) fun t39 =>
 cnd t39 (
 M.pure true) (
 cnd t36 (
 ixA r17.a r17.len s18 3 fun a40 =>
 ld [.bool] (Addr.add a40 2) fun (r41 : Bool) =>
 vl (!r41) fun t42 =>
 cnd t42 (
 vl (!r22.2) fun t43 =>
 M.pure t43) (
 M.pure false)) (
 M.pure false))) : M (Bool)) fun (r44 : Bool) =>
 cnd r44 (
 M.pure (inrS (.inr false))) (
 M.bind ((
 cnd r22.2 (
 ixA x.a x.len s6.2 7 fun a45 =>
 ld [.int .i64] (Addr.add (Addr.add a45 0) 0) fun (r46 : Int) =>
 vl (r46 != (3 : Int)) fun t47 =>
 cnd t47 (
 ixA x.a x.len s6.2 7 fun a48 =>
 ld [.int .i64] (Addr.add (Addr.add a48 0) 0) fun (r49 : Int) =>
 vl (r49 != (4 : Int)) fun t50 =>
 cnd t50 (
 ld [.int .i64] (Addr.add ⟨b31, 0, none⟩ 0) fun (r51 : Int) =>
 ld [.int .i64] (Addr.add ⟨b27, 0, none⟩ 0) fun (r52 : Int) =>
 vl (r51 != r52) fun t53 =>
 cnd t53 (
 M.pure true) (
 ld [.slice] (Addr.add ⟨b31, 0, none⟩ 1) fun (r54 : Sl) =>
 ld [.slice] (Addr.add ⟨b27, 0, none⟩ 1) fun (r55 : Sl) =>
 vl ((r54.len : Int) != (r55.len : Int)) fun t56 =>
 M.pure t56)) (
 M.pure false)) (
 M.pure false)) (
 M.pure false)) : M (Bool)) fun (r57 : Bool) =>
 cnd r57 (
 M.pure (inrS (.inr false))) (
 vl (wi (s18 + (1 : Int))) fun i58 =>
 M.pure (inlS i58)))) (
 M.pure (inrS (.inl ())))
noncomputable def law15_FoldIDs_L1 (N : Nat) (x : Sl) (r5 : Option Addr) (s6 : Sl × Int) : M ((Sl × Int) ⊕ (Sl ⊕ Bool)) :=
 vl (decide (s6.2 < (x.len : Int))) fun t7 =>
 cnd t7 (
 M.bind ((
 M.bind (fold_State_Copy N r5) fun (r8 : Option Addr) =>
 ixA x.a x.len s6.2 7 fun a9 =>
 ld [.int .i64, .str, .str, .int .i64, .int .i64, .slice] (Addr.add a9 0) fun (r10 : Int × ByteArray × ByteArray × Int × Int × Sl) =>
 ixA x.a x.len s6.2 7 fun a11 =>
 ld [.slice] (Addr.add a11 6) fun (r12 : Sl) =>
 M.bind (law12_Parts N r12) fun (r13 : Sl) =>
 M.again (ldR [.int .i64, .str, .str, .int .i64, .int .i64, .slice] (Addr.add a9 0)) r10 <|
 M.bind (fold_State_Apply N (r5, (r10.1, r10.2.1, r10.2.2.1, r10.2.2.2.1, r10.2.2.2.2.1, r10.2.2.2.2.2), r13)) fun (r14 : Int) =>
 vl (r14 != (0 : Int)) fun t15 =>
 cnd t15 (
 M.pure (.inl s6.1)) (
 M.bind (fold_State_Tree N r5) fun (r16 : Option Addr) =>
 M.bind (tree_Tree_Nodes N r16) fun (r17 : Sl) =>
 M.bind (M.loop N (law15_FoldIDs_L0 N x r17 r5 r8 s6) 0) fun (r59 : Unit ⊕ Bool) =>
 sumM r59 (fun (q60 : Unit) =>
 M.bind (fold_State_Tree N r5) fun (r62 : Option Addr) =>
 M.bind (tree_Tree_Next N r62) fun (r63 : Int) =>
 M.new (ob [.int .i64 r63] 3) fun b64 =>
 M.bind (appM 3 1 8 [.int .i64 0] s6.1 (.sl (some ⟨b64, 0, none⟩) 1)) fun s65 =>
 M.pure (.inl s65)) fun (r61 : Bool) =>
 M.pure (.inr r61))) : M (Sl ⊕ Bool)) fun (r66 : Sl ⊕ Bool) =>
 sumM r66 (fun (q67 : Sl) =>
 vl (wi (s6.2 + (1 : Int))) fun i69 =>
 M.pure (inlS (q67, i69))) fun (r68 : Bool) =>
 M.pure (inrS (.inr r68))) (
 M.pure (inrS (.inl s6.1)))
noncomputable def law15_FoldIDs_L2 (N : Nat) (q71 : Sl) (s73 : Int) : M (Int ⊕ (Unit ⊕ Bool)) :=
 vl (decide (s73 < (q71.len : Int))) fun t74 =>
 cnd t74 (
 M.bind ((
 ixA q71.a q71.len s73 1 fun a75 =>
 ld [.int .i64] a75 fun (r76 : Int) =>
 vl (wi (s73 - (1 : Int))) fun i77 =>
 ixA q71.a q71.len i77 1 fun a78 =>
 ld [.int .i64] a78 fun (r79 : Int) =>
 vl (decide (r76 < r79)) fun t80 =>
 cnd t80 (
 M.pure true) (
 ixA q71.a q71.len s73 1 fun a81 =>
 ld [.int .i64] a81 fun (r82 : Int) =>
 vl (wi (s73 - (1 : Int))) fun i83 =>
 ixA q71.a q71.len i83 1 fun a84 =>
 ld [.int .i64] a84 fun (r85 : Int) =>
 vl (wi (r85 + (1 : Int))) fun i86 =>
 vl (decide (r82 > i86)) fun t87 =>
 M.pure t87)) : M (Bool)) fun (r88 : Bool) =>
 cnd r88 (
 M.pure (inrS (.inr false))) (
 vl (wi (s73 + (1 : Int))) fun i89 =>
 M.pure (inlS i89))) (
 M.pure (inrS (.inl ())))
noncomputable def law15_FoldIDs (N : Nat) (x : Sl) : M (Bool) :=
 M.bind (law15_awake N ()) fun (r1 : Bool) =>
 vl (!r1) fun t2 =>
 cnd t2 (
 M.pure false) (
 M.bind (law15_Small N (x, 80)) fun (r3 : Bool) =>
 vl (!r3) fun t4 =>
 cnd t4 (
 M.pure true) (
 M.bind (fold_New N ()) fun (r5 : Option Addr) =>
 M.bind (M.loop N (law15_FoldIDs_L1 N x r5) (⟨none, 0, 0⟩, 0)) fun (r70 : Sl ⊕ Bool) =>
 sumM r70 (fun (q71 : Sl) =>
 M.bind (M.loop N (law15_FoldIDs_L2 N q71) 1) fun (r90 : Unit ⊕ Bool) =>
 sumM r90 (fun (q91 : Unit) =>
 M.pure true) fun (r92 : Bool) =>
 M.pure r92) fun (r72 : Bool) =>
 M.pure r72))
noncomputable def pl_law15_FoldIDs : Plan := .kids (.leaf) (.kids (.leaf) (.kids (.leaf) (.kids (.leaf) (.kids (.leaf) (.kids (.kids (.leaf) (.kids (.loop [(4, .c .slice), (5, .c (.int .i64))] [(.exit 0, [(4, .c .slice)]), (.ret, [(2, .c .bool)])] (.kids (.leaf) (.join [(.normal, [(4, .c .slice)]), (.ret, [(2, .c .bool)])] (.kids (.kids (.leaf) (.kids (.kids (.ord [0, 1, 2, 3, 4, 5, 6, 7, 8, 9, 10, 11, 12, 13]) (.leaf)) (.kids (.leaf) (.kids (.kids (.leaf) (.kids (.loop [(8, .c (.int .i64))] [(.exit 2, []), (.ret, [(2, .c .bool)])] (.kids (.leaf) (.kids (.kids (.kids (.leaf) (.kids (.leaf) (.kids (.leaf) (.kids (.ord [0, 1, 2, 3, 4, 5, 6, 7, 8, 9]) (.kids (.join [(.normal, [(114, .c .bool)])] (.leaf) (.leaf)) (.join [(.normal, [(149, .c .bool)])] (.leaf) (.leaf))))))) .leaf) (.leaf)))) .leaf)) (.leaf))))) .leaf) (.leaf)))) .leaf)) (.kids (.kids (.leaf) (.kids (.loop [(16, .c (.int .i64))] [(.exit 4, []), (.ret, [(2, .c .bool)])] (.kids (.leaf) (.kids (.kids (.join [(.normal, [(184, .c .bool)])] (.ord [0, 1, 2, 3, 4, 5, 6, 7, 8, 9, 10, 11, 12, 13, 14, 15, 16, 17, 18, 19, 20, 21, 22]) (.leaf)) .leaf) (.leaf)))) .leaf)) (.leaf)))))))
theorem E_law15_FoldIDs (N : Nat) (x : Ts A_law15_FoldIDs) : evF ⟨Tryz.prog, [⟨16, A_law15_awake, R_law15_awake, law15_awake N⟩, ⟨17, A_law15_Small, R_law15_Small, law15_Small N⟩, ⟨18, A_fold_New, R_fold_New, fold_New N⟩, ⟨22, A_fold_State_Copy, R_fold_State_Copy, fold_State_Copy N⟩, ⟨20, A_law12_Parts, R_law12_Parts, law12_Parts N⟩, ⟨19, A_fold_State_Apply, R_fold_State_Apply, fold_State_Apply N⟩, ⟨23, A_fold_State_Tree, R_fold_State_Tree, fold_State_Tree N⟩, ⟨24, A_tree_Tree_Nodes, R_tree_Tree_Nodes, tree_Tree_Nodes N⟩, ⟨25, A_fold_State_Body, R_fold_State_Body, fold_State_Body N⟩, ⟨26, A_tree_Tree_Next, R_tree_Tree_Next, tree_Tree_Next N⟩], [], []⟩ 185 N Tryz.f4.results.toList (Tryz.f4.body.getD .skip) pl_law15_FoldIDs A_law15_FoldIDs R_law15_FoldIDs x = law15_FoldIDs N x := by kernel_rfl
theorem row_law15_FoldIDs (N : Nat) : RowOk Tryz.prog ⟨4, A_law15_FoldIDs, R_law15_FoldIDs, law15_FoldIDs N⟩ :=
  row_mk 4 Tryz.f4 A_law15_FoldIDs R_law15_FoldIDs (law15_FoldIDs N) _ _ _ 185 N pl_law15_FoldIDs (rows_cons (row_law15_awake N) (rows_cons (row_law15_Small N) (rows_cons (row_fold_New N) (rows_cons (row_fold_State_Copy N) (rows_cons (row_law12_Parts N) (rows_cons (row_fold_State_Apply N) (rows_cons (row_fold_State_Tree N) (rows_cons (row_tree_Tree_Nodes N) (rows_cons (row_fold_State_Body N) (rows_cons (row_tree_Tree_Next N) rows_nil)))))))))) (eqs_nil) mixed Tryz.func4 (by kernel_rfl) Tryz.ntmps4 (by kernel_rfl) (E_law15_FoldIDs N) (by kernel_rfl)
/-! treering/treeringref12.NewState -/
abbrev A_ref12_NewState : List Ty := []
abbrev R_ref12_NewState : List Ty := [.c .ptr]
noncomputable def ref12_NewState (N : Nat) (x : Unit) : M (Option Addr) :=
 M.new (ob [.slice none 0 0, .int .i64 1, .slice none 0 0] 66) fun b1 =>
 M.pure (some ⟨b1, 0, none⟩)
noncomputable def pl_ref12_NewState : Plan := .leaf
theorem E_ref12_NewState (N : Nat) (x : Ts A_ref12_NewState) : evF ⟨Tryz.prog, [], [], []⟩ 4 N Tryz.f27.results.toList (Tryz.f27.body.getD .skip) pl_ref12_NewState A_ref12_NewState R_ref12_NewState x = ref12_NewState N x := by kernel_rfl
theorem row_ref12_NewState (N : Nat) : RowOk Tryz.prog ⟨27, A_ref12_NewState, R_ref12_NewState, ref12_NewState N⟩ :=
  row_mk 27 Tryz.f27 A_ref12_NewState R_ref12_NewState (ref12_NewState N) _ _ _ 4 N pl_ref12_NewState (rows_nil) (eqs_nil) mixed Tryz.func27 (by kernel_rfl) Tryz.ntmps27 (by kernel_rfl) (E_ref12_NewState N) (by kernel_rfl)
/-! (*treering/treeringref12.State).Copy -/
abbrev A_ref12_State_Copy : List Ty := [.c .ptr]
abbrev R_ref12_State_Copy : List Ty := [.c .ptr]
noncomputable def ref12_State_Copy (N : Nat) (x : Option Addr) : M (Option Addr) :=
 nz x fun a1 =>
 ld [.slice] (Addr.add (Addr.add a1 0) 0) fun (r2 : Sl) =>
 nz x fun a3 =>
 ld [.int .i64] (Addr.add (Addr.add a3 0) 1) fun (r4 : Int) =>
 nz x fun a5 =>
 ld [.slice] (Addr.add a5 2) fun (r6 : Sl) =>
 M.bind (appM 174 3 32 [.string (⟨#[]⟩ : ByteArray), .int .i64 0, .bool false] ⟨none, 0, 0⟩ (.sl r2.a r2.len)) fun s7 =>
 M.again (ldR [.slice] (Addr.add a5 2)) r6 <|
 M.again (ldR [.int .i64] (Addr.add (Addr.add a3 0) 1)) r4 <|
 M.bind (appM 70 3 40 [.int .i64 0, .int .i64 0, .slice none 0 0] ⟨none, 0, 0⟩ (.sl r6.a r6.len)) fun s8 =>
 M.again (ldR [.int .i64] (Addr.add (Addr.add a3 0) 1)) r4 <|
 M.new (ob [.slice s7.a s7.len s7.cap, .int .i64 r4, .slice s8.a s8.len s8.cap] 66) fun b9 =>
 M.pure (some ⟨b9, 0, none⟩)
noncomputable def pl_ref12_State_Copy : Plan := .kids (.leaf) (.kids (.ord [0, 1, 2, 3, 4, 6, 7, 8, 9, 10, 12, 13, 14, 15, 5, 11, 16, 17, 18, 19]) (.leaf))
theorem E_ref12_State_Copy (N : Nat) (x : Ts A_ref12_State_Copy) : evF ⟨Tryz.prog, [], [], []⟩ 22 N Tryz.f57.results.toList (Tryz.f57.body.getD .skip) pl_ref12_State_Copy A_ref12_State_Copy R_ref12_State_Copy x = ref12_State_Copy N x := by kernel_rfl
theorem row_ref12_State_Copy (N : Nat) : RowOk Tryz.prog ⟨57, A_ref12_State_Copy, R_ref12_State_Copy, ref12_State_Copy N⟩ :=
  row_mk 57 Tryz.f57 A_ref12_State_Copy R_ref12_State_Copy (ref12_State_Copy N) _ _ _ 22 N pl_ref12_State_Copy (rows_nil) (eqs_nil) mixed Tryz.func57 (by kernel_rfl) Tryz.ntmps57 (by kernel_rfl) (E_ref12_State_Copy N) (by kernel_rfl)
/-! treering/treeringref1.Name -/
abbrev A_ref1_Name : List Ty := [.c .str]
abbrev R_ref1_Name : List Ty := [.c .bool]
noncomputable def ref1_Name_L0 (N : Nat) (x : ByteArray) (s6 : Int) : M (Int ⊕ (Unit ⊕ Bool)) :=
 vl (decide (s6 < (x.size : Int))) fun t7 =>
 cnd t7 (
 M.bind ((
 byM x s6 fun c8 =>
 vl (decide (c8 < (33 : Int))) fun t9 =>
 cnd t9 (
 M.pure true) (
 byM x s6 fun c10 =>
 vl (decide (c10 > (126 : Int))) fun t11 =>
 cnd t11 (
 M.pure true) (
 byM x s6 fun c12 =>
 vl (c12 == (47 : Int)) fun t13 =>
 M.pure t13))) : M (Bool)) fun (r14 : Bool) =>
 cnd r14 (
 M.pure (inrS (.inr false))) (
 vl (wi (s6 + (1 : Int))) fun i15 =>
 M.pure (inlS i15))) (
 M.pure (inrS (.inl ())))
noncomputable def ref1_Name (N : Nat) (x : ByteArray) : M (Bool) :=
 M.bind ((
 vl (decide ((x.size : Int) < (1 : Int))) fun t1 =>
 cnd t1 (
 M.pure true) (
 vl (decide ((x.size : Int) > (16 : Int))) fun t2 =>
 cnd t2 (
 M.pure true) (
 vl (scmp .eql x (⟨#[46]⟩ : ByteArray)) fun t3 =>
 cnd t3 (
 M.pure true) (
 vl (scmp .eql x (⟨#[46, 46]⟩ : ByteArray)) fun t4 =>
 M.pure t4)))) : M (Bool)) fun (r5 : Bool) =>
 cnd r5 (
 M.pure false) (
 M.bind (M.loop N (ref1_Name_L0 N x) 0) fun (r16 : Unit ⊕ Bool) =>
 sumM r16 (fun (q17 : Unit) =>
 M.pure true) fun (r18 : Bool) =>
 M.pure r18)
noncomputable def pl_ref1_Name : Plan := .kids (.leaf) (.kids (.join [(.normal, [(19, .c .bool)])] (.leaf) (.leaf)) (.kids (.kids (.leaf) (.kids (.loop [(3, .c (.int .i64))] [(.exit 0, []), (.ret, [(2, .c .bool)])] (.kids (.leaf) (.kids (.kids (.join [(.normal, [(41, .c .bool)])] (.leaf) (.leaf)) .leaf) (.leaf)))) .leaf)) (.leaf)))
theorem E_ref1_Name (N : Nat) (x : Ts A_ref1_Name) : evF ⟨Tryz.prog, [], [], []⟩ 42 N Tryz.f157.results.toList (Tryz.f157.body.getD .skip) pl_ref1_Name A_ref1_Name R_ref1_Name x = ref1_Name N x := by kernel_rfl
theorem row_ref1_Name (N : Nat) : RowOk Tryz.prog ⟨157, A_ref1_Name, R_ref1_Name, ref1_Name N⟩ :=
  row_mk 157 Tryz.f157 A_ref1_Name R_ref1_Name (ref1_Name N) _ _ _ 42 N pl_ref1_Name (rows_nil) (eqs_nil) mixed Tryz.func157 (by kernel_rfl) Tryz.ntmps157 (by kernel_rfl) (E_ref1_Name N) (by kernel_rfl)
/-! treering/treeringref1.Split -/
abbrev A_ref1_Split : List Ty := [.c .str]
abbrev R_ref1_Split : List Ty := [.c .slice, .c (.int .i64)]
noncomputable def ref1_Split_L0 (N : Nat) (x : ByteArray) (s7 : Sl × Int) : M ((Sl × Int) ⊕ (Sl)) :=
 vl (decide (s7.2 < (x.size : Int))) fun t8 =>
 cnd t8 (
 M.bind ((
 byM x s7.2 fun c9 =>
 vl (c9 == (47 : Int)) fun t10 =>
 cnd t10 (
 M.new (ob [.string (⟨#[]⟩ : ByteArray)] 9) fun b11 =>
 M.bind (appM 9 1 16 [.string (⟨#[]⟩ : ByteArray)] s7.1 (.sl (some ⟨b11, 0, none⟩) 1)) fun s12 =>
 M.pure s12) (
 vl (wi ((s7.1.len : Int) - (1 : Int))) fun i13 =>
 vl (wi ((s7.1.len : Int) - (1 : Int))) fun i14 =>
 ixA s7.1.a s7.1.len i14 1 fun a15 =>
 ld [.str] a15 fun (r16 : ByteArray) =>
 vl (wi (s7.2 + (1 : Int))) fun i17 =>
 subSt x s7.2 i17 fun s18 =>
 catM r16 s18 fun s19 =>
 ixA s7.1.a s7.1.len i13 1 fun a20 =>
 st a20 [.string s19] <|
 M.pure s7.1)) : M (Sl)) fun (r21 : Sl) =>
 vl (wi (s7.2 + (1 : Int))) fun i22 =>
 M.pure (inlS (r21, i22))) (
 M.pure (inrS s7.1))
noncomputable def ref1_Split_L1 (N : Nat) (r23 : Sl) (s25 : Int) : M (Int ⊕ (Unit ⊕ (Sl × Int))) :=
 vl (decide (s25 < (r23.len : Int))) fun t26 =>
 cnd t26 (
 ixA r23.a r23.len s25 1 fun a27 =>
 ld [.str] a27 fun (r28 : ByteArray) =>
 M.bind (ref1_Name N r28) fun (r29 : Bool) =>
 vl (!r29) fun t30 =>
 cnd t30 (
 M.pure (inrS (.inr (⟨none, 0, 0⟩, 3)))) (
 vl (wi (s25 + (1 : Int))) fun i31 =>
 M.pure (inlS i31))) (
 M.pure (inrS (.inl ())))
noncomputable def ref1_Split (N : Nat) (x : ByteArray) : M (Sl × Int) :=
 vl (scmp .eql x (⟨#[47]⟩ : ByteArray)) fun t1 =>
 cnd t1 (
 M.pure (⟨none, 0, 0⟩, 0)) (
 M.bind ((
 vl ((x.size : Int) == (0 : Int)) fun t2 =>
 cnd t2 (
 M.pure true) (
 vl (decide ((x.size : Int) > (64 : Int))) fun t3 =>
 cnd t3 (
 M.pure true) (
 byM x 0 fun c4 =>
 vl (c4 != (47 : Int)) fun t5 =>
 M.pure t5))) : M (Bool)) fun (r6 : Bool) =>
 cnd r6 (
 M.pure (⟨none, 0, 0⟩, 3)) (
 M.bind (M.loop N (ref1_Split_L0 N x) (⟨none, 0, 0⟩, 0)) fun (r23 : Sl) =>
 vl (decide ((r23.len : Int) > (8 : Int))) fun t24 =>
 cnd t24 (
 M.pure (⟨none, 0, 0⟩, 3)) (
 M.bind (M.loop N (ref1_Split_L1 N r23) 0) fun (r32 : Unit ⊕ (Sl × Int)) =>
 sumM r32 (fun (q33 : Unit) =>
 M.pure (r23, 0)) fun (r34 : (Sl × Int)) =>
 M.pure (r34.1, r34.2))))
noncomputable def pl_ref1_Split : Plan := .kids (.leaf) (.kids (.leaf) (.kids (.join [(.normal, [(21, .c .bool)])] (.leaf) (.leaf)) (.kids (.leaf) (.kids (.kids (.leaf) (.kids (.loop [(4, .c .slice), (5, .c (.int .i64))] [(.exit 0, [(4, .c .slice)])] (.kids (.leaf) (.join [(.normal, [(4, .c .slice)])] (.kids (.kids (.leaf) (.ord [0, 1, 2, 3, 4, 5, 6, 7, 8, 9, 10, 11, 12, 13, 14, 15, 16, 17])) .leaf) (.leaf)))) .leaf)) (.kids (.leaf) (.kids (.kids (.leaf) (.kids (.loop [(6, .c (.int .i64))] [(.exit 2, []), (.ret, [(2, .c .slice), (3, .c (.int .i64))])] (.leaf)) .leaf)) (.leaf)))))))
theorem E_ref1_Split (N : Nat) (x : Ts A_ref1_Split) : evF ⟨Tryz.prog, [⟨157, A_ref1_Name, R_ref1_Name, ref1_Name N⟩], [], []⟩ 68 N Tryz.f150.results.toList (Tryz.f150.body.getD .skip) pl_ref1_Split A_ref1_Split R_ref1_Split x = ref1_Split N x := by kernel_rfl
theorem row_ref1_Split (N : Nat) : RowOk Tryz.prog ⟨150, A_ref1_Split, R_ref1_Split, ref1_Split N⟩ :=
  row_mk 150 Tryz.f150 A_ref1_Split R_ref1_Split (ref1_Split N) _ _ _ 68 N pl_ref1_Split (rows_cons (row_ref1_Name N) rows_nil) (eqs_nil) mixed Tryz.func150 (by kernel_rfl) Tryz.ntmps150 (by kernel_rfl) (E_ref1_Split N) (by kernel_rfl)
/-! (*treering/treeringref12.Tree).At -/
abbrev A_ref12_Tree_At : List Ty := [.c .ptr, .c .str]
abbrev R_ref12_Tree_At : List Ty := [.c (.int .i64)]
noncomputable def ref12_Tree_At_L0 (N : Nat) (x : (Option Addr) × ByteArray) (s2 : Int) : M (Int ⊕ (Unit ⊕ Int)) :=
 nz x.1 fun a3 =>
 ld [.slice] (Addr.add a3 0) fun (r4 : Sl) =>
 vl (decide (s2 < (r4.len : Int))) fun t5 =>
 cnd t5 (
 nz x.1 fun a6 =>
 ld [.slice] (Addr.add a6 0) fun (r7 : Sl) =>
 ixA r7.a r7.len s2 3 fun a8 =>
 ld [.str] (Addr.add a8 0) fun (r9 : ByteArray) =>
 vl (scmp .eql r9 x.2) fun t10 =>
 cnd t10 (
 M.pure (inrS (.inr s2))) (
 vl (wi (s2 + (1 : Int))) fun i11 =>
 M.pure (inlS i11))) (
 M.pure (inrS (.inl ())))
noncomputable def ref12_Tree_At (N : Nat) (x : (Option Addr) × ByteArray) : M (Int) :=
 vl (scmp .eql x.2 (⟨#[47]⟩ : ByteArray)) fun t1 =>
 cnd t1 (
 M.pure (-2)) (
 M.bind (M.loop N (ref12_Tree_At_L0 N x) 0) fun (r12 : Unit ⊕ Int) =>
 sumM r12 (fun (q13 : Unit) =>
 M.pure (-1)) fun (r14 : Int) =>
 M.pure r14)
noncomputable def pl_ref12_Tree_At : Plan := .kids (.leaf) (.kids (.leaf) (.kids (.kids (.leaf) (.kids (.loop [(5, .c (.int .i64))] [(.exit 0, []), (.ret, [(4, .c (.int .i64))])] (.leaf)) .leaf)) (.leaf)))
theorem E_ref12_Tree_At (N : Nat) (x : Ts A_ref12_Tree_At) : evF ⟨Tryz.prog, [], [], []⟩ 28 N Tryz.f151.results.toList (Tryz.f151.body.getD .skip) pl_ref12_Tree_At A_ref12_Tree_At R_ref12_Tree_At x = ref12_Tree_At N x := by kernel_rfl
theorem row_ref12_Tree_At (N : Nat) : RowOk Tryz.prog ⟨151, A_ref12_Tree_At, R_ref12_Tree_At, ref12_Tree_At N⟩ :=
  row_mk 151 Tryz.f151 A_ref12_Tree_At R_ref12_Tree_At (ref12_Tree_At N) _ _ _ 28 N pl_ref12_Tree_At (rows_nil) (eqs_nil) mixed Tryz.func151 (by kernel_rfl) Tryz.ntmps151 (by kernel_rfl) (E_ref12_Tree_At N) (by kernel_rfl)
/-! treering/treeringref1.Join -/
abbrev A_ref1_Join : List Ty := [.c .slice]
abbrev R_ref1_Join : List Ty := [.c .str]
noncomputable def ref1_Join_L0 (N : Nat) (x : Sl) (s2 : ByteArray × Int) : M ((ByteArray × Int) ⊕ (ByteArray)) :=
 vl (decide (s2.2 < (x.len : Int))) fun t3 =>
 cnd t3 (
 catM s2.1 (⟨#[47]⟩ : ByteArray) fun s4 =>
 ixA x.a x.len s2.2 1 fun a5 =>
 ld [.str] a5 fun (r6 : ByteArray) =>
 catM s4 r6 fun s7 =>
 vl (wi (s2.2 + (1 : Int))) fun i8 =>
 M.pure (inlS (s7, i8))) (
 M.pure (inrS s2.1))
noncomputable def ref1_Join (N : Nat) (x : Sl) : M (ByteArray) :=
 vl ((x.len : Int) == (0 : Int)) fun t1 =>
 cnd t1 (
 M.pure (⟨#[47]⟩ : ByteArray)) (
 M.bind (M.loop N (ref1_Join_L0 N x) ((⟨#[]⟩ : ByteArray), 0)) fun (r9 : ByteArray) =>
 M.pure r9)
noncomputable def pl_ref1_Join : Plan := .kids (.leaf) (.kids (.leaf) (.kids (.leaf) (.kids (.kids (.leaf) (.kids (.loop [(3, .c .str), (4, .c (.int .i64))] [(.exit 0, [(3, .c .str)])] (.leaf)) .leaf)) (.leaf))))
theorem E_ref1_Join (N : Nat) (x : Ts A_ref1_Join) : evF ⟨Tryz.prog, [], [], []⟩ 22 N Tryz.f152.results.toList (Tryz.f152.body.getD .skip) pl_ref1_Join A_ref1_Join R_ref1_Join x = ref1_Join N x := by kernel_rfl
theorem row_ref1_Join (N : Nat) : RowOk Tryz.prog ⟨152, A_ref1_Join, R_ref1_Join, ref1_Join N⟩ :=
  row_mk 152 Tryz.f152 A_ref1_Join R_ref1_Join (ref1_Join N) _ _ _ 22 N pl_ref1_Join (rows_nil) (eqs_nil) mixed Tryz.func152 (by kernel_rfl) Tryz.ntmps152 (by kernel_rfl) (E_ref1_Join N) (by kernel_rfl)
/-! (*treering/treeringref12.Tree).Look -/
abbrev A_ref12_Tree_Look : List Ty := [.c .ptr, .c .str]
abbrev R_ref12_Tree_Look : List Ty := [.c (.int .i64), .c .bool, .c (.int .i64)]
noncomputable def ref12_Tree_Look_L0 (N : Nat) (x : (Option Addr) × ByteArray) (r1 : Sl × Int) (s3 : Int × Bool × Int) : M ((Int × Bool × Int) ⊕ ((Int × Bool) ⊕ (Int × Bool × Int))) :=
 vl (decide (s3.2.2 < (r1.1.len : Int))) fun t4 =>
 cnd t4 (
 vl (!s3.2.1) fun t5 =>
 cnd t5 (
 M.pure (inrS (.inr (0, false, 7)))) (
 vl (wi (s3.2.2 + (1 : Int))) fun i6 =>
 subM r1.1 0 i6 (r1.1.cap : Int) 1 fun s7 =>
 M.bind (ref1_Join N s7) fun (r8 : ByteArray) =>
 M.bind (ref12_Tree_At N (x.1, r8)) fun (r9 : Int) =>
 vl (decide (r9 < (0 : Int))) fun t10 =>
 cnd t10 (
 M.pure (inrS (.inr (0, false, 4)))) (
 nz x.1 fun a11 =>
 ld [.slice] (Addr.add a11 0) fun (r12 : Sl) =>
 ixA r12.a r12.len r9 3 fun a13 =>
 ld [.int .i64] (Addr.add a13 1) fun (r14 : Int) =>
 nz x.1 fun a15 =>
 ld [.slice] (Addr.add a15 0) fun (r16 : Sl) =>
 ixA r16.a r16.len r9 3 fun a17 =>
 ld [.bool] (Addr.add a17 2) fun (r18 : Bool) =>
 vl (wi (s3.2.2 + (1 : Int))) fun i19 =>
 M.pure (inlS (r14, r18, i19))))) (
 M.pure (inrS (.inl (s3.1, s3.2.1))))
noncomputable def ref12_Tree_Look (N : Nat) (x : (Option Addr) × ByteArray) : M (Int × Bool × Int) :=
 M.bind (ref1_Split N x.2) fun (r1 : Sl × Int) =>
 vl (r1.2 != (0 : Int)) fun t2 =>
 cnd t2 (
 M.pure (0, false, r1.2)) (
 M.bind (M.loop N (ref12_Tree_Look_L0 N x r1) (0, true, 0)) fun (r20 : (Int × Bool) ⊕ (Int × Bool × Int)) =>
 sumM r20 (fun (q21 : Int × Bool) =>
 M.pure (q21.1, q21.2, 0)) fun (r22 : (Int × Bool × Int)) =>
 M.pure (r22.1, r22.2.1, r22.2.2))
noncomputable def pl_ref12_Tree_Look : Plan := .kids (.leaf) (.kids (.leaf) (.kids (.leaf) (.kids (.leaf) (.kids (.kids (.leaf) (.kids (.loop [(9, .c (.int .i64)), (10, .c .bool), (11, .c (.int .i64))] [(.exit 0, [(9, .c (.int .i64)), (10, .c .bool)]), (.ret, [(4, .c (.int .i64)), (5, .c .bool), (6, .c (.int .i64))])] (.kids (.leaf) (.kids (.kids (.kids (.leaf) (.kids (.leaf) (.kids (.leaf) (.ord [0, 1, 2, 3, 4, 5, 6, 7, 8, 9, 10, 11, 12, 13, 14, 15, 16, 17])))) .leaf) (.leaf)))) .leaf)) (.leaf)))))
theorem E_ref12_Tree_Look (N : Nat) (x : Ts A_ref12_Tree_Look) : evF ⟨Tryz.prog, [⟨150, A_ref1_Split, R_ref1_Split, ref1_Split N⟩, ⟨152, A_ref1_Join, R_ref1_Join, ref1_Join N⟩, ⟨151, A_ref12_Tree_At, R_ref12_Tree_At, ref12_Tree_At N⟩], [], []⟩ 56 N Tryz.f88.results.toList (Tryz.f88.body.getD .skip) pl_ref12_Tree_Look A_ref12_Tree_Look R_ref12_Tree_Look x = ref12_Tree_Look N x := by kernel_rfl
theorem row_ref12_Tree_Look (N : Nat) : RowOk Tryz.prog ⟨88, A_ref12_Tree_Look, R_ref12_Tree_Look, ref12_Tree_Look N⟩ :=
  row_mk 88 Tryz.f88 A_ref12_Tree_Look R_ref12_Tree_Look (ref12_Tree_Look N) _ _ _ 56 N pl_ref12_Tree_Look (rows_cons (row_ref1_Split N) (rows_cons (row_ref1_Join N) (rows_cons (row_ref12_Tree_At N) rows_nil))) (eqs_nil) mixed Tryz.func88 (by kernel_rfl) Tryz.ntmps88 (by kernel_rfl) (E_ref12_Tree_Look N) (by kernel_rfl)
/-! treering/treeringref12.parent -/
abbrev A_ref12_parent : List Ty := [.c .str]
abbrev R_ref12_parent : List Ty := [.c .str]
noncomputable def ref12_parent (N : Nat) (x : ByteArray) : M (ByteArray) :=
 M.bind (ref1_Split N x) fun (r1 : Sl × Int) =>
 vl (wi ((r1.1.len : Int) - (1 : Int))) fun i2 =>
 subM r1.1 0 i2 (r1.1.cap : Int) 1 fun s3 =>
 M.bind (ref1_Join N s3) fun (r4 : ByteArray) =>
 M.pure r4
noncomputable def pl_ref12_parent : Plan := .leaf
theorem E_ref12_parent (N : Nat) (x : Ts A_ref12_parent) : evF ⟨Tryz.prog, [⟨150, A_ref1_Split, R_ref1_Split, ref1_Split N⟩, ⟨152, A_ref1_Join, R_ref1_Join, ref1_Join N⟩], [], []⟩ 16 N Tryz.f182.results.toList (Tryz.f182.body.getD .skip) pl_ref12_parent A_ref12_parent R_ref12_parent x = ref12_parent N x := by kernel_rfl
theorem row_ref12_parent (N : Nat) : RowOk Tryz.prog ⟨182, A_ref12_parent, R_ref12_parent, ref12_parent N⟩ :=
  row_mk 182 Tryz.f182 A_ref12_parent R_ref12_parent (ref12_parent N) _ _ _ 16 N pl_ref12_parent (rows_cons (row_ref1_Split N) (rows_cons (row_ref1_Join N) rows_nil)) (eqs_nil) mixed Tryz.func182 (by kernel_rfl) Tryz.ntmps182 (by kernel_rfl) (E_ref12_parent N) (by kernel_rfl)
/-! (*treering/treeringref12.Tree).ahead -/
abbrev A_ref12_Tree_ahead : List Ty := [.c .ptr, .c .str]
abbrev R_ref12_Tree_ahead : List Ty := [.c (.int .i64)]
noncomputable def ref12_Tree_ahead (N : Nat) (x : (Option Addr) × ByteArray) : M (Int) :=
 vl (scmp .eql x.2 (⟨#[47]⟩ : ByteArray)) fun t1 =>
 cnd t1 (
 M.pure 0) (
 M.bind (ref12_parent N x.2) fun (r2 : ByteArray) =>
 M.bind (ref12_Tree_Look N (x.1, r2)) fun (r3 : Int × Bool × Int) =>
 M.bind ((
 vl (r3.2.2 == (0 : Int)) fun t4 =>
 cnd t4 (
 vl (!r3.2.1) fun t5 =>
 M.pure t5) (
 M.pure false)) : M (Bool)) fun (r6 : Bool) =>
 cnd r6 (
 M.pure 7) (
 M.pure r3.2.2))
noncomputable def pl_ref12_Tree_ahead : Plan := .kids (.leaf) (.kids (.leaf) (.kids (.leaf) (.kids (.join [(.normal, [(23, .c .bool)])] (.leaf) (.leaf)) (.leaf))))
theorem E_ref12_Tree_ahead (N : Nat) (x : Ts A_ref12_Tree_ahead) : evF ⟨Tryz.prog, [⟨182, A_ref12_parent, R_ref12_parent, ref12_parent N⟩, ⟨88, A_ref12_Tree_Look, R_ref12_Tree_Look, ref12_Tree_Look N⟩], [], []⟩ 25 N Tryz.f197.results.toList (Tryz.f197.body.getD .skip) pl_ref12_Tree_ahead A_ref12_Tree_ahead R_ref12_Tree_ahead x = ref12_Tree_ahead N x := by kernel_rfl
theorem row_ref12_Tree_ahead (N : Nat) : RowOk Tryz.prog ⟨197, A_ref12_Tree_ahead, R_ref12_Tree_ahead, ref12_Tree_ahead N⟩ :=
  row_mk 197 Tryz.f197 A_ref12_Tree_ahead R_ref12_Tree_ahead (ref12_Tree_ahead N) _ _ _ 25 N pl_ref12_Tree_ahead (rows_cons (row_ref12_parent N) (rows_cons (row_ref12_Tree_Look N) rows_nil)) (eqs_nil) mixed Tryz.func197 (by kernel_rfl) Tryz.ntmps197 (by kernel_rfl) (E_ref12_Tree_ahead N) (by kernel_rfl)
/-! (*treering/treeringref12.Tree).put -/
abbrev A_ref12_Tree_put : List Ty := [.c .ptr, .agg [.str, .int .i64, .bool]]
abbrev R_ref12_Tree_put : List Ty := []
noncomputable def ref12_Tree_put_L0 (N : Nat) (x : (Option Addr) × ByteArray × Int × Bool) (b1 : Nat) (s2 : Int) : M (Int ⊕ (Int)) :=
 M.bind ((
 nz x.1 fun a3 =>
 ld [.slice] (Addr.add a3 0) fun (r4 : Sl) =>
 vl (decide (s2 < (r4.len : Int))) fun t5 =>
 cnd t5 (
 nz x.1 fun a6 =>
 ld [.slice] (Addr.add a6 0) fun (r7 : Sl) =>
 ixA r7.a r7.len s2 3 fun a8 =>
 ld [.str] (Addr.add a8 0) fun (r9 : ByteArray) =>
 ld [.str] (Addr.add ⟨b1, 0, none⟩ 0) fun (r10 : ByteArray) =>
 vl (scmp .lss r9 r10) fun t11 =>
 M.pure t11) (
 M.pure false)) : M (Bool)) fun (r12 : Bool) =>
 cnd r12 (
 vl (wi (s2 + (1 : Int))) fun i13 =>
 M.pure (inlS i13)) (
 M.pure (inrS s2))
noncomputable def ref12_Tree_put (N : Nat) (x : (Option Addr) × ByteArray × Int × Bool) : M (Unit) :=
 M.new (ob [.string x.2.1, .int .i64 x.2.2.1, .bool x.2.2.2] 174) fun b1 =>
 M.bind (M.loop N (ref12_Tree_put_L0 N x b1) 0) fun (r14 : Int) =>
 nz x.1 fun a15 =>
 ld [.slice] (Addr.add a15 0) fun (r16 : Sl) =>
 subM r16 0 r14 (r16.cap : Int) 3 fun s17 =>
 ld [.str, .int .i64, .bool] ⟨b1, 0, none⟩ fun (r18 : ByteArray × Int × Bool) =>
 nz x.1 fun a19 =>
 ld [.slice] (Addr.add a19 0) fun (r20 : Sl) =>
 subM r20 r14 (r20.len : Int) (r20.cap : Int) 3 fun s21 =>
 M.bind (appM 174 3 32 [.string (⟨#[]⟩ : ByteArray), .int .i64 0, .bool false] ⟨none, 0, 0⟩ (.sl s17.a s17.len)) fun s22 =>
 M.again (ldR [.slice] (Addr.add a19 0)) r20 <|
 M.again (ldR [.str, .int .i64, .bool] ⟨b1, 0, none⟩) r18 <|
 M.new (ob [.string r18.1, .int .i64 r18.2.1, .bool r18.2.2] 174) fun b23 =>
 M.bind (appM 174 3 32 [.string (⟨#[]⟩ : ByteArray), .int .i64 0, .bool false] s22 (.sl (some ⟨b23, 0, none⟩) 1)) fun s24 =>
 M.again (ldR [.slice] (Addr.add a19 0)) r20 <|
 M.bind (appM 174 3 32 [.string (⟨#[]⟩ : ByteArray), .int .i64 0, .bool false] s24 (.sl s21.a s21.len)) fun s25 =>
 nz x.1 fun a26 =>
 st (Addr.add a26 0) [.slice s25.a s25.len s25.cap] <|
 M.pure ()
noncomputable def pl_ref12_Tree_put : Plan := .kids (.leaf) (.kids (.leaf) (.kids (.kids (.loop [(4, .c (.int .i64))] [(.exit 0, [(4, .c (.int .i64))])] (.kids (.join [(.normal, [(24, .c .bool)])] (.ord [0, 1, 2, 3, 4, 5, 6, 7, 8, 9, 10, 11, 12, 13, 14, 15, 16, 17, 18, 19]) (.leaf)) (.leaf))) .leaf) (.ord [0, 1, 2, 3, 4, 5, 6, 8, 11, 12, 13, 14, 15, 16, 7, 9, 10, 17, 18, 19, 20])))
theorem E_ref12_Tree_put (N : Nat) (x : Ts A_ref12_Tree_put) : evF ⟨Tryz.prog, [], [], []⟩ 47 N Tryz.f198.results.toList (Tryz.f198.body.getD .skip) pl_ref12_Tree_put A_ref12_Tree_put R_ref12_Tree_put x = ref12_Tree_put N x := by kernel_rfl
theorem row_ref12_Tree_put (N : Nat) : RowOk Tryz.prog ⟨198, A_ref12_Tree_put, R_ref12_Tree_put, ref12_Tree_put N⟩ :=
  row_mk 198 Tryz.f198 A_ref12_Tree_put R_ref12_Tree_put (ref12_Tree_put N) _ _ _ 47 N pl_ref12_Tree_put (rows_nil) (eqs_nil) mixed Tryz.func198 (by kernel_rfl) Tryz.ntmps198 (by kernel_rfl) (E_ref12_Tree_put N) (by kernel_rfl)
/-! (*treering/treeringref12.Tree).Make -/
abbrev A_ref12_Tree_Make : List Ty := [.c .ptr, .c .str, .c .bool]
abbrev R_ref12_Tree_Make : List Ty := [.c (.int .i64), .c (.int .i64)]
noncomputable def ref12_Tree_Make (N : Nat) (x : (Option Addr) × ByteArray × Bool) : M (Int × Int) :=
 M.bind (ref1_Split N x.2.1) fun (r1 : Sl × Int) =>
 vl (r1.2 != (0 : Int)) fun t2 =>
 cnd t2 (
 M.pure (0, r1.2)) (
 M.bind (ref12_Tree_ahead N (x.1, x.2.1)) fun (r3 : Int) =>
 vl (r3 != (0 : Int)) fun t4 =>
 cnd t4 (
 M.pure (0, r3)) (
 M.bind (ref12_Tree_At N (x.1, x.2.1)) fun (r5 : Int) =>
 vl (r5 != (-1 : Int)) fun t6 =>
 cnd t6 (
 M.pure (0, 5)) (
 nz x.1 fun a7 =>
 ld [.slice] (Addr.add a7 0) fun (r8 : Sl) =>
 vl (decide ((r8.len : Int) ≥ (64 : Int))) fun t9 =>
 cnd t9 (
 M.pure (0, 12)) (
 nz x.1 fun a10 =>
 ld [.int .i64] (Addr.add a10 1) fun (r11 : Int) =>
 M.bind (ref12_Tree_put N (x.1, (x.2.1, r11, x.2.2))) fun (r12 : Unit) =>
 nz x.1 fun a13 =>
 ld [.int .i64] (Addr.add a13 1) fun (r14 : Int) =>
 vl (wi (r14 + (1 : Int))) fun i15 =>
 nz x.1 fun a16 =>
 st (Addr.add a16 1) [.int .i64 i15] <|
 nz x.1 fun a17 =>
 ld [.int .i64] (Addr.add a17 1) fun (r18 : Int) =>
 vl (wi (r18 - (1 : Int))) fun i19 =>
 M.pure (i19, 0)))))
noncomputable def pl_ref12_Tree_Make : Plan := .leaf
theorem E_ref12_Tree_Make (N : Nat) (x : Ts A_ref12_Tree_Make) : evF ⟨Tryz.prog, [⟨150, A_ref1_Split, R_ref1_Split, ref1_Split N⟩, ⟨197, A_ref12_Tree_ahead, R_ref12_Tree_ahead, ref12_Tree_ahead N⟩, ⟨151, A_ref12_Tree_At, R_ref12_Tree_At, ref12_Tree_At N⟩, ⟨198, A_ref12_Tree_put, R_ref12_Tree_put, ref12_Tree_put N⟩], [], []⟩ 58 N Tryz.f153.results.toList (Tryz.f153.body.getD .skip) pl_ref12_Tree_Make A_ref12_Tree_Make R_ref12_Tree_Make x = ref12_Tree_Make N x := by kernel_rfl
theorem row_ref12_Tree_Make (N : Nat) : RowOk Tryz.prog ⟨153, A_ref12_Tree_Make, R_ref12_Tree_Make, ref12_Tree_Make N⟩ :=
  row_mk 153 Tryz.f153 A_ref12_Tree_Make R_ref12_Tree_Make (ref12_Tree_Make N) _ _ _ 58 N pl_ref12_Tree_Make (rows_cons (row_ref1_Split N) (rows_cons (row_ref12_Tree_ahead N) (rows_cons (row_ref12_Tree_At N) (rows_cons (row_ref12_Tree_put N) rows_nil)))) (eqs_nil) mixed Tryz.func153 (by kernel_rfl) Tryz.ntmps153 (by kernel_rfl) (E_ref12_Tree_Make N) (by kernel_rfl)
/-! treering/treeringref1.Under -/
abbrev A_ref1_Under : List Ty := [.c .str, .c .str]
abbrev R_ref1_Under : List Ty := [.c .bool]
noncomputable def ref1_Under_L0 (N : Nat) (r1 : Sl × Int) (r2 : Sl × Int) (s7 : Int) : M (Int ⊕ (Unit ⊕ Bool)) :=
 vl (decide (s7 < (r2.1.len : Int))) fun t8 =>
 cnd t8 (
 ixA r1.1.a r1.1.len s7 1 fun a9 =>
 ld [.str] a9 fun (r10 : ByteArray) =>
 ixA r2.1.a r2.1.len s7 1 fun a11 =>
 ld [.str] a11 fun (r12 : ByteArray) =>
 vl (scmp .neq r10 r12) fun t13 =>
 cnd t13 (
 M.pure (inrS (.inr false))) (
 vl (wi (s7 + (1 : Int))) fun i14 =>
 M.pure (inlS i14))) (
 M.pure (inrS (.inl ())))
noncomputable def ref1_Under (N : Nat) (x : ByteArray × ByteArray) : M (Bool) :=
 M.bind (ref1_Split N x.1) fun (r1 : Sl × Int) =>
 M.bind (ref1_Split N x.2) fun (r2 : Sl × Int) =>
 M.bind ((
 vl (r1.2 != (0 : Int)) fun t3 =>
 cnd t3 (
 M.pure true) (
 vl (r2.2 != (0 : Int)) fun t4 =>
 cnd t4 (
 M.pure true) (
 vl (decide ((r1.1.len : Int) ≤ (r2.1.len : Int))) fun t5 =>
 M.pure t5))) : M (Bool)) fun (r6 : Bool) =>
 cnd r6 (
 M.pure false) (
 M.bind (M.loop N (ref1_Under_L0 N r1 r2) 0) fun (r15 : Unit ⊕ Bool) =>
 sumM r15 (fun (q16 : Unit) =>
 M.pure true) fun (r17 : Bool) =>
 M.pure r17)
noncomputable def pl_ref1_Under : Plan := .kids (.leaf) (.kids (.leaf) (.kids (.leaf) (.kids (.join [(.normal, [(32, .c .bool)])] (.leaf) (.leaf)) (.kids (.kids (.leaf) (.kids (.loop [(9, .c (.int .i64))] [(.exit 0, []), (.ret, [(4, .c .bool)])] (.kids (.leaf) (.kids (.kids (.kids (.ord [0, 1, 2, 3, 4, 5, 6, 7, 8]) (.leaf)) .leaf) (.leaf)))) .leaf)) (.leaf)))))
theorem E_ref1_Under (N : Nat) (x : Ts A_ref1_Under) : evF ⟨Tryz.prog, [⟨150, A_ref1_Split, R_ref1_Split, ref1_Split N⟩], [], []⟩ 48 N Tryz.f199.results.toList (Tryz.f199.body.getD .skip) pl_ref1_Under A_ref1_Under R_ref1_Under x = ref1_Under N x := by kernel_rfl
theorem row_ref1_Under (N : Nat) : RowOk Tryz.prog ⟨199, A_ref1_Under, R_ref1_Under, ref1_Under N⟩ :=
  row_mk 199 Tryz.f199 A_ref1_Under R_ref1_Under (ref1_Under N) _ _ _ 48 N pl_ref1_Under (rows_cons (row_ref1_Split N) rows_nil) (eqs_nil) mixed Tryz.func199 (by kernel_rfl) Tryz.ntmps199 (by kernel_rfl) (E_ref1_Under N) (by kernel_rfl)
/-! (*treering/treeringref12.Tree).Rename -/
abbrev A_ref12_Tree_Rename : List Ty := [.c .ptr, .c .str, .c .str]
abbrev R_ref12_Tree_Rename : List Ty := [.c (.int .i64), .c (.int .i64)]
noncomputable def ref12_Tree_Rename_L0 (N : Nat) (x : (Option Addr) × ByteArray × ByteArray) (r1 : Sl × Int) (r2 : Sl × Int) (r26 : Int) (r6 : Int × Bool × Int) (s27 : Sl × Sl × Int) : M ((Sl × Sl × Int) ⊕ ((Sl × Sl) ⊕ (Int × Int))) :=
 nz x.1 fun a28 =>
 ld [.slice] (Addr.add a28 0) fun (r29 : Sl) =>
 vl (decide (s27.2.2 < (r29.len : Int))) fun t30 =>
 cnd t30 (
 M.bind ((
 nz x.1 fun a31 =>
 ld [.slice] (Addr.add a31 0) fun (r32 : Sl) =>
 ixA r32.a r32.len s27.2.2 3 fun a33 =>
 ld [.str, .int .i64, .bool] a33 fun (r34 : ByteArray × Int × Bool) =>
 M.new (ob [.string (⟨#[]⟩ : ByteArray), .int .i64 0, .bool false] 174) fun b35 =>
 st ⟨b35, 0, none⟩ [.string r34.1, .int .i64 r34.2.1, .bool r34.2.2] <|
 M.bind ((
 ld [.int .i64] (Addr.add ⟨b35, 0, none⟩ 1) fun (r36 : Int) =>
 vl (r36 == r6.1) fun t37 =>
 cnd t37 (
 M.pure true) (
 ld [.str] (Addr.add ⟨b35, 0, none⟩ 0) fun (r38 : ByteArray) =>
 M.bind (ref1_Under N (r38, x.2.1)) fun (r39 : Bool) =>
 M.pure r39)) : M (Bool)) fun (r40 : Bool) =>
 cnd r40 (
 ld [.str] (Addr.add ⟨b35, 0, none⟩ 0) fun (r41 : ByteArray) =>
 M.bind (ref1_Split N r41) fun (r42 : Sl × Int) =>
 subM r42.1 (r1.1.len : Int) (r42.1.len : Int) (r42.1.cap : Int) 1 fun s43 =>
 M.bind (appM 9 1 16 [.string (⟨#[]⟩ : ByteArray)] ⟨none, 0, 0⟩ (.sl r2.1.a r2.1.len)) fun s44 =>
 M.bind (appM 9 1 16 [.string (⟨#[]⟩ : ByteArray)] s44 (.sl s43.a s43.len)) fun s45 =>
 M.bind (ref1_Join N s45) fun (r46 : ByteArray) =>
 st (Addr.add ⟨b35, 0, none⟩ 0) [.string r46] <|
 ld [.str] (Addr.add ⟨b35, 0, none⟩ 0) fun (r47 : ByteArray) =>
 M.bind (ref1_Split N r47) fun (r48 : Sl × Int) =>
 vl (r48.2 != (0 : Int)) fun t49 =>
 cnd t49 (
 M.pure (.inr (0, 3))) (
 ld [.str, .int .i64, .bool] ⟨b35, 0, none⟩ fun (r50 : ByteArray × Int × Bool) =>
 M.new (ob [.string r50.1, .int .i64 r50.2.1, .bool r50.2.2] 174) fun b51 =>
 M.bind (appM 174 3 32 [.string (⟨#[]⟩ : ByteArray), .int .i64 0, .bool false] s27.1 (.sl (some ⟨b51, 0, none⟩) 1)) fun s52 =>
 M.pure (.inl (s52, s27.2.1)))) (
 ld [.int .i64] (Addr.add ⟨b35, 0, none⟩ 1) fun (r53 : Int) =>
 vl (r53 != r26) fun t54 =>
 cnd t54 (
 ld [.str, .int .i64, .bool] ⟨b35, 0, none⟩ fun (r55 : ByteArray × Int × Bool) =>
 M.new (ob [.string r55.1, .int .i64 r55.2.1, .bool r55.2.2] 174) fun b56 =>
 M.bind (appM 174 3 32 [.string (⟨#[]⟩ : ByteArray), .int .i64 0, .bool false] s27.2.1 (.sl (some ⟨b56, 0, none⟩) 1)) fun s57 =>
 M.pure (.inl (s27.1, s57))) (
 M.pure (.inl (s27.1, s27.2.1))))) : M ((Sl × Sl) ⊕ (Int × Int))) fun (r58 : (Sl × Sl) ⊕ (Int × Int)) =>
 sumM r58 (fun (q59 : Sl × Sl) =>
 vl (wi (s27.2.2 + (1 : Int))) fun i61 =>
 M.pure (inlS (q59.1, q59.2, i61))) fun (r60 : (Int × Int)) =>
 M.pure (inrS (.inr (r60.1, r60.2)))) (
 M.pure (inrS (.inl (s27.1, s27.2.1))))
noncomputable def ref12_Tree_Rename_L1 (N : Nat) (x : (Option Addr) × ByteArray × ByteArray) (q63 : Sl × Sl) (s66 : Int) : M (Int ⊕ (Unit)) :=
 vl (decide (s66 < (q63.1.len : Int))) fun t67 =>
 cnd t67 (
 ixA q63.1.a q63.1.len s66 3 fun a68 =>
 ld [.str, .int .i64, .bool] a68 fun (r69 : ByteArray × Int × Bool) =>
 M.bind (ref12_Tree_put N (x.1, (r69.1, r69.2.1, r69.2.2))) fun (r70 : Unit) =>
 vl (wi (s66 + (1 : Int))) fun i71 =>
 M.pure (inlS i71)) (
 M.pure (inrS ()))
noncomputable def ref12_Tree_Rename (N : Nat) (x : (Option Addr) × ByteArray × ByteArray) : M (Int × Int) :=
 M.bind (ref1_Split N x.2.1) fun (r1 : Sl × Int) =>
 M.bind (ref1_Split N x.2.2) fun (r2 : Sl × Int) =>
 M.bind ((
 vl (r1.2 != (0 : Int)) fun t3 =>
 cnd t3 (
 M.pure true) (
 vl (r2.2 != (0 : Int)) fun t4 =>
 M.pure t4)) : M (Bool)) fun (r5 : Bool) =>
 cnd r5 (
 M.pure (0, 3)) (
 M.bind (ref12_Tree_Look N (x.1, x.2.1)) fun (r6 : Int × Bool × Int) =>
 vl (r6.2.2 != (0 : Int)) fun t7 =>
 cnd t7 (
 M.pure (0, r6.2.2)) (
 vl ((r1.1.len : Int) == (0 : Int)) fun t8 =>
 cnd t8 (
 M.pure (0, 8)) (
 M.bind (ref1_Under N (x.2.2, x.2.1)) fun (r9 : Bool) =>
 cnd r9 (
 M.pure (0, 10)) (
 M.bind (ref12_Tree_ahead N (x.1, x.2.2)) fun (r10 : Int) =>
 vl (r10 != (0 : Int)) fun t11 =>
 cnd t11 (
 M.pure (0, r10)) (
 vl (scmp .eql x.2.1 x.2.2) fun t12 =>
 cnd t12 (
 M.pure (-1, 0)) (
 M.bind (ref12_Tree_At N (x.1, x.2.2)) fun (r13 : Int) =>
 M.bind ((
 vl ((r2.1.len : Int) == (0 : Int)) fun t14 =>
 cnd t14 (
 M.pure true) (
 vl (decide (r13 ≥ (0 : Int))) fun t15 =>
 cnd t15 (
 nz x.1 fun a16 =>
 ld [.slice] (Addr.add a16 0) fun (r17 : Sl) =>
 ixA r17.a r17.len r13 3 fun a18 =>
 ld [.bool] (Addr.add a18 2) fun (r19 : Bool) =>
 cnd r19 (
 M.pure true) (
 M.pure r6.2.1)) (
 M.pure false))) : M (Bool)) fun (r20 : Bool) =>
 cnd r20 (
 M.pure (0, 5)) (
 M.bind ((
 vl (decide (r13 ≥ (0 : Int))) fun t21 =>
 cnd t21 (
 nz x.1 fun a22 =>
 ld [.slice] (Addr.add a22 0) fun (r23 : Sl) =>
 ixA r23.a r23.len r13 3 fun a24 =>
 ld [.int .i64] (Addr.add a24 1) fun (r25 : Int) =>
 M.pure r25) (
 M.pure (-1))) : M (Int)) fun (r26 : Int) =>
 M.bind (M.loop N (ref12_Tree_Rename_L0 N x r1 r2 r26 r6) (⟨none, 0, 0⟩, ⟨none, 0, 0⟩, 0)) fun (r62 : (Sl × Sl) ⊕ (Int × Int)) =>
 sumM r62 (fun (q63 : Sl × Sl) =>
 nz x.1 fun a65 =>
 st (Addr.add a65 0) [.slice q63.2.a q63.2.len q63.2.cap] <|
 M.bind (M.loop N (ref12_Tree_Rename_L1 N x q63) 0) fun (r72 : Unit) =>
 M.pure (r26, 0)) fun (r64 : (Int × Int)) =>
 M.pure (r64.1, r64.2))))))))
noncomputable def pl_ref12_Tree_Rename : Plan := .kids (.leaf) (.kids (.leaf) (.kids (.leaf) (.kids (.join [(.normal, [(41, .c .bool)])] (.leaf) (.leaf)) (.kids (.leaf) (.kids (.leaf) (.kids (.leaf) (.kids (.leaf) (.kids (.leaf) (.kids (.leaf) (.kids (.leaf) (.kids (.leaf) (.kids (.leaf) (.kids (.join [(.normal, [(89, .c .bool)])] (.leaf) (.leaf)) (.join [(.normal, [(15, .c (.int .i64))])] (.leaf) (.kids (.leaf) (.kids (.kids (.leaf) (.kids (.loop [(17, .c .slice), (18, .c .slice), (19, .c (.int .i64))] [(.exit 0, [(17, .c .slice), (18, .c .slice)]), (.ret, [(6, .c (.int .i64)), (7, .c (.int .i64))])] (.kids (.leaf) (.join [(.normal, [(17, .c .slice), (18, .c .slice)]), (.ret, [(6, .c (.int .i64)), (7, .c (.int .i64))])] (.kids (.kids (.leaf) (.join [(.normal, [(125, .c .bool)])] (.leaf) (.kids (.kids (.leaf) (.kids (.ord [0, 2, 3, 4, 5, 1, 6, 7, 8, 9]) (.leaf))) (.leaf)))) .leaf) (.leaf)))) .leaf)) (.kids (.leaf) (.kids (.kids (.leaf) (.kids (.loop [(25, .c (.int .i64))] [(.exit 2, [])] (.leaf)) .leaf)) (.leaf)))))))))))))))))))
theorem E_ref12_Tree_Rename (N : Nat) (x : Ts A_ref12_Tree_Rename) : evF ⟨Tryz.prog, [⟨150, A_ref1_Split, R_ref1_Split, ref1_Split N⟩, ⟨88, A_ref12_Tree_Look, R_ref12_Tree_Look, ref12_Tree_Look N⟩, ⟨199, A_ref1_Under, R_ref1_Under, ref1_Under N⟩, ⟨197, A_ref12_Tree_ahead, R_ref12_Tree_ahead, ref12_Tree_ahead N⟩, ⟨151, A_ref12_Tree_At, R_ref12_Tree_At, ref12_Tree_At N⟩, ⟨152, A_ref1_Join, R_ref1_Join, ref1_Join N⟩, ⟨198, A_ref12_Tree_put, R_ref12_Tree_put, ref12_Tree_put N⟩], [], []⟩ 178 N Tryz.f154.results.toList (Tryz.f154.body.getD .skip) pl_ref12_Tree_Rename A_ref12_Tree_Rename R_ref12_Tree_Rename x = ref12_Tree_Rename N x := by kernel_rfl
theorem row_ref12_Tree_Rename (N : Nat) : RowOk Tryz.prog ⟨154, A_ref12_Tree_Rename, R_ref12_Tree_Rename, ref12_Tree_Rename N⟩ :=
  row_mk 154 Tryz.f154 A_ref12_Tree_Rename R_ref12_Tree_Rename (ref12_Tree_Rename N) _ _ _ 178 N pl_ref12_Tree_Rename (rows_cons (row_ref1_Split N) (rows_cons (row_ref12_Tree_Look N) (rows_cons (row_ref1_Under N) (rows_cons (row_ref12_Tree_ahead N) (rows_cons (row_ref12_Tree_At N) (rows_cons (row_ref1_Join N) (rows_cons (row_ref12_Tree_put N) rows_nil))))))) (eqs_nil) mixed Tryz.func154 (by kernel_rfl) Tryz.ntmps154 (by kernel_rfl) (E_ref12_Tree_Rename N) (by kernel_rfl)
/-! (*treering/treeringref12.State).drop -/
abbrev A_ref12_State_drop : List Ty := [.c .ptr, .c (.int .i64)]
abbrev R_ref12_State_drop : List Ty := []
noncomputable def ref12_State_drop_L0 (N : Nat) (x : (Option Addr) × Int) (s1 : Sl × Int) : M ((Sl × Int) ⊕ (Sl)) :=
 nz x.1 fun a2 =>
 ld [.slice] (Addr.add a2 2) fun (r3 : Sl) =>
 vl (decide (s1.2 < (r3.len : Int))) fun t4 =>
 cnd t4 (
 M.bind ((
 nz x.1 fun a5 =>
 ld [.slice] (Addr.add a5 2) fun (r6 : Sl) =>
 ixA r6.a r6.len s1.2 3 fun a7 =>
 ld [.int .i64] (Addr.add a7 0) fun (r8 : Int) =>
 vl (r8 != x.2) fun t9 =>
 cnd t9 (
 nz x.1 fun a10 =>
 ld [.slice] (Addr.add a10 2) fun (r11 : Sl) =>
 ixA r11.a r11.len s1.2 3 fun a12 =>
 ld [.int .i64, .int .i64, .slice] a12 fun (r13 : Int × Int × Sl) =>
 M.new (ob [.int .i64 r13.1, .int .i64 r13.2.1, .slice r13.2.2.a r13.2.2.len r13.2.2.cap] 70) fun b14 =>
 M.bind (appM 70 3 40 [.int .i64 0, .int .i64 0, .slice none 0 0] s1.1 (.sl (some ⟨b14, 0, none⟩) 1)) fun s15 =>
 M.pure s15) (
 M.pure s1.1)) : M (Sl)) fun (r16 : Sl) =>
 vl (wi (s1.2 + (1 : Int))) fun i17 =>
 M.pure (inlS (r16, i17))) (
 M.pure (inrS s1.1))
noncomputable def ref12_State_drop (N : Nat) (x : (Option Addr) × Int) : M (Unit) :=
 M.bind (M.loop N (ref12_State_drop_L0 N x) (⟨none, 0, 0⟩, 0)) fun (r18 : Sl) =>
 nz x.1 fun a19 =>
 st (Addr.add a19 2) [.slice r18.a r18.len r18.cap] <|
 M.pure ()
noncomputable def pl_ref12_State_drop : Plan := .kids (.leaf) (.kids (.kids (.leaf) (.kids (.loop [(4, .c .slice), (5, .c (.int .i64))] [(.exit 0, [(4, .c .slice)])] (.kids (.leaf) (.join [(.normal, [(4, .c .slice)])] (.leaf) (.leaf)))) .leaf)) (.leaf))
theorem E_ref12_State_drop (N : Nat) (x : Ts A_ref12_State_drop) : evF ⟨Tryz.prog, [], [], []⟩ 39 N Tryz.f155.results.toList (Tryz.f155.body.getD .skip) pl_ref12_State_drop A_ref12_State_drop R_ref12_State_drop x = ref12_State_drop N x := by kernel_rfl
theorem row_ref12_State_drop (N : Nat) : RowOk Tryz.prog ⟨155, A_ref12_State_drop, R_ref12_State_drop, ref12_State_drop N⟩ :=
  row_mk 155 Tryz.f155 A_ref12_State_drop R_ref12_State_drop (ref12_State_drop N) _ _ _ 39 N pl_ref12_State_drop (rows_nil) (eqs_nil) mixed Tryz.func155 (by kernel_rfl) Tryz.ntmps155 (by kernel_rfl) (E_ref12_State_drop N) (by kernel_rfl)
/-! (*treering/treeringref12.Tree).Drop -/
abbrev A_ref12_Tree_Drop : List Ty := [.c .ptr, .c .str, .c .bool]
abbrev R_ref12_Tree_Drop : List Ty := [.c (.int .i64), .c (.int .i64)]
noncomputable def ref12_Tree_Drop_L0 (N : Nat) (x : (Option Addr) × ByteArray × Bool) (r1 : Int × Bool × Int) (s8 : Sl × Int) : M ((Sl × Int) ⊕ (Sl ⊕ (Int × Int))) :=
 nz x.1 fun a9 =>
 ld [.slice] (Addr.add a9 0) fun (r10 : Sl) =>
 vl (decide (s8.2 < (r10.len : Int))) fun t11 =>
 cnd t11 (
 M.bind ((
 nz x.1 fun a12 =>
 ld [.slice] (Addr.add a12 0) fun (r13 : Sl) =>
 ixA r13.a r13.len s8.2 3 fun a14 =>
 ld [.str] (Addr.add a14 0) fun (r15 : ByteArray) =>
 M.bind (ref1_Under N (r15, x.2.1)) fun (r16 : Bool) =>
 cnd r16 (
 M.pure (.inr (0, 8))) (
 nz x.1 fun a17 =>
 ld [.slice] (Addr.add a17 0) fun (r18 : Sl) =>
 ixA r18.a r18.len s8.2 3 fun a19 =>
 ld [.int .i64] (Addr.add a19 1) fun (r20 : Int) =>
 vl (r20 != r1.1) fun t21 =>
 cnd t21 (
 nz x.1 fun a22 =>
 ld [.slice] (Addr.add a22 0) fun (r23 : Sl) =>
 ixA r23.a r23.len s8.2 3 fun a24 =>
 ld [.str, .int .i64, .bool] a24 fun (r25 : ByteArray × Int × Bool) =>
 M.new (ob [.string r25.1, .int .i64 r25.2.1, .bool r25.2.2] 174) fun b26 =>
 M.bind (appM 174 3 32 [.string (⟨#[]⟩ : ByteArray), .int .i64 0, .bool false] s8.1 (.sl (some ⟨b26, 0, none⟩) 1)) fun s27 =>
 M.pure (.inl s27)) (
 M.pure (.inl s8.1)))) : M (Sl ⊕ (Int × Int))) fun (r28 : Sl ⊕ (Int × Int)) =>
 sumM r28 (fun (q29 : Sl) =>
 vl (wi (s8.2 + (1 : Int))) fun i31 =>
 M.pure (inlS (q29, i31))) fun (r30 : (Int × Int)) =>
 M.pure (inrS (.inr (r30.1, r30.2)))) (
 M.pure (inrS (.inl s8.1)))
noncomputable def ref12_Tree_Drop (N : Nat) (x : (Option Addr) × ByteArray × Bool) : M (Int × Int) :=
 M.bind (ref12_Tree_Look N (x.1, x.2.1)) fun (r1 : Int × Bool × Int) =>
 vl (r1.2.2 != (0 : Int)) fun t2 =>
 cnd t2 (
 M.pure (0, r1.2.2)) (
 M.bind ((
 vl (!x.2.2) fun t3 =>
 cnd t3 (
 M.pure r1.2.1) (
 M.pure false)) : M (Bool)) fun (r4 : Bool) =>
 cnd r4 (
 M.pure (0, 6)) (
 M.bind ((
 cnd x.2.2 (
 vl (!r1.2.1) fun t5 =>
 M.pure t5) (
 M.pure false)) : M (Bool)) fun (r6 : Bool) =>
 cnd r6 (
 M.pure (0, 7)) (
 vl (r1.1 == (0 : Int)) fun t7 =>
 cnd t7 (
 M.pure (0, 8)) (
 M.bind (M.loop N (ref12_Tree_Drop_L0 N x r1) (⟨none, 0, 0⟩, 0)) fun (r32 : Sl ⊕ (Int × Int)) =>
 sumM r32 (fun (q33 : Sl) =>
 nz x.1 fun a35 =>
 st (Addr.add a35 0) [.slice q33.a q33.len q33.cap] <|
 M.pure (r1.1, 0)) fun (r34 : (Int × Int)) =>
 M.pure (r34.1, r34.2)))))
noncomputable def pl_ref12_Tree_Drop : Plan := .kids (.leaf) (.kids (.leaf) (.kids (.kids (.kids (.leaf) (.kids (.leaf) (.join [(.normal, [(24, .c .bool)])] (.leaf) (.kids (.leaf) (.join [(.normal, [(30, .c .bool)])] (.leaf) (.leaf)))))) .leaf) (.kids (.leaf) (.kids (.kids (.leaf) (.kids (.loop [(11, .c .slice), (12, .c (.int .i64))] [(.exit 1, [(11, .c .slice)]), (.ret, [(6, .c (.int .i64)), (7, .c (.int .i64))])] (.kids (.leaf) (.join [(.normal, [(11, .c .slice)]), (.ret, [(6, .c (.int .i64)), (7, .c (.int .i64))])] (.leaf) (.leaf)))) .leaf)) (.leaf)))))
theorem E_ref12_Tree_Drop (N : Nat) (x : Ts A_ref12_Tree_Drop) : evF ⟨Tryz.prog, [⟨88, A_ref12_Tree_Look, R_ref12_Tree_Look, ref12_Tree_Look N⟩, ⟨199, A_ref1_Under, R_ref1_Under, ref1_Under N⟩], [], []⟩ 83 N Tryz.f156.results.toList (Tryz.f156.body.getD .skip) pl_ref12_Tree_Drop A_ref12_Tree_Drop R_ref12_Tree_Drop x = ref12_Tree_Drop N x := by kernel_rfl
theorem row_ref12_Tree_Drop (N : Nat) : RowOk Tryz.prog ⟨156, A_ref12_Tree_Drop, R_ref12_Tree_Drop, ref12_Tree_Drop N⟩ :=
  row_mk 156 Tryz.f156 A_ref12_Tree_Drop R_ref12_Tree_Drop (ref12_Tree_Drop N) _ _ _ 83 N pl_ref12_Tree_Drop (rows_cons (row_ref12_Tree_Look N) (rows_cons (row_ref1_Under N) rows_nil)) (eqs_nil) mixed Tryz.func156 (by kernel_rfl) Tryz.ntmps156 (by kernel_rfl) (E_ref12_Tree_Drop N) (by kernel_rfl)
/-! (*treering/treeringref12.State).names -/
abbrev A_ref12_State_names : List Ty := [.c .ptr, .agg [.int .i64, .str, .str, .int .i64, .int .i64, .slice]]
abbrev R_ref12_State_names : List Ty := [.c (.int .i64)]
noncomputable def ref12_State_names (N : Nat) (x : (Option Addr) × Int × ByteArray × ByteArray × Int × Int × Sl) : M (Int) :=
 M.new (ob [.int .i64 x.2.1, .string x.2.2.1, .string x.2.2.2.1, .int .i64 x.2.2.2.2.1, .int .i64 x.2.2.2.2.2.1, .slice x.2.2.2.2.2.2.a x.2.2.2.2.2.2.len x.2.2.2.2.2.2.cap] 31) fun b1 =>
 ld [.int .i64] (Addr.add ⟨b1, 0, none⟩ 0) fun (r2 : Int) =>
 M.bind ((
 vl (r2 == (1 : Int)) fun t3 =>
 cnd t3 (
 M.pure t3) (
 vl (r2 == (2 : Int)) fun t4 =>
 M.pure t4)) : M (Bool)) fun (r5 : Bool) =>
 cnd r5 (
 nz x.1 fun a6 =>
 ld [.str] (Addr.add ⟨b1, 0, none⟩ 1) fun (r7 : ByteArray) =>
 ld [.int .i64] (Addr.add ⟨b1, 0, none⟩ 0) fun (r8 : Int) =>
 vl (r8 == (2 : Int)) fun t9 =>
 M.bind (ref12_Tree_Make N ((some (Addr.add a6 0)), r7, t9)) fun (r10 : Int × Int) =>
 M.bind ((
 M.bind ((
 vl (r10.2 == (0 : Int)) fun t11 =>
 cnd t11 (
 ld [.int .i64] (Addr.add ⟨b1, 0, none⟩ 0) fun (r12 : Int) =>
 vl (r12 == (1 : Int)) fun t13 =>
 M.pure t13) (
 M.pure false)) : M (Bool)) fun (r14 : Bool) =>
 cnd r14 (
 nz x.1 fun a15 =>
 ld [.slice] (Addr.add a15 2) fun (r16 : Sl) =>
 M.bind (appM 70 3 40 [.int .i64 0, .int .i64 0, .slice none 0 0] ⟨none, 0, 0⟩ (.sl r16.a r16.len)) fun s17 =>
 M.new (ob [.int .i64 r10.1, .int .i64 0, .slice none 0 0] 70) fun b18 =>
 M.bind (appM 70 3 40 [.int .i64 0, .int .i64 0, .slice none 0 0] s17 (.sl (some ⟨b18, 0, none⟩) 1)) fun s19 =>
 nz x.1 fun a20 =>
 st (Addr.add a20 2) [.slice s19.a s19.len s19.cap] <|
 M.pure ()) (
 M.pure ())) : M (Unit)) fun (r21 : Unit) =>
 M.pure r10.2) (
 vl (r2 == (5 : Int)) fun t22 =>
 cnd t22 (
 nz x.1 fun a23 =>
 ld [.str] (Addr.add ⟨b1, 0, none⟩ 1) fun (r24 : ByteArray) =>
 ld [.str] (Addr.add ⟨b1, 0, none⟩ 2) fun (r25 : ByteArray) =>
 M.bind (ref12_Tree_Rename N ((some (Addr.add a23 0)), r24, r25)) fun (r26 : Int × Int) =>
 M.bind ((
 M.bind ((
 vl (r26.2 == (0 : Int)) fun t27 =>
 cnd t27 (
 vl (decide (r26.1 ≥ (0 : Int))) fun t28 =>
 M.pure t28) (
 M.pure false)) : M (Bool)) fun (r29 : Bool) =>
 cnd r29 (
 M.bind (ref12_State_drop N (x.1, r26.1)) fun (r30 : Unit) =>
 M.pure ()) (
 M.pure ())) : M (Unit)) fun (r31 : Unit) =>
 M.pure r26.2) (
 M.bind ((
 vl (r2 == (6 : Int)) fun t32 =>
 cnd t32 (
 M.pure t32) (
 vl (r2 == (7 : Int)) fun t33 =>
 M.pure t33)) : M (Bool)) fun (r34 : Bool) =>
 cnd r34 (
 nz x.1 fun a35 =>
 ld [.str] (Addr.add ⟨b1, 0, none⟩ 1) fun (r36 : ByteArray) =>
 ld [.int .i64] (Addr.add ⟨b1, 0, none⟩ 0) fun (r37 : Int) =>
 vl (r37 == (7 : Int)) fun t38 =>
 M.bind (ref12_Tree_Drop N ((some (Addr.add a35 0)), r36, t38)) fun (r39 : Int × Int) =>
 M.bind ((
 vl (r39.2 == (0 : Int)) fun t40 =>
 cnd t40 (
 M.bind (ref12_State_drop N (x.1, r39.1)) fun (r41 : Unit) =>
 M.pure ()) (
 M.pure ())) : M (Unit)) fun (r42 : Unit) =>
 M.pure r39.2) (
 ld [.str] (Addr.add ⟨b1, 0, none⟩ 1) fun (r43 : ByteArray) =>
 M.bind (ref1_Name N r43) fun (r44 : Bool) =>
 vl (!r44) fun t45 =>
 cnd t45 (
 M.pure 11) (
 M.pure 0))))
noncomputable def pl_ref12_State_names : Plan := .kids (.leaf) (.kids (.kids (.leaf) (.kids (.join [(.normal, [(13, .c .bool)])] (.leaf) (.kids (.kids (.ord [0, 1, 2, 3, 4, 5, 6, 7, 8, 9, 10, 11, 12, 13]) (.join [(.normal, [])] (.join [(.normal, [(34, .c .bool)])] (.leaf) (.leaf)) (.leaf))) (.kids (.leaf) (.kids (.kids (.ord [0, 1, 2, 3, 4, 5, 6, 7, 8, 9, 10, 11, 12]) (.join [(.normal, [])] (.join [(.normal, [(66, .c .bool)])] (.leaf) (.leaf)) (.leaf))) (.join [(.normal, [(71, .c .bool)])] (.leaf) (.kids (.kids (.ord [0, 1, 2, 3, 4, 5, 6, 7, 8, 9, 10, 11, 12, 13]) (.join [(.normal, [])] (.leaf) (.leaf))) (.leaf))))))) .leaf)) (.leaf))
theorem E_ref12_State_names (N : Nat) (x : Ts A_ref12_State_names) : evF ⟨Tryz.prog, [⟨153, A_ref12_Tree_Make, R_ref12_Tree_Make, ref12_Tree_Make N⟩, ⟨154, A_ref12_Tree_Rename, R_ref12_Tree_Rename, ref12_Tree_Rename N⟩, ⟨155, A_ref12_State_drop, R_ref12_State_drop, ref12_State_drop N⟩, ⟨156, A_ref12_Tree_Drop, R_ref12_Tree_Drop, ref12_Tree_Drop N⟩, ⟨157, A_ref1_Name, R_ref1_Name, ref1_Name N⟩], [], []⟩ 96 N Tryz.f89.results.toList (Tryz.f89.body.getD .skip) pl_ref12_State_names A_ref12_State_names R_ref12_State_names x = ref12_State_names N x := by kernel_rfl
theorem row_ref12_State_names (N : Nat) : RowOk Tryz.prog ⟨89, A_ref12_State_names, R_ref12_State_names, ref12_State_names N⟩ :=
  row_mk 89 Tryz.f89 A_ref12_State_names R_ref12_State_names (ref12_State_names N) _ _ _ 96 N pl_ref12_State_names (rows_cons (row_ref12_Tree_Make N) (rows_cons (row_ref12_Tree_Rename N) (rows_cons (row_ref12_State_drop N) (rows_cons (row_ref12_Tree_Drop N) (rows_cons (row_ref1_Name N) rows_nil))))) (eqs_nil) mixed Tryz.func89 (by kernel_rfl) Tryz.ntmps89 (by kernel_rfl) (E_ref12_State_names N) (by kernel_rfl)
/-! (*treering/treeringref12.State).Check -/
abbrev A_ref12_State_Check : List Ty := [.c .ptr, .agg [.int .i64, .str, .str, .int .i64, .int .i64, .slice]]
abbrev R_ref12_State_Check : List Ty := [.c (.int .i64)]
noncomputable def ref12_State_Check (N : Nat) (x : (Option Addr) × Int × ByteArray × ByteArray × Int × Int × Sl) : M (Int) :=
 M.new (ob [.int .i64 x.2.1, .string x.2.2.1, .string x.2.2.2.1, .int .i64 x.2.2.2.2.1, .int .i64 x.2.2.2.2.2.1, .slice x.2.2.2.2.2.2.a x.2.2.2.2.2.2.len x.2.2.2.2.2.2.cap] 31) fun b1 =>
 M.bind ((
 ld [.int .i64] (Addr.add ⟨b1, 0, none⟩ 0) fun (r2 : Int) =>
 vl (decide (r2 < (1 : Int))) fun t3 =>
 cnd t3 (
 M.pure true) (
 ld [.int .i64] (Addr.add ⟨b1, 0, none⟩ 0) fun (r4 : Int) =>
 vl (decide (r4 > (8 : Int))) fun t5 =>
 M.pure t5)) : M (Bool)) fun (r6 : Bool) =>
 cnd r6 (
 M.pure 1) (
 M.bind ((
 ld [.int .i64] (Addr.add ⟨b1, 0, none⟩ 0) fun (r7 : Int) =>
 vl (r7 == (3 : Int)) fun t8 =>
 cnd t8 (
 M.pure true) (
 ld [.int .i64] (Addr.add ⟨b1, 0, none⟩ 0) fun (r9 : Int) =>
 vl (r9 == (4 : Int)) fun t10 =>
 M.pure t10)) : M (Bool)) fun (r11 : Bool) =>
 cnd r11 (
 nz x.1 fun a12 =>
 ld [.str] (Addr.add ⟨b1, 0, none⟩ 1) fun (r13 : ByteArray) =>
 M.bind (ref12_Tree_Look N ((some (Addr.add a12 0)), r13)) fun (r14 : Int × Bool × Int) =>
 vl (r14.2.2 != (0 : Int)) fun t15 =>
 cnd t15 (
 M.pure r14.2.2) (
 cnd r14.2.1 (
 M.pure 6) (
 M.bind ((
 ld [.int .i64] (Addr.add ⟨b1, 0, none⟩ 0) fun (r16 : Int) =>
 vl (r16 == (3 : Int)) fun t17 =>
 cnd t17 (
 ld [.slice] (Addr.add ⟨b1, 0, none⟩ 5) fun (r18 : Sl) =>
 vl (decide ((r18.len : Int) > (1024 : Int))) fun t19 =>
 M.pure t19) (
 M.pure false)) : M (Bool)) fun (r20 : Bool) =>
 cnd r20 (
 M.pure 1) (
 M.bind ((
 ld [.int .i64] (Addr.add ⟨b1, 0, none⟩ 0) fun (r21 : Int) =>
 vl (r21 == (3 : Int)) fun t22 =>
 cnd t22 (
 ld [.int .i64] (Addr.add ⟨b1, 0, none⟩ 3) fun (r23 : Int) =>
 vl (decide (r23 < (0 : Int))) fun t24 =>
 cnd t24 (
 M.pure true) (
 ld [.int .i64] (Addr.add ⟨b1, 0, none⟩ 3) fun (r25 : Int) =>
 ld [.slice] (Addr.add ⟨b1, 0, none⟩ 5) fun (r26 : Sl) =>
 vl (wi ((1099511627776 : Int) - (r26.len : Int))) fun i27 =>
 vl (decide (r25 > i27)) fun t28 =>
 M.pure t28)) (
 M.pure false)) : M (Bool)) fun (r29 : Bool) =>
 cnd r29 (
 M.pure 9) (
 M.bind ((
 ld [.int .i64] (Addr.add ⟨b1, 0, none⟩ 0) fun (r30 : Int) =>
 vl (r30 == (4 : Int)) fun t31 =>
 cnd t31 (
 ld [.int .i64] (Addr.add ⟨b1, 0, none⟩ 4) fun (r32 : Int) =>
 vl (decide (r32 < (0 : Int))) fun t33 =>
 cnd t33 (
 M.pure true) (
 ld [.int .i64] (Addr.add ⟨b1, 0, none⟩ 4) fun (r34 : Int) =>
 vl (decide (r34 > (1099511627776 : Int))) fun t35 =>
 M.pure t35)) (
 M.pure false)) : M (Bool)) fun (r36 : Bool) =>
 cnd r36 (
 M.pure 9) (
 M.pure 0)))))) (
 ld [.int .i64, .str, .str, .int .i64, .int .i64, .slice] ⟨b1, 0, none⟩ fun (r37 : Int × ByteArray × ByteArray × Int × Int × Sl) =>
 M.bind (ref12_State_Copy N x.1) fun (r38 : Option Addr) =>
 M.again (ldR [.int .i64, .str, .str, .int .i64, .int .i64, .slice] ⟨b1, 0, none⟩) r37 <|
 M.bind (ref12_State_names N (r38, (r37.1, r37.2.1, r37.2.2.1, r37.2.2.2.1, r37.2.2.2.2.1, r37.2.2.2.2.2))) fun (r39 : Int) =>
 M.pure r39))
noncomputable def pl_ref12_State_Check : Plan := .kids (.leaf) (.kids (.join [(.normal, [(15, .c .bool)])] (.leaf) (.leaf)) (.kids (.join [(.normal, [(23, .c .bool)])] (.leaf) (.kids (.kids (.ord [0, 1, 2, 3, 4, 5, 6, 7, 8, 9, 10, 11, 12]) (.kids (.kids (.kids (.leaf) (.kids (.leaf) (.kids (.leaf) (.kids (.leaf) (.join [(.normal, [(40, .c .bool)])] (.leaf) (.kids (.leaf) (.join [(.normal, [(50, .c .bool)])] (.leaf) (.kids (.leaf) (.join [(.normal, [(68, .c .bool)])] (.leaf) (.leaf)))))))))) .leaf) (.leaf))) (.leaf))) (.kids (.ord [0, 2, 1, 3, 4]) (.leaf))))
theorem E_ref12_State_Check (N : Nat) (x : Ts A_ref12_State_Check) : evF ⟨Tryz.prog, [⟨88, A_ref12_Tree_Look, R_ref12_Tree_Look, ref12_Tree_Look N⟩, ⟨57, A_ref12_State_Copy, R_ref12_State_Copy, ref12_State_Copy N⟩, ⟨89, A_ref12_State_names, R_ref12_State_names, ref12_State_names N⟩], [], []⟩ 86 N Tryz.f29.results.toList (Tryz.f29.body.getD .skip) pl_ref12_State_Check A_ref12_State_Check R_ref12_State_Check x = ref12_State_Check N x := by kernel_rfl
theorem row_ref12_State_Check (N : Nat) : RowOk Tryz.prog ⟨29, A_ref12_State_Check, R_ref12_State_Check, ref12_State_Check N⟩ :=
  row_mk 29 Tryz.f29 A_ref12_State_Check R_ref12_State_Check (ref12_State_Check N) _ _ _ 86 N pl_ref12_State_Check (rows_cons (row_ref12_Tree_Look N) (rows_cons (row_ref12_State_Copy N) (rows_cons (row_ref12_State_names N) rows_nil))) (eqs_nil) mixed Tryz.func29 (by kernel_rfl) Tryz.ntmps29 (by kernel_rfl) (E_ref12_State_Check N) (by kernel_rfl)
/-! (*treering/treeringref12.State).Body -/
abbrev A_ref12_State_Body : List Ty := [.c .ptr, .c (.int .i64)]
abbrev R_ref12_State_Body : List Ty := [.c .ptr]
noncomputable def ref12_State_Body_L0 (N : Nat) (x : (Option Addr) × Int) (s1 : Int) : M (Int ⊕ (Unit ⊕ (Option Addr))) :=
 nz x.1 fun a2 =>
 ld [.slice] (Addr.add a2 2) fun (r3 : Sl) =>
 vl (decide (s1 < (r3.len : Int))) fun t4 =>
 cnd t4 (
 nz x.1 fun a5 =>
 ld [.slice] (Addr.add a5 2) fun (r6 : Sl) =>
 ixA r6.a r6.len s1 3 fun a7 =>
 ld [.int .i64] (Addr.add a7 0) fun (r8 : Int) =>
 vl (r8 == x.2) fun t9 =>
 cnd t9 (
 nz x.1 fun a10 =>
 ld [.slice] (Addr.add a10 2) fun (r11 : Sl) =>
 ixA r11.a r11.len s1 3 fun a12 =>
 M.pure (inrS (.inr (some (Addr.add a12 1))))) (
 vl (wi (s1 + (1 : Int))) fun i13 =>
 M.pure (inlS i13))) (
 M.pure (inrS (.inl ())))
noncomputable def ref12_State_Body (N : Nat) (x : (Option Addr) × Int) : M (Option Addr) :=
 M.bind (M.loop N (ref12_State_Body_L0 N x) 0) fun (r14 : Unit ⊕ (Option Addr)) =>
 sumM r14 (fun (q15 : Unit) =>
 M.pure none) fun (r16 : (Option Addr)) =>
 M.pure r16
noncomputable def pl_ref12_State_Body : Plan := .kids (.leaf) (.kids (.kids (.leaf) (.kids (.loop [(5, .c (.int .i64))] [(.exit 0, []), (.ret, [(4, .c .ptr)])] (.leaf)) .leaf)) (.leaf))
theorem E_ref12_State_Body (N : Nat) (x : Ts A_ref12_State_Body) : evF ⟨Tryz.prog, [], [], []⟩ 32 N Tryz.f52.results.toList (Tryz.f52.body.getD .skip) pl_ref12_State_Body A_ref12_State_Body R_ref12_State_Body x = ref12_State_Body N x := by kernel_rfl
theorem row_ref12_State_Body (N : Nat) : RowOk Tryz.prog ⟨52, A_ref12_State_Body, R_ref12_State_Body, ref12_State_Body N⟩ :=
  row_mk 52 Tryz.f52 A_ref12_State_Body R_ref12_State_Body (ref12_State_Body N) _ _ _ 32 N pl_ref12_State_Body (rows_nil) (eqs_nil) mixed Tryz.func52 (by kernel_rfl) Tryz.ntmps52 (by kernel_rfl) (E_ref12_State_Body N) (by kernel_rfl)
/-! treering/treeringref12.PartMay -/
abbrev A_ref12_PartMay : List Ty := [.agg [.int .i64, .int .i64, .int .i64, .int .i64]]
abbrev R_ref12_PartMay : List Ty := [.c .bool]
noncomputable def ref12_PartMay (N : Nat) (x : Int × Int × Int × Int) : M (Bool) :=
 M.new (ob [.int .i64 x.1, .int .i64 x.2.1, .int .i64 x.2.2.1, .int .i64 x.2.2.2] 149) fun b1 =>
 ld [.int .i64] (Addr.add ⟨b1, 0, none⟩ 1) fun (r2 : Int) =>
 vl (decide (r2 ≥ (1 : Int))) fun t3 =>
 cnd t3 (
 ld [.int .i64] (Addr.add ⟨b1, 0, none⟩ 1) fun (r4 : Int) =>
 vl (decide (r4 ≤ (64 : Int))) fun t5 =>
 cnd t5 (
 ld [.int .i64] (Addr.add ⟨b1, 0, none⟩ 2) fun (r6 : Int) =>
 vl (decide (r6 ≥ (1 : Int))) fun t7 =>
 cnd t7 (
 ld [.int .i64] (Addr.add ⟨b1, 0, none⟩ 2) fun (r8 : Int) =>
 vl (decide (r8 ≤ (4611686018427387904 : Int))) fun t9 =>
 cnd t9 (
 ld [.int .i64] (Addr.add ⟨b1, 0, none⟩ 3) fun (r10 : Int) =>
 vl (decide (r10 ≥ (0 : Int))) fun t11 =>
 cnd t11 (
 ld [.int .i64] (Addr.add ⟨b1, 0, none⟩ 3) fun (r12 : Int) =>
 ld [.int .i64] (Addr.add ⟨b1, 0, none⟩ 1) fun (r13 : Int) =>
 vl (wi ((64 : Int) - r13)) fun i14 =>
 vl (decide (r12 ≤ i14)) fun t15 =>
 M.pure t15) (
 M.pure false)) (
 M.pure false)) (
 M.pure false)) (
 M.pure false)) (
 M.pure false)
noncomputable def pl_ref12_PartMay : Plan := .leaf
theorem E_ref12_PartMay (N : Nat) (x : Ts A_ref12_PartMay) : evF ⟨Tryz.prog, [], [], []⟩ 34 N Tryz.f111.results.toList (Tryz.f111.body.getD .skip) pl_ref12_PartMay A_ref12_PartMay R_ref12_PartMay x = ref12_PartMay N x := by kernel_rfl
theorem row_ref12_PartMay (N : Nat) : RowOk Tryz.prog ⟨111, A_ref12_PartMay, R_ref12_PartMay, ref12_PartMay N⟩ :=
  row_mk 111 Tryz.f111 A_ref12_PartMay R_ref12_PartMay (ref12_PartMay N) _ _ _ 34 N pl_ref12_PartMay (rows_nil) (eqs_nil) mixed Tryz.func111 (by kernel_rfl) Tryz.ntmps111 (by kernel_rfl) (E_ref12_PartMay N) (by kernel_rfl)
/-! treering/treeringref12.BodyMay -/
abbrev A_ref12_BodyMay : List Ty := [.agg [.int .i64, .slice]]
abbrev R_ref12_BodyMay : List Ty := [.c .bool]
noncomputable def ref12_BodyMay_L0 (N : Nat) (b1 : Nat) (s7 : Int × Int) : M ((Int × Int) ⊕ (Unit ⊕ Bool)) :=
 ld [.slice] (Addr.add ⟨b1, 0, none⟩ 1) fun (r8 : Sl) =>
 vl (decide (s7.2 < (r8.len : Int))) fun t9 =>
 cnd t9 (
 ld [.slice] (Addr.add ⟨b1, 0, none⟩ 1) fun (r10 : Sl) =>
 ixA r10.a r10.len s7.2 4 fun a11 =>
 ld [.int .i64, .int .i64, .int .i64, .int .i64] a11 fun (r12 : Int × Int × Int × Int) =>
 M.new (ob [.int .i64 0, .int .i64 0, .int .i64 0, .int .i64 0] 149) fun b13 =>
 st ⟨b13, 0, none⟩ [.int .i64 r12.1, .int .i64 r12.2.1, .int .i64 r12.2.2.1, .int .i64 r12.2.2.2] <|
 M.bind ((
 ld [.int .i64, .int .i64, .int .i64, .int .i64] ⟨b13, 0, none⟩ fun (r14 : Int × Int × Int × Int) =>
 M.bind (ref12_PartMay N (r14.1, r14.2.1, r14.2.2.1, r14.2.2.2)) fun (r15 : Bool) =>
 vl (!r15) fun t16 =>
 cnd t16 (
 M.pure true) (
 ld [.int .i64] (Addr.add ⟨b13, 0, none⟩ 0) fun (r17 : Int) =>
 vl (decide (r17 < s7.1)) fun t18 =>
 cnd t18 (
 M.pure true) (
 ld [.int .i64] (Addr.add ⟨b13, 0, none⟩ 0) fun (r19 : Int) =>
 ld [.int .i64] (Addr.add ⟨b1, 0, none⟩ 0) fun (r20 : Int) =>
 ld [.int .i64] (Addr.add ⟨b13, 0, none⟩ 1) fun (r21 : Int) =>
 vl (wi (r20 - r21)) fun i22 =>
 vl (decide (r19 > i22)) fun t23 =>
 M.pure t23))) : M (Bool)) fun (r24 : Bool) =>
 cnd r24 (
 M.pure (inrS (.inr false))) (
 ld [.int .i64] (Addr.add ⟨b13, 0, none⟩ 0) fun (r25 : Int) =>
 ld [.int .i64] (Addr.add ⟨b13, 0, none⟩ 1) fun (r26 : Int) =>
 vl (wi (r25 + r26)) fun i27 =>
 vl (wi (s7.2 + (1 : Int))) fun i28 =>
 M.pure (inlS (i27, i28)))) (
 M.pure (inrS (.inl ())))
noncomputable def ref12_BodyMay (N : Nat) (x : Int × Sl) : M (Bool) :=
 M.new (ob [.int .i64 x.1, .slice x.2.a x.2.len x.2.cap] 68) fun b1 =>
 M.bind ((
 ld [.int .i64] (Addr.add ⟨b1, 0, none⟩ 0) fun (r2 : Int) =>
 vl (decide (r2 < (0 : Int))) fun t3 =>
 cnd t3 (
 M.pure true) (
 ld [.int .i64] (Addr.add ⟨b1, 0, none⟩ 0) fun (r4 : Int) =>
 vl (decide (r4 > (1099511627776 : Int))) fun t5 =>
 M.pure t5)) : M (Bool)) fun (r6 : Bool) =>
 cnd r6 (
 M.pure false) (
 M.bind (M.loop N (ref12_BodyMay_L0 N b1) (0, 0)) fun (r29 : Unit ⊕ Bool) =>
 sumM r29 (fun (q30 : Unit) =>
 M.pure true) fun (r31 : Bool) =>
 M.pure r31)
noncomputable def pl_ref12_BodyMay : Plan := .kids (.leaf) (.kids (.join [(.normal, [(13, .c .bool)])] (.leaf) (.leaf)) (.kids (.leaf) (.kids (.kids (.leaf) (.kids (.loop [(3, .c (.int .i64)), (4, .c (.int .i64))] [(.exit 0, []), (.ret, [(2, .c .bool)])] (.kids (.leaf) (.kids (.kids (.kids (.leaf) (.kids (.join [(.normal, [(44, .c .bool)])] (.leaf) (.leaf)) (.leaf))) .leaf) (.leaf)))) .leaf)) (.leaf))))
theorem E_ref12_BodyMay (N : Nat) (x : Ts A_ref12_BodyMay) : evF ⟨Tryz.prog, [⟨111, A_ref12_PartMay, R_ref12_PartMay, ref12_PartMay N⟩], [], []⟩ 50 N Tryz.f119.results.toList (Tryz.f119.body.getD .skip) pl_ref12_BodyMay A_ref12_BodyMay R_ref12_BodyMay x = ref12_BodyMay N x := by kernel_rfl
theorem row_ref12_BodyMay (N : Nat) : RowOk Tryz.prog ⟨119, A_ref12_BodyMay, R_ref12_BodyMay, ref12_BodyMay N⟩ :=
  row_mk 119 Tryz.f119 A_ref12_BodyMay R_ref12_BodyMay (ref12_BodyMay N) _ _ _ 50 N pl_ref12_BodyMay (rows_cons (row_ref12_PartMay N) rows_nil) (eqs_nil) mixed Tryz.func119 (by kernel_rfl) Tryz.ntmps119 (by kernel_rfl) (E_ref12_BodyMay N) (by kernel_rfl)
/-! treering/treeringref12.without -/
abbrev A_ref12_without : List Ty := [.c .slice, .c (.int .i64), .c (.int .i64)]
abbrev R_ref12_without : List Ty := [.c .slice]
noncomputable def ref12_without_L0 (N : Nat) (x : Sl × Int × Int) (s1 : Sl × Int) : M ((Sl × Int) ⊕ (Sl)) :=
 vl (decide (s1.2 < (x.1.len : Int))) fun t2 =>
 cnd t2 (
 M.bind ((
 ixA x.1.a x.1.len s1.2 4 fun a3 =>
 ld [.int .i64, .int .i64, .int .i64, .int .i64] a3 fun (r4 : Int × Int × Int × Int) =>
 M.new (ob [.int .i64 0, .int .i64 0, .int .i64 0, .int .i64 0] 149) fun b5 =>
 st ⟨b5, 0, none⟩ [.int .i64 r4.1, .int .i64 r4.2.1, .int .i64 r4.2.2.1, .int .i64 r4.2.2.2] <|
 ld [.int .i64] (Addr.add ⟨b5, 0, none⟩ 0) fun (r6 : Int) =>
 ld [.int .i64] (Addr.add ⟨b5, 0, none⟩ 1) fun (r7 : Int) =>
 vl (wi (r6 + r7)) fun i8 =>
 M.bind ((
 ld [.int .i64] (Addr.add ⟨b5, 0, none⟩ 0) fun (r9 : Int) =>
 vl (decide (r9 < x.2.1)) fun t10 =>
 cnd t10 (
 ld [.int .i64, .int .i64, .int .i64, .int .i64] ⟨b5, 0, none⟩ fun (r11 : Int × Int × Int × Int) =>
 M.new (ob [.int .i64 0, .int .i64 0, .int .i64 0, .int .i64 0] 149) fun b12 =>
 st ⟨b12, 0, none⟩ [.int .i64 r11.1, .int .i64 r11.2.1, .int .i64 r11.2.2.1, .int .i64 r11.2.2.2] <|
 vl (if (x.2.1 : Int) < (i8 : Int) then (x.2.1 : Int) else (i8 : Int)) fun i13 =>
 ld [.int .i64] (Addr.add ⟨b5, 0, none⟩ 0) fun (r14 : Int) =>
 vl (wi (i13 - r14)) fun i15 =>
 st (Addr.add ⟨b12, 0, none⟩ 1) [.int .i64 i15] <|
 ld [.int .i64, .int .i64, .int .i64, .int .i64] ⟨b12, 0, none⟩ fun (r16 : Int × Int × Int × Int) =>
 M.new (ob [.int .i64 r16.1, .int .i64 r16.2.1, .int .i64 r16.2.2.1, .int .i64 r16.2.2.2] 149) fun b17 =>
 M.bind (appM 149 4 32 [.int .i64 0, .int .i64 0, .int .i64 0, .int .i64 0] s1.1 (.sl (some ⟨b17, 0, none⟩) 1)) fun s18 =>
 M.pure s18) (
 M.pure s1.1)) : M (Sl)) fun (r19 : Sl) =>
 vl (decide (i8 > x.2.2)) fun t20 =>
 cnd t20 (
 ld [.int .i64, .int .i64, .int .i64, .int .i64] ⟨b5, 0, none⟩ fun (r21 : Int × Int × Int × Int) =>
 M.new (ob [.int .i64 0, .int .i64 0, .int .i64 0, .int .i64 0] 149) fun b22 =>
 st ⟨b22, 0, none⟩ [.int .i64 r21.1, .int .i64 r21.2.1, .int .i64 r21.2.2.1, .int .i64 r21.2.2.2] <|
 ld [.int .i64] (Addr.add ⟨b5, 0, none⟩ 0) fun (r23 : Int) =>
 vl (if (x.2.2 : Int) > (r23 : Int) then (x.2.2 : Int) else (r23 : Int)) fun i24 =>
 st (Addr.add ⟨b22, 0, none⟩ 0) [.int .i64 i24] <|
 ld [.int .i64] (Addr.add ⟨b5, 0, none⟩ 3) fun (r25 : Int) =>
 ld [.int .i64] (Addr.add ⟨b22, 0, none⟩ 0) fun (r26 : Int) =>
 ld [.int .i64] (Addr.add ⟨b5, 0, none⟩ 0) fun (r27 : Int) =>
 vl (wi (r26 - r27)) fun i28 =>
 vl (wi (r25 + i28)) fun i29 =>
 st (Addr.add ⟨b22, 0, none⟩ 3) [.int .i64 i29] <|
 ld [.int .i64] (Addr.add ⟨b22, 0, none⟩ 0) fun (r30 : Int) =>
 vl (wi (i8 - r30)) fun i31 =>
 st (Addr.add ⟨b22, 0, none⟩ 1) [.int .i64 i31] <|
 ld [.int .i64, .int .i64, .int .i64, .int .i64] ⟨b22, 0, none⟩ fun (r32 : Int × Int × Int × Int) =>
 M.new (ob [.int .i64 r32.1, .int .i64 r32.2.1, .int .i64 r32.2.2.1, .int .i64 r32.2.2.2] 149) fun b33 =>
 M.bind (appM 149 4 32 [.int .i64 0, .int .i64 0, .int .i64 0, .int .i64 0] r19 (.sl (some ⟨b33, 0, none⟩) 1)) fun s34 =>
 M.pure s34) (
 M.pure r19)) : M (Sl)) fun (r35 : Sl) =>
 vl (wi (s1.2 + (1 : Int))) fun i36 =>
 M.pure (inlS (r35, i36))) (
 M.pure (inrS s1.1))
noncomputable def ref12_without (N : Nat) (x : Sl × Int × Int) : M (Sl) :=
 M.bind (M.loop N (ref12_without_L0 N x) (⟨none, 0, 0⟩, 0)) fun (r37 : Sl) =>
 M.pure r37
noncomputable def pl_ref12_without : Plan := .kids (.leaf) (.kids (.leaf) (.kids (.kids (.leaf) (.kids (.loop [(7, .c .slice), (8, .c (.int .i64))] [(.exit 0, [(7, .c .slice)])] (.kids (.leaf) (.join [(.normal, [(7, .c .slice)])] (.kids (.kids (.leaf) (.kids (.leaf) (.join [(.normal, [(7, .c .slice)])] (.leaf) (.leaf)))) .leaf) (.leaf)))) .leaf)) (.leaf)))
theorem E_ref12_without (N : Nat) (x : Ts A_ref12_without) : evF ⟨Tryz.prog, [], [], []⟩ 72 N Tryz.f158.results.toList (Tryz.f158.body.getD .skip) pl_ref12_without A_ref12_without R_ref12_without x = ref12_without N x := by kernel_rfl
theorem row_ref12_without (N : Nat) : RowOk Tryz.prog ⟨158, A_ref12_without, R_ref12_without, ref12_without N⟩ :=
  row_mk 158 Tryz.f158 A_ref12_without R_ref12_without (ref12_without N) _ _ _ 72 N pl_ref12_without (rows_nil) (eqs_nil) mixed Tryz.func158 (by kernel_rfl) Tryz.ntmps158 (by kernel_rfl) (E_ref12_without N) (by kernel_rfl)
/-! treering/treeringref12.Trunc -/
abbrev A_ref12_Trunc : List Ty := [.agg [.int .i64, .slice], .c (.int .i64)]
abbrev R_ref12_Trunc : List Ty := [.agg [.int .i64, .slice], .c (.int .i64)]
noncomputable def ref12_Trunc (N : Nat) (x : (Int × Sl) × Int) : M ((Int × Sl) × Int) :=
 M.new (ob [.int .i64 x.1.1, .slice x.1.2.a x.1.2.len x.1.2.cap] 68) fun b1 =>
 M.new (ob [.int .i64 0, .slice none 0 0] 68) fun b2 =>
 ld [.int .i64, .slice] ⟨b1, 0, none⟩ fun (r3 : Int × Sl) =>
 M.bind (ref12_BodyMay N (r3.1, r3.2)) fun (r4 : Bool) =>
 vl (!r4) fun t5 =>
 cnd t5 (
 st ⟨b2, 0, none⟩ [.int .i64 0, .slice none 0 0] <|
 ld [.int .i64, .slice] ⟨b2, 0, none⟩ fun (r6 : Int × Sl) =>
 M.pure ((r6.1, r6.2), 1)) (
 M.bind ((
 vl (decide (x.2 < (0 : Int))) fun t7 =>
 cnd t7 (
 M.pure true) (
 vl (decide (x.2 > (1099511627776 : Int))) fun t8 =>
 M.pure t8)) : M (Bool)) fun (r9 : Bool) =>
 cnd r9 (
 st ⟨b2, 0, none⟩ [.int .i64 0, .slice none 0 0] <|
 ld [.int .i64, .slice] ⟨b2, 0, none⟩ fun (r10 : Int × Sl) =>
 M.pure ((r10.1, r10.2), 9)) (
 ld [.slice] (Addr.add ⟨b1, 0, none⟩ 1) fun (r11 : Sl) =>
 M.bind (ref12_without N (r11, x.2, 4611686018427387904)) fun (r12 : Sl) =>
 st ⟨b2, 0, none⟩ [.int .i64 x.2, .slice r12.a r12.len r12.cap] <|
 ld [.int .i64, .slice] ⟨b2, 0, none⟩ fun (r13 : Int × Sl) =>
 M.pure ((r13.1, r13.2), 0)))
noncomputable def pl_ref12_Trunc : Plan := .kids (.leaf) (.kids (.leaf) (.kids (.join [(.normal, [(15, .c .bool)])] (.leaf) (.leaf)) (.leaf)))
theorem E_ref12_Trunc (N : Nat) (x : Ts A_ref12_Trunc) : evF ⟨Tryz.prog, [⟨119, A_ref12_BodyMay, R_ref12_BodyMay, ref12_BodyMay N⟩, ⟨158, A_ref12_without, R_ref12_without, ref12_without N⟩], [], []⟩ 23 N Tryz.f90.results.toList (Tryz.f90.body.getD .skip) pl_ref12_Trunc A_ref12_Trunc R_ref12_Trunc x = ref12_Trunc N x := by kernel_rfl
theorem row_ref12_Trunc (N : Nat) : RowOk Tryz.prog ⟨90, A_ref12_Trunc, R_ref12_Trunc, ref12_Trunc N⟩ :=
  row_mk 90 Tryz.f90 A_ref12_Trunc R_ref12_Trunc (ref12_Trunc N) _ _ _ 23 N pl_ref12_Trunc (rows_cons (row_ref12_BodyMay N) (rows_cons (row_ref12_without N) rows_nil)) (eqs_nil) mixed Tryz.func90 (by kernel_rfl) Tryz.ntmps90 (by kernel_rfl) (E_ref12_Trunc N) (by kernel_rfl)
/-! treering/treeringref12.Write -/
abbrev A_ref12_Write : List Ty := [.agg [.int .i64, .slice], .c (.int .i64), .c .slice]
abbrev R_ref12_Write : List Ty := [.agg [.int .i64, .slice], .c (.int .i64)]
noncomputable def ref12_Write_L0 (N : Nat) (x : (Int × Sl) × Int × Sl) (b2 : Nat) (s7 : Int × Int) : M ((Int × Int) ⊕ (Int ⊕ Int)) :=
 vl (decide (s7.2 < (x.2.2.len : Int))) fun t8 =>
 cnd t8 (
 ixA x.2.2.a x.2.2.len s7.2 4 fun a9 =>
 ld [.int .i64, .int .i64, .int .i64, .int .i64] a9 fun (r10 : Int × Int × Int × Int) =>
 M.bind (ref12_PartMay N (r10.1, r10.2.1, r10.2.2.1, r10.2.2.2)) fun (r11 : Bool) =>
 vl (!r11) fun t12 =>
 cnd t12 (
 st ⟨b2, 0, none⟩ [.int .i64 0, .slice none 0 0] <|
 M.pure (inrS (.inr 1))) (
 ixA x.2.2.a x.2.2.len s7.2 4 fun a13 =>
 ld [.int .i64] (Addr.add a13 1) fun (r14 : Int) =>
 vl (wi (s7.1 + r14)) fun i15 =>
 vl (wi (s7.2 + (1 : Int))) fun i16 =>
 M.pure (inlS (i15, i16)))) (
 M.pure (inrS (.inl s7.1)))
noncomputable def ref12_Write_L1 (N : Nat) (x : (Int × Sl) × Int × Sl) (r30 : Sl) (s31 : Sl × Int) : M ((Sl × Int) ⊕ (Sl)) :=
 M.bind ((
 vl (decide (s31.2 < (r30.len : Int))) fun t32 =>
 cnd t32 (
 ixA r30.a r30.len s31.2 4 fun a33 =>
 ld [.int .i64] (Addr.add a33 0) fun (r34 : Int) =>
 vl (decide (r34 < x.2.1)) fun t35 =>
 M.pure t35) (
 M.pure false)) : M (Bool)) fun (r36 : Bool) =>
 cnd r36 (
 ixA r30.a r30.len s31.2 4 fun a37 =>
 ld [.int .i64, .int .i64, .int .i64, .int .i64] a37 fun (r38 : Int × Int × Int × Int) =>
 M.new (ob [.int .i64 r38.1, .int .i64 r38.2.1, .int .i64 r38.2.2.1, .int .i64 r38.2.2.2] 149) fun b39 =>
 M.bind (appM 149 4 32 [.int .i64 0, .int .i64 0, .int .i64 0, .int .i64 0] s31.1 (.sl (some ⟨b39, 0, none⟩) 1)) fun s40 =>
 vl (wi (s31.2 + (1 : Int))) fun i41 =>
 M.pure (inlS (s40, i41))) (
 M.pure (inrS s31.1))
noncomputable def ref12_Write_L2 (N : Nat) (x : (Int × Sl) × Int × Sl) (s43 : Sl × Int × Int) : M ((Sl × Int × Int) ⊕ (Sl)) :=
 vl (decide (s43.2.2 < (x.2.2.len : Int))) fun t44 =>
 cnd t44 (
 ixA x.2.2.a x.2.2.len s43.2.2 4 fun a45 =>
 ld [.int .i64, .int .i64, .int .i64, .int .i64] a45 fun (r46 : Int × Int × Int × Int) =>
 M.new (ob [.int .i64 0, .int .i64 0, .int .i64 0, .int .i64 0] 149) fun b47 =>
 st ⟨b47, 0, none⟩ [.int .i64 r46.1, .int .i64 r46.2.1, .int .i64 r46.2.2.1, .int .i64 r46.2.2.2] <|
 st (Addr.add ⟨b47, 0, none⟩ 0) [.int .i64 s43.2.1] <|
 ld [.int .i64] (Addr.add ⟨b47, 0, none⟩ 1) fun (r48 : Int) =>
 vl (wi (s43.2.1 + r48)) fun i49 =>
 ld [.int .i64, .int .i64, .int .i64, .int .i64] ⟨b47, 0, none⟩ fun (r50 : Int × Int × Int × Int) =>
 M.new (ob [.int .i64 r50.1, .int .i64 r50.2.1, .int .i64 r50.2.2.1, .int .i64 r50.2.2.2] 149) fun b51 =>
 M.bind (appM 149 4 32 [.int .i64 0, .int .i64 0, .int .i64 0, .int .i64 0] s43.1 (.sl (some ⟨b51, 0, none⟩) 1)) fun s52 =>
 vl (wi (s43.2.2 + (1 : Int))) fun i53 =>
 M.pure (inlS (s52, i49, i53))) (
 M.pure (inrS s43.1))
noncomputable def ref12_Write_L3 (N : Nat) (x : (Int × Sl) × Int × Sl) (r30 : Sl) (s55 : Sl × Int) : M ((Sl × Int) ⊕ (Sl)) :=
 vl (decide (s55.2 < (r30.len : Int))) fun t56 =>
 cnd t56 (
 M.bind ((
 ixA r30.a r30.len s55.2 4 fun a57 =>
 ld [.int .i64] (Addr.add a57 0) fun (r58 : Int) =>
 vl (decide (r58 ≥ x.2.1)) fun t59 =>
 cnd t59 (
 ixA r30.a r30.len s55.2 4 fun a60 =>
 ld [.int .i64, .int .i64, .int .i64, .int .i64] a60 fun (r61 : Int × Int × Int × Int) =>
 M.new (ob [.int .i64 r61.1, .int .i64 r61.2.1, .int .i64 r61.2.2.1, .int .i64 r61.2.2.2] 149) fun b62 =>
 M.bind (appM 149 4 32 [.int .i64 0, .int .i64 0, .int .i64 0, .int .i64 0] s55.1 (.sl (some ⟨b62, 0, none⟩) 1)) fun s63 =>
 M.pure s63) (
 M.pure s55.1)) : M (Sl)) fun (r64 : Sl) =>
 vl (wi (s55.2 + (1 : Int))) fun i65 =>
 M.pure (inlS (r64, i65))) (
 M.pure (inrS s55.1))
noncomputable def ref12_Write (N : Nat) (x : (Int × Sl) × Int × Sl) : M ((Int × Sl) × Int) :=
 M.new (ob [.int .i64 x.1.1, .slice x.1.2.a x.1.2.len x.1.2.cap] 68) fun b1 =>
 M.new (ob [.int .i64 0, .slice none 0 0] 68) fun b2 =>
 ld [.int .i64, .slice] ⟨b1, 0, none⟩ fun (r3 : Int × Sl) =>
 M.bind (ref12_BodyMay N (r3.1, r3.2)) fun (r4 : Bool) =>
 vl (!r4) fun t5 =>
 cnd t5 (
 st ⟨b2, 0, none⟩ [.int .i64 0, .slice none 0 0] <|
 ld [.int .i64, .slice] ⟨b2, 0, none⟩ fun (r6 : Int × Sl) =>
 M.pure ((r6.1, r6.2), 1)) (
 M.bind (M.loop N (ref12_Write_L0 N x b2) (0, 0)) fun (r17 : Int ⊕ Int) =>
 sumM r17 (fun (q18 : Int) =>
 M.bind ((
 vl (decide (x.2.1 < (0 : Int))) fun t20 =>
 cnd t20 (
 M.pure true) (
 vl (wi ((1099511627776 : Int) - q18)) fun i21 =>
 vl (decide (x.2.1 > i21)) fun t22 =>
 M.pure t22)) : M (Bool)) fun (r23 : Bool) =>
 cnd r23 (
 st ⟨b2, 0, none⟩ [.int .i64 0, .slice none 0 0] <|
 ld [.int .i64, .slice] ⟨b2, 0, none⟩ fun (r24 : Int × Sl) =>
 M.pure ((r24.1, r24.2), 9)) (
 vl ((x.2.2.len : Int) == (0 : Int)) fun t25 =>
 cnd t25 (
 ld [.int .i64, .slice] ⟨b1, 0, none⟩ fun (r26 : Int × Sl) =>
 st ⟨b2, 0, none⟩ [.int .i64 r26.1, .slice r26.2.a r26.2.len r26.2.cap] <|
 ld [.int .i64, .slice] ⟨b2, 0, none⟩ fun (r27 : Int × Sl) =>
 M.pure ((r27.1, r27.2), 0)) (
 ld [.slice] (Addr.add ⟨b1, 0, none⟩ 1) fun (r28 : Sl) =>
 vl (wi (x.2.1 + q18)) fun i29 =>
 M.bind (ref12_without N (r28, x.2.1, i29)) fun (r30 : Sl) =>
 M.bind (M.loop N (ref12_Write_L1 N x r30) (⟨none, 0, 0⟩, 0)) fun (r42 : Sl) =>
 M.bind (M.loop N (ref12_Write_L2 N x) (r42, x.2.1, 0)) fun (r54 : Sl) =>
 M.bind (M.loop N (ref12_Write_L3 N x r30) (r54, 0)) fun (r66 : Sl) =>
 ld [.int .i64] (Addr.add ⟨b1, 0, none⟩ 0) fun (r67 : Int) =>
 vl (wi (x.2.1 + q18)) fun i68 =>
 vl (if (i68 : Int) > (r67 : Int) then (i68 : Int) else (r67 : Int)) fun i69 =>
 st ⟨b2, 0, none⟩ [.int .i64 i69, .slice r66.a r66.len r66.cap] <|
 ld [.int .i64, .slice] ⟨b2, 0, none⟩ fun (r70 : Int × Sl) =>
 M.pure ((r70.1, r70.2), 0)))) fun (r19 : Int) =>
 ld [.int .i64, .slice] ⟨b2, 0, none⟩ fun (r71 : Int × Sl) =>
 M.pure ((r71.1, r71.2), r19))
noncomputable def pl_ref12_Write : Plan := .kids (.leaf) (.kids (.leaf) (.kids (.leaf) (.kids (.kids (.leaf) (.kids (.loop [(8, .c (.int .i64)), (9, .c (.int .i64))] [(.exit 0, [(8, .c (.int .i64))]), (.ret, [(7, .c (.int .i64))])] (.leaf)) .leaf)) (.kids (.join [(.normal, [(48, .c .bool)])] (.leaf) (.leaf)) (.kids (.leaf) (.kids (.leaf) (.kids (.leaf) (.kids (.kids (.leaf) (.kids (.loop [(11, .c .slice), (12, .c (.int .i64))] [(.exit 2, [(11, .c .slice)])] (.kids (.join [(.normal, [(73, .c .bool)])] (.leaf) (.leaf)) (.leaf))) .leaf)) (.kids (.leaf) (.kids (.kids (.leaf) (.kids (.loop [(11, .c .slice), (13, .c (.int .i64)), (14, .c (.int .i64))] [(.exit 4, [(11, .c .slice)])] (.leaf)) .leaf)) (.kids (.kids (.leaf) (.kids (.loop [(11, .c .slice), (16, .c (.int .i64))] [(.exit 6, [(11, .c .slice)])] (.kids (.leaf) (.join [(.normal, [(11, .c .slice)])] (.leaf) (.leaf)))) .leaf)) (.leaf))))))))))))
theorem E_ref12_Write (N : Nat) (x : Ts A_ref12_Write) : evF ⟨Tryz.prog, [⟨119, A_ref12_BodyMay, R_ref12_BodyMay, ref12_BodyMay N⟩, ⟨111, A_ref12_PartMay, R_ref12_PartMay, ref12_PartMay N⟩, ⟨158, A_ref12_without, R_ref12_without, ref12_without N⟩], [], []⟩ 132 N Tryz.f91.results.toList (Tryz.f91.body.getD .skip) pl_ref12_Write A_ref12_Write R_ref12_Write x = ref12_Write N x := by kernel_rfl
theorem row_ref12_Write (N : Nat) : RowOk Tryz.prog ⟨91, A_ref12_Write, R_ref12_Write, ref12_Write N⟩ :=
  row_mk 91 Tryz.f91 A_ref12_Write R_ref12_Write (ref12_Write N) _ _ _ 132 N pl_ref12_Write (rows_cons (row_ref12_BodyMay N) (rows_cons (row_ref12_PartMay N) (rows_cons (row_ref12_without N) rows_nil))) (eqs_nil) mixed Tryz.func91 (by kernel_rfl) Tryz.ntmps91 (by kernel_rfl) (E_ref12_Write N) (by kernel_rfl)
/-! (*treering/treeringref12.State).Apply -/
abbrev A_ref12_State_Apply : List Ty := [.c .ptr, .agg [.int .i64, .str, .str, .int .i64, .int .i64, .slice], .c .slice]
abbrev R_ref12_State_Apply : List Ty := [.c (.int .i64)]
noncomputable def ref12_State_Apply_L0 (N : Nat) (x : (Option Addr) × (Int × ByteArray × ByteArray × Int × Int × Sl) × Sl) (s23 : Int × Int) : M ((Int × Int) ⊕ (Int)) :=
 vl (decide (s23.2 < (x.2.2.len : Int))) fun t24 =>
 cnd t24 (
 ixA x.2.2.a x.2.2.len s23.2 4 fun a25 =>
 ld [.int .i64] (Addr.add a25 1) fun (r26 : Int) =>
 vl (if (100 : Int) < (r26 : Int) then (100 : Int) else (r26 : Int)) fun i27 =>
 vl (if (-100 : Int) > (i27 : Int) then (-100 : Int) else (i27 : Int)) fun i28 =>
 vl (wi (s23.1 + i28)) fun i29 =>
 vl (wi (s23.2 + (1 : Int))) fun i30 =>
 M.pure (inlS (i29, i30))) (
 M.pure (inrS s23.1))
noncomputable def ref12_State_Apply (N : Nat) (x : (Option Addr) × (Int × ByteArray × ByteArray × Int × Int × Sl) × Sl) : M (Int) :=
 M.new (ob [.int .i64 x.2.1.1, .string x.2.1.2.1, .string x.2.1.2.2.1, .int .i64 x.2.1.2.2.2.1, .int .i64 x.2.1.2.2.2.2.1, .slice x.2.1.2.2.2.2.2.a x.2.1.2.2.2.2.2.len x.2.1.2.2.2.2.2.cap] 31) fun b1 =>
 ld [.int .i64, .str, .str, .int .i64, .int .i64, .slice] ⟨b1, 0, none⟩ fun (r2 : Int × ByteArray × ByteArray × Int × Int × Sl) =>
 M.bind (ref12_State_Check N (x.1, (r2.1, r2.2.1, r2.2.2.1, r2.2.2.2.1, r2.2.2.2.2.1, r2.2.2.2.2.2))) fun (r3 : Int) =>
 vl (r3 != (0 : Int)) fun t4 =>
 cnd t4 (
 M.pure r3) (
 M.bind ((
 ld [.int .i64] (Addr.add ⟨b1, 0, none⟩ 0) fun (r5 : Int) =>
 vl (r5 != (3 : Int)) fun t6 =>
 cnd t6 (
 ld [.int .i64] (Addr.add ⟨b1, 0, none⟩ 0) fun (r7 : Int) =>
 vl (r7 != (4 : Int)) fun t8 =>
 M.pure t8) (
 M.pure false)) : M (Bool)) fun (r9 : Bool) =>
 cnd r9 (
 ld [.int .i64, .str, .str, .int .i64, .int .i64, .slice] ⟨b1, 0, none⟩ fun (r10 : Int × ByteArray × ByteArray × Int × Int × Sl) =>
 M.bind (ref12_State_names N (x.1, (r10.1, r10.2.1, r10.2.2.1, r10.2.2.2.1, r10.2.2.2.2.1, r10.2.2.2.2.2))) fun (r11 : Int) =>
 M.pure r11) (
 nz x.1 fun a12 =>
 ld [.str] (Addr.add ⟨b1, 0, none⟩ 1) fun (r13 : ByteArray) =>
 M.bind (ref12_Tree_Look N ((some (Addr.add a12 0)), r13)) fun (r14 : Int × Bool × Int) =>
 M.bind (ref12_State_Body N (x.1, r14.1)) fun (r15 : Option Addr) =>
 M.new (ob [.int .i64 0, .slice none 0 0] 68) fun b16 =>
 st ⟨b16, 0, none⟩ [.int .i64 0, .slice none 0 0] <|
 M.bind ((
 ld [.int .i64] (Addr.add ⟨b1, 0, none⟩ 0) fun (r17 : Int) =>
 vl (r17 == (4 : Int)) fun t18 =>
 cnd t18 (
 nz r15 fun a19 =>
 ld [.int .i64, .slice] a19 fun (r20 : Int × Sl) =>
 ld [.int .i64] (Addr.add ⟨b1, 0, none⟩ 4) fun (r21 : Int) =>
 M.bind (ref12_Trunc N ((r20.1, r20.2), r21)) fun (r22 : (Int × Sl) × Int) =>
 st ⟨b16, 0, none⟩ [.int .i64 r22.1.1, .slice r22.1.2.a r22.1.2.len r22.1.2.cap] <|
 M.pure (.inl r22.2)) (
 M.bind (M.loop N (ref12_State_Apply_L0 N x) (0, 0)) fun (r31 : Int) =>
 M.bind ((
 ld [.slice] (Addr.add ⟨b1, 0, none⟩ 5) fun (r32 : Sl) =>
 vl (decide ((r32.len : Int) > (0 : Int))) fun t33 =>
 cnd t33 (
 ld [.slice] (Addr.add ⟨b1, 0, none⟩ 5) fun (r34 : Sl) =>
 vl (r31 != (r34.len : Int)) fun t35 =>
 M.pure t35) (
 M.pure false)) : M (Bool)) fun (r36 : Bool) =>
 cnd r36 (
 M.pure (.inr 1)) (
 nz r15 fun a37 =>
 ld [.int .i64, .slice] a37 fun (r38 : Int × Sl) =>
 ld [.int .i64] (Addr.add ⟨b1, 0, none⟩ 3) fun (r39 : Int) =>
 M.bind (ref12_Write N ((r38.1, r38.2), r39, x.2.2)) fun (r40 : (Int × Sl) × Int) =>
 st ⟨b16, 0, none⟩ [.int .i64 r40.1.1, .slice r40.1.2.a r40.1.2.len r40.1.2.cap] <|
 M.pure (.inl r40.2)))) : M (Int ⊕ Int)) fun (r41 : Int ⊕ Int) =>
 sumM r41 (fun (q42 : Int) =>
 M.bind ((
 vl (q42 == (0 : Int)) fun t44 =>
 cnd t44 (
 ld [.int .i64, .slice] ⟨b16, 0, none⟩ fun (r45 : Int × Sl) =>
 nz r15 fun a46 =>
 st a46 [.int .i64 r45.1, .slice r45.2.a r45.2.len r45.2.cap] <|
 M.pure ()) (
 M.pure ())) : M (Unit)) fun (r47 : Unit) =>
 M.pure q42) fun (r43 : Int) =>
 M.pure r43))
noncomputable def pl_ref12_State_Apply : Plan := .kids (.leaf) (.kids (.leaf) (.kids (.leaf) (.kids (.join [(.normal, [(28, .c .bool)])] (.leaf) (.leaf)) (.kids (.ord [0, 1, 2, 3, 4, 5, 6, 7, 8, 9, 10, 11, 12]) (.kids (.leaf) (.kids (.leaf) (.join [(.normal, [(7, .c (.int .i64))]), (.ret, [(6, .c (.int .i64))])] (.kids (.leaf) (.kids (.ord [0, 1, 2, 3, 4, 5, 6, 7, 8, 9, 10]) (.kids (.leaf) (.kids (.kids (.leaf) (.kids (.loop [(13, .c (.int .i64)), (14, .c (.int .i64))] [(.exit 0, [(13, .c (.int .i64))])] (.leaf)) .leaf)) (.kids (.join [(.normal, [(83, .c .bool)])] (.leaf) (.leaf)) (.ord [0, 1, 2, 3, 4, 5, 6, 7, 8, 9, 10, 11])))))) (.join [(.normal, [])] (.leaf) (.leaf)))))))))
theorem E_ref12_State_Apply (N : Nat) (x : Ts A_ref12_State_Apply) : evF ⟨Tryz.prog, [⟨29, A_ref12_State_Check, R_ref12_State_Check, ref12_State_Check N⟩, ⟨89, A_ref12_State_names, R_ref12_State_names, ref12_State_names N⟩, ⟨88, A_ref12_Tree_Look, R_ref12_Tree_Look, ref12_Tree_Look N⟩, ⟨52, A_ref12_State_Body, R_ref12_State_Body, ref12_State_Body N⟩, ⟨90, A_ref12_Trunc, R_ref12_Trunc, ref12_Trunc N⟩, ⟨91, A_ref12_Write, R_ref12_Write, ref12_Write N⟩], [], []⟩ 100 N Tryz.f30.results.toList (Tryz.f30.body.getD .skip) pl_ref12_State_Apply A_ref12_State_Apply R_ref12_State_Apply x = ref12_State_Apply N x := by kernel_rfl
theorem row_ref12_State_Apply (N : Nat) : RowOk Tryz.prog ⟨30, A_ref12_State_Apply, R_ref12_State_Apply, ref12_State_Apply N⟩ :=
  row_mk 30 Tryz.f30 A_ref12_State_Apply R_ref12_State_Apply (ref12_State_Apply N) _ _ _ 100 N pl_ref12_State_Apply (rows_cons (row_ref12_State_Check N) (rows_cons (row_ref12_State_names N) (rows_cons (row_ref12_Tree_Look N) (rows_cons (row_ref12_State_Body N) (rows_cons (row_ref12_Trunc N) (rows_cons (row_ref12_Write N) rows_nil)))))) (eqs_nil) mixed Tryz.func30 (by kernel_rfl) Tryz.ntmps30 (by kernel_rfl) (E_ref12_State_Apply N) (by kernel_rfl)
/-! (*treering/tree.Tree).Len -/
abbrev A_tree_Tree_Len : List Ty := [.c .ptr]
abbrev R_tree_Tree_Len : List Ty := [.c (.int .i64)]
noncomputable def tree_Tree_Len (N : Nat) (x : Option Addr) : M (Int) :=
 vl (Option.isNone x) fun t1 =>
 cnd t1 (
 M.pure 0) (
 nz x fun a2 =>
 ld [.map] (Addr.add a2 0) fun (r3 : Option Nat) =>
 M.rd (mapLenR r3) fun n4 =>
 M.pure (n4 : Int))
noncomputable def pl_tree_Tree_Len : Plan := .leaf
theorem E_tree_Tree_Len (N : Nat) (x : Ts A_tree_Tree_Len) : evF ⟨Tryz.prog, [], [], []⟩ 10 N Tryz.f112.results.toList (Tryz.f112.body.getD .skip) pl_tree_Tree_Len A_tree_Tree_Len R_tree_Tree_Len x = tree_Tree_Len N x := by kernel_rfl
theorem row_tree_Tree_Len (N : Nat) : RowOk Tryz.prog ⟨112, A_tree_Tree_Len, R_tree_Tree_Len, tree_Tree_Len N⟩ :=
  row_mk 112 Tryz.f112 A_tree_Tree_Len R_tree_Tree_Len (tree_Tree_Len N) _ _ _ 10 N pl_tree_Tree_Len (rows_nil) (eqs_nil) mixed Tryz.func112 (by kernel_rfl) Tryz.ntmps112 (by kernel_rfl) (E_tree_Tree_Len N) (by kernel_rfl)
/-! treering/treeringlaw13.Same -/
abbrev A_law13_Same : List Ty := [.c .ptr, .c .ptr]
abbrev R_law13_Same : List Ty := [.c .bool]
noncomputable def law13_Same_L0 (N : Nat) (x : (Option Addr) × Option Addr) (r1 : Sl) (r2 : Sl) (s18 : Int) : M (Int ⊕ (Unit ⊕ Bool)) :=
 vl (decide (s18 < (r1.len : Int))) fun t19 =>
 cnd t19 (
 nz x.2 fun a20 =>
 ld [.slice] (Addr.add a20 0) fun (r21 : Sl) =>
 ixA r21.a r21.len s18 3 fun a22 =>
 ld [.str, .int .i64, .bool] a22 fun (r23 : ByteArray × Int × Bool) =>
 M.new (ob [.string (⟨#[]⟩ : ByteArray), .int .i64 0, .bool false] 174) fun b24 =>
 st ⟨b24, 0, none⟩ [.string r23.1, .int .i64 r23.2.1, .bool r23.2.2] <|
 M.bind ((
 ixA r1.a r1.len s18 3 fun a25 =>
 ld [.str] (Addr.add a25 0) fun (r26 : ByteArray) =>
 ld [.str] (Addr.add ⟨b24, 0, none⟩ 0) fun (r27 : ByteArray) =>
 vl (scmp .neq r26 r27) fun t28 =>
 cnd t28 (
 M.pure true) (
 ixA r1.a r1.len s18 3 fun a29 =>
 ld [.int .i64] (Addr.add a29 1) fun (r30 : Int) =>
 ld [.int .i64] (Addr.add ⟨b24, 0, none⟩ 1) fun (r31 : Int) =>
 vl (r30 != r31) fun t32 =>
 cnd t32 (
 M.pure true) (
 ixA r1.a r1.len s18 3 fun a33 =>
 ld [.bool] (Addr.add a33 2) fun (r34 : Bool) =>
 ld [.bool] (Addr.add ⟨b24, 0, none⟩ 2) fun (r35 : Bool) =>
 vl (!(r34 == r35)) fun t36 =>
 cnd t36 (
 M.pure true) (
 ixA r2.a r2.len s18 1 fun a37 =>
 ld [.str] a37 fun (r38 : ByteArray) =>
 ld [.str] (Addr.add ⟨b24, 0, none⟩ 0) fun (r39 : ByteArray) =>
 vl (scmp .neq r38 r39) fun t40 =>
 M.pure t40)))) : M (Bool)) fun (r41 : Bool) =>
 cnd r41 (
 M.pure (inrS (.inr false))) (
 ld [.str] (Addr.add ⟨b24, 0, none⟩ 0) fun (r42 : ByteArray) =>
 M.bind (tree_Tree_Look N (x.1, r42)) fun (r43 : Int × Bool × Int) =>
 M.bind ((
 vl (r43.2.2 != (0 : Int)) fun t44 =>
 cnd t44 (
 M.pure true) (
 ld [.int .i64] (Addr.add ⟨b24, 0, none⟩ 1) fun (r45 : Int) =>
 vl (r43.1 != r45) fun t46 =>
 cnd t46 (
 M.pure true) (
 ld [.bool] (Addr.add ⟨b24, 0, none⟩ 2) fun (r47 : Bool) =>
 vl (!(r43.2.1 == r47)) fun t48 =>
 M.pure t48))) : M (Bool)) fun (r49 : Bool) =>
 cnd r49 (
 M.pure (inrS (.inr false))) (
 vl (wi (s18 + (1 : Int))) fun i50 =>
 M.pure (inlS i50)))) (
 M.pure (inrS (.inl ())))
noncomputable def law13_Same (N : Nat) (x : (Option Addr) × Option Addr) : M (Bool) :=
 M.bind (tree_Tree_Nodes N x.1) fun (r1 : Sl) =>
 M.bind (tree_Tree_Paths N x.1) fun (r2 : Sl) =>
 M.bind ((
 nz x.2 fun a3 =>
 ld [.slice] (Addr.add a3 0) fun (r4 : Sl) =>
 vl ((r1.len : Int) != (r4.len : Int)) fun t5 =>
 cnd t5 (
 M.pure true) (
 nz x.2 fun a6 =>
 ld [.slice] (Addr.add a6 0) fun (r7 : Sl) =>
 vl ((r2.len : Int) != (r7.len : Int)) fun t8 =>
 cnd t8 (
 M.pure true) (
 nz x.2 fun a9 =>
 ld [.slice] (Addr.add a9 0) fun (r10 : Sl) =>
 M.bind (tree_Tree_Len N x.1) fun (r11 : Int) =>
 M.again (ldR [.slice] (Addr.add a9 0)) r10 <|
 vl (r11 != (r10.len : Int)) fun t12 =>
 cnd t12 (
 M.pure true) (
 nz x.2 fun a13 =>
 ld [.int .i64] (Addr.add a13 1) fun (r14 : Int) =>
 M.bind (tree_Tree_Next N x.1) fun (r15 : Int) =>
 M.again (ldR [.int .i64] (Addr.add a13 1)) r14 <|
 vl (r15 != r14) fun t16 =>
 M.pure t16)))) : M (Bool)) fun (r17 : Bool) =>
 cnd r17 (
 M.pure false) (
 M.bind (M.loop N (law13_Same_L0 N x r1 r2) 0) fun (r51 : Unit ⊕ Bool) =>
 sumM r51 (fun (q52 : Unit) =>
 M.pure true) fun (r53 : Bool) =>
 M.pure r53)
noncomputable def pl_law13_Same : Plan := .kids (.leaf) (.kids (.leaf) (.kids (.join [(.normal, [(52, .c .bool)])] (.ord [0, 1, 2, 3, 4, 5, 6, 7, 8, 9, 10, 11, 12, 13, 14, 15, 16, 17, 18, 19, 21, 22, 23, 24, 25, 20, 26, 27, 28, 29, 31, 32, 33, 34, 30, 35, 36]) (.leaf)) (.kids (.kids (.leaf) (.kids (.loop [(7, .c (.int .i64))] [(.exit 0, []), (.ret, [(4, .c .bool)])] (.kids (.leaf) (.kids (.kids (.kids (.leaf) (.kids (.join [(.normal, [(102, .c .bool)])] (.ord [0, 1, 2, 3, 4, 5, 6, 7, 8, 9, 10, 11, 12, 13, 14, 15, 16, 17, 18, 19, 20, 21, 22, 23, 24, 25, 26, 27, 28, 29, 30, 31, 32, 33, 34, 35, 36]) (.leaf)) (.kids (.leaf) (.join [(.normal, [(124, .c .bool)])] (.leaf) (.leaf))))) .leaf) (.leaf)))) .leaf)) (.leaf))))
theorem E_law13_Same (N : Nat) (x : Ts A_law13_Same) : evF ⟨Tryz.prog, [⟨24, A_tree_Tree_Nodes, R_tree_Tree_Nodes, tree_Tree_Nodes N⟩, ⟨80, A_tree_Tree_Paths, R_tree_Tree_Paths, tree_Tree_Paths N⟩, ⟨112, A_tree_Tree_Len, R_tree_Tree_Len, tree_Tree_Len N⟩, ⟨26, A_tree_Tree_Next, R_tree_Tree_Next, tree_Tree_Next N⟩, ⟨39, A_tree_Tree_Look, R_tree_Tree_Look, tree_Tree_Look N⟩], [], []⟩ 125 N Tryz.f92.results.toList (Tryz.f92.body.getD .skip) pl_law13_Same A_law13_Same R_law13_Same x = law13_Same N x := by kernel_rfl
theorem row_law13_Same (N : Nat) : RowOk Tryz.prog ⟨92, A_law13_Same, R_law13_Same, law13_Same N⟩ :=
  row_mk 92 Tryz.f92 A_law13_Same R_law13_Same (law13_Same N) _ _ _ 125 N pl_law13_Same (rows_cons (row_tree_Tree_Nodes N) (rows_cons (row_tree_Tree_Paths N) (rows_cons (row_tree_Tree_Len N) (rows_cons (row_tree_Tree_Next N) (rows_cons (row_tree_Tree_Look N) rows_nil))))) (eqs_nil) mixed Tryz.func92 (by kernel_rfl) Tryz.ntmps92 (by kernel_rfl) (E_law13_Same N) (by kernel_rfl)
/-! treering/treeringref24.Stat -/
abbrev A_ref24_Stat : List Ty := [.c .ptr, .c .str]
abbrev R_ref24_Stat : List Ty := [.agg [.int .i64, .bool, .int .i64], .c (.int .i64)]
noncomputable def ref24_Stat (N : Nat) (x : (Option Addr) × ByteArray) : M ((Int × Bool × Int) × Int) :=
 M.new (ob [.int .i64 0, .bool false, .int .i64 0] 137) fun b1 =>
 nz x.1 fun a2 =>
 M.bind (ref12_Tree_Look N ((some (Addr.add a2 0)), x.2)) fun (r3 : Int × Bool × Int) =>
 vl (r3.2.2 != (0 : Int)) fun t4 =>
 cnd t4 (
 st ⟨b1, 0, none⟩ [.int .i64 0, .bool false, .int .i64 0] <|
 ld [.int .i64, .bool, .int .i64] ⟨b1, 0, none⟩ fun (r5 : Int × Bool × Int) =>
 M.pure ((r5.1, r5.2.1, r5.2.2), r3.2.2)) (
 cnd r3.2.1 (
 st ⟨b1, 0, none⟩ [.int .i64 r3.1, .bool true, .int .i64 0] <|
 ld [.int .i64, .bool, .int .i64] ⟨b1, 0, none⟩ fun (r6 : Int × Bool × Int) =>
 M.pure ((r6.1, r6.2.1, r6.2.2), 0)) (
 M.bind (ref12_State_Body N (x.1, r3.1)) fun (r7 : Option Addr) =>
 nz r7 fun a8 =>
 ld [.int .i64] (Addr.add a8 0) fun (r9 : Int) =>
 st ⟨b1, 0, none⟩ [.int .i64 r3.1, .bool false, .int .i64 r9] <|
 ld [.int .i64, .bool, .int .i64] ⟨b1, 0, none⟩ fun (r10 : Int × Bool × Int) =>
 M.pure ((r10.1, r10.2.1, r10.2.2), 0)))
noncomputable def pl_ref24_Stat : Plan := .leaf
theorem E_ref24_Stat (N : Nat) (x : Ts A_ref24_Stat) : evF ⟨Tryz.prog, [⟨88, A_ref12_Tree_Look, R_ref12_Tree_Look, ref12_Tree_Look N⟩, ⟨52, A_ref12_State_Body, R_ref12_State_Body, ref12_State_Body N⟩], [], []⟩ 33 N Tryz.f93.results.toList (Tryz.f93.body.getD .skip) pl_ref24_Stat A_ref24_Stat R_ref24_Stat x = ref24_Stat N x := by kernel_rfl
theorem row_ref24_Stat (N : Nat) : RowOk Tryz.prog ⟨93, A_ref24_Stat, R_ref24_Stat, ref24_Stat N⟩ :=
  row_mk 93 Tryz.f93 A_ref24_Stat R_ref24_Stat (ref24_Stat N) _ _ _ 33 N pl_ref24_Stat (rows_cons (row_ref12_Tree_Look N) (rows_cons (row_ref12_State_Body N) rows_nil)) (eqs_nil) mixed Tryz.func93 (by kernel_rfl) Tryz.ntmps93 (by kernel_rfl) (E_ref24_Stat N) (by kernel_rfl)
/-! treering/treeringlaw12.Same -/
abbrev A_law12_Same : List Ty := [.agg [.int .i64, .slice], .agg [.int .i64, .slice]]
abbrev R_law12_Same : List Ty := [.c .bool]
noncomputable def law12_Same_L0 (N : Nat) (b1 : Nat) (b2 : Nat) (s10 : Int) : M (Int ⊕ (Unit ⊕ Bool)) :=
 ld [.slice] (Addr.add ⟨b1, 0, none⟩ 1) fun (r11 : Sl) =>
 vl (decide (s10 < (r11.len : Int))) fun t12 =>
 cnd t12 (
 ld [.slice] (Addr.add ⟨b1, 0, none⟩ 1) fun (r13 : Sl) =>
 ixA r13.a r13.len s10 4 fun a14 =>
 ld [.int .i64, .int .i64, .int .i64, .int .i64] a14 fun (r15 : Int × Int × Int × Int) =>
 ld [.slice] (Addr.add ⟨b2, 0, none⟩ 1) fun (r16 : Sl) =>
 ixA r16.a r16.len s10 4 fun a17 =>
 ld [.int .i64, .int .i64, .int .i64, .int .i64] a17 fun (r18 : Int × Int × Int × Int) =>
 M.new (ob [.int .i64 0, .int .i64 0, .int .i64 0, .int .i64 0] 40) fun b19 =>
 M.new (ob [.int .i64 0, .int .i64 0, .int .i64 0, .int .i64 0] 149) fun b20 =>
 st ⟨b19, 0, none⟩ [.int .i64 r15.1, .int .i64 r15.2.1, .int .i64 r15.2.2.1, .int .i64 r15.2.2.2] <|
 M.again (ldR [.int .i64, .int .i64, .int .i64, .int .i64] a17) r18 <|
 M.again (ldR [.slice] (Addr.add ⟨b2, 0, none⟩ 1)) r16 <|
 st ⟨b20, 0, none⟩ [.int .i64 r18.1, .int .i64 r18.2.1, .int .i64 r18.2.2.1, .int .i64 r18.2.2.2] <|
 M.bind ((
 ld [.int .i64] (Addr.add ⟨b19, 0, none⟩ 0) fun (r21 : Int) =>
 ld [.int .i64] (Addr.add ⟨b20, 0, none⟩ 0) fun (r22 : Int) =>
 vl (r21 != r22) fun t23 =>
 cnd t23 (
 M.pure true) (
 ld [.int .i64] (Addr.add ⟨b19, 0, none⟩ 1) fun (r24 : Int) =>
 ld [.int .i64] (Addr.add ⟨b20, 0, none⟩ 1) fun (r25 : Int) =>
 vl (r24 != r25) fun t26 =>
 cnd t26 (
 M.pure true) (
 ld [.int .i64] (Addr.add ⟨b19, 0, none⟩ 2) fun (r27 : Int) =>
 ld [.int .i64] (Addr.add ⟨b20, 0, none⟩ 2) fun (r28 : Int) =>
 vl (r27 != r28) fun t29 =>
 cnd t29 (
 M.pure true) (
 ld [.int .i64] (Addr.add ⟨b19, 0, none⟩ 3) fun (r30 : Int) =>
 ld [.int .i64] (Addr.add ⟨b20, 0, none⟩ 3) fun (r31 : Int) =>
 vl (r30 != r31) fun t32 =>
 M.pure t32)))) : M (Bool)) fun (r33 : Bool) =>
 cnd r33 (
 M.pure (inrS (.inr false))) (
 vl (wi (s10 + (1 : Int))) fun i34 =>
 M.pure (inlS i34))) (
 M.pure (inrS (.inl ())))
noncomputable def law12_Same (N : Nat) (x : (Int × Sl) × Int × Sl) : M (Bool) :=
 M.new (ob [.int .i64 x.1.1, .slice x.1.2.a x.1.2.len x.1.2.cap] 47) fun b1 =>
 M.new (ob [.int .i64 x.2.1, .slice x.2.2.a x.2.2.len x.2.2.cap] 68) fun b2 =>
 M.bind ((
 ld [.int .i64] (Addr.add ⟨b1, 0, none⟩ 0) fun (r3 : Int) =>
 ld [.int .i64] (Addr.add ⟨b2, 0, none⟩ 0) fun (r4 : Int) =>
 vl (r3 != r4) fun t5 =>
 cnd t5 (
 M.pure true) (
 ld [.slice] (Addr.add ⟨b1, 0, none⟩ 1) fun (r6 : Sl) =>
 ld [.slice] (Addr.add ⟨b2, 0, none⟩ 1) fun (r7 : Sl) =>
 vl ((r6.len : Int) != (r7.len : Int)) fun t8 =>
 M.pure t8)) : M (Bool)) fun (r9 : Bool) =>
 cnd r9 (
 M.pure false) (
 M.bind (M.loop N (law12_Same_L0 N b1 b2) 0) fun (r35 : Unit ⊕ Bool) =>
 sumM r35 (fun (q36 : Unit) =>
 M.pure true) fun (r37 : Bool) =>
 M.pure r37)
noncomputable def pl_law12_Same : Plan := .kids (.leaf) (.kids (.join [(.normal, [(21, .c .bool)])] (.leaf) (.leaf)) (.kids (.kids (.leaf) (.kids (.loop [(5, .c (.int .i64))] [(.exit 0, []), (.ret, [(4, .c .bool)])] (.kids (.leaf) (.kids (.kids (.kids (.ord [0, 1, 2, 3, 4, 5, 6, 7, 8, 9, 10, 11, 12, 13]) (.join [(.normal, [(64, .c .bool)])] (.leaf) (.leaf))) .leaf) (.leaf)))) .leaf)) (.leaf)))
theorem E_law12_Same (N : Nat) (x : Ts A_law12_Same) : evF ⟨Tryz.prog, [], [], []⟩ 65 N Tryz.f94.results.toList (Tryz.f94.body.getD .skip) pl_law12_Same A_law12_Same R_law12_Same x = law12_Same N x := by kernel_rfl
theorem row_law12_Same (N : Nat) : RowOk Tryz.prog ⟨94, A_law12_Same, R_law12_Same, law12_Same N⟩ :=
  row_mk 94 Tryz.f94 A_law12_Same R_law12_Same (law12_Same N) _ _ _ 65 N pl_law12_Same (rows_nil) (eqs_nil) mixed Tryz.func94 (by kernel_rfl) Tryz.ntmps94 (by kernel_rfl) (E_law12_Same N) (by kernel_rfl)
/-! treering/treeringref12.Insert -/
abbrev A_ref12_Insert : List Ty := [.c .slice, .c (.int .i64)]
abbrev R_ref12_Insert : List Ty := [.c .slice]
noncomputable def ref12_Insert_L0 (N : Nat) (x : Sl × Int) (s1 : Int) : M (Int ⊕ (Int)) :=
 M.bind ((
 vl (decide (s1 < (x.1.len : Int))) fun t2 =>
 cnd t2 (
 ixA x.1.a x.1.len s1 1 fun a3 =>
 ld [.int .i64] a3 fun (r4 : Int) =>
 vl (decide (r4 < x.2)) fun t5 =>
 M.pure t5) (
 M.pure false)) : M (Bool)) fun (r6 : Bool) =>
 cnd r6 (
 vl (wi (s1 + (1 : Int))) fun i7 =>
 M.pure (inlS i7)) (
 M.pure (inrS s1))
noncomputable def ref12_Insert (N : Nat) (x : Sl × Int) : M (Sl) :=
 M.bind (M.loop N (ref12_Insert_L0 N x) 0) fun (r8 : Int) =>
 M.bind ((
 vl (decide (r8 < (x.1.len : Int))) fun t9 =>
 cnd t9 (
 ixA x.1.a x.1.len r8 1 fun a10 =>
 ld [.int .i64] a10 fun (r11 : Int) =>
 vl (r11 == x.2) fun t12 =>
 M.pure t12) (
 M.pure false)) : M (Bool)) fun (r13 : Bool) =>
 cnd r13 (
 M.pure x.1) (
 subM x.1 0 r8 (x.1.cap : Int) 1 fun s14 =>
 subM x.1 r8 (x.1.len : Int) (x.1.cap : Int) 1 fun s15 =>
 M.bind (appM 3 1 8 [.int .i64 0] ⟨none, 0, 0⟩ (.sl s14.a s14.len)) fun s16 =>
 M.new (ob [.int .i64 x.2] 3) fun b17 =>
 M.bind (appM 3 1 8 [.int .i64 0] s16 (.sl (some ⟨b17, 0, none⟩) 1)) fun s18 =>
 M.bind (appM 3 1 8 [.int .i64 0] s18 (.sl s15.a s15.len)) fun s19 =>
 M.pure s19)
noncomputable def pl_ref12_Insert : Plan := .kids (.leaf) (.kids (.leaf) (.kids (.kids (.loop [(5, .c (.int .i64))] [(.exit 0, [(5, .c (.int .i64))])] (.kids (.join [(.normal, [(17, .c .bool)])] (.leaf) (.leaf)) (.leaf))) .leaf) (.kids (.join [(.normal, [(31, .c .bool)])] (.leaf) (.leaf)) (.kids (.ord [0, 1, 2, 4, 7, 8, 9, 3, 5, 6, 10, 11]) (.leaf)))))
theorem E_ref12_Insert (N : Nat) (x : Ts A_ref12_Insert) : evF ⟨Tryz.prog, [], [], []⟩ 44 N Tryz.f109.results.toList (Tryz.f109.body.getD .skip) pl_ref12_Insert A_ref12_Insert R_ref12_Insert x = ref12_Insert N x := by kernel_rfl
theorem row_ref12_Insert (N : Nat) : RowOk Tryz.prog ⟨109, A_ref12_Insert, R_ref12_Insert, ref12_Insert N⟩ :=
  row_mk 109 Tryz.f109 A_ref12_Insert R_ref12_Insert (ref12_Insert N) _ _ _ 44 N pl_ref12_Insert (rows_nil) (eqs_nil) mixed Tryz.func109 (by kernel_rfl) Tryz.ntmps109 (by kernel_rfl) (E_ref12_Insert N) (by kernel_rfl)
/-! (*treering/treeringref12.State).Uses -/
abbrev A_ref12_State_Uses : List Ty := [.c .ptr]
abbrev R_ref12_State_Uses : List Ty := [.c .slice]
noncomputable def ref12_State_Uses_L0 (N : Nat) (x : Option Addr) (s1 : Sl × Int) (s5 : Sl × Int) : M ((Sl × Int) ⊕ (Sl)) :=
 nz x fun a6 =>
 ld [.slice] (Addr.add a6 2) fun (r7 : Sl) =>
 ixA r7.a r7.len s1.2 3 fun a8 =>
 ld [.slice] (Addr.add (Addr.add a8 1) 1) fun (r9 : Sl) =>
 vl (decide (s5.2 < (r9.len : Int))) fun t10 =>
 cnd t10 (
 nz x fun a11 =>
 ld [.slice] (Addr.add a11 2) fun (r12 : Sl) =>
 ixA r12.a r12.len s1.2 3 fun a13 =>
 ld [.slice] (Addr.add (Addr.add a13 1) 1) fun (r14 : Sl) =>
 ixA r14.a r14.len s5.2 4 fun a15 =>
 ld [.int .i64] (Addr.add a15 2) fun (r16 : Int) =>
 M.bind (ref12_Insert N (s5.1, r16)) fun (r17 : Sl) =>
 vl (wi (s5.2 + (1 : Int))) fun i18 =>
 M.pure (inlS (r17, i18))) (
 M.pure (inrS s5.1))
noncomputable def ref12_State_Uses_L1 (N : Nat) (x : Option Addr) (s1 : Sl × Int) : M ((Sl × Int) ⊕ (Sl)) :=
 nz x fun a2 =>
 ld [.slice] (Addr.add a2 2) fun (r3 : Sl) =>
 vl (decide (s1.2 < (r3.len : Int))) fun t4 =>
 cnd t4 (
 M.bind (M.loop N (ref12_State_Uses_L0 N x s1) (s1.1, 0)) fun (r19 : Sl) =>
 vl (wi (s1.2 + (1 : Int))) fun i20 =>
 M.pure (inlS (r19, i20))) (
 M.pure (inrS s1.1))
noncomputable def ref12_State_Uses (N : Nat) (x : Option Addr) : M (Sl) :=
 M.bind (M.loop N (ref12_State_Uses_L1 N x) (⟨none, 0, 0⟩, 0)) fun (r21 : Sl) =>
 M.pure r21
noncomputable def pl_ref12_State_Uses : Plan := .kids (.leaf) (.kids (.leaf) (.kids (.kids (.leaf) (.kids (.loop [(3, .c .slice), (4, .c (.int .i64))] [(.exit 0, [(3, .c .slice)])] (.kids (.leaf) (.kids (.kids (.kids (.leaf) (.kids (.loop [(3, .c .slice), (5, .c (.int .i64))] [(.exit 2, [(3, .c .slice)])] (.leaf)) .leaf)) .leaf) (.leaf)))) .leaf)) (.leaf)))
theorem E_ref12_State_Uses (N : Nat) (x : Ts A_ref12_State_Uses) : evF ⟨Tryz.prog, [⟨109, A_ref12_Insert, R_ref12_Insert, ref12_Insert N⟩], [], []⟩ 45 N Tryz.f95.results.toList (Tryz.f95.body.getD .skip) pl_ref12_State_Uses A_ref12_State_Uses R_ref12_State_Uses x = ref12_State_Uses N x := by kernel_rfl
theorem row_ref12_State_Uses (N : Nat) : RowOk Tryz.prog ⟨95, A_ref12_State_Uses, R_ref12_State_Uses, ref12_State_Uses N⟩ :=
  row_mk 95 Tryz.f95 A_ref12_State_Uses R_ref12_State_Uses (ref12_State_Uses N) _ _ _ 45 N pl_ref12_State_Uses (rows_cons (row_ref12_Insert N) rows_nil) (eqs_nil) mixed Tryz.func95 (by kernel_rfl) Tryz.ntmps95 (by kernel_rfl) (E_ref12_State_Uses N) (by kernel_rfl)
/-! treering/treeringlaw15.Same -/
abbrev A_law15_Same : List Ty := [.c .ptr, .c .ptr]
abbrev R_law15_Same : List Ty := [.c .bool]
noncomputable def law15_Same_L0 (N : Nat) (x : (Option Addr) × Option Addr) (s5 : Int) : M (Int ⊕ (Unit ⊕ Bool)) :=
 nz x.2 fun a6 =>
 ld [.slice] (Addr.add (Addr.add a6 0) 0) fun (r7 : Sl) =>
 vl (decide (s5 < (r7.len : Int))) fun t8 =>
 cnd t8 (
 nz x.2 fun a9 =>
 ld [.slice] (Addr.add (Addr.add a9 0) 0) fun (r10 : Sl) =>
 ixA r10.a r10.len s5 3 fun a11 =>
 ld [.str, .int .i64, .bool] a11 fun (r12 : ByteArray × Int × Bool) =>
 M.new (ob [.string (⟨#[]⟩ : ByteArray), .int .i64 0, .bool false] 174) fun b13 =>
 st ⟨b13, 0, none⟩ [.string r12.1, .int .i64 r12.2.1, .bool r12.2.2] <|
 ld [.int .i64] (Addr.add ⟨b13, 0, none⟩ 1) fun (r14 : Int) =>
 M.bind (fold_State_Body N (x.1, r14)) fun (r15 : (Int × Sl) × Bool) =>
 M.new (ob [.int .i64 0, .slice none 0 0] 47) fun b16 =>
 st ⟨b16, 0, none⟩ [.int .i64 r15.1.1, .slice r15.1.2.a r15.1.2.len r15.1.2.cap] <|
 ld [.str] (Addr.add ⟨b13, 0, none⟩ 0) fun (r17 : ByteArray) =>
 M.bind (fold_State_Stat N (x.1, r17)) fun (r18 : (Int × Bool × Int) × Int) =>
 M.new (ob [.int .i64 0, .bool false, .int .i64 0] 137) fun b19 =>
 st ⟨b19, 0, none⟩ [.int .i64 r18.1.1, .bool r18.1.2.1, .int .i64 r18.1.2.2] <|
 ld [.str] (Addr.add ⟨b13, 0, none⟩ 0) fun (r20 : ByteArray) =>
 M.bind (ref24_Stat N (x.2, r20)) fun (r21 : (Int × Bool × Int) × Int) =>
 M.new (ob [.int .i64 0, .bool false, .int .i64 0] 137) fun b22 =>
 st ⟨b22, 0, none⟩ [.int .i64 r21.1.1, .bool r21.1.2.1, .int .i64 r21.1.2.2] <|
 M.bind ((
 ld [.bool] (Addr.add ⟨b13, 0, none⟩ 2) fun (r23 : Bool) =>
 vl (r15.2 == r23) fun t24 =>
 cnd t24 (
 M.pure true) (
 vl (r18.2 != r21.2) fun t25 =>
 cnd t25 (
 M.pure true) (
 ld [.int .i64, .bool, .int .i64] ⟨b19, 0, none⟩ fun (r26 : Int × Bool × Int) =>
 ld [.int .i64, .bool, .int .i64] ⟨b22, 0, none⟩ fun (r27 : Int × Bool × Int) =>
 vl (!(((r26.1 : Int) == (r27.1 : Int)) && ((r26.2.1 == r27.2.1) && ((r26.2.2 : Int) == (r27.2.2 : Int))))) fun t28 =>
 M.pure t28))) : M (Bool)) fun (r29 : Bool) =>
 cnd r29 (
 M.pure (inrS (.inr false))) (
 M.bind ((
 cnd r15.2 (
 ld [.int .i64, .slice] ⟨b16, 0, none⟩ fun (r30 : Int × Sl) =>
 ld [.int .i64] (Addr.add ⟨b13, 0, none⟩ 1) fun (r31 : Int) =>
 M.bind (ref12_State_Body N (x.2, r31)) fun (r32 : Option Addr) =>
 M.again (ldR [.int .i64, .slice] ⟨b16, 0, none⟩) r30 <|
 nz r32 fun a33 =>
 ld [.int .i64, .slice] a33 fun (r34 : Int × Sl) =>
 M.bind (law12_Same N ((r30.1, r30.2), (r34.1, r34.2))) fun (r35 : Bool) =>
 vl (!r35) fun t36 =>
 M.pure t36) (
 M.pure false)) : M (Bool)) fun (r37 : Bool) =>
 cnd r37 (
 M.pure (inrS (.inr false))) (
 vl (wi (s5 + (1 : Int))) fun i38 =>
 M.pure (inlS i38)))) (
 M.pure (inrS (.inl ())))
noncomputable def law15_Same_L1 (N : Nat) (r42 : Sl) (r43 : Sl) (s45 : Int) : M (Int ⊕ (Unit ⊕ Bool)) :=
 vl (decide (s45 < (r42.len : Int))) fun t46 =>
 cnd t46 (
 ixA r42.a r42.len s45 1 fun a47 =>
 ld [.int .i64] a47 fun (r48 : Int) =>
 ixA r43.a r43.len s45 1 fun a49 =>
 ld [.int .i64] a49 fun (r50 : Int) =>
 vl (r48 != r50) fun t51 =>
 cnd t51 (
 M.pure (inrS (.inr false))) (
 vl (wi (s45 + (1 : Int))) fun i52 =>
 M.pure (inlS i52))) (
 M.pure (inrS (.inl ())))
noncomputable def law15_Same (N : Nat) (x : (Option Addr) × Option Addr) : M (Bool) :=
 nz x.2 fun a1 =>
 M.bind (fold_State_Tree N x.1) fun (r2 : Option Addr) =>
 M.bind (law13_Same N (r2, (some (Addr.add a1 0)))) fun (r3 : Bool) =>
 vl (!r3) fun t4 =>
 cnd t4 (
 M.pure false) (
 M.bind (M.loop N (law15_Same_L0 N x) 0) fun (r39 : Unit ⊕ Bool) =>
 sumM r39 (fun (q40 : Unit) =>
 M.bind (fold_State_Uses N x.1) fun (r42 : Sl) =>
 M.bind (ref12_State_Uses N x.2) fun (r43 : Sl) =>
 vl ((r42.len : Int) != (r43.len : Int)) fun t44 =>
 cnd t44 (
 M.pure false) (
 M.bind (M.loop N (law15_Same_L1 N r42 r43) 0) fun (r53 : Unit ⊕ Bool) =>
 sumM r53 (fun (q54 : Unit) =>
 nz x.2 fun a56 =>
 ld [.int .i64] (Addr.add (Addr.add a56 0) 1) fun (r57 : Int) =>
 M.bind (fold_State_Body N (x.1, r57)) fun (r58 : (Int × Sl) × Bool) =>
 M.new (ob [.int .i64 0, .slice none 0 0] 47) fun b59 =>
 st ⟨b59, 0, none⟩ [.int .i64 r58.1.1, .slice r58.1.2.a r58.1.2.len r58.1.2.cap] <|
 vl (!r58.2) fun t60 =>
 M.pure t60) fun (r55 : Bool) =>
 M.pure r55)) fun (r41 : Bool) =>
 M.pure r41)
noncomputable def pl_law15_Same : Plan := .kids (.leaf) (.kids (.kids (.ord [0, 2, 3, 4, 1, 5, 6]) (.leaf)) (.kids (.kids (.leaf) (.kids (.loop [(5, .c (.int .i64))] [(.exit 0, []), (.ret, [(4, .c .bool)])] (.kids (.leaf) (.kids (.kids (.kids (.leaf) (.kids (.leaf) (.kids (.leaf) (.kids (.leaf) (.kids (.join [(.normal, [(77, .c .bool)])] (.leaf) (.leaf)) (.join [(.normal, [(89, .c .bool)])] (.ord [0, 1, 2, 3, 4, 5, 6, 7, 8, 9, 10, 11]) (.leaf))))))) .leaf) (.leaf)))) .leaf)) (.kids (.leaf) (.kids (.leaf) (.kids (.kids (.leaf) (.kids (.loop [(15, .c (.int .i64))] [(.exit 2, []), (.ret, [(4, .c .bool)])] (.kids (.leaf) (.kids (.kids (.kids (.ord [0, 1, 2, 3, 4, 5, 6, 7, 8]) (.leaf)) .leaf) (.leaf)))) .leaf)) (.leaf))))))
theorem E_law15_Same (N : Nat) (x : Ts A_law15_Same) : evF ⟨Tryz.prog, [⟨23, A_fold_State_Tree, R_fold_State_Tree, fold_State_Tree N⟩, ⟨92, A_law13_Same, R_law13_Same, law13_Same N⟩, ⟨25, A_fold_State_Body, R_fold_State_Body, fold_State_Body N⟩, ⟨67, A_fold_State_Stat, R_fold_State_Stat, fold_State_Stat N⟩, ⟨93, A_ref24_Stat, R_ref24_Stat, ref24_Stat N⟩, ⟨52, A_ref12_State_Body, R_ref12_State_Body, ref12_State_Body N⟩, ⟨94, A_law12_Same, R_law12_Same, law12_Same N⟩, ⟨21, A_fold_State_Uses, R_fold_State_Uses, fold_State_Uses N⟩, ⟨95, A_ref12_State_Uses, R_ref12_State_Uses, ref12_State_Uses N⟩], [(137, [.int .i64, .bool, .int .i64])], []⟩ 126 N Tryz.f31.results.toList (Tryz.f31.body.getD .skip) pl_law15_Same A_law15_Same R_law15_Same x = law15_Same N x := by kernel_rfl
theorem row_law15_Same (N : Nat) : RowOk Tryz.prog ⟨31, A_law15_Same, R_law15_Same, law15_Same N⟩ :=
  row_mk 31 Tryz.f31 A_law15_Same R_law15_Same (law15_Same N) _ _ _ 126 N pl_law15_Same (rows_cons (row_fold_State_Tree N) (rows_cons (row_law13_Same N) (rows_cons (row_fold_State_Body N) (rows_cons (row_fold_State_Stat N) (rows_cons (row_ref24_Stat N) (rows_cons (row_ref12_State_Body N) (rows_cons (row_law12_Same N) (rows_cons (row_fold_State_Uses N) (rows_cons (row_ref12_State_Uses N) rows_nil))))))))) (eqs_cons eq137 (eqs_nil)) mixed Tryz.func31 (by kernel_rfl) Tryz.ntmps31 (by kernel_rfl) (E_law15_Same N) (by kernel_rfl)
/-! treering/treeringlaw15.FoldPlays -/
abbrev A_law15_FoldPlays : List Ty := [.c .slice]
abbrev R_law15_FoldPlays : List Ty := [.c .bool]
noncomputable def law15_FoldPlays_L0 (N : Nat) (x : Sl) (r5 : Option Addr) (r6 : Option Addr) (s8 : Int) : M (Int ⊕ (Unit ⊕ Bool)) :=
 vl (decide (s8 < (x.len : Int))) fun t9 =>
 cnd t9 (
 ixA x.a x.len s8 7 fun a10 =>
 ld [.int .i64, .str, .str, .int .i64, .int .i64, .slice, .slice] a10 fun (r11 : Int × ByteArray × ByteArray × Int × Int × Sl × Sl) =>
 M.new (ob [.int .i64 0, .string (⟨#[]⟩ : ByteArray), .string (⟨#[]⟩ : ByteArray), .int .i64 0, .int .i64 0, .slice none 0 0, .slice none 0 0] 34) fun b12 =>
 st ⟨b12, 0, none⟩ [.int .i64 r11.1, .string r11.2.1, .string r11.2.2.1, .int .i64 r11.2.2.2.1, .int .i64 r11.2.2.2.2.1, .slice r11.2.2.2.2.2.1.a r11.2.2.2.2.2.1.len r11.2.2.2.2.2.1.cap, .slice r11.2.2.2.2.2.2.a r11.2.2.2.2.2.2.len r11.2.2.2.2.2.2.cap] <|
 ld [.int .i64, .str, .str, .int .i64, .int .i64, .slice] (Addr.add ⟨b12, 0, none⟩ 0) fun (r13 : Int × ByteArray × ByteArray × Int × Int × Sl) =>
 ld [.int .i64, .str, .str, .int .i64, .int .i64, .slice] (Addr.add ⟨b12, 0, none⟩ 0) fun (r14 : Int × ByteArray × ByteArray × Int × Int × Sl) =>
 M.bind (fold_State_Check N (r5, (r13.1, r13.2.1, r13.2.2.1, r13.2.2.2.1, r13.2.2.2.2.1, r13.2.2.2.2.2))) fun (r15 : Int) =>
 M.again (ldR [.int .i64, .str, .str, .int .i64, .int .i64, .slice] (Addr.add ⟨b12, 0, none⟩ 0)) r14 <|
 M.bind (ref12_State_Check N (r6, (r14.1, r14.2.1, r14.2.2.1, r14.2.2.2.1, r14.2.2.2.2.1, r14.2.2.2.2.2))) fun (r16 : Int) =>
 vl (r15 != r16) fun t17 =>
 cnd t17 (
 M.pure (inrS (.inr false))) (
 M.bind (fold_State_Copy N r5) fun (r18 : Option Addr) =>
 ld [.int .i64, .str, .str, .int .i64, .int .i64, .slice] (Addr.add ⟨b12, 0, none⟩ 0) fun (r19 : Int × ByteArray × ByteArray × Int × Int × Sl) =>
 ld [.slice] (Addr.add ⟨b12, 0, none⟩ 6) fun (r20 : Sl) =>
 ld [.int .i64, .str, .str, .int .i64, .int .i64, .slice] (Addr.add ⟨b12, 0, none⟩ 0) fun (r21 : Int × ByteArray × ByteArray × Int × Int × Sl) =>
 ld [.slice] (Addr.add ⟨b12, 0, none⟩ 6) fun (r22 : Sl) =>
 M.bind (law12_Parts N r20) fun (r23 : Sl) =>
 M.again (ldR [.slice] (Addr.add ⟨b12, 0, none⟩ 6)) r22 <|
 M.again (ldR [.int .i64, .str, .str, .int .i64, .int .i64, .slice] (Addr.add ⟨b12, 0, none⟩ 0)) r21 <|
 M.again (ldR [.int .i64, .str, .str, .int .i64, .int .i64, .slice] (Addr.add ⟨b12, 0, none⟩ 0)) r19 <|
 M.bind (fold_State_Apply N (r5, (r19.1, r19.2.1, r19.2.2.1, r19.2.2.2.1, r19.2.2.2.2.1, r19.2.2.2.2.2), r23)) fun (r24 : Int) =>
 M.again (ldR [.slice] (Addr.add ⟨b12, 0, none⟩ 6)) r22 <|
 M.again (ldR [.int .i64, .str, .str, .int .i64, .int .i64, .slice] (Addr.add ⟨b12, 0, none⟩ 0)) r21 <|
 M.bind (ref12_State_Apply N (r6, (r21.1, r21.2.1, r21.2.2.1, r21.2.2.2.1, r21.2.2.2.2.1, r21.2.2.2.2.2), r22)) fun (r25 : Int) =>
 M.bind ((
 vl (r24 != r25) fun t26 =>
 cnd t26 (
 M.pure true) (
 M.bind (law15_Same N (r5, r6)) fun (r27 : Bool) =>
 vl (!r27) fun t28 =>
 M.pure t28)) : M (Bool)) fun (r29 : Bool) =>
 cnd r29 (
 M.pure (inrS (.inr false))) (
 M.bind ((
 vl (r25 == (0 : Int)) fun t30 =>
 cnd t30 (
 ld [.int .i64, .str, .str, .int .i64, .int .i64, .slice] (Addr.add ⟨b12, 0, none⟩ 0) fun (r31 : Int × ByteArray × ByteArray × Int × Int × Sl) =>
 ld [.slice] (Addr.add ⟨b12, 0, none⟩ 6) fun (r32 : Sl) =>
 M.bind (law12_Parts N r32) fun (r33 : Sl) =>
 M.again (ldR [.int .i64, .str, .str, .int .i64, .int .i64, .slice] (Addr.add ⟨b12, 0, none⟩ 0)) r31 <|
 M.bind (fold_State_Apply N (r18, (r31.1, r31.2.1, r31.2.2.1, r31.2.2.2.1, r31.2.2.2.2.1, r31.2.2.2.2.2), r33)) fun (r34 : Int) =>
 vl (r34 != (0 : Int)) fun t35 =>
 cnd t35 (
 M.pure true) (
 M.bind (law15_Same N (r18, r6)) fun (r36 : Bool) =>
 vl (!r36) fun t37 =>
 M.pure t37)) (
 M.bind (law15_Same N (r18, r6)) fun (r38 : Bool) =>
 vl (!r38) fun t39 =>
 M.pure t39)) : M (Bool)) fun (r40 : Bool) =>
 cnd r40 (
 M.pure (inrS (.inr false))) (
 vl (wi (s8 + (1 : Int))) fun i41 =>
 M.pure (inlS i41))))) (
 M.pure (inrS (.inl ())))
noncomputable def law15_FoldPlays (N : Nat) (x : Sl) : M (Bool) :=
 M.bind (law15_awake N ()) fun (r1 : Bool) =>
 vl (!r1) fun t2 =>
 cnd t2 (
 M.pure false) (
 M.bind (law15_Small N (x, 100)) fun (r3 : Bool) =>
 vl (!r3) fun t4 =>
 cnd t4 (
 M.pure true) (
 M.bind (fold_New N ()) fun (r5 : Option Addr) =>
 M.bind (ref12_NewState N ()) fun (r6 : Option Addr) =>
 vl (Option.isNone r5) fun t7 =>
 cnd t7 (
 M.pure false) (
 M.bind (M.loop N (law15_FoldPlays_L0 N x r5 r6) 0) fun (r42 : Unit ⊕ Bool) =>
 sumM r42 (fun (q43 : Unit) =>
 M.pure true) fun (r44 : Bool) =>
 M.pure r44)))
noncomputable def pl_law15_FoldPlays : Plan := .kids (.leaf) (.kids (.leaf) (.kids (.leaf) (.kids (.leaf) (.kids (.leaf) (.kids (.kids (.leaf) (.kids (.loop [(5, .c (.int .i64))] [(.exit 0, []), (.ret, [(2, .c .bool)])] (.kids (.leaf) (.kids (.kids (.kids (.leaf) (.kids (.kids (.ord [0, 1, 2, 4, 5, 6, 3, 7, 8]) (.leaf)) (.kids (.leaf) (.kids (.ord [0, 1, 2, 3, 4, 7, 8, 9, 10, 11, 5, 6, 12, 13, 14]) (.kids (.join [(.normal, [(61, .c .bool)])] (.leaf) (.leaf)) (.join [(.normal, [(79, .c .bool)])] (.ord [0, 1, 2, 3, 4, 5, 6, 7, 8, 9, 10, 11, 12, 13, 14, 15, 16, 17]) (.leaf))))))) .leaf) (.leaf)))) .leaf)) (.leaf))))))
theorem E_law15_FoldPlays (N : Nat) (x : Ts A_law15_FoldPlays) : evF ⟨Tryz.prog, [⟨16, A_law15_awake, R_law15_awake, law15_awake N⟩, ⟨17, A_law15_Small, R_law15_Small, law15_Small N⟩, ⟨18, A_fold_New, R_fold_New, fold_New N⟩, ⟨27, A_ref12_NewState, R_ref12_NewState, ref12_NewState N⟩, ⟨28, A_fold_State_Check, R_fold_State_Check, fold_State_Check N⟩, ⟨29, A_ref12_State_Check, R_ref12_State_Check, ref12_State_Check N⟩, ⟨22, A_fold_State_Copy, R_fold_State_Copy, fold_State_Copy N⟩, ⟨20, A_law12_Parts, R_law12_Parts, law12_Parts N⟩, ⟨19, A_fold_State_Apply, R_fold_State_Apply, fold_State_Apply N⟩, ⟨30, A_ref12_State_Apply, R_ref12_State_Apply, ref12_State_Apply N⟩, ⟨31, A_law15_Same, R_law15_Same, law15_Same N⟩], [], []⟩ 80 N Tryz.f5.results.toList (Tryz.f5.body.getD .skip) pl_law15_FoldPlays A_law15_FoldPlays R_law15_FoldPlays x = law15_FoldPlays N x := by kernel_rfl
theorem row_law15_FoldPlays (N : Nat) : RowOk Tryz.prog ⟨5, A_law15_FoldPlays, R_law15_FoldPlays, law15_FoldPlays N⟩ :=
  row_mk 5 Tryz.f5 A_law15_FoldPlays R_law15_FoldPlays (law15_FoldPlays N) _ _ _ 80 N pl_law15_FoldPlays (rows_cons (row_law15_awake N) (rows_cons (row_law15_Small N) (rows_cons (row_fold_New N) (rows_cons (row_ref12_NewState N) (rows_cons (row_fold_State_Check N) (rows_cons (row_ref12_State_Check N) (rows_cons (row_fold_State_Copy N) (rows_cons (row_law12_Parts N) (rows_cons (row_fold_State_Apply N) (rows_cons (row_ref12_State_Apply N) (rows_cons (row_law15_Same N) rows_nil))))))))))) (eqs_nil) mixed Tryz.func5 (by kernel_rfl) Tryz.ntmps5 (by kernel_rfl) (E_law15_FoldPlays N) (by kernel_rfl)
/-! treering/treeringlaw12.Made -/
abbrev A_law12_Made : List Ty := [.agg [.int .i64, .slice]]
abbrev R_law12_Made : List Ty := [.agg [.int .i64, .slice]]
noncomputable def law12_Made (N : Nat) (x : Int × Sl) : M (Int × Sl) :=
 M.new (ob [.int .i64 x.1, .slice x.2.a x.2.len x.2.cap] 68) fun b1 =>
 M.new (ob [.int .i64 0, .slice none 0 0] 47) fun b2 =>
 ld [.int .i64] (Addr.add ⟨b1, 0, none⟩ 0) fun (r3 : Int) =>
 ld [.slice] (Addr.add ⟨b1, 0, none⟩ 1) fun (r4 : Sl) =>
 M.bind (law12_Parts N r4) fun (r5 : Sl) =>
 M.again (ldR [.int .i64] (Addr.add ⟨b1, 0, none⟩ 0)) r3 <|
 st ⟨b2, 0, none⟩ [.int .i64 r3, .slice r5.a r5.len r5.cap] <|
 ld [.int .i64, .slice] ⟨b2, 0, none⟩ fun (r6 : Int × Sl) =>
 M.pure (r6.1, r6.2)
noncomputable def pl_law12_Made : Plan := .kids (.leaf) (.kids (.ord [0, 1, 2, 3, 4, 5, 6]) (.leaf))
theorem E_law12_Made (N : Nat) (x : Ts A_law12_Made) : evF ⟨Tryz.prog, [⟨20, A_law12_Parts, R_law12_Parts, law12_Parts N⟩], [], []⟩ 9 N Tryz.f32.results.toList (Tryz.f32.body.getD .skip) pl_law12_Made A_law12_Made R_law12_Made x = law12_Made N x := by kernel_rfl
theorem row_law12_Made (N : Nat) : RowOk Tryz.prog ⟨32, A_law12_Made, R_law12_Made, law12_Made N⟩ :=
  row_mk 32 Tryz.f32 A_law12_Made R_law12_Made (law12_Made N) _ _ _ 9 N pl_law12_Made (rows_cons (row_law12_Parts N) rows_nil) (eqs_nil) mixed Tryz.func32 (by kernel_rfl) Tryz.ntmps32 (by kernel_rfl) (E_law12_Made N) (by kernel_rfl)

end Go.Wz
