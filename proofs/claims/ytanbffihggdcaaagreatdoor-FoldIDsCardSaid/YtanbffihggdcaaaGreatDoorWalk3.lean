/- The walk, part 3: what each function of the program computes, and that it does (printed by a program of ours). -/
import Derived.Test.YtanbffihggdcaaaGreatDoorWalk2
set_option linter.unusedVariables false
set_option maxRecDepth 100000
namespace Go.Wz
open Go.Proofs Go.Eng

/-! treering/fold.Build -/
abbrev A_fold_Build : List Ty := [.c .ptr, .c .slice, .c .slice]
abbrev R_fold_Build : List Ty := [.c .ptr, .c (.int .i64)]
noncomputable def fold_Build_L0 (N : Nat) (x : (Option Addr) × Sl × Sl) (b6 : Nat) (s7 : Int) : M (Int ⊕ (Unit ⊕ ((Option Addr) × Int))) :=
 vl (decide (s7 < (x.2.1.len : Int))) fun t8 =>
 cnd t8 (
 ixA x.2.1.a x.2.1.len s7 1 fun a9 =>
 ld [.int .i64] a9 fun (r10 : Int) =>
 nz (some ⟨b6, 0, none⟩) fun a11 =>
 ld [.map] (Addr.add a11 1) fun (r12 : Option Nat) =>
 M.rd (lookR (.int .i64) (.int .i64 r10) r12 (.agg [.int .i64, .slice]) (0, ⟨none, 0, 0⟩)) fun (r13 : (Int × Sl) × Bool) =>
 M.new (ob [.int .i64 0, .slice none 0 0] 47) fun b14 =>
 st ⟨b14, 0, none⟩ [.int .i64 r13.1.1, .slice r13.1.2.a r13.1.2.len r13.1.2.cap] <|
 M.bind ((
 cnd r13.2 (
 M.pure true) (
 ixA x.2.2.a x.2.2.len s7 2 fun a15 =>
 ld [.int .i64, .slice] a15 fun (r16 : Int × Sl) =>
 M.bind (body_May N (r16.1, r16.2)) fun (r17 : Bool) =>
 vl (!r17) fun t18 =>
 M.pure t18)) : M (Bool)) fun (r19 : Bool) =>
 cnd r19 (
 M.pure (inrS (.inr (none, 2)))) (
 nz (some ⟨b6, 0, none⟩) fun a20 =>
 ld [.map] (Addr.add a20 1) fun (r21 : Option Nat) =>
 ixA x.2.2.a x.2.2.len s7 2 fun a22 =>
 ld [.int .i64] (Addr.add a22 0) fun (r23 : Int) =>
 ixA x.2.2.a x.2.2.len s7 2 fun a24 =>
 ld [.slice] (Addr.add a24 1) fun (r25 : Sl) =>
 M.bind (slices_Clone_body_Part_body_Part N r25) fun (r26 : Sl) =>
 M.again (ldR [.int .i64] (Addr.add a22 0)) r23 <|
 M.again (ldR [.map] (Addr.add a20 1)) r21 <|
 M.bind (mapPutM (.int .i64) (.int .i64 r10) (.agg #[.int .i64 r23, .slice r26.a r26.len r26.cap]) r21) fun _ =>
 vl (wi (s7 + (1 : Int))) fun i27 =>
 M.pure (inlS i27))) (
 M.pure (inrS (.inl ())))
noncomputable def fold_Build_L1 (N : Nat) (b6 : Nat) (r31 : Sl) (s32 : Int × Int) : M ((Int × Int) ⊕ (Int ⊕ ((Option Addr) × Int))) :=
 vl (decide (s32.2 < (r31.len : Int))) fun t33 =>
 cnd t33 (
 M.bind ((
 ixA r31.a r31.len s32.2 3 fun a34 =>
 ld [.str, .int .i64, .bool] a34 fun (r35 : ByteArray × Int × Bool) =>
 M.new (ob [.string (⟨#[]⟩ : ByteArray), .int .i64 0, .bool false] 51) fun b36 =>
 st ⟨b36, 0, none⟩ [.string r35.1, .int .i64 r35.2.1, .bool r35.2.2] <|
 ld [.bool] (Addr.add ⟨b36, 0, none⟩ 2) fun (r37 : Bool) =>
 cnd r37 (
 M.pure (.inl s32.1)) (
 nz (some ⟨b6, 0, none⟩) fun a38 =>
 ld [.map] (Addr.add a38 1) fun (r39 : Option Nat) =>
 ld [.int .i64] (Addr.add ⟨b36, 0, none⟩ 1) fun (r40 : Int) =>
 M.rd (lookR (.int .i64) (.int .i64 r40) r39 (.agg [.int .i64, .slice]) (0, ⟨none, 0, 0⟩)) fun (r41 : (Int × Sl) × Bool) =>
 M.new (ob [.int .i64 0, .slice none 0 0] 47) fun b42 =>
 st ⟨b42, 0, none⟩ [.int .i64 r41.1.1, .slice r41.1.2.a r41.1.2.len r41.1.2.cap] <|
 vl (!r41.2) fun t43 =>
 cnd t43 (
 M.pure (.inr (none, 2))) (
 vl (wi (s32.1 + (1 : Int))) fun i44 =>
 M.pure (.inl i44)))) : M (Int ⊕ ((Option Addr) × Int))) fun (r45 : Int ⊕ ((Option Addr) × Int)) =>
 sumM r45 (fun (q46 : Int) =>
 vl (wi (s32.2 + (1 : Int))) fun i48 =>
 M.pure (inlS (q46, i48))) fun (r47 : ((Option Addr) × Int)) =>
 M.pure (inrS (.inr (r47.1, r47.2)))) (
 M.pure (inrS (.inl s32.1)))
noncomputable def fold_Build (N : Nat) (x : (Option Addr) × Sl × Sl) : M ((Option Addr) × Int) :=
 M.bind ((
 vl (Option.isNone x.1) fun t1 =>
 cnd t1 (
 M.pure true) (
 vl ((x.2.1.len : Int) != (x.2.2.len : Int)) fun t2 =>
 M.pure t2)) : M (Bool)) fun (r3 : Bool) =>
 cnd r3 (
 M.pure (none, 2)) (
 M.bind (tree_Tree_Copy N x.1) fun (r4 : Option Addr) =>
 M.new (.map #[] 0) fun b5 =>
 M.new (ob [.pointer r4, .map (some b5)] 142) fun b6 =>
 M.bind (M.loop N (fold_Build_L0 N x b6) 0) fun (r28 : Unit ⊕ ((Option Addr) × Int)) =>
 sumM r28 (fun (q29 : Unit) =>
 M.bind (tree_Tree_Nodes N x.1) fun (r31 : Sl) =>
 M.bind (M.loop N (fold_Build_L1 N b6 r31) (0, 0)) fun (r49 : Int ⊕ ((Option Addr) × Int)) =>
 sumM r49 (fun (q50 : Int) =>
 vl (q50 != (x.2.1.len : Int)) fun t52 =>
 cnd t52 (
 M.pure (none, 2)) (
 M.pure ((some ⟨b6, 0, none⟩), 0))) fun (r51 : ((Option Addr) × Int)) =>
 M.pure (r51.1, r51.2)) fun (r30 : ((Option Addr) × Int)) =>
 M.pure (r30.1, r30.2))
noncomputable def pl_fold_Build : Plan := .kids (.leaf) (.kids (.join [(.normal, [(26, .c .bool)])] (.leaf) (.leaf)) (.kids (.leaf) (.kids (.kids (.leaf) (.kids (.loop [(34, .c (.int .i64))] [(.exit 0, []), (.ret, [(6, .c .ptr), (7, .c (.int .i64))])] (.kids (.leaf) (.kids (.leaf) (.kids (.kids (.kids (.leaf) (.kids (.kids (.leaf) (.join [(.normal, [(56, .c .bool)])] (.leaf) (.leaf))) (.ord [0, 1, 2, 3, 4, 5, 6, 7, 8, 9, 10, 11, 12, 13, 14, 15, 16, 17]))) .leaf) (.leaf))))) .leaf)) (.kids (.leaf) (.kids (.kids (.leaf) (.kids (.loop [(13, .c (.int .i64)), (78, .c (.int .i64))] [(.exit 2, [(13, .c (.int .i64))]), (.ret, [(6, .c .ptr), (7, .c (.int .i64))])] (.kids (.leaf) (.kids (.leaf) (.join [(.normal, [(13, .c (.int .i64))]), (.ret, [(6, .c .ptr), (7, .c (.int .i64))])] (.kids (.kids (.leaf) (.kids (.leaf) (.kids (.kids (.ord [0, 1, 2, 3, 4, 5, 6, 7, 8, 9, 10, 11, 12]) (.leaf)) (.leaf)))) .leaf) (.leaf))))) .leaf)) (.leaf))))))
theorem E_fold_Build (N : Nat) (x : Ts A_fold_Build) : evF ⟨Tryz.prog, [⟨78, A_tree_Tree_Copy, R_tree_Tree_Copy, tree_Tree_Copy N⟩, ⟨96, A_body_May, R_body_May, body_May N⟩, ⟨81, A_slices_Clone_body_Part_body_Part, R_slices_Clone_body_Part_body_Part, slices_Clone_body_Part_body_Part N⟩, ⟨24, A_tree_Tree_Nodes, R_tree_Tree_Nodes, tree_Tree_Nodes N⟩], [], []⟩ 104 N Tryz.f33.results.toList (Tryz.f33.body.getD .skip) pl_fold_Build A_fold_Build R_fold_Build x = fold_Build N x := by kernel_rfl
theorem row_fold_Build (N : Nat) : RowOk Tryz.prog ⟨33, A_fold_Build, R_fold_Build, fold_Build N⟩ :=
  row_mk 33 Tryz.f33 A_fold_Build R_fold_Build (fold_Build N) _ _ _ 104 N pl_fold_Build (rows_cons (row_tree_Tree_Copy N) (rows_cons (row_body_May N) (rows_cons (row_slices_Clone_body_Part_body_Part N) (rows_cons (row_tree_Tree_Nodes N) rows_nil)))) (eqs_nil) mixed Tryz.func33 (by kernel_rfl) Tryz.ntmps33 (by kernel_rfl) (E_fold_Build N) (by kernel_rfl)
/-! treering/treeringlaw15.FoldBuilds -/
abbrev A_law15_FoldBuilds : List Ty := [.c .slice, .c (.int .u8)]
abbrev R_law15_FoldBuilds : List Ty := [.c .bool]
noncomputable def law15_FoldBuilds_L0 (N : Nat) (x : Sl × Int) (r5 : Option Addr) (r6 : Option Addr) (s7 : Int) : M (Int ⊕ (Unit)) :=
 vl (decide (s7 < (x.1.len : Int))) fun t8 =>
 cnd t8 (
 ixA x.1.a x.1.len s7 7 fun a9 =>
 ld [.int .i64, .str, .str, .int .i64, .int .i64, .slice] (Addr.add a9 0) fun (r10 : Int × ByteArray × ByteArray × Int × Int × Sl) =>
 ixA x.1.a x.1.len s7 7 fun a11 =>
 ld [.slice] (Addr.add a11 6) fun (r12 : Sl) =>
 M.bind (law12_Parts N r12) fun (r13 : Sl) =>
 M.again (ldR [.int .i64, .str, .str, .int .i64, .int .i64, .slice] (Addr.add a9 0)) r10 <|
 M.bind (fold_State_Apply N (r5, (r10.1, r10.2.1, r10.2.2.1, r10.2.2.2.1, r10.2.2.2.2.1, r10.2.2.2.2.2), r13)) fun (r14 : Int) =>
 ixA x.1.a x.1.len s7 7 fun a15 =>
 ld [.int .i64, .str, .str, .int .i64, .int .i64, .slice] (Addr.add a15 0) fun (r16 : Int × ByteArray × ByteArray × Int × Int × Sl) =>
 ixA x.1.a x.1.len s7 7 fun a17 =>
 ld [.slice] (Addr.add a17 6) fun (r18 : Sl) =>
 M.bind (ref12_State_Apply N (r6, (r16.1, r16.2.1, r16.2.2.1, r16.2.2.2.1, r16.2.2.2.2.1, r16.2.2.2.2.2), r18)) fun (r19 : Int) =>
 vl (wi (s7 + (1 : Int))) fun i20 =>
 M.pure (inlS i20)) (
 M.pure (inrS ()))
noncomputable def law15_FoldBuilds_L1 (N : Nat) (r6 : Option Addr) (s22 : Sl × Sl × Int) : M ((Sl × Sl × Int) ⊕ ((Sl × Sl))) :=
 nz r6 fun a23 =>
 ld [.slice] (Addr.add a23 2) fun (r24 : Sl) =>
 vl (decide (s22.2.2 < (r24.len : Int))) fun t25 =>
 cnd t25 (
 nz r6 fun a26 =>
 ld [.slice] (Addr.add a26 2) fun (r27 : Sl) =>
 ixA r27.a r27.len s22.2.2 3 fun a28 =>
 ld [.int .i64] (Addr.add a28 0) fun (r29 : Int) =>
 nz r6 fun a30 =>
 ld [.slice] (Addr.add a30 2) fun (r31 : Sl) =>
 ixA r31.a r31.len s22.2.2 3 fun a32 =>
 ld [.int .i64, .slice] (Addr.add a32 1) fun (r33 : Int × Sl) =>
 M.new (ob [.int .i64 r29] 3) fun b34 =>
 M.bind (appM 3 1 8 [.int .i64 0] s22.1 (.sl (some ⟨b34, 0, none⟩) 1)) fun s35 =>
 M.again (ldR [.int .i64, .slice] (Addr.add a32 1)) r33 <|
 M.again (ldR [.slice] (Addr.add a30 2)) r31 <|
 M.bind (law12_Made N (r33.1, r33.2)) fun (r36 : Int × Sl) =>
 M.new (ob [.int .i64 r36.1, .slice r36.2.a r36.2.len r36.2.cap] 47) fun b37 =>
 M.bind (appM 47 2 32 [.int .i64 0, .slice none 0 0] s22.2.1 (.sl (some ⟨b37, 0, none⟩) 1)) fun s38 =>
 vl (wi (s22.2.2 + (1 : Int))) fun i39 =>
 M.pure (inlS (s35, s38, i39))) (
 M.pure (inrS (s22.1, s22.2.1)))
noncomputable def law15_FoldBuilds (N : Nat) (x : Sl × Int) : M (Bool) :=
 M.bind (law15_awake N ()) fun (r1 : Bool) =>
 vl (!r1) fun t2 =>
 cnd t2 (
 M.pure false) (
 M.bind (law15_Small N (x.1, 60)) fun (r3 : Bool) =>
 vl (!r3) fun t4 =>
 cnd t4 (
 M.pure true) (
 M.bind (fold_New N ()) fun (r5 : Option Addr) =>
 M.bind (ref12_NewState N ()) fun (r6 : Option Addr) =>
 M.bind (M.loop N (law15_FoldBuilds_L0 N x r5 r6) 0) fun (r21 : Unit) =>
 M.bind (M.loop N (law15_FoldBuilds_L1 N r6) (⟨none, 0, 0⟩, ⟨none, 0, 0⟩, 0)) fun (r40 : (Sl × Sl)) =>
 M.bind (fold_State_Tree N r5) fun (r41 : Option Addr) =>
 M.bind (fold_Build N (r41, r40.1, r40.2)) fun (r42 : (Option Addr) × Int) =>
 M.bind ((
 vl (r42.2 != (0 : Int)) fun t43 =>
 cnd t43 (
 M.pure true) (
 vl (Option.isNone r42.1) fun t44 =>
 cnd t44 (
 M.pure true) (
 M.bind (law15_Same N (r42.1, r6)) fun (r45 : Bool) =>
 vl (!r45) fun t46 =>
 M.pure t46))) : M (Bool)) fun (r47 : Bool) =>
 cnd r47 (
 M.pure false) (
 M.bind (fold_State_Tree N r5) fun (r48 : Option Addr) =>
 M.new (ob [] 3) fun b49 =>
 M.bind (appM 3 1 8 [.int .i64 0] ⟨(some ⟨b49, 0, none⟩), 0, 0⟩ (.sl r40.1.a r40.1.len)) fun s50 =>
 M.new (ob [.int .i64 9999] 3) fun b51 =>
 M.bind (appM 3 1 8 [.int .i64 0] s50 (.sl (some ⟨b51, 0, none⟩) 1)) fun s52 =>
 M.new (ob [] 47) fun b53 =>
 M.bind (appM 47 2 32 [.int .i64 0, .slice none 0 0] ⟨(some ⟨b53, 0, none⟩), 0, 0⟩ (.sl r40.2.a r40.2.len)) fun s54 =>
 M.new (ob [.int .i64 0, .slice none 0 0] 47) fun b55 =>
 M.bind (appM 47 2 32 [.int .i64 0, .slice none 0 0] s54 (.sl (some ⟨b55, 0, none⟩) 1)) fun s56 =>
 M.bind (fold_Build N (r48, s52, s56)) fun (r57 : (Option Addr) × Int) =>
 M.bind (fold_Build N (none, r40.1, r40.2)) fun (r58 : (Option Addr) × Int) =>
 M.bind ((
 vl (r57.2 != (2 : Int)) fun t59 =>
 cnd t59 (
 M.pure true) (
 vl (r58.2 != (2 : Int)) fun t60 =>
 M.pure t60)) : M (Bool)) fun (r61 : Bool) =>
 cnd r61 (
 M.pure false) (
 vl ((r40.1.len : Int) == (0 : Int)) fun t62 =>
 cnd t62 (
 M.pure true) (
 vl (wi (x.2)) fun i63 =>
 divM (r40.1.len : Int) (Int.tmod i63 (r40.1.len : Int)) fun i64 =>
 subM r40.1 0 i64 (r40.1.cap : Int) 1 fun s65 =>
 vl (wi (i64 + (1 : Int))) fun i66 =>
 subM r40.1 i66 (r40.1.len : Int) (r40.1.cap : Int) 1 fun s67 =>
 subM r40.2 0 i64 (r40.2.cap : Int) 2 fun s68 =>
 vl (wi (i64 + (1 : Int))) fun i69 =>
 subM r40.2 i69 (r40.2.len : Int) (r40.2.cap : Int) 2 fun s70 =>
 M.bind (fold_State_Tree N r5) fun (r71 : Option Addr) =>
 M.new (ob [] 3) fun b72 =>
 M.bind (appM 3 1 8 [.int .i64 0] ⟨(some ⟨b72, 0, none⟩), 0, 0⟩ (.sl s65.a s65.len)) fun s73 =>
 M.bind (appM 3 1 8 [.int .i64 0] s73 (.sl s67.a s67.len)) fun s74 =>
 M.new (ob [] 47) fun b75 =>
 M.bind (appM 47 2 32 [.int .i64 0, .slice none 0 0] ⟨(some ⟨b75, 0, none⟩), 0, 0⟩ (.sl s68.a s68.len)) fun s76 =>
 M.bind (appM 47 2 32 [.int .i64 0, .slice none 0 0] s76 (.sl s70.a s70.len)) fun s77 =>
 M.bind (fold_Build N (r71, s74, s77)) fun (r78 : (Option Addr) × Int) =>
 ixA r40.2.a r40.2.len i64 2 fun a79 =>
 st (Addr.add a79 0) [.int .i64 (-1)] <|
 M.bind (fold_State_Tree N r5) fun (r80 : Option Addr) =>
 M.bind (fold_Build N (r80, r40.1, r40.2)) fun (r81 : (Option Addr) × Int) =>
 subM r40.2 0 i64 (r40.2.cap : Int) 2 fun s82 =>
 M.bind (fold_State_Tree N r5) fun (r83 : Option Addr) =>
 M.bind (fold_Build N (r83, r40.1, s82)) fun (r84 : (Option Addr) × Int) =>
 vl (r78.2 == (2 : Int)) fun t85 =>
 cnd t85 (
 vl (r81.2 == (2 : Int)) fun t86 =>
 cnd t86 (
 vl (r84.2 == (2 : Int)) fun t87 =>
 M.pure t87) (
 M.pure false)) (
 M.pure false))))))
noncomputable def pl_law15_FoldBuilds : Plan := .kids (.leaf) (.kids (.leaf) (.kids (.leaf) (.kids (.leaf) (.kids (.kids (.leaf) (.kids (.loop [(7, .c (.int .i64))] [(.exit 0, [])] (.kids (.leaf) (.kids (.kids (.kids (.ord [0, 1, 2, 3, 4, 5, 6, 7, 8, 9, 10, 11, 12]) (.ord [0, 1, 2, 3, 4, 5, 6, 7, 8, 9, 10, 11])) .leaf) (.leaf)))) .leaf)) (.kids (.leaf) (.kids (.leaf) (.kids (.kids (.leaf) (.kids (.loop [(8, .c .slice), (9, .c .slice), (10, .c (.int .i64))] [(.exit 2, [(8, .c .slice), (9, .c .slice)])] (.kids (.leaf) (.kids (.kids (.ord [0, 1, 2, 3, 4, 5, 6, 7, 8, 11, 12, 13, 14, 15, 16, 17, 18, 19, 9, 10, 20, 21, 22, 23, 24]) .leaf) (.leaf)))) .leaf)) (.kids (.leaf) (.kids (.join [(.normal, [(113, .c .bool)])] (.leaf) (.leaf)) (.kids (.leaf) (.kids (.leaf) (.kids (.join [(.normal, [(142, .c .bool)])] (.leaf) (.leaf)) (.kids (.leaf) (.kids (.leaf) (.kids (.ord [0, 3, 4, 5, 7, 8, 9, 10, 13, 14, 15, 17, 18, 19, 20, 1, 2, 6, 11, 12, 16, 21, 22, 23, 24, 25, 26, 27]) (.kids (.leaf) (.kids (.leaf) (.kids (.ord [0, 2, 3, 4, 5, 1, 6, 7, 8, 9, 10, 11]) (.leaf)))))))))))))))))))
theorem E_law15_FoldBuilds (N : Nat) (x : Ts A_law15_FoldBuilds) : evF ⟨Tryz.prog, [⟨16, A_law15_awake, R_law15_awake, law15_awake N⟩, ⟨17, A_law15_Small, R_law15_Small, law15_Small N⟩, ⟨18, A_fold_New, R_fold_New, fold_New N⟩, ⟨27, A_ref12_NewState, R_ref12_NewState, ref12_NewState N⟩, ⟨20, A_law12_Parts, R_law12_Parts, law12_Parts N⟩, ⟨19, A_fold_State_Apply, R_fold_State_Apply, fold_State_Apply N⟩, ⟨30, A_ref12_State_Apply, R_ref12_State_Apply, ref12_State_Apply N⟩, ⟨32, A_law12_Made, R_law12_Made, law12_Made N⟩, ⟨23, A_fold_State_Tree, R_fold_State_Tree, fold_State_Tree N⟩, ⟨33, A_fold_Build, R_fold_Build, fold_Build N⟩, ⟨31, A_law15_Same, R_law15_Same, law15_Same N⟩], [], []⟩ 209 N Tryz.f6.results.toList (Tryz.f6.body.getD .skip) pl_law15_FoldBuilds A_law15_FoldBuilds R_law15_FoldBuilds x = law15_FoldBuilds N x := by kernel_rfl
theorem row_law15_FoldBuilds (N : Nat) : RowOk Tryz.prog ⟨6, A_law15_FoldBuilds, R_law15_FoldBuilds, law15_FoldBuilds N⟩ :=
  row_mk 6 Tryz.f6 A_law15_FoldBuilds R_law15_FoldBuilds (law15_FoldBuilds N) _ _ _ 209 N pl_law15_FoldBuilds (rows_cons (row_law15_awake N) (rows_cons (row_law15_Small N) (rows_cons (row_fold_New N) (rows_cons (row_ref12_NewState N) (rows_cons (row_law12_Parts N) (rows_cons (row_fold_State_Apply N) (rows_cons (row_ref12_State_Apply N) (rows_cons (row_law12_Made N) (rows_cons (row_fold_State_Tree N) (rows_cons (row_fold_Build N) (rows_cons (row_law15_Same N) rows_nil))))))))))) (eqs_nil) mixed Tryz.func6 (by kernel_rfl) Tryz.ntmps6 (by kernel_rfl) (E_law15_FoldBuilds N) (by kernel_rfl)

end Go.Wz
