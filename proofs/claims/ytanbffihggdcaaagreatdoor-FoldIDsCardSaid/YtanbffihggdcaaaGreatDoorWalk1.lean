/- The walk, part 1: what each function of the program computes, and that it does (printed by a program of ours). -/
import Derived.Test.YtanbffihggdcaaaGreatDoorHand
set_option linter.unusedVariables false
set_option maxRecDepth 100000
namespace Go.Wz
open Go.Proofs Go.Eng

/-! treering/tree.New -/
abbrev A_tree_New : List Ty := []
abbrev R_tree_New : List Ty := [.c .ptr]
noncomputable def tree_New (N : Nat) (x : Unit) : M (Option Addr) :=
 M.new (.map #[] 0) fun b1 =>
 M.new (ob [.map (some b1), .int .i64 1] 161) fun b2 =>
 M.pure (some ⟨b2, 0, none⟩)
noncomputable def pl_tree_New : Plan := .leaf
theorem E_tree_New (N : Nat) (x : Ts A_tree_New) : evF ⟨Tryz.prog, [], [], []⟩ 4 N Tryz.f68.results.toList (Tryz.f68.body.getD .skip) pl_tree_New A_tree_New R_tree_New x = tree_New N x := by kernel_rfl
theorem row_tree_New (N : Nat) : RowOk Tryz.prog ⟨68, A_tree_New, R_tree_New, tree_New N⟩ :=
  row_mk 68 Tryz.f68 A_tree_New R_tree_New (tree_New N) _ _ _ 4 N pl_tree_New (rows_nil) (eqs_nil) mixed Tryz.func68 (by kernel_rfl) Tryz.ntmps68 (by kernel_rfl) (E_tree_New N) (by kernel_rfl)
/-! treering/fold.New -/
abbrev A_fold_New : List Ty := []
abbrev R_fold_New : List Ty := [.c .ptr]
noncomputable def fold_New (N : Nat) (x : Unit) : M (Option Addr) :=
 M.bind (tree_New N ()) fun (r1 : Option Addr) =>
 M.new (.map #[] 0) fun b2 =>
 M.new (ob [.pointer r1, .map (some b2)] 142) fun b3 =>
 M.pure (some ⟨b3, 0, none⟩)
noncomputable def pl_fold_New : Plan := .leaf
theorem E_fold_New (N : Nat) (x : Ts A_fold_New) : evF ⟨Tryz.prog, [⟨68, A_tree_New, R_tree_New, tree_New N⟩], [], []⟩ 5 N Tryz.f18.results.toList (Tryz.f18.body.getD .skip) pl_fold_New A_fold_New R_fold_New x = fold_New N x := by kernel_rfl
theorem row_fold_New (N : Nat) : RowOk Tryz.prog ⟨18, A_fold_New, R_fold_New, fold_New N⟩ :=
  row_mk 18 Tryz.f18 A_fold_New R_fold_New (fold_New N) _ _ _ 5 N pl_fold_New (rows_cons (row_tree_New N) rows_nil) (eqs_nil) mixed Tryz.func18 (by kernel_rfl) Tryz.ntmps18 (by kernel_rfl) (E_fold_New N) (by kernel_rfl)
/-! internal/stringslite.HasPrefix -/
abbrev A_internal_stringslite_HasPrefix : List Ty := [.c .str, .c .str]
abbrev R_internal_stringslite_HasPrefix : List Ty := [.c .bool]
noncomputable def internal_stringslite_HasPrefix (N : Nat) (x : ByteArray × ByteArray) : M (Bool) :=
 vl (decide ((x.1.size : Int) ≥ (x.2.size : Int))) fun t1 =>
 cnd t1 (
 subSt x.1 0 (x.2.size : Int) fun s2 =>
 vl (scmp .eql s2 x.2) fun t3 =>
 M.pure t3) (
 M.pure false)
noncomputable def pl_internal_stringslite_HasPrefix : Plan := .leaf
theorem E_internal_stringslite_HasPrefix (N : Nat) (x : Ts A_internal_stringslite_HasPrefix) : evF ⟨Tryz.prog, [], [], []⟩ 18 N Tryz.f200.results.toList (Tryz.f200.body.getD .skip) pl_internal_stringslite_HasPrefix A_internal_stringslite_HasPrefix R_internal_stringslite_HasPrefix x = internal_stringslite_HasPrefix N x := by kernel_rfl
theorem row_internal_stringslite_HasPrefix (N : Nat) : RowOk Tryz.prog ⟨200, A_internal_stringslite_HasPrefix, R_internal_stringslite_HasPrefix, internal_stringslite_HasPrefix N⟩ :=
  row_mk 200 Tryz.f200 A_internal_stringslite_HasPrefix R_internal_stringslite_HasPrefix (internal_stringslite_HasPrefix N) _ _ _ 18 N pl_internal_stringslite_HasPrefix (rows_nil) (eqs_nil) mixed Tryz.func200 (by kernel_rfl) Tryz.ntmps200 (by kernel_rfl) (E_internal_stringslite_HasPrefix N) (by kernel_rfl)
/-! strings.HasPrefix -/
abbrev A_strings_HasPrefix : List Ty := [.c .str, .c .str]
abbrev R_strings_HasPrefix : List Ty := [.c .bool]
noncomputable def strings_HasPrefix (N : Nat) (x : ByteArray × ByteArray) : M (Bool) :=
 M.bind (internal_stringslite_HasPrefix N (x.1, x.2)) fun (r1 : Bool) =>
 M.pure r1
noncomputable def pl_strings_HasPrefix : Plan := .leaf
theorem E_strings_HasPrefix (N : Nat) (x : Ts A_strings_HasPrefix) : evF ⟨Tryz.prog, [⟨200, A_internal_stringslite_HasPrefix, R_internal_stringslite_HasPrefix, internal_stringslite_HasPrefix N⟩], [], []⟩ 8 N Tryz.f162.results.toList (Tryz.f162.body.getD .skip) pl_strings_HasPrefix A_strings_HasPrefix R_strings_HasPrefix x = strings_HasPrefix N x := by kernel_rfl
theorem row_strings_HasPrefix (N : Nat) : RowOk Tryz.prog ⟨162, A_strings_HasPrefix, R_strings_HasPrefix, strings_HasPrefix N⟩ :=
  row_mk 162 Tryz.f162 A_strings_HasPrefix R_strings_HasPrefix (strings_HasPrefix N) _ _ _ 8 N pl_strings_HasPrefix (rows_cons (row_internal_stringslite_HasPrefix N) rows_nil) (eqs_nil) mixed Tryz.func162 (by kernel_rfl) Tryz.ntmps162 (by kernel_rfl) (E_strings_HasPrefix N) (by kernel_rfl)
/-! treering/path.Name -/
abbrev A_path_Name : List Ty := [.c .str]
abbrev R_path_Name : List Ty := [.c .bool]
noncomputable def path_Name_L0 (N : Nat) (x : ByteArray) (s6 : Int) : M (Int ⊕ (Unit ⊕ Bool)) :=
 vl (decide (s6 < (x.size : Int))) fun t7 =>
 cnd t7 (
 M.bind ((
 byM x s6 fun c8 =>
 vl (decide (c8 < (33 : Int))) fun t9 =>
 cnd t9 (
 M.pure true) (
 byM x s6 fun c10 =>
 vl (decide (c10 > (126 : Int))) fun t11 =>
 cnd t11 (
 M.pure true) (
 byM x s6 fun c12 =>
 byM (⟨#[47]⟩ : ByteArray) 0 fun c13 =>
 vl (c12 == c13) fun t14 =>
 M.pure t14))) : M (Bool)) fun (r15 : Bool) =>
 cnd r15 (
 M.pure (inrS (.inr false))) (
 vl (wi (s6 + (1 : Int))) fun i16 =>
 M.pure (inlS i16))) (
 M.pure (inrS (.inl ())))
noncomputable def path_Name (N : Nat) (x : ByteArray) : M (Bool) :=
 M.bind ((
 vl (decide ((x.size : Int) < (1 : Int))) fun t1 =>
 cnd t1 (
 M.pure true) (
 vl (decide ((x.size : Int) > (16 : Int))) fun t2 =>
 cnd t2 (
 M.pure true) (
 vl (scmp .eql x (⟨#[46]⟩ : ByteArray)) fun t3 =>
 cnd t3 (
 M.pure true) (
 vl (scmp .eql x (⟨#[46, 46]⟩ : ByteArray)) fun t4 =>
 M.pure t4)))) : M (Bool)) fun (r5 : Bool) =>
 cnd r5 (
 M.pure false) (
 M.bind (M.loop N (path_Name_L0 N x) 0) fun (r17 : Unit ⊕ Bool) =>
 sumM r17 (fun (q18 : Unit) =>
 M.pure true) fun (r19 : Bool) =>
 M.pure r19)
noncomputable def pl_path_Name : Plan := .kids (.leaf) (.kids (.join [(.normal, [(19, .c .bool)])] (.leaf) (.leaf)) (.kids (.kids (.leaf) (.kids (.loop [(22, .c (.int .i64))] [(.exit 0, []), (.ret, [(2, .c .bool)])] (.kids (.leaf) (.kids (.leaf) (.kids (.kids (.kids (.leaf) (.join [(.normal, [(41, .c .bool)])] (.ord [0, 1, 2, 3, 4, 5, 6, 7, 8, 9, 10, 11, 12, 13, 14, 15, 16]) (.leaf))) .leaf) (.leaf))))) .leaf)) (.leaf)))
theorem E_path_Name (N : Nat) (x : Ts A_path_Name) : evF ⟨Tryz.prog, [], [], []⟩ 43 N Tryz.f87.results.toList (Tryz.f87.body.getD .skip) pl_path_Name A_path_Name R_path_Name x = path_Name N x := by kernel_rfl
theorem row_path_Name (N : Nat) : RowOk Tryz.prog ⟨87, A_path_Name, R_path_Name, path_Name N⟩ :=
  row_mk 87 Tryz.f87 A_path_Name R_path_Name (path_Name N) _ _ _ 43 N pl_path_Name (rows_nil) (eqs_nil) mixed Tryz.func87 (by kernel_rfl) Tryz.ntmps87 (by kernel_rfl) (E_path_Name N) (by kernel_rfl)
/-! treering/path.Split$1 -/
abbrev A_path_Split_1 : List Ty := [.c .str]
abbrev R_path_Split_1 : List Ty := [.c .bool]
noncomputable def path_Split_1 (N : Nat) (x : ByteArray) : M (Bool) :=
 M.bind (path_Name N x) fun (r1 : Bool) =>
 vl (!r1) fun t2 =>
 M.pure t2
noncomputable def pl_path_Split_1 : Plan := .leaf
theorem E_path_Split_1 (N : Nat) (x : Ts A_path_Split_1) : evF ⟨Tryz.prog, [⟨87, A_path_Name, R_path_Name, path_Name N⟩], [], []⟩ 6 N Tryz.f165.results.toList (Tryz.f165.body.getD .skip) pl_path_Split_1 A_path_Split_1 R_path_Split_1 x = path_Split_1 N x := by kernel_rfl
theorem row_path_Split_1 (N : Nat) : RowOk Tryz.prog ⟨165, A_path_Split_1, R_path_Split_1, path_Split_1 N⟩ :=
  row_mk 165 Tryz.f165 A_path_Split_1 R_path_Split_1 (path_Split_1 N) _ _ _ 6 N pl_path_Split_1 (rows_cons (row_path_Name N) rows_nil) (eqs_nil) mixed Tryz.func165 (by kernel_rfl) Tryz.ntmps165 (by kernel_rfl) (E_path_Split_1 N) (by kernel_rfl)
/-! slices.IndexFunc[[]string,string] -/
abbrev A_slices_IndexFunc_string_string : List Ty := [.c .slice, .fn 165]
abbrev R_slices_IndexFunc_string_string : List Ty := [.c (.int .i64)]
noncomputable def slices_IndexFunc_string_string_L0 (N : Nat) (x : Sl × Unit) (s1 : Int) : M (Int ⊕ (Unit ⊕ Int)) :=
 vl (decide (s1 < (x.1.len : Int))) fun t2 =>
 cnd t2 (
 ixA x.1.a x.1.len s1 1 fun a3 =>
 ld [.str] a3 fun (r4 : ByteArray) =>
 M.bind (path_Split_1 N r4) fun (r5 : Bool) =>
 cnd r5 (
 M.pure (inrS (.inr s1))) (
 vl (wi (s1 + (1 : Int))) fun i6 =>
 M.pure (inlS i6))) (
 M.pure (inrS (.inl ())))
noncomputable def slices_IndexFunc_string_string (N : Nat) (x : Sl × Unit) : M (Int) :=
 M.bind (M.loop N (slices_IndexFunc_string_string_L0 N x) 0) fun (r7 : Unit ⊕ Int) =>
 sumM r7 (fun (q8 : Unit) =>
 M.pure (-1)) fun (r9 : Int) =>
 M.pure r9
noncomputable def pl_slices_IndexFunc_string_string : Plan := .kids (.leaf) (.kids (.kids (.leaf) (.kids (.loop [(8, .c (.int .i64))] [(.exit 0, []), (.ret, [(4, .c (.int .i64))])] (.leaf)) .leaf)) (.leaf))
theorem E_slices_IndexFunc_string_string (N : Nat) (x : Ts A_slices_IndexFunc_string_string) : evF ⟨Tryz.prog, [⟨165, A_path_Split_1, R_path_Split_1, path_Split_1 N⟩], [], []⟩ 19 N Tryz.f202.results.toList (Tryz.f202.body.getD .skip) pl_slices_IndexFunc_string_string A_slices_IndexFunc_string_string R_slices_IndexFunc_string_string x = slices_IndexFunc_string_string N x := by kernel_rfl
theorem row_slices_IndexFunc_string_string (N : Nat) : RowOk Tryz.prog ⟨202, A_slices_IndexFunc_string_string, R_slices_IndexFunc_string_string, slices_IndexFunc_string_string N⟩ :=
  row_mk 202 Tryz.f202 A_slices_IndexFunc_string_string R_slices_IndexFunc_string_string (slices_IndexFunc_string_string N) _ _ _ 19 N pl_slices_IndexFunc_string_string (rows_cons (row_path_Split_1 N) rows_nil) (eqs_nil) mixed Tryz.func202 (by kernel_rfl) Tryz.ntmps202 (by kernel_rfl) (E_slices_IndexFunc_string_string N) (by kernel_rfl)
/-! slices.ContainsFunc[[]string,string] -/
abbrev A_slices_ContainsFunc_string_string : List Ty := [.c .slice, .fn 165]
abbrev R_slices_ContainsFunc_string_string : List Ty := [.c .bool]
noncomputable def slices_ContainsFunc_string_string (N : Nat) (x : Sl × Unit) : M (Bool) :=
 M.bind (slices_IndexFunc_string_string N (x.1, ())) fun (r1 : Int) =>
 vl (decide (r1 ≥ (0 : Int))) fun t2 =>
 M.pure t2
noncomputable def pl_slices_ContainsFunc_string_string : Plan := .leaf
theorem E_slices_ContainsFunc_string_string (N : Nat) (x : Ts A_slices_ContainsFunc_string_string) : evF ⟨Tryz.prog, [⟨202, A_slices_IndexFunc_string_string, R_slices_IndexFunc_string_string, slices_IndexFunc_string_string N⟩], [], []⟩ 9 N Tryz.f164.results.toList (Tryz.f164.body.getD .skip) pl_slices_ContainsFunc_string_string A_slices_ContainsFunc_string_string R_slices_ContainsFunc_string_string x = slices_ContainsFunc_string_string N x := by kernel_rfl
theorem row_slices_ContainsFunc_string_string (N : Nat) : RowOk Tryz.prog ⟨164, A_slices_ContainsFunc_string_string, R_slices_ContainsFunc_string_string, slices_ContainsFunc_string_string N⟩ :=
  row_mk 164 Tryz.f164 A_slices_ContainsFunc_string_string R_slices_ContainsFunc_string_string (slices_ContainsFunc_string_string N) _ _ _ 9 N pl_slices_ContainsFunc_string_string (rows_cons (row_slices_IndexFunc_string_string N) rows_nil) (eqs_nil) mixed Tryz.func164 (by kernel_rfl) Tryz.ntmps164 (by kernel_rfl) (E_slices_ContainsFunc_string_string N) (by kernel_rfl)
/-! treering/path.Split -/
abbrev A_path_Split : List Ty := [.c .str]
abbrev R_path_Split : List Ty := [.c .slice, .c (.int .i64)]
noncomputable def path_Split (N : Nat) (x : ByteArray) : M (Sl × Int) :=
 vl (scmp .eql x (⟨#[47]⟩ : ByteArray)) fun t1 =>
 cnd t1 (
 M.pure (⟨none, 0, 0⟩, 0)) (
 M.bind ((
 vl (decide ((x.size : Int) > (64 : Int))) fun t2 =>
 cnd t2 (
 M.pure true) (
 M.bind (strings_HasPrefix N (x, (⟨#[47]⟩ : ByteArray))) fun (r3 : Bool) =>
 vl (!r3) fun t4 =>
 M.pure t4)) : M (Bool)) fun (r5 : Bool) =>
 cnd r5 (
 M.pure (⟨none, 0, 0⟩, 3)) (
 subSt x 1 (ByteArray.size x : Int) fun s6 =>
 M.bind (strings_Split N (s6, (⟨#[47]⟩ : ByteArray))) fun (r7 : Sl) =>
 M.bind ((
 vl (decide ((r7.len : Int) > (8 : Int))) fun t8 =>
 cnd t8 (
 M.pure true) (
 M.bind (slices_ContainsFunc_string_string N (r7, ())) fun (r9 : Bool) =>
 M.pure r9)) : M (Bool)) fun (r10 : Bool) =>
 cnd r10 (
 M.pure (⟨none, 0, 0⟩, 3)) (
 M.pure (r7, 0))))
noncomputable def pl_path_Split : Plan := .kids (.leaf) (.kids (.leaf) (.kids (.join [(.normal, [(14, .c .bool)])] (.leaf) (.leaf)) (.kids (.leaf) (.kids (.join [(.normal, [(24, .c .bool)])] (.leaf) (.leaf)) (.leaf)))))
theorem E_path_Split (N : Nat) (x : Ts A_path_Split) : evF ⟨Tryz.prog, [⟨162, A_strings_HasPrefix, R_strings_HasPrefix, strings_HasPrefix N⟩, ⟨163, A_strings_Split, R_strings_Split, strings_Split N⟩, ⟨164, A_slices_ContainsFunc_string_string, R_slices_ContainsFunc_string_string, slices_ContainsFunc_string_string N⟩], [], []⟩ 26 N Tryz.f100.results.toList (Tryz.f100.body.getD .skip) pl_path_Split A_path_Split R_path_Split x = path_Split N x := by kernel_rfl
theorem row_path_Split (N : Nat) : RowOk Tryz.prog ⟨100, A_path_Split, R_path_Split, path_Split N⟩ :=
  row_mk 100 Tryz.f100 A_path_Split R_path_Split (path_Split N) _ _ _ 26 N pl_path_Split (rows_cons (row_strings_HasPrefix N) (rows_cons (row_strings_Split N) (rows_cons (row_slices_ContainsFunc_string_string N) rows_nil))) (eqs_nil) mixed Tryz.func100 (by kernel_rfl) Tryz.ntmps100 (by kernel_rfl) (E_path_Split N) (by kernel_rfl)
/-! treering/path.Join -/
abbrev A_path_Join : List Ty := [.c .slice]
abbrev R_path_Join : List Ty := [.c .str]
noncomputable def path_Join (N : Nat) (x : Sl) : M (ByteArray) :=
 M.bind (strings_Join N (x, (⟨#[47]⟩ : ByteArray))) fun (r1 : ByteArray) =>
 catM (⟨#[47]⟩ : ByteArray) r1 fun s2 =>
 M.pure s2
noncomputable def pl_path_Join : Plan := .leaf
theorem E_path_Join (N : Nat) (x : Ts A_path_Join) : evF ⟨Tryz.prog, [⟨166, A_strings_Join, R_strings_Join, strings_Join N⟩], [], []⟩ 6 N Tryz.f101.results.toList (Tryz.f101.body.getD .skip) pl_path_Join A_path_Join R_path_Join x = path_Join N x := by kernel_rfl
theorem row_path_Join (N : Nat) : RowOk Tryz.prog ⟨101, A_path_Join, R_path_Join, path_Join N⟩ :=
  row_mk 101 Tryz.f101 A_path_Join R_path_Join (path_Join N) _ _ _ 6 N pl_path_Join (rows_cons (row_strings_Join N) rows_nil) (eqs_nil) mixed Tryz.func101 (by kernel_rfl) Tryz.ntmps101 (by kernel_rfl) (E_path_Join N) (by kernel_rfl)
/-! (*treering/tree.Tree).Look -/
abbrev A_tree_Tree_Look : List Ty := [.c .ptr, .c .str]
abbrev R_tree_Tree_Look : List Ty := [.c (.int .i64), .c .bool, .c (.int .i64)]
noncomputable def tree_Tree_Look_L0 (N : Nat) (x : (Option Addr) × ByteArray) (b4 : Nat) (r2 : Sl × Int) (s5 : Int) : M (Int ⊕ (Unit ⊕ (Int × Bool × Int))) :=
 vl (decide (s5 < (r2.1.len : Int))) fun t6 =>
 cnd t6 (
 ld [.bool] (Addr.add ⟨b4, 0, none⟩ 2) fun (r7 : Bool) =>
 vl (!r7) fun t8 =>
 cnd t8 (
 M.pure (inrS (.inr (0, false, 7)))) (
 nz x.1 fun a9 =>
 ld [.map] (Addr.add a9 0) fun (r10 : Option Nat) =>
 vl (wi (s5 + (1 : Int))) fun i11 =>
 subM r2.1 0 i11 (r2.1.cap : Int) 1 fun s12 =>
 M.bind (path_Join N s12) fun (r13 : ByteArray) =>
 M.again (ldR [.map] (Addr.add a9 0)) r10 <|
 M.rd (lookR .string (.string r13) r10 (.agg [.str, .int .i64, .bool]) ((⟨#[]⟩ : ByteArray), 0, false)) fun (r14 : (ByteArray × Int × Bool) × Bool) =>
 st ⟨b4, 0, none⟩ [.string r14.1.1, .int .i64 r14.1.2.1, .bool r14.1.2.2] <|
 vl (!r14.2) fun t15 =>
 cnd t15 (
 M.pure (inrS (.inr (0, false, 4)))) (
 vl (wi (s5 + (1 : Int))) fun i16 =>
 M.pure (inlS i16)))) (
 M.pure (inrS (.inl ())))
noncomputable def tree_Tree_Look (N : Nat) (x : (Option Addr) × ByteArray) : M (Int × Bool × Int) :=
 vl (Option.isNone x.1) fun t1 =>
 cnd t1 (
 M.pure (0, false, 1)) (
 M.bind (path_Split N x.2) fun (r2 : Sl × Int) =>
 vl (r2.2 != (0 : Int)) fun t3 =>
 cnd t3 (
 M.pure (0, false, r2.2)) (
 M.new (ob [.string (⟨#[]⟩ : ByteArray), .int .i64 0, .bool false] 51) fun b4 =>
 st ⟨b4, 0, none⟩ [.string (⟨#[]⟩ : ByteArray), .int .i64 0, .bool true] <|
 M.bind (M.loop N (tree_Tree_Look_L0 N x b4 r2) 0) fun (r17 : Unit ⊕ (Int × Bool × Int)) =>
 sumM r17 (fun (q18 : Unit) =>
 ld [.int .i64] (Addr.add ⟨b4, 0, none⟩ 1) fun (r20 : Int) =>
 ld [.bool] (Addr.add ⟨b4, 0, none⟩ 2) fun (r21 : Bool) =>
 M.pure (r20, r21, 0)) fun (r19 : (Int × Bool × Int)) =>
 M.pure (r19.1, r19.2.1, r19.2.2)))
noncomputable def pl_tree_Tree_Look : Plan := .kids (.leaf) (.kids (.leaf) (.kids (.leaf) (.kids (.leaf) (.kids (.leaf) (.kids (.kids (.leaf) (.kids (.loop [(25, .c (.int .i64))] [(.exit 0, []), (.ret, [(4, .c (.int .i64)), (5, .c .bool), (6, .c (.int .i64))])] (.kids (.leaf) (.kids (.leaf) (.kids (.kids (.kids (.leaf) (.kids (.leaf) (.kids (.leaf) (.kids (.ord [0, 1, 2, 3, 4, 5, 6, 7, 8, 9, 10, 11, 12, 13, 14]) (.leaf))))) .leaf) (.leaf))))) .leaf)) (.kids (.ord [0, 1, 2, 3, 4, 5, 6]) (.leaf)))))))
theorem E_tree_Tree_Look (N : Nat) (x : Ts A_tree_Tree_Look) : evF ⟨Tryz.prog, [⟨100, A_path_Split, R_path_Split, path_Split N⟩, ⟨101, A_path_Join, R_path_Join, path_Join N⟩], [], []⟩ 51 N Tryz.f39.results.toList (Tryz.f39.body.getD .skip) pl_tree_Tree_Look A_tree_Tree_Look R_tree_Tree_Look x = tree_Tree_Look N x := by kernel_rfl
theorem row_tree_Tree_Look (N : Nat) : RowOk Tryz.prog ⟨39, A_tree_Tree_Look, R_tree_Tree_Look, tree_Tree_Look N⟩ :=
  row_mk 39 Tryz.f39 A_tree_Tree_Look R_tree_Tree_Look (tree_Tree_Look N) _ _ _ 51 N pl_tree_Tree_Look (rows_cons (row_path_Split N) (rows_cons (row_path_Join N) rows_nil)) (eqs_nil) mixed Tryz.func39 (by kernel_rfl) Tryz.ntmps39 (by kernel_rfl) (E_tree_Tree_Look N) (by kernel_rfl)
/-! (*treering/tree.Tree).parent -/
abbrev A_tree_Tree_parent : List Ty := [.c .ptr, .c .str]
abbrev R_tree_Tree_parent : List Ty := [.c (.int .i64)]
noncomputable def tree_Tree_parent (N : Nat) (x : (Option Addr) × ByteArray) : M (Int) :=
 M.bind (path_Split N x.2) fun (r1 : Sl × Int) =>
 M.bind ((
 vl (r1.2 != (0 : Int)) fun t2 =>
 cnd t2 (
 M.pure true) (
 vl ((r1.1.len : Int) == (0 : Int)) fun t3 =>
 M.pure t3)) : M (Bool)) fun (r4 : Bool) =>
 cnd r4 (
 M.pure r1.2) (
 vl (wi ((r1.1.len : Int) - (1 : Int))) fun i5 =>
 subM r1.1 0 i5 (r1.1.cap : Int) 1 fun s6 =>
 M.bind (path_Join N s6) fun (r7 : ByteArray) =>
 M.bind (tree_Tree_Look N (x.1, r7)) fun (r8 : Int × Bool × Int) =>
 M.bind ((
 vl (r8.2.2 == (0 : Int)) fun t9 =>
 cnd t9 (
 vl (!r8.2.1) fun t10 =>
 M.pure t10) (
 M.pure false)) : M (Bool)) fun (r11 : Bool) =>
 cnd r11 (
 M.pure 7) (
 M.pure r8.2.2))
noncomputable def pl_tree_Tree_parent : Plan := .kids (.leaf) (.kids (.leaf) (.kids (.join [(.normal, [(20, .c .bool)])] (.leaf) (.leaf)) (.kids (.leaf) (.kids (.join [(.normal, [(39, .c .bool)])] (.leaf) (.leaf)) (.leaf)))))
theorem E_tree_Tree_parent (N : Nat) (x : Ts A_tree_Tree_parent) : evF ⟨Tryz.prog, [⟨100, A_path_Split, R_path_Split, path_Split N⟩, ⟨101, A_path_Join, R_path_Join, path_Join N⟩, ⟨39, A_tree_Tree_Look, R_tree_Tree_Look, tree_Tree_Look N⟩], [], []⟩ 41 N Tryz.f147.results.toList (Tryz.f147.body.getD .skip) pl_tree_Tree_parent A_tree_Tree_parent R_tree_Tree_parent x = tree_Tree_parent N x := by kernel_rfl
theorem row_tree_Tree_parent (N : Nat) : RowOk Tryz.prog ⟨147, A_tree_Tree_parent, R_tree_Tree_parent, tree_Tree_parent N⟩ :=
  row_mk 147 Tryz.f147 A_tree_Tree_parent R_tree_Tree_parent (tree_Tree_parent N) _ _ _ 41 N pl_tree_Tree_parent (rows_cons (row_path_Split N) (rows_cons (row_path_Join N) (rows_cons (row_tree_Tree_Look N) rows_nil))) (eqs_nil) mixed Tryz.func147 (by kernel_rfl) Tryz.ntmps147 (by kernel_rfl) (E_tree_Tree_parent N) (by kernel_rfl)
/-! (*treering/tree.Tree).Can -/
abbrev A_tree_Tree_Can : List Ty := [.c .ptr, .c .str]
abbrev R_tree_Tree_Can : List Ty := [.c (.int .i64)]
noncomputable def tree_Tree_Can (N : Nat) (x : (Option Addr) × ByteArray) : M (Int) :=
 vl (Option.isNone x.1) fun t1 =>
 cnd t1 (
 M.pure 1) (
 M.bind (tree_Tree_parent N (x.1, x.2)) fun (r2 : Int) =>
 vl (r2 != (0 : Int)) fun t3 =>
 cnd t3 (
 M.pure r2) (
 nz x.1 fun a4 =>
 ld [.map] (Addr.add a4 0) fun (r5 : Option Nat) =>
 M.rd (lookR .string (.string x.2) r5 (.agg [.str, .int .i64, .bool]) ((⟨#[]⟩ : ByteArray), 0, false)) fun (r6 : (ByteArray × Int × Bool) × Bool) =>
 M.new (ob [.string (⟨#[]⟩ : ByteArray), .int .i64 0, .bool false] 51) fun b7 =>
 st ⟨b7, 0, none⟩ [.string r6.1.1, .int .i64 r6.1.2.1, .bool r6.1.2.2] <|
 M.bind ((
 cnd r6.2 (
 M.pure true) (
 vl (scmp .eql x.2 (⟨#[47]⟩ : ByteArray)) fun t8 =>
 M.pure t8)) : M (Bool)) fun (r9 : Bool) =>
 cnd r9 (
 M.pure 5) (
 nz x.1 fun a10 =>
 ld [.map] (Addr.add a10 0) fun (r11 : Option Nat) =>
 M.rd (mapLenR r11) fun n12 =>
 vl (decide ((n12 : Int) ≥ (64 : Int))) fun t13 =>
 cnd t13 (
 M.pure 12) (
 M.pure 0))))
noncomputable def pl_tree_Tree_Can : Plan := .kids (.leaf) (.kids (.leaf) (.kids (.leaf) (.kids (.kids (.leaf) (.join [(.normal, [(29, .c .bool)])] (.leaf) (.leaf))) (.leaf))))
theorem E_tree_Tree_Can (N : Nat) (x : Ts A_tree_Tree_Can) : evF ⟨Tryz.prog, [⟨147, A_tree_Tree_parent, R_tree_Tree_parent, tree_Tree_parent N⟩], [], []⟩ 36 N Tryz.f82.results.toList (Tryz.f82.body.getD .skip) pl_tree_Tree_Can A_tree_Tree_Can R_tree_Tree_Can x = tree_Tree_Can N x := by kernel_rfl
theorem row_tree_Tree_Can (N : Nat) : RowOk Tryz.prog ⟨82, A_tree_Tree_Can, R_tree_Tree_Can, tree_Tree_Can N⟩ :=
  row_mk 82 Tryz.f82 A_tree_Tree_Can R_tree_Tree_Can (tree_Tree_Can N) _ _ _ 36 N pl_tree_Tree_Can (rows_cons (row_tree_Tree_parent N) rows_nil) (eqs_nil) mixed Tryz.func82 (by kernel_rfl) Tryz.ntmps82 (by kernel_rfl) (E_tree_Tree_Can N) (by kernel_rfl)
/-! (*treering/fold.State).file -/
abbrev A_fold_State_file : List Ty := [.c .ptr, .c .str]
abbrev R_fold_State_file : List Ty := [.c (.int .i64), .c (.int .i64)]
noncomputable def fold_State_file (N : Nat) (x : (Option Addr) × ByteArray) : M (Int × Int) :=
 nz x.1 fun a1 =>
 ld [.ptr] (Addr.add a1 0) fun (r2 : Option Addr) =>
 M.bind (tree_Tree_Look N (r2, x.2)) fun (r3 : Int × Bool × Int) =>
 M.bind ((
 vl (r3.2.2 == (0 : Int)) fun t4 =>
 cnd t4 (
 M.pure r3.2.1) (
 M.pure false)) : M (Bool)) fun (r5 : Bool) =>
 cnd r5 (
 M.pure (0, 6)) (
 M.pure (r3.1, r3.2.2))
noncomputable def pl_fold_State_file : Plan := .kids (.leaf) (.kids (.leaf) (.kids (.join [(.normal, [(23, .c .bool)])] (.leaf) (.leaf)) (.leaf)))
theorem E_fold_State_file (N : Nat) (x : Ts A_fold_State_file) : evF ⟨Tryz.prog, [⟨39, A_tree_Tree_Look, R_tree_Tree_Look, tree_Tree_Look N⟩], [], []⟩ 26 N Tryz.f71.results.toList (Tryz.f71.body.getD .skip) pl_fold_State_file A_fold_State_file R_fold_State_file x = fold_State_file N x := by kernel_rfl
theorem row_fold_State_file (N : Nat) : RowOk Tryz.prog ⟨71, A_fold_State_file, R_fold_State_file, fold_State_file N⟩ :=
  row_mk 71 Tryz.f71 A_fold_State_file R_fold_State_file (fold_State_file N) _ _ _ 26 N pl_fold_State_file (rows_cons (row_tree_Tree_Look N) rows_nil) (eqs_nil) mixed Tryz.func71 (by kernel_rfl) Tryz.ntmps71 (by kernel_rfl) (E_fold_State_file N) (by kernel_rfl)
/-! (*treering/fold.State).write -/
abbrev A_fold_State_write : List Ty := [.c .ptr, .agg [.int .i64, .str, .str, .int .i64, .int .i64, .slice]]
abbrev R_fold_State_write : List Ty := [.c (.int .i64)]
noncomputable def fold_State_write (N : Nat) (x : (Option Addr) × Int × ByteArray × ByteArray × Int × Int × Sl) : M (Int) :=
 M.new (ob [.int .i64 x.2.1, .string x.2.2.1, .string x.2.2.2.1, .int .i64 x.2.2.2.2.1, .int .i64 x.2.2.2.2.2.1, .slice x.2.2.2.2.2.2.a x.2.2.2.2.2.2.len x.2.2.2.2.2.2.cap] 31) fun b1 =>
 ld [.str] (Addr.add ⟨b1, 0, none⟩ 1) fun (r2 : ByteArray) =>
 M.bind (fold_State_file N (x.1, r2)) fun (r3 : Int × Int) =>
 vl (r3.2 != (0 : Int)) fun t4 =>
 cnd t4 (
 M.pure r3.2) (
 ld [.slice] (Addr.add ⟨b1, 0, none⟩ 5) fun (r5 : Sl) =>
 vl (decide ((r5.len : Int) > (1024 : Int))) fun t6 =>
 cnd t6 (
 M.pure 1) (
 M.bind ((
 ld [.int .i64] (Addr.add ⟨b1, 0, none⟩ 3) fun (r7 : Int) =>
 vl (decide (r7 < (0 : Int))) fun t8 =>
 cnd t8 (
 M.pure true) (
 ld [.int .i64] (Addr.add ⟨b1, 0, none⟩ 3) fun (r9 : Int) =>
 ld [.slice] (Addr.add ⟨b1, 0, none⟩ 5) fun (r10 : Sl) =>
 vl (wi ((1099511627776 : Int) - (r10.len : Int))) fun i11 =>
 vl (decide (r9 > i11)) fun t12 =>
 M.pure t12)) : M (Bool)) fun (r13 : Bool) =>
 cnd r13 (
 M.pure 9) (
 M.pure 0)))
noncomputable def pl_fold_State_write : Plan := .kids (.leaf) (.kids (.leaf) (.kids (.kids (.kids (.leaf) (.kids (.leaf) (.kids (.leaf) (.kids (.leaf) (.join [(.normal, [(23, .c .bool)])] (.leaf) (.leaf)))))) .leaf) (.leaf)))
theorem E_fold_State_write (N : Nat) (x : Ts A_fold_State_write) : evF ⟨Tryz.prog, [⟨71, A_fold_State_file, R_fold_State_file, fold_State_file N⟩], [], []⟩ 36 N Tryz.f83.results.toList (Tryz.f83.body.getD .skip) pl_fold_State_write A_fold_State_write R_fold_State_write x = fold_State_write N x := by kernel_rfl
theorem row_fold_State_write (N : Nat) : RowOk Tryz.prog ⟨83, A_fold_State_write, R_fold_State_write, fold_State_write N⟩ :=
  row_mk 83 Tryz.f83 A_fold_State_write R_fold_State_write (fold_State_write N) _ _ _ 36 N pl_fold_State_write (rows_cons (row_fold_State_file N) rows_nil) (eqs_nil) mixed Tryz.func83 (by kernel_rfl) Tryz.ntmps83 (by kernel_rfl) (E_fold_State_write N) (by kernel_rfl)
/-! (*treering/fold.State).trunc -/
abbrev A_fold_State_trunc : List Ty := [.c .ptr, .agg [.int .i64, .str, .str, .int .i64, .int .i64, .slice]]
abbrev R_fold_State_trunc : List Ty := [.c (.int .i64)]
noncomputable def fold_State_trunc (N : Nat) (x : (Option Addr) × Int × ByteArray × ByteArray × Int × Int × Sl) : M (Int) :=
 M.new (ob [.int .i64 x.2.1, .string x.2.2.1, .string x.2.2.2.1, .int .i64 x.2.2.2.2.1, .int .i64 x.2.2.2.2.2.1, .slice x.2.2.2.2.2.2.a x.2.2.2.2.2.2.len x.2.2.2.2.2.2.cap] 31) fun b1 =>
 ld [.str] (Addr.add ⟨b1, 0, none⟩ 1) fun (r2 : ByteArray) =>
 M.bind (fold_State_file N (x.1, r2)) fun (r3 : Int × Int) =>
 M.bind ((
 vl (r3.2 == (0 : Int)) fun t4 =>
 cnd t4 (
 ld [.int .i64] (Addr.add ⟨b1, 0, none⟩ 4) fun (r5 : Int) =>
 vl (decide (r5 < (0 : Int))) fun t6 =>
 cnd t6 (
 M.pure true) (
 ld [.int .i64] (Addr.add ⟨b1, 0, none⟩ 4) fun (r7 : Int) =>
 vl (decide (r7 > (1099511627776 : Int))) fun t8 =>
 M.pure t8)) (
 M.pure false)) : M (Bool)) fun (r9 : Bool) =>
 cnd r9 (
 M.pure 9) (
 M.pure r3.2)
noncomputable def pl_fold_State_trunc : Plan := .kids (.leaf) (.kids (.leaf) (.kids (.join [(.normal, [(25, .c .bool)])] (.leaf) (.leaf)) (.leaf)))
theorem E_fold_State_trunc (N : Nat) (x : Ts A_fold_State_trunc) : evF ⟨Tryz.prog, [⟨71, A_fold_State_file, R_fold_State_file, fold_State_file N⟩], [], []⟩ 27 N Tryz.f84.results.toList (Tryz.f84.body.getD .skip) pl_fold_State_trunc A_fold_State_trunc R_fold_State_trunc x = fold_State_trunc N x := by kernel_rfl
theorem row_fold_State_trunc (N : Nat) : RowOk Tryz.prog ⟨84, A_fold_State_trunc, R_fold_State_trunc, fold_State_trunc N⟩ :=
  row_mk 84 Tryz.f84 A_fold_State_trunc R_fold_State_trunc (fold_State_trunc N) _ _ _ 27 N pl_fold_State_trunc (rows_cons (row_fold_State_file N) rows_nil) (eqs_nil) mixed Tryz.func84 (by kernel_rfl) Tryz.ntmps84 (by kernel_rfl) (E_fold_State_trunc N) (by kernel_rfl)
/-! slices.Equal[[]string,string] -/
abbrev A_slices_Equal_string_string : List Ty := [.c .slice, .c .slice]
abbrev R_slices_Equal_string_string : List Ty := [.c .bool]
noncomputable def slices_Equal_string_string_L0 (N : Nat) (x : Sl × Sl) (s2 : Int) : M (Int ⊕ (Unit ⊕ Bool)) :=
 vl (decide (s2 < (x.1.len : Int))) fun t3 =>
 cnd t3 (
 ixA x.1.a x.1.len s2 1 fun a4 =>
 ld [.str] a4 fun (r5 : ByteArray) =>
 ixA x.2.a x.2.len s2 1 fun a6 =>
 ld [.str] a6 fun (r7 : ByteArray) =>
 vl (scmp .neq r5 r7) fun t8 =>
 cnd t8 (
 M.pure (inrS (.inr false))) (
 vl (wi (s2 + (1 : Int))) fun i9 =>
 M.pure (inlS i9))) (
 M.pure (inrS (.inl ())))
noncomputable def slices_Equal_string_string (N : Nat) (x : Sl × Sl) : M (Bool) :=
 vl ((x.1.len : Int) != (x.2.len : Int)) fun t1 =>
 cnd t1 (
 M.pure false) (
 M.bind (M.loop N (slices_Equal_string_string_L0 N x) 0) fun (r10 : Unit ⊕ Bool) =>
 sumM r10 (fun (q11 : Unit) =>
 M.pure true) fun (r12 : Bool) =>
 M.pure r12)
noncomputable def pl_slices_Equal_string_string : Plan := .kids (.leaf) (.kids (.leaf) (.kids (.kids (.leaf) (.kids (.loop [(13, .c (.int .i64))] [(.exit 0, []), (.ret, [(4, .c .bool)])] (.kids (.leaf) (.kids (.leaf) (.kids (.kids (.kids (.leaf) (.kids (.ord [0, 1, 2, 3, 4, 5, 6, 7, 8]) (.leaf))) .leaf) (.leaf))))) .leaf)) (.leaf)))
theorem E_slices_Equal_string_string (N : Nat) (x : Ts A_slices_Equal_string_string) : evF ⟨Tryz.prog, [], [], []⟩ 26 N Tryz.f196.results.toList (Tryz.f196.body.getD .skip) pl_slices_Equal_string_string A_slices_Equal_string_string R_slices_Equal_string_string x = slices_Equal_string_string N x := by kernel_rfl
theorem row_slices_Equal_string_string (N : Nat) : RowOk Tryz.prog ⟨196, A_slices_Equal_string_string, R_slices_Equal_string_string, slices_Equal_string_string N⟩ :=
  row_mk 196 Tryz.f196 A_slices_Equal_string_string R_slices_Equal_string_string (slices_Equal_string_string N) _ _ _ 26 N pl_slices_Equal_string_string (rows_nil) (eqs_nil) mixed Tryz.func196 (by kernel_rfl) Tryz.ntmps196 (by kernel_rfl) (E_slices_Equal_string_string N) (by kernel_rfl)
/-! treering/path.Under -/
abbrev A_path_Under : List Ty := [.c .str, .c .str]
abbrev R_path_Under : List Ty := [.c .bool]
noncomputable def path_Under (N : Nat) (x : ByteArray × ByteArray) : M (Bool) :=
 M.bind (path_Split N x.1) fun (r1 : Sl × Int) =>
 M.bind (path_Split N x.2) fun (r2 : Sl × Int) =>
 vl (r1.2 == (0 : Int)) fun t3 =>
 cnd t3 (
 vl (r2.2 == (0 : Int)) fun t4 =>
 cnd t4 (
 vl (decide ((r1.1.len : Int) > (r2.1.len : Int))) fun t5 =>
 cnd t5 (
 subM r1.1 0 (r2.1.len : Int) (r1.1.cap : Int) 1 fun s6 =>
 M.bind (slices_Equal_string_string N (s6, r2.1)) fun (r7 : Bool) =>
 M.pure r7) (
 M.pure false)) (
 M.pure false)) (
 M.pure false)
noncomputable def pl_path_Under : Plan := .leaf
theorem E_path_Under (N : Nat) (x : Ts A_path_Under) : evF ⟨Tryz.prog, [⟨100, A_path_Split, R_path_Split, path_Split N⟩, ⟨196, A_slices_Equal_string_string, R_slices_Equal_string_string, slices_Equal_string_string N⟩], [], []⟩ 40 N Tryz.f148.results.toList (Tryz.f148.body.getD .skip) pl_path_Under A_path_Under R_path_Under x = path_Under N x := by kernel_rfl
theorem row_path_Under (N : Nat) : RowOk Tryz.prog ⟨148, A_path_Under, R_path_Under, path_Under N⟩ :=
  row_mk 148 Tryz.f148 A_path_Under R_path_Under (path_Under N) _ _ _ 40 N pl_path_Under (rows_cons (row_path_Split N) (rows_cons (row_slices_Equal_string_string N) rows_nil)) (eqs_nil) mixed Tryz.func148 (by kernel_rfl) Tryz.ntmps148 (by kernel_rfl) (E_path_Under N) (by kernel_rfl)
/-! (*treering/tree.Tree).under -/
abbrev A_tree_Tree_under : List Ty := [.c .ptr, .c .str]
abbrev R_tree_Tree_under : List Ty := [.c .slice]
noncomputable def tree_Tree_under_L0 (N : Nat) (x : (Option Addr) × ByteArray) (b3 : Nat) (s4 : Sl) : M (Sl ⊕ (Sl)) :=
 M.bind (nextM b3) fun o5 => optM o5 (
 M.pure (inrS s4)) fun p6 =>
 M.rd (entryR (.c .str) (.agg [.str, .int .i64, .bool]) b3) fun (r7 : ByteArray × ByteArray × Int × Bool) =>
 M.new (ob [.string (⟨#[]⟩ : ByteArray), .int .i64 0, .bool false] 51) fun b8 =>
 st ⟨b8, 0, none⟩ [.string r7.2.1, .int .i64 r7.2.2.1, .bool r7.2.2.2] <|
 ld [.str] (Addr.add ⟨b8, 0, none⟩ 0) fun (r9 : ByteArray) =>
 catM x.2 (⟨#[47]⟩ : ByteArray) fun s10 =>
 M.bind (strings_HasPrefix N (r9, s10)) fun (r11 : Bool) =>
 cnd r11 (
 ld [.str, .int .i64, .bool] ⟨b8, 0, none⟩ fun (r12 : ByteArray × Int × Bool) =>
 M.new (ob [.string r12.1, .int .i64 r12.2.1, .bool r12.2.2] 51) fun b13 =>
 M.bind (appM 51 3 32 [.string (⟨#[]⟩ : ByteArray), .int .i64 0, .bool false] s4 (.sl (some ⟨b13, 0, none⟩) 1)) fun s14 =>
 M.pure (inlS s14)) (
 M.pure (inlS s4))
noncomputable def tree_Tree_under (N : Nat) (x : (Option Addr) × ByteArray) : M (Sl) :=
 nz x.1 fun a1 =>
 ld [.map] (Addr.add a1 0) fun (r2 : Option Nat) =>
 M.bind (rangeM r2) fun b3 =>
 M.bind (M.loop N (tree_Tree_under_L0 N x b3) ⟨none, 0, 0⟩) fun (r15 : Sl) =>
 M.pure r15
noncomputable def pl_tree_Tree_under : Plan := .kids (.leaf) (.kids (.leaf) (.kids (.kids (.leaf) (.kids (.loop [(5, .c .slice)] [(.exit 0, [(5, .c .slice)])] (.leaf)) .leaf)) (.leaf)))
theorem E_tree_Tree_under (N : Nat) (x : Ts A_tree_Tree_under) : evF ⟨Tryz.prog, [⟨162, A_strings_HasPrefix, R_strings_HasPrefix, strings_HasPrefix N⟩], [], [(12, (.c .str, .agg [.str, .int .i64, .bool]))]⟩ 27 N Tryz.f139.results.toList (Tryz.f139.body.getD .skip) pl_tree_Tree_under A_tree_Tree_under R_tree_Tree_under x = tree_Tree_under N x := by kernel_rfl
theorem row_tree_Tree_under (N : Nat) : RowOk Tryz.prog ⟨139, A_tree_Tree_under, R_tree_Tree_under, tree_Tree_under N⟩ :=
  row_mk 139 Tryz.f139 A_tree_Tree_under R_tree_Tree_under (tree_Tree_under N) _ _ _ 27 N pl_tree_Tree_under (rows_cons (row_strings_HasPrefix N) rows_nil) (eqs_nil) mixed Tryz.func139 (by kernel_rfl) Tryz.ntmps139 (by kernel_rfl) (E_tree_Tree_under N) (by kernel_rfl)
/-! (*treering/tree.Tree).deep -/
abbrev A_tree_Tree_deep : List Ty := [.c .ptr, .c .str, .c .str]
abbrev R_tree_Tree_deep : List Ty := [.c .bool]
noncomputable def tree_Tree_deep_L0 (N : Nat) (x : (Option Addr) × ByteArray × ByteArray) (r1 : Sl) (s2 : Int) : M (Int ⊕ (Unit ⊕ Bool)) :=
 vl (decide (s2 < (r1.len : Int))) fun t3 =>
 cnd t3 (
 ixA r1.a r1.len s2 3 fun a4 =>
 ld [.str, .int .i64, .bool] a4 fun (r5 : ByteArray × Int × Bool) =>
 M.new (ob [.string (⟨#[]⟩ : ByteArray), .int .i64 0, .bool false] 51) fun b6 =>
 st ⟨b6, 0, none⟩ [.string r5.1, .int .i64 r5.2.1, .bool r5.2.2] <|
 ld [.str] (Addr.add ⟨b6, 0, none⟩ 0) fun (r7 : ByteArray) =>
 subSt r7 (x.2.1.size : Int) (ByteArray.size r7 : Int) fun s8 =>
 catM x.2.2 s8 fun s9 =>
 M.bind (path_Split N s9) fun (r10 : Sl × Int) =>
 vl (r10.2 != (0 : Int)) fun t11 =>
 cnd t11 (
 M.pure (inrS (.inr true))) (
 vl (wi (s2 + (1 : Int))) fun i12 =>
 M.pure (inlS i12))) (
 M.pure (inrS (.inl ())))
noncomputable def tree_Tree_deep (N : Nat) (x : (Option Addr) × ByteArray × ByteArray) : M (Bool) :=
 M.bind (tree_Tree_under N (x.1, x.2.1)) fun (r1 : Sl) =>
 M.bind (M.loop N (tree_Tree_deep_L0 N x r1) 0) fun (r13 : Unit ⊕ Bool) =>
 sumM r13 (fun (q14 : Unit) =>
 M.pure false) fun (r15 : Bool) =>
 M.pure r15
noncomputable def pl_tree_Tree_deep : Plan := .kids (.leaf) (.kids (.kids (.leaf) (.kids (.loop [(15, .c (.int .i64))] [(.exit 0, []), (.ret, [(6, .c .bool)])] (.leaf)) .leaf)) (.leaf))
theorem E_tree_Tree_deep (N : Nat) (x : Ts A_tree_Tree_deep) : evF ⟨Tryz.prog, [⟨139, A_tree_Tree_under, R_tree_Tree_under, tree_Tree_under N⟩, ⟨100, A_path_Split, R_path_Split, path_Split N⟩], [], []⟩ 33 N Tryz.f149.results.toList (Tryz.f149.body.getD .skip) pl_tree_Tree_deep A_tree_Tree_deep R_tree_Tree_deep x = tree_Tree_deep N x := by kernel_rfl
theorem row_tree_Tree_deep (N : Nat) : RowOk Tryz.prog ⟨149, A_tree_Tree_deep, R_tree_Tree_deep, tree_Tree_deep N⟩ :=
  row_mk 149 Tryz.f149 A_tree_Tree_deep R_tree_Tree_deep (tree_Tree_deep N) _ _ _ 33 N pl_tree_Tree_deep (rows_cons (row_tree_Tree_under N) (rows_cons (row_path_Split N) rows_nil)) (eqs_nil) mixed Tryz.func149 (by kernel_rfl) Tryz.ntmps149 (by kernel_rfl) (E_tree_Tree_deep N) (by kernel_rfl)
/-! (*treering/tree.Tree).CanRename -/
abbrev A_tree_Tree_CanRename : List Ty := [.c .ptr, .c .str, .c .str]
abbrev R_tree_Tree_CanRename : List Ty := [.c (.int .i64)]
noncomputable def tree_Tree_CanRename (N : Nat) (x : (Option Addr) × ByteArray × ByteArray) : M (Int) :=
 vl (Option.isNone x.1) fun t1 =>
 cnd t1 (
 M.pure 1) (
 M.bind (path_Split N x.2.1) fun (r2 : Sl × Int) =>
 M.bind (path_Split N x.2.2) fun (r3 : Sl × Int) =>
 M.bind ((
 vl (r2.2 != (0 : Int)) fun t4 =>
 cnd t4 (
 M.pure true) (
 vl (r3.2 != (0 : Int)) fun t5 =>
 M.pure t5)) : M (Bool)) fun (r6 : Bool) =>
 cnd r6 (
 M.pure 3) (
 M.bind (tree_Tree_Look N (x.1, x.2.1)) fun (r7 : Int × Bool × Int) =>
 vl (r7.2.2 != (0 : Int)) fun t8 =>
 cnd t8 (
 M.pure r7.2.2) (
 vl (scmp .eql x.2.1 (⟨#[47]⟩ : ByteArray)) fun t9 =>
 cnd t9 (
 M.pure 8) (
 M.bind (path_Under N (x.2.2, x.2.1)) fun (r10 : Bool) =>
 cnd r10 (
 M.pure 10) (
 M.bind (tree_Tree_parent N (x.1, x.2.2)) fun (r11 : Int) =>
 vl (r11 != (0 : Int)) fun t12 =>
 cnd t12 (
 M.pure r11) (
 nz x.1 fun a13 =>
 ld [.map] (Addr.add a13 0) fun (r14 : Option Nat) =>
 M.rd (lookR .string (.string x.2.2) r14 (.agg [.str, .int .i64, .bool]) ((⟨#[]⟩ : ByteArray), 0, false)) fun (r15 : (ByteArray × Int × Bool) × Bool) =>
 M.new (ob [.string (⟨#[]⟩ : ByteArray), .int .i64 0, .bool false] 51) fun b16 =>
 st ⟨b16, 0, none⟩ [.string r15.1.1, .int .i64 r15.1.2.1, .bool r15.1.2.2] <|
 vl (scmp .eql x.2.1 x.2.2) fun t17 =>
 cnd t17 (
 M.pure 0) (
 M.bind ((
 vl (scmp .eql x.2.2 (⟨#[47]⟩ : ByteArray)) fun t18 =>
 cnd t18 (
 M.pure true) (
 cnd r15.2 (
 ld [.bool] (Addr.add ⟨b16, 0, none⟩ 2) fun (r19 : Bool) =>
 cnd r19 (
 M.pure true) (
 M.pure r7.2.1)) (
 M.pure false))) : M (Bool)) fun (r20 : Bool) =>
 cnd r20 (
 M.pure 5) (
 M.bind (tree_Tree_deep N (x.1, x.2.1, x.2.2)) fun (r21 : Bool) =>
 cnd r21 (
 M.pure 3) (
 M.pure 0)))))))))
noncomputable def pl_tree_Tree_CanRename : Plan := .kids (.leaf) (.kids (.leaf) (.kids (.leaf) (.kids (.leaf) (.kids (.join [(.normal, [(33, .c .bool)])] (.leaf) (.leaf)) (.kids (.leaf) (.kids (.leaf) (.kids (.leaf) (.kids (.leaf) (.kids (.kids (.kids (.leaf) (.kids (.leaf) (.join [(.normal, [(71, .c .bool)])] (.leaf) (.leaf)))) .leaf) (.leaf))))))))))
theorem E_tree_Tree_CanRename (N : Nat) (x : Ts A_tree_Tree_CanRename) : evF ⟨Tryz.prog, [⟨100, A_path_Split, R_path_Split, path_Split N⟩, ⟨39, A_tree_Tree_Look, R_tree_Tree_Look, tree_Tree_Look N⟩, ⟨148, A_path_Under, R_path_Under, path_Under N⟩, ⟨147, A_tree_Tree_parent, R_tree_Tree_parent, tree_Tree_parent N⟩, ⟨149, A_tree_Tree_deep, R_tree_Tree_deep, tree_Tree_deep N⟩], [], []⟩ 89 N Tryz.f85.results.toList (Tryz.f85.body.getD .skip) pl_tree_Tree_CanRename A_tree_Tree_CanRename R_tree_Tree_CanRename x = tree_Tree_CanRename N x := by kernel_rfl
theorem row_tree_Tree_CanRename (N : Nat) : RowOk Tryz.prog ⟨85, A_tree_Tree_CanRename, R_tree_Tree_CanRename, tree_Tree_CanRename N⟩ :=
  row_mk 85 Tryz.f85 A_tree_Tree_CanRename R_tree_Tree_CanRename (tree_Tree_CanRename N) _ _ _ 89 N pl_tree_Tree_CanRename (rows_cons (row_path_Split N) (rows_cons (row_tree_Tree_Look N) (rows_cons (row_path_Under N) (rows_cons (row_tree_Tree_parent N) (rows_cons (row_tree_Tree_deep N) rows_nil))))) (eqs_nil) mixed Tryz.func85 (by kernel_rfl) Tryz.ntmps85 (by kernel_rfl) (E_tree_Tree_CanRename N) (by kernel_rfl)
/-! (*treering/tree.Tree).CanDrop -/
abbrev A_tree_Tree_CanDrop : List Ty := [.c .ptr, .c .str, .c .bool]
abbrev R_tree_Tree_CanDrop : List Ty := [.c (.int .i64)]
noncomputable def tree_Tree_CanDrop (N : Nat) (x : (Option Addr) × ByteArray × Bool) : M (Int) :=
 M.bind (tree_Tree_Look N (x.1, x.2.1)) fun (r1 : Int × Bool × Int) =>
 vl (r1.2.2 != (0 : Int)) fun t2 =>
 cnd t2 (
 M.pure r1.2.2) (
 M.bind ((
 cnd r1.2.1 (
 vl (!x.2.2) fun t3 =>
 M.pure t3) (
 M.pure false)) : M (Bool)) fun (r4 : Bool) =>
 cnd r4 (
 M.pure 6) (
 M.bind ((
 vl (!r1.2.1) fun t5 =>
 cnd t5 (
 M.pure x.2.2) (
 M.pure false)) : M (Bool)) fun (r6 : Bool) =>
 cnd r6 (
 M.pure 7) (
 M.bind ((
 vl (scmp .eql x.2.1 (⟨#[47]⟩ : ByteArray)) fun t7 =>
 cnd t7 (
 M.pure true) (
 M.bind (tree_Tree_under N (x.1, x.2.1)) fun (r8 : Sl) =>
 vl (decide ((r8.len : Int) > (0 : Int))) fun t9 =>
 M.pure t9)) : M (Bool)) fun (r10 : Bool) =>
 cnd r10 (
 M.pure 8) (
 M.pure 0))))
noncomputable def pl_tree_Tree_CanDrop : Plan := .kids (.leaf) (.kids (.leaf) (.kids (.kids (.kids (.leaf) (.kids (.leaf) (.join [(.normal, [(21, .c .bool)])] (.leaf) (.kids (.leaf) (.join [(.normal, [(27, .c .bool)])] (.leaf) (.kids (.leaf) (.join [(.normal, [(33, .c .bool)])] (.leaf) (.leaf)))))))) .leaf) (.leaf)))
theorem E_tree_Tree_CanDrop (N : Nat) (x : Ts A_tree_Tree_CanDrop) : evF ⟨Tryz.prog, [⟨39, A_tree_Tree_Look, R_tree_Tree_Look, tree_Tree_Look N⟩, ⟨139, A_tree_Tree_under, R_tree_Tree_under, tree_Tree_under N⟩], [], []⟩ 43 N Tryz.f86.results.toList (Tryz.f86.body.getD .skip) pl_tree_Tree_CanDrop A_tree_Tree_CanDrop R_tree_Tree_CanDrop x = tree_Tree_CanDrop N x := by kernel_rfl
theorem row_tree_Tree_CanDrop (N : Nat) : RowOk Tryz.prog ⟨86, A_tree_Tree_CanDrop, R_tree_Tree_CanDrop, tree_Tree_CanDrop N⟩ :=
  row_mk 86 Tryz.f86 A_tree_Tree_CanDrop R_tree_Tree_CanDrop (tree_Tree_CanDrop N) _ _ _ 43 N pl_tree_Tree_CanDrop (rows_cons (row_tree_Tree_Look N) (rows_cons (row_tree_Tree_under N) rows_nil)) (eqs_nil) mixed Tryz.func86 (by kernel_rfl) Tryz.ntmps86 (by kernel_rfl) (E_tree_Tree_CanDrop N) (by kernel_rfl)
/-! (*treering/fold.State).Check -/
abbrev A_fold_State_Check : List Ty := [.c .ptr, .agg [.int .i64, .str, .str, .int .i64, .int .i64, .slice]]
abbrev R_fold_State_Check : List Ty := [.c (.int .i64)]
noncomputable def fold_State_Check (N : Nat) (x : (Option Addr) × Int × ByteArray × ByteArray × Int × Int × Sl) : M (Int) :=
 M.new (ob [.int .i64 x.2.1, .string x.2.2.1, .string x.2.2.2.1, .int .i64 x.2.2.2.2.1, .int .i64 x.2.2.2.2.2.1, .slice x.2.2.2.2.2.2.a x.2.2.2.2.2.2.len x.2.2.2.2.2.2.cap] 31) fun b1 =>
 vl (Option.isNone x.1) fun t2 =>
 cnd t2 (
 M.pure 1) (
 ld [.int .i64] (Addr.add ⟨b1, 0, none⟩ 0) fun (r3 : Int) =>
 M.bind ((
 vl (r3 == (1 : Int)) fun t4 =>
 cnd t4 (
 M.pure t4) (
 vl (r3 == (2 : Int)) fun t5 =>
 M.pure t5)) : M (Bool)) fun (r6 : Bool) =>
 cnd r6 (
 nz x.1 fun a7 =>
 ld [.ptr] (Addr.add a7 0) fun (r8 : Option Addr) =>
 ld [.str] (Addr.add ⟨b1, 0, none⟩ 1) fun (r9 : ByteArray) =>
 M.bind (tree_Tree_Can N (r8, r9)) fun (r10 : Int) =>
 M.pure r10) (
 vl (r3 == (3 : Int)) fun t11 =>
 cnd t11 (
 ld [.int .i64, .str, .str, .int .i64, .int .i64, .slice] ⟨b1, 0, none⟩ fun (r12 : Int × ByteArray × ByteArray × Int × Int × Sl) =>
 M.bind (fold_State_write N (x.1, (r12.1, r12.2.1, r12.2.2.1, r12.2.2.2.1, r12.2.2.2.2.1, r12.2.2.2.2.2))) fun (r13 : Int) =>
 M.pure r13) (
 vl (r3 == (4 : Int)) fun t14 =>
 cnd t14 (
 ld [.int .i64, .str, .str, .int .i64, .int .i64, .slice] ⟨b1, 0, none⟩ fun (r15 : Int × ByteArray × ByteArray × Int × Int × Sl) =>
 M.bind (fold_State_trunc N (x.1, (r15.1, r15.2.1, r15.2.2.1, r15.2.2.2.1, r15.2.2.2.2.1, r15.2.2.2.2.2))) fun (r16 : Int) =>
 M.pure r16) (
 vl (r3 == (5 : Int)) fun t17 =>
 cnd t17 (
 nz x.1 fun a18 =>
 ld [.ptr] (Addr.add a18 0) fun (r19 : Option Addr) =>
 ld [.str] (Addr.add ⟨b1, 0, none⟩ 1) fun (r20 : ByteArray) =>
 ld [.str] (Addr.add ⟨b1, 0, none⟩ 2) fun (r21 : ByteArray) =>
 M.bind (tree_Tree_CanRename N (r19, r20, r21)) fun (r22 : Int) =>
 M.pure r22) (
 M.bind ((
 vl (r3 == (6 : Int)) fun t23 =>
 cnd t23 (
 M.pure t23) (
 vl (r3 == (7 : Int)) fun t24 =>
 M.pure t24)) : M (Bool)) fun (r25 : Bool) =>
 cnd r25 (
 nz x.1 fun a26 =>
 ld [.ptr] (Addr.add a26 0) fun (r27 : Option Addr) =>
 ld [.str] (Addr.add ⟨b1, 0, none⟩ 1) fun (r28 : ByteArray) =>
 ld [.int .i64] (Addr.add ⟨b1, 0, none⟩ 0) fun (r29 : Int) =>
 vl (r29 == (7 : Int)) fun t30 =>
 M.bind (tree_Tree_CanDrop N (r27, r28, t30)) fun (r31 : Int) =>
 M.pure r31) (
 vl (r3 == (8 : Int)) fun t32 =>
 cnd t32 (
 ld [.str] (Addr.add ⟨b1, 0, none⟩ 1) fun (r33 : ByteArray) =>
 M.bind (path_Name N r33) fun (r34 : Bool) =>
 cnd r34 (
 M.pure 0) (
 M.pure 11)) (
 M.pure 1)))))))
noncomputable def pl_fold_State_Check : Plan := .kids (.leaf) (.kids (.leaf) (.kids (.kids (.leaf) (.kids (.join [(.normal, [(9, .c .bool)])] (.leaf) (.kids (.kids (.ord [0, 1, 2, 3, 4, 5, 6, 7]) (.leaf)) (.kids (.leaf) (.kids (.leaf) (.kids (.leaf) (.kids (.leaf) (.kids (.leaf) (.kids (.kids (.ord [0, 1, 2, 3, 4, 5, 6, 7, 8, 9]) (.leaf)) (.join [(.normal, [(40, .c .bool)])] (.leaf) (.kids (.kids (.ord [0, 1, 2, 3, 4, 5, 6, 7, 8, 9, 10]) (.leaf)) (.leaf))))))))))) .leaf)) (.leaf)))
theorem E_fold_State_Check (N : Nat) (x : Ts A_fold_State_Check) : evF ⟨Tryz.prog, [⟨82, A_tree_Tree_Can, R_tree_Tree_Can, tree_Tree_Can N⟩, ⟨83, A_fold_State_write, R_fold_State_write, fold_State_write N⟩, ⟨84, A_fold_State_trunc, R_fold_State_trunc, fold_State_trunc N⟩, ⟨85, A_tree_Tree_CanRename, R_tree_Tree_CanRename, tree_Tree_CanRename N⟩, ⟨86, A_tree_Tree_CanDrop, R_tree_Tree_CanDrop, tree_Tree_CanDrop N⟩, ⟨87, A_path_Name, R_path_Name, path_Name N⟩], [], []⟩ 58 N Tryz.f28.results.toList (Tryz.f28.body.getD .skip) pl_fold_State_Check A_fold_State_Check R_fold_State_Check x = fold_State_Check N x := by kernel_rfl
theorem row_fold_State_Check (N : Nat) : RowOk Tryz.prog ⟨28, A_fold_State_Check, R_fold_State_Check, fold_State_Check N⟩ :=
  row_mk 28 Tryz.f28 A_fold_State_Check R_fold_State_Check (fold_State_Check N) _ _ _ 58 N pl_fold_State_Check (rows_cons (row_tree_Tree_Can N) (rows_cons (row_fold_State_write N) (rows_cons (row_fold_State_trunc N) (rows_cons (row_tree_Tree_CanRename N) (rows_cons (row_tree_Tree_CanDrop N) (rows_cons (row_path_Name N) rows_nil)))))) (eqs_nil) mixed Tryz.func28 (by kernel_rfl) Tryz.ntmps28 (by kernel_rfl) (E_fold_State_Check N) (by kernel_rfl)
/-! (*treering/tree.Tree).Make -/
abbrev A_tree_Tree_Make : List Ty := [.c .ptr, .c .str, .c .bool]
abbrev R_tree_Tree_Make : List Ty := [.c (.int .i64), .c (.int .i64)]
noncomputable def tree_Tree_Make (N : Nat) (x : (Option Addr) × ByteArray × Bool) : M (Int × Int) :=
 M.bind (tree_Tree_Can N (x.1, x.2.1)) fun (r1 : Int) =>
 vl (r1 != (0 : Int)) fun t2 =>
 cnd t2 (
 M.pure (0, r1)) (
 nz x.1 fun a3 =>
 ld [.int .i64] (Addr.add a3 1) fun (r4 : Int) =>
 M.new (ob [.string (⟨#[]⟩ : ByteArray), .int .i64 0, .bool false] 51) fun b5 =>
 st ⟨b5, 0, none⟩ [.string x.2.1, .int .i64 r4, .bool x.2.2] <|
 nz x.1 fun a6 =>
 ld [.map] (Addr.add a6 0) fun (r7 : Option Nat) =>
 ld [.str, .int .i64, .bool] ⟨b5, 0, none⟩ fun (r8 : ByteArray × Int × Bool) =>
 M.bind (mapPutM .string (.string x.2.1) (.agg #[.string r8.1, .int .i64 r8.2.1, .bool r8.2.2]) r7) fun _ =>
 nz x.1 fun a9 =>
 ld [.int .i64] (Addr.add a9 1) fun (r10 : Int) =>
 vl (wi (r10 + (1 : Int))) fun i11 =>
 nz x.1 fun a12 =>
 st (Addr.add a12 1) [.int .i64 i11] <|
 ld [.int .i64] (Addr.add ⟨b5, 0, none⟩ 1) fun (r13 : Int) =>
 M.pure (r13, 0))
noncomputable def pl_tree_Tree_Make : Plan := .kids (.leaf) (.kids (.leaf) (.kids (.leaf) (.kids (.ord [0, 1, 2, 3, 4, 5, 6]) (.leaf))))
theorem E_tree_Tree_Make (N : Nat) (x : Ts A_tree_Tree_Make) : evF ⟨Tryz.prog, [⟨82, A_tree_Tree_Can, R_tree_Tree_Can, tree_Tree_Can N⟩], [], []⟩ 38 N Tryz.f69.results.toList (Tryz.f69.body.getD .skip) pl_tree_Tree_Make A_tree_Tree_Make R_tree_Tree_Make x = tree_Tree_Make N x := by kernel_rfl
theorem row_tree_Tree_Make (N : Nat) : RowOk Tryz.prog ⟨69, A_tree_Tree_Make, R_tree_Tree_Make, tree_Tree_Make N⟩ :=
  row_mk 69 Tryz.f69 A_tree_Tree_Make R_tree_Tree_Make (tree_Tree_Make N) _ _ _ 38 N pl_tree_Tree_Make (rows_cons (row_tree_Tree_Can N) rows_nil) (eqs_nil) mixed Tryz.func69 (by kernel_rfl) Tryz.ntmps69 (by kernel_rfl) (E_tree_Tree_Make N) (by kernel_rfl)
/-! treering/fold.long -/
abbrev A_fold_long : List Ty := [.c .slice]
abbrev R_fold_long : List Ty := [.c (.int .i64)]
noncomputable def fold_long_L0 (N : Nat) (x : Sl) (s1 : Int × Int) : M ((Int × Int) ⊕ (Int)) :=
 vl (decide (s1.2 < (x.len : Int))) fun t2 =>
 cnd t2 (
 ixA x.a x.len s1.2 4 fun a3 =>
 ld [.int .i64, .int .i64, .int .i64, .int .i64] a3 fun (r4 : Int × Int × Int × Int) =>
 M.new (ob [.int .i64 0, .int .i64 0, .int .i64 0, .int .i64 0] 40) fun b5 =>
 st ⟨b5, 0, none⟩ [.int .i64 r4.1, .int .i64 r4.2.1, .int .i64 r4.2.2.1, .int .i64 r4.2.2.2] <|
 ld [.int .i64] (Addr.add ⟨b5, 0, none⟩ 1) fun (r6 : Int) =>
 vl (wi (s1.1 + r6)) fun i7 =>
 vl (wi (s1.2 + (1 : Int))) fun i8 =>
 M.pure (inlS (i7, i8))) (
 M.pure (inrS s1.1))
noncomputable def fold_long (N : Nat) (x : Sl) : M (Int) :=
 M.bind (M.loop N (fold_long_L0 N x) (0, 0)) fun (r9 : Int) =>
 M.pure r9
noncomputable def pl_fold_long : Plan := .kids (.leaf) (.kids (.leaf) (.kids (.kids (.leaf) (.kids (.loop [(3, .c (.int .i64)), (8, .c (.int .i64))] [(.exit 0, [(3, .c (.int .i64))])] (.leaf)) .leaf)) (.leaf)))
theorem E_fold_long (N : Nat) (x : Ts A_fold_long) : evF ⟨Tryz.prog, [], [], []⟩ 18 N Tryz.f136.results.toList (Tryz.f136.body.getD .skip) pl_fold_long A_fold_long R_fold_long x = fold_long N x := by kernel_rfl
theorem row_fold_long (N : Nat) : RowOk Tryz.prog ⟨136, A_fold_long, R_fold_long, fold_long N⟩ :=
  row_mk 136 Tryz.f136 A_fold_long R_fold_long (fold_long N) _ _ _ 18 N pl_fold_long (rows_nil) (eqs_nil) mixed Tryz.func136 (by kernel_rfl) Tryz.ntmps136 (by kernel_rfl) (E_fold_long N) (by kernel_rfl)
/-! slices.Clone[[]treering/body.Part,treering/body.Part] -/
abbrev A_slices_Clone_body_Part_body_Part : List Ty := [.c .slice]
abbrev R_slices_Clone_body_Part_body_Part : List Ty := [.c .slice]
noncomputable def slices_Clone_body_Part_body_Part (N : Nat) (x : Sl) : M (Sl) :=
 vl (Option.isNone x.a) fun t1 =>
 cnd t1 (
 M.pure ⟨none, 0, 0⟩) (
 M.new (ob [] 40) fun b2 =>
 M.bind (appM 40 4 32 [.int .i64 0, .int .i64 0, .int .i64 0, .int .i64 0] ⟨(some ⟨b2, 0, none⟩), 0, 0⟩ (.sl x.a x.len)) fun s3 =>
 M.pure s3)
noncomputable def pl_slices_Clone_body_Part_body_Part : Plan := .leaf
theorem E_slices_Clone_body_Part_body_Part (N : Nat) (x : Ts A_slices_Clone_body_Part_body_Part) : evF ⟨Tryz.prog, [], [], []⟩ 8 N Tryz.f81.results.toList (Tryz.f81.body.getD .skip) pl_slices_Clone_body_Part_body_Part A_slices_Clone_body_Part_body_Part R_slices_Clone_body_Part_body_Part x = slices_Clone_body_Part_body_Part N x := by kernel_rfl
theorem row_slices_Clone_body_Part_body_Part (N : Nat) : RowOk Tryz.prog ⟨81, A_slices_Clone_body_Part_body_Part, R_slices_Clone_body_Part_body_Part, slices_Clone_body_Part_body_Part N⟩ :=
  row_mk 81 Tryz.f81 A_slices_Clone_body_Part_body_Part R_slices_Clone_body_Part_body_Part (slices_Clone_body_Part_body_Part N) _ _ _ 8 N pl_slices_Clone_body_Part_body_Part (rows_nil) (eqs_nil) mixed Tryz.func81 (by kernel_rfl) Tryz.ntmps81 (by kernel_rfl) (E_slices_Clone_body_Part_body_Part N) (by kernel_rfl)
/-! (treering/body.Part).Fits -/
abbrev A_body_Part_Fits : List Ty := [.agg [.int .i64, .int .i64, .int .i64, .int .i64]]
abbrev R_body_Part_Fits : List Ty := [.c .bool]
noncomputable def body_Part_Fits (N : Nat) (x : Int × Int × Int × Int) : M (Bool) :=
 M.new (ob [.int .i64 x.1, .int .i64 x.2.1, .int .i64 x.2.2.1, .int .i64 x.2.2.2] 40) fun b1 =>
 ld [.int .i64] (Addr.add ⟨b1, 0, none⟩ 1) fun (r2 : Int) =>
 vl (decide (r2 ≥ (1 : Int))) fun t3 =>
 cnd t3 (
 ld [.int .i64] (Addr.add ⟨b1, 0, none⟩ 1) fun (r4 : Int) =>
 vl (decide (r4 ≤ (64 : Int))) fun t5 =>
 cnd t5 (
 ld [.int .i64] (Addr.add ⟨b1, 0, none⟩ 2) fun (r6 : Int) =>
 vl (decide (r6 ≥ (1 : Int))) fun t7 =>
 cnd t7 (
 ld [.int .i64] (Addr.add ⟨b1, 0, none⟩ 2) fun (r8 : Int) =>
 vl (decide (r8 ≤ (4611686018427387904 : Int))) fun t9 =>
 cnd t9 (
 ld [.int .i64] (Addr.add ⟨b1, 0, none⟩ 3) fun (r10 : Int) =>
 vl (decide (r10 ≥ (0 : Int))) fun t11 =>
 cnd t11 (
 ld [.int .i64] (Addr.add ⟨b1, 0, none⟩ 3) fun (r12 : Int) =>
 ld [.int .i64] (Addr.add ⟨b1, 0, none⟩ 1) fun (r13 : Int) =>
 vl (wi ((64 : Int) - r13)) fun i14 =>
 vl (decide (r12 ≤ i14)) fun t15 =>
 M.pure t15) (
 M.pure false)) (
 M.pure false)) (
 M.pure false)) (
 M.pure false)) (
 M.pure false)
noncomputable def pl_body_Part_Fits : Plan := .leaf
theorem E_body_Part_Fits (N : Nat) (x : Ts A_body_Part_Fits) : evF ⟨Tryz.prog, [], [], []⟩ 34 N Tryz.f159.results.toList (Tryz.f159.body.getD .skip) pl_body_Part_Fits A_body_Part_Fits R_body_Part_Fits x = body_Part_Fits N x := by kernel_rfl
theorem row_body_Part_Fits (N : Nat) : RowOk Tryz.prog ⟨159, A_body_Part_Fits, R_body_Part_Fits, body_Part_Fits N⟩ :=
  row_mk 159 Tryz.f159 A_body_Part_Fits R_body_Part_Fits (body_Part_Fits N) _ _ _ 34 N pl_body_Part_Fits (rows_nil) (eqs_nil) mixed Tryz.func159 (by kernel_rfl) Tryz.ntmps159 (by kernel_rfl) (E_body_Part_Fits N) (by kernel_rfl)
/-! (treering/body.Part).end -/
abbrev A_body_Part_end : List Ty := [.agg [.int .i64, .int .i64, .int .i64, .int .i64]]
abbrev R_body_Part_end : List Ty := [.c (.int .i64)]
noncomputable def body_Part_end (N : Nat) (x : Int × Int × Int × Int) : M (Int) :=
 M.new (ob [.int .i64 x.1, .int .i64 x.2.1, .int .i64 x.2.2.1, .int .i64 x.2.2.2] 40) fun b1 =>
 ld [.int .i64] (Addr.add ⟨b1, 0, none⟩ 0) fun (r2 : Int) =>
 ld [.int .i64] (Addr.add ⟨b1, 0, none⟩ 1) fun (r3 : Int) =>
 vl (wi (r2 + r3)) fun i4 =>
 M.pure i4
noncomputable def pl_body_Part_end : Plan := .leaf
theorem E_body_Part_end (N : Nat) (x : Ts A_body_Part_end) : evF ⟨Tryz.prog, [], [], []⟩ 8 N Tryz.f160.results.toList (Tryz.f160.body.getD .skip) pl_body_Part_end A_body_Part_end R_body_Part_end x = body_Part_end N x := by kernel_rfl
theorem row_body_Part_end (N : Nat) : RowOk Tryz.prog ⟨160, A_body_Part_end, R_body_Part_end, body_Part_end N⟩ :=
  row_mk 160 Tryz.f160 A_body_Part_end R_body_Part_end (body_Part_end N) _ _ _ 8 N pl_body_Part_end (rows_nil) (eqs_nil) mixed Tryz.func160 (by kernel_rfl) Tryz.ntmps160 (by kernel_rfl) (E_body_Part_end N) (by kernel_rfl)
/-! treering/body.May -/
abbrev A_body_May : List Ty := [.agg [.int .i64, .slice]]
abbrev R_body_May : List Ty := [.c .bool]
noncomputable def body_May_L0 (N : Nat) (b1 : Nat) (r7 : Sl) (s8 : Int × Int) : M ((Int × Int) ⊕ (Unit ⊕ Bool)) :=
 vl (decide (s8.2 < (r7.len : Int))) fun t9 =>
 cnd t9 (
 ixA r7.a r7.len s8.2 4 fun a10 =>
 ld [.int .i64, .int .i64, .int .i64, .int .i64] a10 fun (r11 : Int × Int × Int × Int) =>
 M.new (ob [.int .i64 0, .int .i64 0, .int .i64 0, .int .i64 0] 40) fun b12 =>
 st ⟨b12, 0, none⟩ [.int .i64 r11.1, .int .i64 r11.2.1, .int .i64 r11.2.2.1, .int .i64 r11.2.2.2] <|
 M.bind ((
 ld [.int .i64, .int .i64, .int .i64, .int .i64] ⟨b12, 0, none⟩ fun (r13 : Int × Int × Int × Int) =>
 M.bind (body_Part_Fits N (r13.1, r13.2.1, r13.2.2.1, r13.2.2.2)) fun (r14 : Bool) =>
 vl (!r14) fun t15 =>
 cnd t15 (
 M.pure true) (
 ld [.int .i64] (Addr.add ⟨b12, 0, none⟩ 0) fun (r16 : Int) =>
 vl (decide (r16 < s8.1)) fun t17 =>
 cnd t17 (
 M.pure true) (
 ld [.int .i64] (Addr.add ⟨b12, 0, none⟩ 0) fun (r18 : Int) =>
 ld [.int .i64] (Addr.add ⟨b1, 0, none⟩ 0) fun (r19 : Int) =>
 ld [.int .i64] (Addr.add ⟨b12, 0, none⟩ 1) fun (r20 : Int) =>
 vl (wi (r19 - r20)) fun i21 =>
 vl (decide (r18 > i21)) fun t22 =>
 M.pure t22))) : M (Bool)) fun (r23 : Bool) =>
 cnd r23 (
 M.pure (inrS (.inr false))) (
 ld [.int .i64, .int .i64, .int .i64, .int .i64] ⟨b12, 0, none⟩ fun (r24 : Int × Int × Int × Int) =>
 M.bind (body_Part_end N (r24.1, r24.2.1, r24.2.2.1, r24.2.2.2)) fun (r25 : Int) =>
 vl (wi (s8.2 + (1 : Int))) fun i26 =>
 M.pure (inlS (r25, i26)))) (
 M.pure (inrS (.inl ())))
noncomputable def body_May (N : Nat) (x : Int × Sl) : M (Bool) :=
 M.new (ob [.int .i64 x.1, .slice x.2.a x.2.len x.2.cap] 47) fun b1 =>
 M.bind ((
 ld [.int .i64] (Addr.add ⟨b1, 0, none⟩ 0) fun (r2 : Int) =>
 vl (decide (r2 < (0 : Int))) fun t3 =>
 cnd t3 (
 M.pure true) (
 ld [.int .i64] (Addr.add ⟨b1, 0, none⟩ 0) fun (r4 : Int) =>
 vl (decide (r4 > (1099511627776 : Int))) fun t5 =>
 M.pure t5)) : M (Bool)) fun (r6 : Bool) =>
 cnd r6 (
 M.pure false) (
 ld [.slice] (Addr.add ⟨b1, 0, none⟩ 1) fun (r7 : Sl) =>
 M.bind (M.loop N (body_May_L0 N b1 r7) (0, 0)) fun (r27 : Unit ⊕ Bool) =>
 sumM r27 (fun (q28 : Unit) =>
 M.pure true) fun (r29 : Bool) =>
 M.pure r29)
noncomputable def pl_body_May : Plan := .kids (.leaf) (.kids (.join [(.normal, [(13, .c .bool)])] (.leaf) (.leaf)) (.kids (.leaf) (.kids (.kids (.leaf) (.kids (.loop [(3, .c (.int .i64)), (17, .c (.int .i64))] [(.exit 0, []), (.ret, [(2, .c .bool)])] (.kids (.leaf) (.kids (.leaf) (.kids (.kids (.kids (.leaf) (.kids (.join [(.normal, [(39, .c .bool)])] (.leaf) (.leaf)) (.leaf))) .leaf) (.leaf))))) .leaf)) (.leaf))))
theorem E_body_May (N : Nat) (x : Ts A_body_May) : evF ⟨Tryz.prog, [⟨159, A_body_Part_Fits, R_body_Part_Fits, body_Part_Fits N⟩, ⟨160, A_body_Part_end, R_body_Part_end, body_Part_end N⟩], [], []⟩ 43 N Tryz.f96.results.toList (Tryz.f96.body.getD .skip) pl_body_May A_body_May R_body_May x = body_May N x := by kernel_rfl
theorem row_body_May (N : Nat) : RowOk Tryz.prog ⟨96, A_body_May, R_body_May, body_May N⟩ :=
  row_mk 96 Tryz.f96 A_body_May R_body_May (body_May N) _ _ _ 43 N pl_body_May (rows_cons (row_body_Part_Fits N) (rows_cons (row_body_Part_end N) rows_nil)) (eqs_nil) mixed Tryz.func96 (by kernel_rfl) Tryz.ntmps96 (by kernel_rfl) (E_body_May N) (by kernel_rfl)
/-! treering/body.ahead -/
abbrev A_body_ahead : List Ty := [.agg [.int .i64, .int .i64, .int .i64, .int .i64], .c (.int .i64)]
abbrev R_body_ahead : List Ty := [.agg [.int .i64, .int .i64, .int .i64, .int .i64], .c .bool]
noncomputable def body_ahead (N : Nat) (x : (Int × Int × Int × Int) × Int) : M ((Int × Int × Int × Int) × Bool) :=
 M.new (ob [.int .i64 x.1.1, .int .i64 x.1.2.1, .int .i64 x.1.2.2.1, .int .i64 x.1.2.2.2] 40) fun b1 =>
 M.new (ob [.int .i64 0, .int .i64 0, .int .i64 0, .int .i64 0] 40) fun b2 =>
 ld [.int .i64] (Addr.add ⟨b1, 0, none⟩ 0) fun (r3 : Int) =>
 vl (decide (r3 ≥ x.2)) fun t4 =>
 cnd t4 (
 st ⟨b2, 0, none⟩ [.int .i64 0, .int .i64 0, .int .i64 0, .int .i64 0] <|
 ld [.int .i64, .int .i64, .int .i64, .int .i64] ⟨b2, 0, none⟩ fun (r5 : Int × Int × Int × Int) =>
 M.pure ((r5.1, r5.2.1, r5.2.2.1, r5.2.2.2), false)) (
 ld [.int .i64] (Addr.add ⟨b1, 0, none⟩ 1) fun (r6 : Int) =>
 ld [.int .i64] (Addr.add ⟨b1, 0, none⟩ 0) fun (r7 : Int) =>
 vl (wi (x.2 - r7)) fun i8 =>
 vl (if (i8 : Int) < (r6 : Int) then (i8 : Int) else (r6 : Int)) fun i9 =>
 st (Addr.add ⟨b1, 0, none⟩ 1) [.int .i64 i9] <|
 ld [.int .i64, .int .i64, .int .i64, .int .i64] ⟨b1, 0, none⟩ fun (r10 : Int × Int × Int × Int) =>
 st ⟨b2, 0, none⟩ [.int .i64 r10.1, .int .i64 r10.2.1, .int .i64 r10.2.2.1, .int .i64 r10.2.2.2] <|
 ld [.int .i64, .int .i64, .int .i64, .int .i64] ⟨b2, 0, none⟩ fun (r11 : Int × Int × Int × Int) =>
 M.pure ((r11.1, r11.2.1, r11.2.2.1, r11.2.2.2), true))
noncomputable def pl_body_ahead : Plan := .leaf
theorem E_body_ahead (N : Nat) (x : Ts A_body_ahead) : evF ⟨Tryz.prog, [], [], []⟩ 20 N Tryz.f138.results.toList (Tryz.f138.body.getD .skip) pl_body_ahead A_body_ahead R_body_ahead x = body_ahead N x := by kernel_rfl
theorem row_body_ahead (N : Nat) : RowOk Tryz.prog ⟨138, A_body_ahead, R_body_ahead, body_ahead N⟩ :=
  row_mk 138 Tryz.f138 A_body_ahead R_body_ahead (body_ahead N) _ _ _ 20 N pl_body_ahead (rows_nil) (eqs_nil) mixed Tryz.func138 (by kernel_rfl) Tryz.ntmps138 (by kernel_rfl) (E_body_ahead N) (by kernel_rfl)
/-! treering/body.Write$1 -/
abbrev A_body_Write_1 : List Ty := [.agg [.int .i64, .int .i64, .int .i64, .int .i64]]
abbrev R_body_Write_1 : List Ty := [.c .bool]
noncomputable def body_Write_1 (N : Nat) (x : Int × Int × Int × Int) : M (Bool) :=
 M.new (ob [.int .i64 x.1, .int .i64 x.2.1, .int .i64 x.2.2.1, .int .i64 x.2.2.2] 40) fun b1 =>
 ld [.int .i64, .int .i64, .int .i64, .int .i64] ⟨b1, 0, none⟩ fun (r2 : Int × Int × Int × Int) =>
 M.bind (body_Part_Fits N (r2.1, r2.2.1, r2.2.2.1, r2.2.2.2)) fun (r3 : Bool) =>
 vl (!r3) fun t4 =>
 M.pure t4
noncomputable def pl_body_Write_1 : Plan := .leaf
theorem E_body_Write_1 (N : Nat) (x : Ts A_body_Write_1) : evF ⟨Tryz.prog, [⟨159, A_body_Part_Fits, R_body_Part_Fits, body_Part_Fits N⟩], [], []⟩ 6 N Tryz.f189.results.toList (Tryz.f189.body.getD .skip) pl_body_Write_1 A_body_Write_1 R_body_Write_1 x = body_Write_1 N x := by kernel_rfl
theorem row_body_Write_1 (N : Nat) : RowOk Tryz.prog ⟨189, A_body_Write_1, R_body_Write_1, body_Write_1 N⟩ :=
  row_mk 189 Tryz.f189 A_body_Write_1 R_body_Write_1 (body_Write_1 N) _ _ _ 6 N pl_body_Write_1 (rows_cons (row_body_Part_Fits N) rows_nil) (eqs_nil) mixed Tryz.func189 (by kernel_rfl) Tryz.ntmps189 (by kernel_rfl) (E_body_Write_1 N) (by kernel_rfl)
/-! slices.IndexFunc[[]treering/body.Part,treering/body.Part] -/
abbrev A_slices_IndexFunc_body_Part_body_Part : List Ty := [.c .slice, .fn 189]
abbrev R_slices_IndexFunc_body_Part_body_Part : List Ty := [.c (.int .i64)]
noncomputable def slices_IndexFunc_body_Part_body_Part_L0 (N : Nat) (x : Sl × Unit) (s1 : Int) : M (Int ⊕ (Unit ⊕ Int)) :=
 vl (decide (s1 < (x.1.len : Int))) fun t2 =>
 cnd t2 (
 ixA x.1.a x.1.len s1 4 fun a3 =>
 ld [.int .i64, .int .i64, .int .i64, .int .i64] a3 fun (r4 : Int × Int × Int × Int) =>
 M.bind (body_Write_1 N (r4.1, r4.2.1, r4.2.2.1, r4.2.2.2)) fun (r5 : Bool) =>
 cnd r5 (
 M.pure (inrS (.inr s1))) (
 vl (wi (s1 + (1 : Int))) fun i6 =>
 M.pure (inlS i6))) (
 M.pure (inrS (.inl ())))
noncomputable def slices_IndexFunc_body_Part_body_Part (N : Nat) (x : Sl × Unit) : M (Int) :=
 M.bind (M.loop N (slices_IndexFunc_body_Part_body_Part_L0 N x) 0) fun (r7 : Unit ⊕ Int) =>
 sumM r7 (fun (q8 : Unit) =>
 M.pure (-1)) fun (r9 : Int) =>
 M.pure r9
noncomputable def pl_slices_IndexFunc_body_Part_body_Part : Plan := .kids (.leaf) (.kids (.kids (.leaf) (.kids (.loop [(8, .c (.int .i64))] [(.exit 0, []), (.ret, [(4, .c (.int .i64))])] (.leaf)) .leaf)) (.leaf))
theorem E_slices_IndexFunc_body_Part_body_Part (N : Nat) (x : Ts A_slices_IndexFunc_body_Part_body_Part) : evF ⟨Tryz.prog, [⟨189, A_body_Write_1, R_body_Write_1, body_Write_1 N⟩], [], []⟩ 19 N Tryz.f224.results.toList (Tryz.f224.body.getD .skip) pl_slices_IndexFunc_body_Part_body_Part A_slices_IndexFunc_body_Part_body_Part R_slices_IndexFunc_body_Part_body_Part x = slices_IndexFunc_body_Part_body_Part N x := by kernel_rfl
theorem row_slices_IndexFunc_body_Part_body_Part (N : Nat) : RowOk Tryz.prog ⟨224, A_slices_IndexFunc_body_Part_body_Part, R_slices_IndexFunc_body_Part_body_Part, slices_IndexFunc_body_Part_body_Part N⟩ :=
  row_mk 224 Tryz.f224 A_slices_IndexFunc_body_Part_body_Part R_slices_IndexFunc_body_Part_body_Part (slices_IndexFunc_body_Part_body_Part N) _ _ _ 19 N pl_slices_IndexFunc_body_Part_body_Part (rows_cons (row_body_Write_1 N) rows_nil) (eqs_nil) mixed Tryz.func224 (by kernel_rfl) Tryz.ntmps224 (by kernel_rfl) (E_slices_IndexFunc_body_Part_body_Part N) (by kernel_rfl)
/-! slices.ContainsFunc[[]treering/body.Part,treering/body.Part] -/
abbrev A_slices_ContainsFunc_body_Part_body_Part : List Ty := [.c .slice, .fn 189]
abbrev R_slices_ContainsFunc_body_Part_body_Part : List Ty := [.c .bool]
noncomputable def slices_ContainsFunc_body_Part_body_Part (N : Nat) (x : Sl × Unit) : M (Bool) :=
 M.bind (slices_IndexFunc_body_Part_body_Part N (x.1, ())) fun (r1 : Int) =>
 vl (decide (r1 ≥ (0 : Int))) fun t2 =>
 M.pure t2
noncomputable def pl_slices_ContainsFunc_body_Part_body_Part : Plan := .leaf
theorem E_slices_ContainsFunc_body_Part_body_Part (N : Nat) (x : Ts A_slices_ContainsFunc_body_Part_body_Part) : evF ⟨Tryz.prog, [⟨224, A_slices_IndexFunc_body_Part_body_Part, R_slices_IndexFunc_body_Part_body_Part, slices_IndexFunc_body_Part_body_Part N⟩], [], []⟩ 9 N Tryz.f188.results.toList (Tryz.f188.body.getD .skip) pl_slices_ContainsFunc_body_Part_body_Part A_slices_ContainsFunc_body_Part_body_Part R_slices_ContainsFunc_body_Part_body_Part x = slices_ContainsFunc_body_Part_body_Part N x := by kernel_rfl
theorem row_slices_ContainsFunc_body_Part_body_Part (N : Nat) : RowOk Tryz.prog ⟨188, A_slices_ContainsFunc_body_Part_body_Part, R_slices_ContainsFunc_body_Part_body_Part, slices_ContainsFunc_body_Part_body_Part N⟩ :=
  row_mk 188 Tryz.f188 A_slices_ContainsFunc_body_Part_body_Part R_slices_ContainsFunc_body_Part_body_Part (slices_ContainsFunc_body_Part_body_Part N) _ _ _ 9 N pl_slices_ContainsFunc_body_Part_body_Part (rows_cons (row_slices_IndexFunc_body_Part_body_Part N) rows_nil) (eqs_nil) mixed Tryz.func188 (by kernel_rfl) Tryz.ntmps188 (by kernel_rfl) (E_slices_ContainsFunc_body_Part_body_Part N) (by kernel_rfl)
/-! treering/body.behind -/
abbrev A_body_behind : List Ty := [.agg [.int .i64, .int .i64, .int .i64, .int .i64], .c (.int .i64)]
abbrev R_body_behind : List Ty := [.agg [.int .i64, .int .i64, .int .i64, .int .i64], .c .bool]
noncomputable def body_behind (N : Nat) (x : (Int × Int × Int × Int) × Int) : M ((Int × Int × Int × Int) × Bool) :=
 M.new (ob [.int .i64 x.1.1, .int .i64 x.1.2.1, .int .i64 x.1.2.2.1, .int .i64 x.1.2.2.2] 40) fun b1 =>
 M.new (ob [.int .i64 0, .int .i64 0, .int .i64 0, .int .i64 0] 40) fun b2 =>
 ld [.int .i64, .int .i64, .int .i64, .int .i64] ⟨b1, 0, none⟩ fun (r3 : Int × Int × Int × Int) =>
 M.bind (body_Part_end N (r3.1, r3.2.1, r3.2.2.1, r3.2.2.2)) fun (r4 : Int) =>
 vl (decide (r4 ≤ x.2)) fun t5 =>
 cnd t5 (
 st ⟨b2, 0, none⟩ [.int .i64 0, .int .i64 0, .int .i64 0, .int .i64 0] <|
 ld [.int .i64, .int .i64, .int .i64, .int .i64] ⟨b2, 0, none⟩ fun (r6 : Int × Int × Int × Int) =>
 M.pure ((r6.1, r6.2.1, r6.2.2.1, r6.2.2.2), false)) (
 M.bind ((
 ld [.int .i64] (Addr.add ⟨b1, 0, none⟩ 0) fun (r7 : Int) =>
 vl (wi (x.2 - r7)) fun i8 =>
 vl (if (0 : Int) > (i8 : Int) then (0 : Int) else (i8 : Int)) fun i9 =>
 vl (decide (i9 > (0 : Int))) fun t10 =>
 cnd t10 (
 ld [.int .i64] (Addr.add ⟨b1, 0, none⟩ 3) fun (r11 : Int) =>
 vl (wi (r11 + i9)) fun i12 =>
 ld [.int .i64] (Addr.add ⟨b1, 0, none⟩ 1) fun (r13 : Int) =>
 vl (wi (r13 - i9)) fun i14 =>
 st (Addr.add ⟨b1, 0, none⟩ 0) [.int .i64 x.2] <|
 st (Addr.add ⟨b1, 0, none⟩ 3) [.int .i64 i12] <|
 st (Addr.add ⟨b1, 0, none⟩ 1) [.int .i64 i14] <|
 M.pure ()) (
 M.pure ())) : M (Unit)) fun (r15 : Unit) =>
 ld [.int .i64, .int .i64, .int .i64, .int .i64] ⟨b1, 0, none⟩ fun (r16 : Int × Int × Int × Int) =>
 st ⟨b2, 0, none⟩ [.int .i64 r16.1, .int .i64 r16.2.1, .int .i64 r16.2.2.1, .int .i64 r16.2.2.2] <|
 ld [.int .i64, .int .i64, .int .i64, .int .i64] ⟨b2, 0, none⟩ fun (r17 : Int × Int × Int × Int) =>
 M.pure ((r17.1, r17.2.1, r17.2.2.1, r17.2.2.2), true))
noncomputable def pl_body_behind : Plan := .kids (.leaf) (.kids (.leaf) (.join [(.normal, [])] (.leaf) (.leaf)))
theorem E_body_behind (N : Nat) (x : Ts A_body_behind) : evF ⟨Tryz.prog, [⟨160, A_body_Part_end, R_body_Part_end, body_Part_end N⟩], [], []⟩ 32 N Tryz.f190.results.toList (Tryz.f190.body.getD .skip) pl_body_behind A_body_behind R_body_behind x = body_behind N x := by kernel_rfl
theorem row_body_behind (N : Nat) : RowOk Tryz.prog ⟨190, A_body_behind, R_body_behind, body_behind N⟩ :=
  row_mk 190 Tryz.f190 A_body_behind R_body_behind (body_behind N) _ _ _ 32 N pl_body_behind (rows_cons (row_body_Part_end N) rows_nil) (eqs_nil) mixed Tryz.func190 (by kernel_rfl) Tryz.ntmps190 (by kernel_rfl) (E_body_behind N) (by kernel_rfl)
/-! treering/body.Write -/
abbrev A_body_Write : List Ty := [.agg [.int .i64, .slice], .c (.int .i64), .c .slice]
abbrev R_body_Write : List Ty := [.agg [.int .i64, .slice], .c (.int .i64)]
noncomputable def body_Write_L0 (N : Nat) (x : (Int × Sl) × Int × Sl) (s9 : Int × Int) : M ((Int × Int) ⊕ (Int)) :=
 vl (decide (s9.2 < (x.2.2.len : Int))) fun t10 =>
 cnd t10 (
 ixA x.2.2.a x.2.2.len s9.2 4 fun a11 =>
 ld [.int .i64, .int .i64, .int .i64, .int .i64] a11 fun (r12 : Int × Int × Int × Int) =>
 M.new (ob [.int .i64 0, .int .i64 0, .int .i64 0, .int .i64 0] 40) fun b13 =>
 st ⟨b13, 0, none⟩ [.int .i64 r12.1, .int .i64 r12.2.1, .int .i64 r12.2.2.1, .int .i64 r12.2.2.2] <|
 ld [.int .i64] (Addr.add ⟨b13, 0, none⟩ 1) fun (r14 : Int) =>
 vl (wi (s9.1 + r14)) fun i15 =>
 vl (wi (s9.2 + (1 : Int))) fun i16 =>
 M.pure (inlS (i15, i16))) (
 M.pure (inrS s9.1))
noncomputable def body_Write_L1 (N : Nat) (x : (Int × Sl) × Int × Sl) (b24 : Nat) (r25 : Sl) (s26 : Int) : M (Int ⊕ (Unit)) :=
 vl (decide (s26 < (r25.len : Int))) fun t27 =>
 cnd t27 (
 M.bind ((
 ixA r25.a r25.len s26 4 fun a28 =>
 ld [.int .i64, .int .i64, .int .i64, .int .i64] a28 fun (r29 : Int × Int × Int × Int) =>
 M.new (ob [.int .i64 0, .int .i64 0, .int .i64 0, .int .i64 0] 40) fun b30 =>
 st ⟨b30, 0, none⟩ [.int .i64 r29.1, .int .i64 r29.2.1, .int .i64 r29.2.2.1, .int .i64 r29.2.2.2] <|
 ld [.int .i64, .int .i64, .int .i64, .int .i64] ⟨b30, 0, none⟩ fun (r31 : Int × Int × Int × Int) =>
 M.bind (body_ahead N ((r31.1, r31.2.1, r31.2.2.1, r31.2.2.2), x.2.1)) fun (r32 : (Int × Int × Int × Int) × Bool) =>
 M.new (ob [.int .i64 0, .int .i64 0, .int .i64 0, .int .i64 0] 40) fun b33 =>
 st ⟨b33, 0, none⟩ [.int .i64 r32.1.1, .int .i64 r32.1.2.1, .int .i64 r32.1.2.2.1, .int .i64 r32.1.2.2.2] <|
 cnd r32.2 (
 ld [.slice] (Addr.add ⟨b24, 0, none⟩ 1) fun (r34 : Sl) =>
 ld [.int .i64, .int .i64, .int .i64, .int .i64] ⟨b33, 0, none⟩ fun (r35 : Int × Int × Int × Int) =>
 M.new (ob [.int .i64 r35.1, .int .i64 r35.2.1, .int .i64 r35.2.2.1, .int .i64 r35.2.2.2] 40) fun b36 =>
 M.bind (appM 40 4 32 [.int .i64 0, .int .i64 0, .int .i64 0, .int .i64 0] r34 (.sl (some ⟨b36, 0, none⟩) 1)) fun s37 =>
 st (Addr.add ⟨b24, 0, none⟩ 1) [.slice s37.a s37.len s37.cap] <|
 M.pure ()) (
 M.pure ())) : M (Unit)) fun (r38 : Unit) =>
 vl (wi (s26 + (1 : Int))) fun i39 =>
 M.pure (inlS i39)) (
 M.pure (inrS ()))
noncomputable def body_Write_L2 (N : Nat) (x : (Int × Sl) × Int × Sl) (b24 : Nat) (s41 : Int × Int) : M ((Int × Int) ⊕ (Int)) :=
 vl (decide (s41.2 < (x.2.2.len : Int))) fun t42 =>
 cnd t42 (
 ixA x.2.2.a x.2.2.len s41.2 4 fun a43 =>
 ld [.int .i64, .int .i64, .int .i64, .int .i64] a43 fun (r44 : Int × Int × Int × Int) =>
 M.new (ob [.int .i64 0, .int .i64 0, .int .i64 0, .int .i64 0] 40) fun b45 =>
 st ⟨b45, 0, none⟩ [.int .i64 r44.1, .int .i64 r44.2.1, .int .i64 r44.2.2.1, .int .i64 r44.2.2.2] <|
 st (Addr.add ⟨b45, 0, none⟩ 0) [.int .i64 s41.1] <|
 ld [.int .i64, .int .i64, .int .i64, .int .i64] ⟨b45, 0, none⟩ fun (r46 : Int × Int × Int × Int) =>
 M.bind (body_Part_end N (r46.1, r46.2.1, r46.2.2.1, r46.2.2.2)) fun (r47 : Int) =>
 ld [.slice] (Addr.add ⟨b24, 0, none⟩ 1) fun (r48 : Sl) =>
 ld [.int .i64, .int .i64, .int .i64, .int .i64] ⟨b45, 0, none⟩ fun (r49 : Int × Int × Int × Int) =>
 M.new (ob [.int .i64 r49.1, .int .i64 r49.2.1, .int .i64 r49.2.2.1, .int .i64 r49.2.2.2] 40) fun b50 =>
 M.bind (appM 40 4 32 [.int .i64 0, .int .i64 0, .int .i64 0, .int .i64 0] r48 (.sl (some ⟨b50, 0, none⟩) 1)) fun s51 =>
 st (Addr.add ⟨b24, 0, none⟩ 1) [.slice s51.a s51.len s51.cap] <|
 vl (wi (s41.2 + (1 : Int))) fun i52 =>
 M.pure (inlS (r47, i52))) (
 M.pure (inrS s41.1))
noncomputable def body_Write_L3 (N : Nat) (b24 : Nat) (r53 : Int) (r54 : Sl) (s55 : Int) : M (Int ⊕ (Unit)) :=
 vl (decide (s55 < (r54.len : Int))) fun t56 =>
 cnd t56 (
 M.bind ((
 ixA r54.a r54.len s55 4 fun a57 =>
 ld [.int .i64, .int .i64, .int .i64, .int .i64] a57 fun (r58 : Int × Int × Int × Int) =>
 M.new (ob [.int .i64 0, .int .i64 0, .int .i64 0, .int .i64 0] 40) fun b59 =>
 st ⟨b59, 0, none⟩ [.int .i64 r58.1, .int .i64 r58.2.1, .int .i64 r58.2.2.1, .int .i64 r58.2.2.2] <|
 ld [.int .i64, .int .i64, .int .i64, .int .i64] ⟨b59, 0, none⟩ fun (r60 : Int × Int × Int × Int) =>
 M.bind (body_behind N ((r60.1, r60.2.1, r60.2.2.1, r60.2.2.2), r53)) fun (r61 : (Int × Int × Int × Int) × Bool) =>
 M.new (ob [.int .i64 0, .int .i64 0, .int .i64 0, .int .i64 0] 40) fun b62 =>
 st ⟨b62, 0, none⟩ [.int .i64 r61.1.1, .int .i64 r61.1.2.1, .int .i64 r61.1.2.2.1, .int .i64 r61.1.2.2.2] <|
 cnd r61.2 (
 ld [.slice] (Addr.add ⟨b24, 0, none⟩ 1) fun (r63 : Sl) =>
 ld [.int .i64, .int .i64, .int .i64, .int .i64] ⟨b62, 0, none⟩ fun (r64 : Int × Int × Int × Int) =>
 M.new (ob [.int .i64 r64.1, .int .i64 r64.2.1, .int .i64 r64.2.2.1, .int .i64 r64.2.2.2] 40) fun b65 =>
 M.bind (appM 40 4 32 [.int .i64 0, .int .i64 0, .int .i64 0, .int .i64 0] r63 (.sl (some ⟨b65, 0, none⟩) 1)) fun s66 =>
 st (Addr.add ⟨b24, 0, none⟩ 1) [.slice s66.a s66.len s66.cap] <|
 M.pure ()) (
 M.pure ())) : M (Unit)) fun (r67 : Unit) =>
 vl (wi (s55 + (1 : Int))) fun i68 =>
 M.pure (inlS i68)) (
 M.pure (inrS ()))
noncomputable def body_Write (N : Nat) (x : (Int × Sl) × Int × Sl) : M ((Int × Sl) × Int) :=
 M.new (ob [.int .i64 x.1.1, .slice x.1.2.a x.1.2.len x.1.2.cap] 47) fun b1 =>
 M.new (ob [.int .i64 0, .slice none 0 0] 47) fun b2 =>
 M.bind ((
 ld [.int .i64, .slice] ⟨b1, 0, none⟩ fun (r3 : Int × Sl) =>
 M.bind (body_May N (r3.1, r3.2)) fun (r4 : Bool) =>
 vl (!r4) fun t5 =>
 cnd t5 (
 M.pure true) (
 M.bind (slices_ContainsFunc_body_Part_body_Part N (x.2.2, ())) fun (r6 : Bool) =>
 M.pure r6)) : M (Bool)) fun (r7 : Bool) =>
 cnd r7 (
 st ⟨b2, 0, none⟩ [.int .i64 0, .slice none 0 0] <|
 ld [.int .i64, .slice] ⟨b2, 0, none⟩ fun (r8 : Int × Sl) =>
 M.pure ((r8.1, r8.2), 1)) (
 M.bind (M.loop N (body_Write_L0 N x) (0, 0)) fun (r17 : Int) =>
 M.bind ((
 vl (decide (x.2.1 < (0 : Int))) fun t18 =>
 cnd t18 (
 M.pure true) (
 vl (wi ((1099511627776 : Int) - r17)) fun i19 =>
 vl (decide (x.2.1 > i19)) fun t20 =>
 M.pure t20)) : M (Bool)) fun (r21 : Bool) =>
 cnd r21 (
 st ⟨b2, 0, none⟩ [.int .i64 0, .slice none 0 0] <|
 ld [.int .i64, .slice] ⟨b2, 0, none⟩ fun (r22 : Int × Sl) =>
 M.pure ((r22.1, r22.2), 9)) (
 ld [.int .i64] (Addr.add ⟨b1, 0, none⟩ 0) fun (r23 : Int) =>
 M.new (ob [.int .i64 0, .slice none 0 0] 47) fun b24 =>
 st ⟨b24, 0, none⟩ [.int .i64 r23, .slice none 0 0] <|
 ld [.slice] (Addr.add ⟨b1, 0, none⟩ 1) fun (r25 : Sl) =>
 M.bind (M.loop N (body_Write_L1 N x b24 r25) 0) fun (r40 : Unit) =>
 M.bind (M.loop N (body_Write_L2 N x b24) (x.2.1, 0)) fun (r53 : Int) =>
 ld [.slice] (Addr.add ⟨b1, 0, none⟩ 1) fun (r54 : Sl) =>
 M.bind (M.loop N (body_Write_L3 N b24 r53 r54) 0) fun (r69 : Unit) =>
 vl ((x.2.2.len : Int) == (0 : Int)) fun t70 =>
 cnd t70 (
 ld [.slice] (Addr.add ⟨b1, 0, none⟩ 1) fun (r71 : Sl) =>
 M.bind (slices_Clone_body_Part_body_Part N r71) fun (r72 : Sl) =>
 st (Addr.add ⟨b24, 0, none⟩ 1) [.slice r72.a r72.len r72.cap] <|
 ld [.int .i64, .slice] ⟨b24, 0, none⟩ fun (r73 : Int × Sl) =>
 st ⟨b2, 0, none⟩ [.int .i64 r73.1, .slice r73.2.a r73.2.len r73.2.cap] <|
 ld [.int .i64, .slice] ⟨b2, 0, none⟩ fun (r74 : Int × Sl) =>
 M.pure ((r74.1, r74.2), 0)) (
 ld [.int .i64] (Addr.add ⟨b24, 0, none⟩ 0) fun (r75 : Int) =>
 vl (if (r53 : Int) > (r75 : Int) then (r53 : Int) else (r75 : Int)) fun i76 =>
 st (Addr.add ⟨b24, 0, none⟩ 0) [.int .i64 i76] <|
 ld [.int .i64, .slice] ⟨b24, 0, none⟩ fun (r77 : Int × Sl) =>
 st ⟨b2, 0, none⟩ [.int .i64 r77.1, .slice r77.2.a r77.2.len r77.2.cap] <|
 ld [.int .i64, .slice] ⟨b2, 0, none⟩ fun (r78 : Int × Sl) =>
 M.pure ((r78.1, r78.2), 0))))
noncomputable def pl_body_Write : Plan := .kids (.leaf) (.kids (.join [(.normal, [(29, .c .bool)])] (.leaf) (.leaf)) (.kids (.leaf) (.kids (.kids (.leaf) (.kids (.loop [(8, .c (.int .i64)), (33, .c (.int .i64))] [(.exit 0, [(8, .c (.int .i64))])] (.leaf)) .leaf)) (.kids (.join [(.normal, [(49, .c .bool)])] (.leaf) (.leaf)) (.kids (.leaf) (.kids (.kids (.leaf) (.kids (.loop [(57, .c (.int .i64))] [(.exit 2, [])] (.kids (.leaf) (.kids (.leaf) (.join [(.normal, [])] (.leaf) (.leaf))))) .leaf)) (.kids (.leaf) (.kids (.kids (.leaf) (.kids (.loop [(16, .c (.int .i64)), (78, .c (.int .i64))] [(.exit 4, [(16, .c (.int .i64))])] (.leaf)) .leaf)) (.kids (.kids (.leaf) (.kids (.loop [(96, .c (.int .i64))] [(.exit 6, [])] (.kids (.leaf) (.kids (.leaf) (.join [(.normal, [])] (.leaf) (.leaf))))) .leaf)) (.leaf))))))))))
theorem E_body_Write (N : Nat) (x : Ts A_body_Write) : evF ⟨Tryz.prog, [⟨96, A_body_May, R_body_May, body_May N⟩, ⟨188, A_slices_ContainsFunc_body_Part_body_Part, R_slices_ContainsFunc_body_Part_body_Part, slices_ContainsFunc_body_Part_body_Part N⟩, ⟨138, A_body_ahead, R_body_ahead, body_ahead N⟩, ⟨160, A_body_Part_end, R_body_Part_end, body_Part_end N⟩, ⟨190, A_body_behind, R_body_behind, body_behind N⟩, ⟨81, A_slices_Clone_body_Part_body_Part, R_slices_Clone_body_Part_body_Part, slices_Clone_body_Part_body_Part N⟩], [], []⟩ 128 N Tryz.f137.results.toList (Tryz.f137.body.getD .skip) pl_body_Write A_body_Write R_body_Write x = body_Write N x := by kernel_rfl
theorem row_body_Write (N : Nat) : RowOk Tryz.prog ⟨137, A_body_Write, R_body_Write, body_Write N⟩ :=
  row_mk 137 Tryz.f137 A_body_Write R_body_Write (body_Write N) _ _ _ 128 N pl_body_Write (rows_cons (row_body_May N) (rows_cons (row_slices_ContainsFunc_body_Part_body_Part N) (rows_cons (row_body_ahead N) (rows_cons (row_body_Part_end N) (rows_cons (row_body_behind N) (rows_cons (row_slices_Clone_body_Part_body_Part N) rows_nil)))))) (eqs_nil) mixed Tryz.func137 (by kernel_rfl) Tryz.ntmps137 (by kernel_rfl) (E_body_Write N) (by kernel_rfl)
/-! (*treering/fold.State).put -/
abbrev A_fold_State_put : List Ty := [.c .ptr, .agg [.int .i64, .str, .str, .int .i64, .int .i64, .slice], .c .slice]
abbrev R_fold_State_put : List Ty := [.c (.int .i64)]
noncomputable def fold_State_put (N : Nat) (x : (Option Addr) × (Int × ByteArray × ByteArray × Int × Int × Sl) × Sl) : M (Int) :=
 M.new (ob [.int .i64 x.2.1.1, .string x.2.1.2.1, .string x.2.1.2.2.1, .int .i64 x.2.1.2.2.2.1, .int .i64 x.2.1.2.2.2.2.1, .slice x.2.1.2.2.2.2.2.a x.2.1.2.2.2.2.2.len x.2.1.2.2.2.2.2.cap] 31) fun b1 =>
 M.bind ((
 ld [.slice] (Addr.add ⟨b1, 0, none⟩ 5) fun (r2 : Sl) =>
 vl (decide ((r2.len : Int) > (0 : Int))) fun t3 =>
 cnd t3 (
 ld [.slice] (Addr.add ⟨b1, 0, none⟩ 5) fun (r4 : Sl) =>
 M.bind (fold_long N x.2.2) fun (r5 : Int) =>
 M.again (ldR [.slice] (Addr.add ⟨b1, 0, none⟩ 5)) r4 <|
 vl (r5 != (r4.len : Int)) fun t6 =>
 M.pure t6) (
 M.pure false)) : M (Bool)) fun (r7 : Bool) =>
 cnd r7 (
 M.pure 1) (
 ld [.str] (Addr.add ⟨b1, 0, none⟩ 1) fun (r8 : ByteArray) =>
 M.bind (fold_State_file N (x.1, r8)) fun (r9 : Int × Int) =>
 nz x.1 fun a10 =>
 ld [.map] (Addr.add a10 1) fun (r11 : Option Nat) =>
 M.rd (lookR (.int .i64) (.int .i64 r9.1) r11 (.agg [.int .i64, .slice]) (0, ⟨none, 0, 0⟩)) fun (r12 : (Int × Sl) × Bool) =>
 ld [.int .i64] (Addr.add ⟨b1, 0, none⟩ 3) fun (r13 : Int) =>
 M.bind (body_Write N ((r12.1.1, r12.1.2), r13, x.2.2)) fun (r14 : (Int × Sl) × Int) =>
 M.new (ob [.int .i64 0, .slice none 0 0] 47) fun b15 =>
 st ⟨b15, 0, none⟩ [.int .i64 r14.1.1, .slice r14.1.2.a r14.1.2.len r14.1.2.cap] <|
 M.bind ((
 vl (r14.2 == (0 : Int)) fun t16 =>
 cnd t16 (
 nz x.1 fun a17 =>
 ld [.map] (Addr.add a17 1) fun (r18 : Option Nat) =>
 ld [.int .i64, .slice] ⟨b15, 0, none⟩ fun (r19 : Int × Sl) =>
 M.bind (mapPutM (.int .i64) (.int .i64 r9.1) (.agg #[.int .i64 r19.1, .slice r19.2.a r19.2.len r19.2.cap]) r18) fun _ =>
 M.pure ()) (
 M.pure ())) : M (Unit)) fun (r20 : Unit) =>
 M.pure r14.2)
noncomputable def pl_fold_State_put : Plan := .kids (.leaf) (.kids (.join [(.normal, [(22, .c .bool)])] (.ord [0, 1, 2, 3, 4, 5, 7, 8, 9, 6, 10, 11]) (.leaf)) (.kids (.leaf) (.kids (.ord [0, 1, 2, 3, 4, 5, 6, 7, 8, 9, 10, 11, 12, 13, 14, 15]) (.join [(.normal, [])] (.kids (.leaf) (.kids (.ord [0, 1, 2, 3, 4, 5, 6]) (.leaf))) (.leaf)))))
theorem E_fold_State_put (N : Nat) (x : Ts A_fold_State_put) : evF ⟨Tryz.prog, [⟨136, A_fold_long, R_fold_long, fold_long N⟩, ⟨71, A_fold_State_file, R_fold_State_file, fold_State_file N⟩, ⟨137, A_body_Write, R_body_Write, body_Write N⟩], [], []⟩ 52 N Tryz.f70.results.toList (Tryz.f70.body.getD .skip) pl_fold_State_put A_fold_State_put R_fold_State_put x = fold_State_put N x := by kernel_rfl
theorem row_fold_State_put (N : Nat) : RowOk Tryz.prog ⟨70, A_fold_State_put, R_fold_State_put, fold_State_put N⟩ :=
  row_mk 70 Tryz.f70 A_fold_State_put R_fold_State_put (fold_State_put N) _ _ _ 52 N pl_fold_State_put (rows_cons (row_fold_long N) (rows_cons (row_fold_State_file N) (rows_cons (row_body_Write N) rows_nil))) (eqs_nil) mixed Tryz.func70 (by kernel_rfl) Tryz.ntmps70 (by kernel_rfl) (E_fold_State_put N) (by kernel_rfl)
/-! treering/body.Trunc -/
abbrev A_body_Trunc : List Ty := [.agg [.int .i64, .slice], .c (.int .i64)]
abbrev R_body_Trunc : List Ty := [.agg [.int .i64, .slice], .c (.int .i64)]
noncomputable def body_Trunc_L0 (N : Nat) (x : (Int × Sl) × Int) (b11 : Nat) (r12 : Sl) (s13 : Int) : M (Int ⊕ (Unit)) :=
 vl (decide (s13 < (r12.len : Int))) fun t14 =>
 cnd t14 (
 M.bind ((
 ixA r12.a r12.len s13 4 fun a15 =>
 ld [.int .i64, .int .i64, .int .i64, .int .i64] a15 fun (r16 : Int × Int × Int × Int) =>
 M.new (ob [.int .i64 0, .int .i64 0, .int .i64 0, .int .i64 0] 40) fun b17 =>
 st ⟨b17, 0, none⟩ [.int .i64 r16.1, .int .i64 r16.2.1, .int .i64 r16.2.2.1, .int .i64 r16.2.2.2] <|
 ld [.int .i64, .int .i64, .int .i64, .int .i64] ⟨b17, 0, none⟩ fun (r18 : Int × Int × Int × Int) =>
 M.bind (body_ahead N ((r18.1, r18.2.1, r18.2.2.1, r18.2.2.2), x.2)) fun (r19 : (Int × Int × Int × Int) × Bool) =>
 M.new (ob [.int .i64 0, .int .i64 0, .int .i64 0, .int .i64 0] 40) fun b20 =>
 st ⟨b20, 0, none⟩ [.int .i64 r19.1.1, .int .i64 r19.1.2.1, .int .i64 r19.1.2.2.1, .int .i64 r19.1.2.2.2] <|
 cnd r19.2 (
 ld [.slice] (Addr.add ⟨b11, 0, none⟩ 1) fun (r21 : Sl) =>
 ld [.int .i64, .int .i64, .int .i64, .int .i64] ⟨b20, 0, none⟩ fun (r22 : Int × Int × Int × Int) =>
 M.new (ob [.int .i64 r22.1, .int .i64 r22.2.1, .int .i64 r22.2.2.1, .int .i64 r22.2.2.2] 40) fun b23 =>
 M.bind (appM 40 4 32 [.int .i64 0, .int .i64 0, .int .i64 0, .int .i64 0] r21 (.sl (some ⟨b23, 0, none⟩) 1)) fun s24 =>
 st (Addr.add ⟨b11, 0, none⟩ 1) [.slice s24.a s24.len s24.cap] <|
 M.pure ()) (
 M.pure ())) : M (Unit)) fun (r25 : Unit) =>
 vl (wi (s13 + (1 : Int))) fun i26 =>
 M.pure (inlS i26)) (
 M.pure (inrS ()))
noncomputable def body_Trunc (N : Nat) (x : (Int × Sl) × Int) : M ((Int × Sl) × Int) :=
 M.new (ob [.int .i64 x.1.1, .slice x.1.2.a x.1.2.len x.1.2.cap] 47) fun b1 =>
 M.new (ob [.int .i64 0, .slice none 0 0] 47) fun b2 =>
 ld [.int .i64, .slice] ⟨b1, 0, none⟩ fun (r3 : Int × Sl) =>
 M.bind (body_May N (r3.1, r3.2)) fun (r4 : Bool) =>
 vl (!r4) fun t5 =>
 cnd t5 (
 st ⟨b2, 0, none⟩ [.int .i64 0, .slice none 0 0] <|
 ld [.int .i64, .slice] ⟨b2, 0, none⟩ fun (r6 : Int × Sl) =>
 M.pure ((r6.1, r6.2), 1)) (
 M.bind ((
 vl (decide (x.2 < (0 : Int))) fun t7 =>
 cnd t7 (
 M.pure true) (
 vl (decide (x.2 > (1099511627776 : Int))) fun t8 =>
 M.pure t8)) : M (Bool)) fun (r9 : Bool) =>
 cnd r9 (
 st ⟨b2, 0, none⟩ [.int .i64 0, .slice none 0 0] <|
 ld [.int .i64, .slice] ⟨b2, 0, none⟩ fun (r10 : Int × Sl) =>
 M.pure ((r10.1, r10.2), 9)) (
 M.new (ob [.int .i64 0, .slice none 0 0] 47) fun b11 =>
 st ⟨b11, 0, none⟩ [.int .i64 x.2, .slice none 0 0] <|
 ld [.slice] (Addr.add ⟨b1, 0, none⟩ 1) fun (r12 : Sl) =>
 M.bind (M.loop N (body_Trunc_L0 N x b11 r12) 0) fun (r27 : Unit) =>
 ld [.int .i64, .slice] ⟨b11, 0, none⟩ fun (r28 : Int × Sl) =>
 st ⟨b2, 0, none⟩ [.int .i64 r28.1, .slice r28.2.a r28.2.len r28.2.cap] <|
 ld [.int .i64, .slice] ⟨b2, 0, none⟩ fun (r29 : Int × Sl) =>
 M.pure ((r29.1, r29.2), 0)))
noncomputable def pl_body_Trunc : Plan := .kids (.leaf) (.kids (.kids (.kids (.leaf) (.kids (.leaf) (.join [(.normal, [(16, .c .bool)])] (.leaf) (.leaf)))) .leaf) (.kids (.leaf) (.kids (.kids (.leaf) (.kids (.loop [(29, .c (.int .i64))] [(.exit 1, [])] (.kids (.leaf) (.kids (.leaf) (.join [(.normal, [])] (.leaf) (.leaf))))) .leaf)) (.leaf))))
theorem E_body_Trunc (N : Nat) (x : Ts A_body_Trunc) : evF ⟨Tryz.prog, [⟨96, A_body_May, R_body_May, body_May N⟩, ⟨138, A_body_ahead, R_body_ahead, body_ahead N⟩], [], []⟩ 48 N Tryz.f72.results.toList (Tryz.f72.body.getD .skip) pl_body_Trunc A_body_Trunc R_body_Trunc x = body_Trunc N x := by kernel_rfl
theorem row_body_Trunc (N : Nat) : RowOk Tryz.prog ⟨72, A_body_Trunc, R_body_Trunc, body_Trunc N⟩ :=
  row_mk 72 Tryz.f72 A_body_Trunc R_body_Trunc (body_Trunc N) _ _ _ 48 N pl_body_Trunc (rows_cons (row_body_May N) (rows_cons (row_body_ahead N) rows_nil)) (eqs_nil) mixed Tryz.func72 (by kernel_rfl) Tryz.ntmps72 (by kernel_rfl) (E_body_Trunc N) (by kernel_rfl)
/-! (*treering/tree.Tree).Rename -/
abbrev A_tree_Tree_Rename : List Ty := [.c .ptr, .c .str, .c .str]
abbrev R_tree_Tree_Rename : List Ty := [.c (.int .i64), .c (.int .i64)]
noncomputable def tree_Tree_Rename_L0 (N : Nat) (x : (Option Addr) × ByteArray × ByteArray) (s15 : Sl) (s16 : Int) : M (Int ⊕ (Unit)) :=
 vl (decide (s16 < (s15.len : Int))) fun t17 =>
 cnd t17 (
 ixA s15.a s15.len s16 3 fun a18 =>
 ld [.str, .int .i64, .bool] a18 fun (r19 : ByteArray × Int × Bool) =>
 M.new (ob [.string (⟨#[]⟩ : ByteArray), .int .i64 0, .bool false] 51) fun b20 =>
 st ⟨b20, 0, none⟩ [.string r19.1, .int .i64 r19.2.1, .bool r19.2.2] <|
 nz x.1 fun a21 =>
 ld [.map] (Addr.add a21 0) fun (r22 : Option Nat) =>
 ld [.str] (Addr.add ⟨b20, 0, none⟩ 0) fun (r23 : ByteArray) =>
 M.bind (mapDelM .string (.string r23) r22) fun _ =>
 ld [.str] (Addr.add ⟨b20, 0, none⟩ 0) fun (r24 : ByteArray) =>
 subSt r24 (x.2.1.size : Int) (ByteArray.size r24 : Int) fun s25 =>
 catM x.2.2 s25 fun s26 =>
 st (Addr.add ⟨b20, 0, none⟩ 0) [.string s26] <|
 nz x.1 fun a27 =>
 ld [.map] (Addr.add a27 0) fun (r28 : Option Nat) =>
 ld [.str] (Addr.add ⟨b20, 0, none⟩ 0) fun (r29 : ByteArray) =>
 ld [.str, .int .i64, .bool] ⟨b20, 0, none⟩ fun (r30 : ByteArray × Int × Bool) =>
 M.bind (mapPutM .string (.string r29) (.agg #[.string r30.1, .int .i64 r30.2.1, .bool r30.2.2]) r28) fun _ =>
 vl (wi (s16 + (1 : Int))) fun i31 =>
 M.pure (inlS i31)) (
 M.pure (inrS ()))
noncomputable def tree_Tree_Rename (N : Nat) (x : (Option Addr) × ByteArray × ByteArray) : M (Int × Int) :=
 M.bind (tree_Tree_CanRename N (x.1, x.2.1, x.2.2)) fun (r1 : Int) =>
 vl (r1 != (0 : Int)) fun t2 =>
 cnd t2 (
 M.pure (0, r1)) (
 vl (scmp .eql x.2.1 x.2.2) fun t3 =>
 cnd t3 (
 M.pure (-1, 0)) (
 M.bind ((
 nz x.1 fun a4 =>
 ld [.map] (Addr.add a4 0) fun (r5 : Option Nat) =>
 M.rd (lookR .string (.string x.2.2) r5 (.agg [.str, .int .i64, .bool]) ((⟨#[]⟩ : ByteArray), 0, false)) fun (r6 : (ByteArray × Int × Bool) × Bool) =>
 M.new (ob [.string (⟨#[]⟩ : ByteArray), .int .i64 0, .bool false] 51) fun b7 =>
 st ⟨b7, 0, none⟩ [.string r6.1.1, .int .i64 r6.1.2.1, .bool r6.1.2.2] <|
 cnd r6.2 (
 ld [.int .i64] (Addr.add ⟨b7, 0, none⟩ 1) fun (r8 : Int) =>
 M.pure r8) (
 M.pure (-1))) : M (Int)) fun (r9 : Int) =>
 nz x.1 fun a10 =>
 ld [.map] (Addr.add a10 0) fun (r11 : Option Nat) =>
 M.rd (lookR .string (.string x.2.1) r11 (.agg [.str, .int .i64, .bool]) ((⟨#[]⟩ : ByteArray), 0, false)) fun (r12 : (ByteArray × Int × Bool) × Bool) =>
 M.bind (tree_Tree_under N (x.1, x.2.1)) fun (r13 : Sl) =>
 M.again (lookR .string (.string x.2.1) r11 (.agg [.str, .int .i64, .bool]) ((⟨#[]⟩ : ByteArray), 0, false)) r12 <|
 M.again (ldR [.map] (Addr.add a10 0)) r11 <|
 M.new (ob [.string r12.1.1, .int .i64 r12.1.2.1, .bool r12.1.2.2] 51) fun b14 =>
 M.bind (appM 51 3 32 [.string (⟨#[]⟩ : ByteArray), .int .i64 0, .bool false] r13 (.sl (some ⟨b14, 0, none⟩) 1)) fun s15 =>
 M.bind (M.loop N (tree_Tree_Rename_L0 N x s15) 0) fun (r32 : Unit) =>
 M.pure (r9, 0)))
noncomputable def pl_tree_Tree_Rename : Plan := .kids (.leaf) (.kids (.leaf) (.kids (.leaf) (.kids (.leaf) (.join [(.normal, [(9, .c (.int .i64))])] (.leaf) (.kids (.kids (.ord [0, 1, 3, 4, 5, 6, 7, 8, 12, 2, 9, 10, 11]) (.kids (.loop [(48, .c (.int .i64))] [(.exit 0, [])] (.kids (.leaf) (.kids (.leaf) (.kids (.kids (.kids (.leaf) (.kids (.ord [0, 1, 2, 3, 4, 5, 6]) (.kids (.leaf) (.ord [0, 1, 2, 3, 4, 5, 6, 7])))) .leaf) (.leaf))))) .leaf)) (.leaf))))))
theorem E_tree_Tree_Rename (N : Nat) (x : Ts A_tree_Tree_Rename) : evF ⟨Tryz.prog, [⟨85, A_tree_Tree_CanRename, R_tree_Tree_CanRename, tree_Tree_CanRename N⟩, ⟨139, A_tree_Tree_under, R_tree_Tree_under, tree_Tree_under N⟩], [], []⟩ 75 N Tryz.f73.results.toList (Tryz.f73.body.getD .skip) pl_tree_Tree_Rename A_tree_Tree_Rename R_tree_Tree_Rename x = tree_Tree_Rename N x := by kernel_rfl
theorem row_tree_Tree_Rename (N : Nat) : RowOk Tryz.prog ⟨73, A_tree_Tree_Rename, R_tree_Tree_Rename, tree_Tree_Rename N⟩ :=
  row_mk 73 Tryz.f73 A_tree_Tree_Rename R_tree_Tree_Rename (tree_Tree_Rename N) _ _ _ 75 N pl_tree_Tree_Rename (rows_cons (row_tree_Tree_CanRename N) (rows_cons (row_tree_Tree_under N) rows_nil)) (eqs_nil) mixed Tryz.func73 (by kernel_rfl) Tryz.ntmps73 (by kernel_rfl) (E_tree_Tree_Rename N) (by kernel_rfl)
/-! (*treering/tree.Tree).Drop -/
abbrev A_tree_Tree_Drop : List Ty := [.c .ptr, .c .str, .c .bool]
abbrev R_tree_Tree_Drop : List Ty := [.c (.int .i64), .c (.int .i64)]
noncomputable def tree_Tree_Drop (N : Nat) (x : (Option Addr) × ByteArray × Bool) : M (Int × Int) :=
 M.bind (tree_Tree_CanDrop N (x.1, x.2.1, x.2.2)) fun (r1 : Int) =>
 vl (r1 != (0 : Int)) fun t2 =>
 cnd t2 (
 M.pure (0, r1)) (
 nz x.1 fun a3 =>
 ld [.map] (Addr.add a3 0) fun (r4 : Option Nat) =>
 M.rd (lookR .string (.string x.2.1) r4 (.agg [.str, .int .i64, .bool]) ((⟨#[]⟩ : ByteArray), 0, false)) fun (r5 : (ByteArray × Int × Bool) × Bool) =>
 nz x.1 fun a6 =>
 ld [.map] (Addr.add a6 0) fun (r7 : Option Nat) =>
 M.bind (mapDelM .string (.string x.2.1) r7) fun _ =>
 M.pure (r5.1.2.1, 0))
noncomputable def pl_tree_Tree_Drop : Plan := .leaf
theorem E_tree_Tree_Drop (N : Nat) (x : Ts A_tree_Tree_Drop) : evF ⟨Tryz.prog, [⟨86, A_tree_Tree_CanDrop, R_tree_Tree_CanDrop, tree_Tree_CanDrop N⟩], [], []⟩ 30 N Tryz.f74.results.toList (Tryz.f74.body.getD .skip) pl_tree_Tree_Drop A_tree_Tree_Drop R_tree_Tree_Drop x = tree_Tree_Drop N x := by kernel_rfl
theorem row_tree_Tree_Drop (N : Nat) : RowOk Tryz.prog ⟨74, A_tree_Tree_Drop, R_tree_Tree_Drop, tree_Tree_Drop N⟩ :=
  row_mk 74 Tryz.f74 A_tree_Tree_Drop R_tree_Tree_Drop (tree_Tree_Drop N) _ _ _ 30 N pl_tree_Tree_Drop (rows_cons (row_tree_Tree_CanDrop N) rows_nil) (eqs_nil) mixed Tryz.func74 (by kernel_rfl) Tryz.ntmps74 (by kernel_rfl) (E_tree_Tree_Drop N) (by kernel_rfl)
/-! (*treering/fold.State).Apply -/
abbrev A_fold_State_Apply : List Ty := [.c .ptr, .agg [.int .i64, .str, .str, .int .i64, .int .i64, .slice], .c .slice]
abbrev R_fold_State_Apply : List Ty := [.c (.int .i64)]
noncomputable def fold_State_Apply (N : Nat) (x : (Option Addr) × (Int × ByteArray × ByteArray × Int × Int × Sl) × Sl) : M (Int) :=
 M.new (ob [.int .i64 x.2.1.1, .string x.2.1.2.1, .string x.2.1.2.2.1, .int .i64 x.2.1.2.2.2.1, .int .i64 x.2.1.2.2.2.2.1, .slice x.2.1.2.2.2.2.2.a x.2.1.2.2.2.2.2.len x.2.1.2.2.2.2.2.cap] 31) fun b1 =>
 ld [.int .i64, .str, .str, .int .i64, .int .i64, .slice] ⟨b1, 0, none⟩ fun (r2 : Int × ByteArray × ByteArray × Int × Int × Sl) =>
 M.bind (fold_State_Check N (x.1, (r2.1, r2.2.1, r2.2.2.1, r2.2.2.2.1, r2.2.2.2.2.1, r2.2.2.2.2.2))) fun (r3 : Int) =>
 vl (r3 != (0 : Int)) fun t4 =>
 cnd t4 (
 M.pure r3) (
 M.bind ((
 ld [.int .i64] (Addr.add ⟨b1, 0, none⟩ 0) fun (r5 : Int) =>
 M.bind ((
 vl (r5 == (1 : Int)) fun t6 =>
 cnd t6 (
 M.pure t6) (
 vl (r5 == (2 : Int)) fun t7 =>
 M.pure t7)) : M (Bool)) fun (r8 : Bool) =>
 cnd r8 (
 nz x.1 fun a9 =>
 ld [.ptr] (Addr.add a9 0) fun (r10 : Option Addr) =>
 ld [.str] (Addr.add ⟨b1, 0, none⟩ 1) fun (r11 : ByteArray) =>
 ld [.int .i64] (Addr.add ⟨b1, 0, none⟩ 0) fun (r12 : Int) =>
 vl (r12 == (2 : Int)) fun t13 =>
 M.bind (tree_Tree_Make N (r10, r11, t13)) fun (r14 : Int × Int) =>
 ld [.int .i64] (Addr.add ⟨b1, 0, none⟩ 0) fun (r15 : Int) =>
 vl (r15 == (1 : Int)) fun t16 =>
 cnd t16 (
 nz x.1 fun a17 =>
 ld [.map] (Addr.add a17 1) fun (r18 : Option Nat) =>
 M.bind (mapPutM (.int .i64) (.int .i64 r14.1) (.agg #[.int .i64 0, .slice none 0 0]) r18) fun _ =>
 M.pure (.inl ())) (
 M.pure (.inl ()))) (
 vl (r5 == (3 : Int)) fun t19 =>
 cnd t19 (
 ld [.int .i64, .str, .str, .int .i64, .int .i64, .slice] ⟨b1, 0, none⟩ fun (r20 : Int × ByteArray × ByteArray × Int × Int × Sl) =>
 M.bind (fold_State_put N (x.1, (r20.1, r20.2.1, r20.2.2.1, r20.2.2.2.1, r20.2.2.2.2.1, r20.2.2.2.2.2), x.2.2)) fun (r21 : Int) =>
 M.pure (.inr r21)) (
 vl (r5 == (4 : Int)) fun t22 =>
 cnd t22 (
 ld [.str] (Addr.add ⟨b1, 0, none⟩ 1) fun (r23 : ByteArray) =>
 M.bind (fold_State_file N (x.1, r23)) fun (r24 : Int × Int) =>
 nz x.1 fun a25 =>
 ld [.map] (Addr.add a25 1) fun (r26 : Option Nat) =>
 nz x.1 fun a27 =>
 ld [.map] (Addr.add a27 1) fun (r28 : Option Nat) =>
 M.rd (lookR (.int .i64) (.int .i64 r24.1) r28 (.agg [.int .i64, .slice]) (0, ⟨none, 0, 0⟩)) fun (r29 : (Int × Sl) × Bool) =>
 ld [.int .i64] (Addr.add ⟨b1, 0, none⟩ 4) fun (r30 : Int) =>
 M.bind (body_Trunc N ((r29.1.1, r29.1.2), r30)) fun (r31 : (Int × Sl) × Int) =>
 M.again (ldR [.map] (Addr.add a25 1)) r26 <|
 M.bind (mapPutM (.int .i64) (.int .i64 r24.1) (.agg #[.int .i64 r31.1.1, .slice r31.1.2.a r31.1.2.len r31.1.2.cap]) r26) fun _ =>
 M.pure (.inl ())) (
 vl (r5 == (5 : Int)) fun t32 =>
 cnd t32 (
 nz x.1 fun a33 =>
 ld [.ptr] (Addr.add a33 0) fun (r34 : Option Addr) =>
 ld [.str] (Addr.add ⟨b1, 0, none⟩ 1) fun (r35 : ByteArray) =>
 ld [.str] (Addr.add ⟨b1, 0, none⟩ 2) fun (r36 : ByteArray) =>
 M.bind (tree_Tree_Rename N (r34, r35, r36)) fun (r37 : Int × Int) =>
 nz x.1 fun a38 =>
 ld [.map] (Addr.add a38 1) fun (r39 : Option Nat) =>
 M.bind (mapDelM (.int .i64) (.int .i64 r37.1) r39) fun _ =>
 M.pure (.inl ())) (
 M.bind ((
 vl (r5 == (6 : Int)) fun t40 =>
 cnd t40 (
 M.pure t40) (
 vl (r5 == (7 : Int)) fun t41 =>
 M.pure t41)) : M (Bool)) fun (r42 : Bool) =>
 cnd r42 (
 nz x.1 fun a43 =>
 ld [.ptr] (Addr.add a43 0) fun (r44 : Option Addr) =>
 ld [.str] (Addr.add ⟨b1, 0, none⟩ 1) fun (r45 : ByteArray) =>
 ld [.int .i64] (Addr.add ⟨b1, 0, none⟩ 0) fun (r46 : Int) =>
 vl (r46 == (7 : Int)) fun t47 =>
 M.bind (tree_Tree_Drop N (r44, r45, t47)) fun (r48 : Int × Int) =>
 nz x.1 fun a49 =>
 ld [.map] (Addr.add a49 1) fun (r50 : Option Nat) =>
 M.bind (mapDelM (.int .i64) (.int .i64 r48.1) r50) fun _ =>
 M.pure (.inl ())) (
 M.pure (.inl ()))))))) : M (Unit ⊕ Int)) fun (r51 : Unit ⊕ Int) =>
 sumM r51 (fun (q52 : Unit) =>
 M.pure 0) fun (r53 : Int) =>
 M.pure r53)
noncomputable def pl_fold_State_Apply : Plan := .kids (.leaf) (.kids (.leaf) (.join [(.normal, []), (.ret, [(6, .c (.int .i64))])] (.kids (.leaf) (.kids (.join [(.normal, [(24, .c .bool)])] (.leaf) (.kids (.kids (.ord [0, 1, 2, 3, 4, 5, 6, 7, 8, 9, 10, 11, 12, 13, 14]) (.leaf)) (.kids (.leaf) (.kids (.leaf) (.kids (.leaf) (.kids (.kids (.leaf) (.ord [0, 1, 2, 3, 4, 5, 6, 7, 8, 9, 10, 11, 12, 13, 14, 15, 16, 17])) (.kids (.leaf) (.kids (.kids (.ord [0, 1, 2, 3, 4, 5, 6, 7, 8, 9, 10, 11, 12, 13]) (.leaf)) (.join [(.normal, [(100, .c .bool)])] (.leaf) (.kids (.kids (.ord [0, 1, 2, 3, 4, 5, 6, 7, 8, 9, 10, 11, 12, 13, 14]) (.leaf)) (.leaf))))))))))) .leaf)) (.leaf)))
theorem E_fold_State_Apply (N : Nat) (x : Ts A_fold_State_Apply) : evF ⟨Tryz.prog, [⟨28, A_fold_State_Check, R_fold_State_Check, fold_State_Check N⟩, ⟨69, A_tree_Tree_Make, R_tree_Tree_Make, tree_Tree_Make N⟩, ⟨70, A_fold_State_put, R_fold_State_put, fold_State_put N⟩, ⟨71, A_fold_State_file, R_fold_State_file, fold_State_file N⟩, ⟨72, A_body_Trunc, R_body_Trunc, body_Trunc N⟩, ⟨73, A_tree_Tree_Rename, R_tree_Tree_Rename, tree_Tree_Rename N⟩, ⟨74, A_tree_Tree_Drop, R_tree_Tree_Drop, tree_Tree_Drop N⟩], [], []⟩ 121 N Tryz.f19.results.toList (Tryz.f19.body.getD .skip) pl_fold_State_Apply A_fold_State_Apply R_fold_State_Apply x = fold_State_Apply N x := by kernel_rfl
theorem row_fold_State_Apply (N : Nat) : RowOk Tryz.prog ⟨19, A_fold_State_Apply, R_fold_State_Apply, fold_State_Apply N⟩ :=
  row_mk 19 Tryz.f19 A_fold_State_Apply R_fold_State_Apply (fold_State_Apply N) _ _ _ 121 N pl_fold_State_Apply (rows_cons (row_fold_State_Check N) (rows_cons (row_tree_Tree_Make N) (rows_cons (row_fold_State_put N) (rows_cons (row_fold_State_file N) (rows_cons (row_body_Trunc N) (rows_cons (row_tree_Tree_Rename N) (rows_cons (row_tree_Tree_Drop N) rows_nil))))))) (eqs_nil) mixed Tryz.func19 (by kernel_rfl) Tryz.ntmps19 (by kernel_rfl) (E_fold_State_Apply N) (by kernel_rfl)
/-! (*treering/fold.State).Stat -/
abbrev A_fold_State_Stat : List Ty := [.c .ptr, .c .str]
abbrev R_fold_State_Stat : List Ty := [.agg [.int .i64, .bool, .int .i64], .c (.int .i64)]
noncomputable def fold_State_Stat (N : Nat) (x : (Option Addr) × ByteArray) : M ((Int × Bool × Int) × Int) :=
 M.new (ob [.int .i64 0, .bool false, .int .i64 0] 137) fun b1 =>
 vl (Option.isNone x.1) fun t2 =>
 cnd t2 (
 st ⟨b1, 0, none⟩ [.int .i64 0, .bool false, .int .i64 0] <|
 ld [.int .i64, .bool, .int .i64] ⟨b1, 0, none⟩ fun (r3 : Int × Bool × Int) =>
 M.pure ((r3.1, r3.2.1, r3.2.2), 1)) (
 nz x.1 fun a4 =>
 ld [.ptr] (Addr.add a4 0) fun (r5 : Option Addr) =>
 M.bind (tree_Tree_Look N (r5, x.2)) fun (r6 : Int × Bool × Int) =>
 vl (r6.2.2 != (0 : Int)) fun t7 =>
 cnd t7 (
 st ⟨b1, 0, none⟩ [.int .i64 0, .bool false, .int .i64 0] <|
 ld [.int .i64, .bool, .int .i64] ⟨b1, 0, none⟩ fun (r8 : Int × Bool × Int) =>
 M.pure ((r8.1, r8.2.1, r8.2.2), r6.2.2)) (
 nz x.1 fun a9 =>
 ld [.map] (Addr.add a9 1) fun (r10 : Option Nat) =>
 M.rd (lookR (.int .i64) (.int .i64 r6.1) r10 (.agg [.int .i64, .slice]) (0, ⟨none, 0, 0⟩)) fun (r11 : (Int × Sl) × Bool) =>
 st ⟨b1, 0, none⟩ [.int .i64 r6.1, .bool r6.2.1, .int .i64 r11.1.1] <|
 ld [.int .i64, .bool, .int .i64] ⟨b1, 0, none⟩ fun (r12 : Int × Bool × Int) =>
 M.pure ((r12.1, r12.2.1, r12.2.2), 0)))
noncomputable def pl_fold_State_Stat : Plan := .leaf
theorem E_fold_State_Stat (N : Nat) (x : Ts A_fold_State_Stat) : evF ⟨Tryz.prog, [⟨39, A_tree_Tree_Look, R_tree_Tree_Look, tree_Tree_Look N⟩], [], []⟩ 36 N Tryz.f67.results.toList (Tryz.f67.body.getD .skip) pl_fold_State_Stat A_fold_State_Stat R_fold_State_Stat x = fold_State_Stat N x := by kernel_rfl
theorem row_fold_State_Stat (N : Nat) : RowOk Tryz.prog ⟨67, A_fold_State_Stat, R_fold_State_Stat, fold_State_Stat N⟩ :=
  row_mk 67 Tryz.f67 A_fold_State_Stat R_fold_State_Stat (fold_State_Stat N) _ _ _ 36 N pl_fold_State_Stat (rows_cons (row_tree_Tree_Look N) rows_nil) (eqs_nil) mixed Tryz.func67 (by kernel_rfl) Tryz.ntmps67 (by kernel_rfl) (E_fold_State_Stat N) (by kernel_rfl)
/-! treering/treeringlaw15.awake -/
abbrev A_law15_awake : List Ty := []
abbrev R_law15_awake : List Ty := [.c .bool]
noncomputable def law15_awake (N : Nat) (x : Unit) : M (Bool) :=
 M.bind (fold_New N ()) fun (r1 : Option Addr) =>
 vl (Option.isNone r1) fun t2 =>
 cnd t2 (
 M.pure false) (
 M.bind (fold_State_Apply N (r1, (1, (⟨#[47, 97]⟩ : ByteArray), (⟨#[]⟩ : ByteArray), 0, 0, ⟨none, 0, 0⟩), ⟨none, 0, 0⟩)) fun (r3 : Int) =>
 M.new (ob [.int .i64 0, .int .i64 3, .int .i64 1, .int .i64 0] 40) fun b4 =>
 M.bind (fold_State_Apply N (r1, (3, (⟨#[47, 97]⟩ : ByteArray), (⟨#[]⟩ : ByteArray), 2, 0, ⟨none, 0, 0⟩), ⟨(some ⟨b4, 0, none⟩), 1, 1⟩)) fun (r5 : Int) =>
 M.bind (fold_State_Stat N (r1, (⟨#[47, 97]⟩ : ByteArray))) fun (r6 : (Int × Bool × Int) × Int) =>
 M.new (ob [.int .i64 0, .bool false, .int .i64 0] 137) fun b7 =>
 st ⟨b7, 0, none⟩ [.int .i64 r6.1.1, .bool r6.1.2.1, .int .i64 r6.1.2.2] <|
 M.bind (fold_State_Stat N (r1, (⟨#[47]⟩ : ByteArray))) fun (r8 : (Int × Bool × Int) × Int) =>
 M.new (ob [.int .i64 0, .bool false, .int .i64 0] 137) fun b9 =>
 st ⟨b9, 0, none⟩ [.int .i64 r8.1.1, .bool r8.1.2.1, .int .i64 r8.1.2.2] <|
 vl (r3 == (0 : Int)) fun t10 =>
 cnd t10 (
 vl (r5 == (0 : Int)) fun t11 =>
 cnd t11 (
 vl (r6.2 == (0 : Int)) fun t12 =>
 cnd t12 (
 ld [.int .i64, .bool, .int .i64] ⟨b7, 0, none⟩ fun (r13 : Int × Bool × Int) =>
 vl (((r13.1 : Int) == (1 : Int)) && ((r13.2.1 == false) && ((r13.2.2 : Int) == (5 : Int)))) fun t14 =>
 cnd t14 (
 vl (r8.2 == (0 : Int)) fun t15 =>
 cnd t15 (
 ld [.bool] (Addr.add ⟨b9, 0, none⟩ 1) fun (r16 : Bool) =>
 cnd r16 (
 ld [.int .i64] (Addr.add ⟨b9, 0, none⟩ 0) fun (r17 : Int) =>
 vl (r17 == (0 : Int)) fun t18 =>
 M.pure t18) (
 M.pure false)) (
 M.pure false)) (
 M.pure false)) (
 M.pure false)) (
 M.pure false)) (
 M.pure false))
noncomputable def pl_law15_awake : Plan := .leaf
theorem E_law15_awake (N : Nat) (x : Ts A_law15_awake) : evF ⟨Tryz.prog, [⟨18, A_fold_New, R_fold_New, fold_New N⟩, ⟨19, A_fold_State_Apply, R_fold_State_Apply, fold_State_Apply N⟩, ⟨67, A_fold_State_Stat, R_fold_State_Stat, fold_State_Stat N⟩], [(137, [.int .i64, .bool, .int .i64])], []⟩ 57 N Tryz.f16.results.toList (Tryz.f16.body.getD .skip) pl_law15_awake A_law15_awake R_law15_awake x = law15_awake N x := by kernel_rfl
theorem row_law15_awake (N : Nat) : RowOk Tryz.prog ⟨16, A_law15_awake, R_law15_awake, law15_awake N⟩ :=
  row_mk 16 Tryz.f16 A_law15_awake R_law15_awake (law15_awake N) _ _ _ 57 N pl_law15_awake (rows_cons (row_fold_New N) (rows_cons (row_fold_State_Apply N) (rows_cons (row_fold_State_Stat N) rows_nil))) (eqs_cons eq137 (eqs_nil)) mixed Tryz.func16 (by kernel_rfl) Tryz.ntmps16 (by kernel_rfl) (E_law15_awake N) (by kernel_rfl)
/-! treering/treeringlaw15.Small -/
abbrev A_law15_Small : List Ty := [.c .slice, .c (.int .i64)]
abbrev R_law15_Small : List Ty := [.c .bool]
noncomputable def law15_Small_L0 (N : Nat) (x : Sl × Int) (s1 : Int) : M (Int ⊕ (Unit ⊕ Bool)) :=
 vl (decide (s1 < (x.1.len : Int))) fun t2 =>
 cnd t2 (
 M.bind ((
 vl (decide (s1 ≥ x.2)) fun t3 =>
 cnd t3 (
 M.pure true) (
 ixA x.1.a x.1.len s1 7 fun a4 =>
 ld [.str] (Addr.add (Addr.add a4 0) 1) fun (r5 : ByteArray) =>
 vl (decide ((r5.size : Int) > (300 : Int))) fun t6 =>
 cnd t6 (
 M.pure true) (
 ixA x.1.a x.1.len s1 7 fun a7 =>
 ld [.str] (Addr.add (Addr.add a7 0) 2) fun (r8 : ByteArray) =>
 vl (decide ((r8.size : Int) > (300 : Int))) fun t9 =>
 cnd t9 (
 M.pure true) (
 ixA x.1.a x.1.len s1 7 fun a10 =>
 ld [.slice] (Addr.add (Addr.add a10 0) 5) fun (r11 : Sl) =>
 vl (decide ((r11.len : Int) > (2000 : Int))) fun t12 =>
 cnd t12 (
 M.pure true) (
 ixA x.1.a x.1.len s1 7 fun a13 =>
 ld [.slice] (Addr.add a13 6) fun (r14 : Sl) =>
 vl (decide ((r14.len : Int) > (60 : Int))) fun t15 =>
 M.pure t15))))) : M (Bool)) fun (r16 : Bool) =>
 cnd r16 (
 M.pure (inrS (.inr false))) (
 vl (wi (s1 + (1 : Int))) fun i17 =>
 M.pure (inlS i17))) (
 M.pure (inrS (.inl ())))
noncomputable def law15_Small (N : Nat) (x : Sl × Int) : M (Bool) :=
 M.bind (M.loop N (law15_Small_L0 N x) 0) fun (r18 : Unit ⊕ Bool) =>
 sumM r18 (fun (q19 : Unit) =>
 M.pure true) fun (r20 : Bool) =>
 M.pure r20
noncomputable def pl_law15_Small : Plan := .kids (.leaf) (.kids (.kids (.leaf) (.kids (.loop [(5, .c (.int .i64))] [(.exit 0, []), (.ret, [(4, .c .bool)])] (.kids (.leaf) (.kids (.kids (.join [(.normal, [(53, .c .bool)])] (.leaf) (.leaf)) .leaf) (.leaf)))) .leaf)) (.leaf))
theorem E_law15_Small (N : Nat) (x : Ts A_law15_Small) : evF ⟨Tryz.prog, [], [], []⟩ 54 N Tryz.f17.results.toList (Tryz.f17.body.getD .skip) pl_law15_Small A_law15_Small R_law15_Small x = law15_Small N x := by kernel_rfl
theorem row_law15_Small (N : Nat) : RowOk Tryz.prog ⟨17, A_law15_Small, R_law15_Small, law15_Small N⟩ :=
  row_mk 17 Tryz.f17 A_law15_Small R_law15_Small (law15_Small N) _ _ _ 54 N pl_law15_Small (rows_nil) (eqs_nil) mixed Tryz.func17 (by kernel_rfl) Tryz.ntmps17 (by kernel_rfl) (E_law15_Small N) (by kernel_rfl)
/-! treering/treeringlaw12.Parts -/
abbrev A_law12_Parts : List Ty := [.c .slice]
abbrev R_law12_Parts : List Ty := [.c .slice]
noncomputable def law12_Parts_L0 (N : Nat) (x : Sl) (s1 : Sl × Int) : M ((Sl × Int) ⊕ (Sl)) :=
 vl (decide (s1.2 < (x.len : Int))) fun t2 =>
 cnd t2 (
 ixA x.a x.len s1.2 4 fun a3 =>
 ld [.int .i64] (Addr.add a3 0) fun (r4 : Int) =>
 ixA x.a x.len s1.2 4 fun a5 =>
 ld [.int .i64] (Addr.add a5 1) fun (r6 : Int) =>
 ixA x.a x.len s1.2 4 fun a7 =>
 ld [.int .i64] (Addr.add a7 2) fun (r8 : Int) =>
 ixA x.a x.len s1.2 4 fun a9 =>
 ld [.int .i64] (Addr.add a9 3) fun (r10 : Int) =>
 M.new (ob [.int .i64 r4, .int .i64 r6, .int .i64 r8, .int .i64 r10] 40) fun b11 =>
 M.bind (appM 40 4 32 [.int .i64 0, .int .i64 0, .int .i64 0, .int .i64 0] s1.1 (.sl (some ⟨b11, 0, none⟩) 1)) fun s12 =>
 vl (wi (s1.2 + (1 : Int))) fun i13 =>
 M.pure (inlS (s12, i13))) (
 M.pure (inrS s1.1))
noncomputable def law12_Parts (N : Nat) (x : Sl) : M (Sl) :=
 M.bind (M.loop N (law12_Parts_L0 N x) (⟨none, 0, 0⟩, 0)) fun (r14 : Sl) =>
 M.pure r14
noncomputable def pl_law12_Parts : Plan := .kids (.leaf) (.kids (.leaf) (.kids (.kids (.leaf) (.kids (.loop [(3, .c .slice), (4, .c (.int .i64))] [(.exit 0, [(3, .c .slice)])] (.kids (.leaf) (.kids (.kids (.ord [0, 1, 2, 3, 4, 5, 6, 7, 8, 9, 10, 11, 12, 13, 14, 15, 16, 17, 18, 19, 20, 21, 22, 23, 24]) .leaf) (.leaf)))) .leaf)) (.leaf)))
theorem E_law12_Parts (N : Nat) (x : Ts A_law12_Parts) : evF ⟨Tryz.prog, [], [], []⟩ 36 N Tryz.f20.results.toList (Tryz.f20.body.getD .skip) pl_law12_Parts A_law12_Parts R_law12_Parts x = law12_Parts N x := by kernel_rfl
theorem row_law12_Parts (N : Nat) : RowOk Tryz.prog ⟨20, A_law12_Parts, R_law12_Parts, law12_Parts N⟩ :=
  row_mk 20 Tryz.f20 A_law12_Parts R_law12_Parts (law12_Parts N) _ _ _ 36 N pl_law12_Parts (rows_nil) (eqs_nil) mixed Tryz.func20 (by kernel_rfl) Tryz.ntmps20 (by kernel_rfl) (E_law12_Parts N) (by kernel_rfl)
/-! maps.Keys[map[int]bool,int,bool] -/
abbrev A_maps_Keys_map_int_bool_int_bool : List Ty := [.c .map]
abbrev R_maps_Keys_map_int_bool_int_bool : List Ty := [.cl 142]
noncomputable def maps_Keys_map_int_bool_int_bool (N : Nat) (x : Option Nat) : M (Nat) :=
 M.new (ob [.map x] 150) fun b1 =>
 M.pure b1
noncomputable def pl_maps_Keys_map_int_bool_int_bool : Plan := .leaf
theorem E_maps_Keys_map_int_bool_int_bool (N : Nat) (x : Ts A_maps_Keys_map_int_bool_int_bool) : evF ⟨Tryz.prog, [], [], []⟩ 4 N Tryz.f77.results.toList (Tryz.f77.body.getD .skip) pl_maps_Keys_map_int_bool_int_bool A_maps_Keys_map_int_bool_int_bool R_maps_Keys_map_int_bool_int_bool x = maps_Keys_map_int_bool_int_bool N x := by kernel_rfl
theorem row_maps_Keys_map_int_bool_int_bool (N : Nat) : RowOk Tryz.prog ⟨77, A_maps_Keys_map_int_bool_int_bool, R_maps_Keys_map_int_bool_int_bool, maps_Keys_map_int_bool_int_bool N⟩ :=
  row_mk 77 Tryz.f77 A_maps_Keys_map_int_bool_int_bool R_maps_Keys_map_int_bool_int_bool (maps_Keys_map_int_bool_int_bool N) _ _ _ 4 N pl_maps_Keys_map_int_bool_int_bool (rows_nil) (eqs_nil) mixed Tryz.func77 (by kernel_rfl) Tryz.ntmps77 (by kernel_rfl) (E_maps_Keys_map_int_bool_int_bool N) (by kernel_rfl)
/-! treering/body.Uses -/
abbrev A_body_Uses : List Ty := [.agg [.int .i64, .slice]]
abbrev R_body_Uses : List Ty := [.c .slice]
noncomputable def body_Uses_L0 (N : Nat) (b2 : Nat) (r3 : Sl) (s4 : Int) : M (Int ⊕ (Unit)) :=
 vl (decide (s4 < (r3.len : Int))) fun t5 =>
 cnd t5 (
 ixA r3.a r3.len s4 4 fun a6 =>
 ld [.int .i64, .int .i64, .int .i64, .int .i64] a6 fun (r7 : Int × Int × Int × Int) =>
 M.new (ob [.int .i64 0, .int .i64 0, .int .i64 0, .int .i64 0] 40) fun b8 =>
 st ⟨b8, 0, none⟩ [.int .i64 r7.1, .int .i64 r7.2.1, .int .i64 r7.2.2.1, .int .i64 r7.2.2.2] <|
 ld [.int .i64] (Addr.add ⟨b8, 0, none⟩ 2) fun (r9 : Int) =>
 M.bind (mapPutM (.int .i64) (.int .i64 r9) (.bool true) (some b2)) fun _ =>
 vl (wi (s4 + (1 : Int))) fun i10 =>
 M.pure (inlS i10)) (
 M.pure (inrS ()))
noncomputable def body_Uses (N : Nat) (x : Int × Sl) : M (Sl) :=
 M.new (ob [.int .i64 x.1, .slice x.2.a x.2.len x.2.cap] 47) fun b1 =>
 M.new (.map #[] 0) fun b2 =>
 ld [.slice] (Addr.add ⟨b1, 0, none⟩ 1) fun (r3 : Sl) =>
 M.bind (M.loop N (body_Uses_L0 N b2 r3) 0) fun (r11 : Unit) =>
 M.bind (maps_Keys_map_int_bool_int_bool N (some b2)) fun (r12 : Nat) =>
 M.bind (slices_Sorted_int N r12) fun (r13 : Sl) =>
 M.pure r13
noncomputable def pl_body_Uses : Plan := .kids (.leaf) (.kids (.leaf) (.kids (.kids (.leaf) (.kids (.loop [(10, .c (.int .i64))] [(.exit 0, [])] (.leaf)) .leaf)) (.leaf)))
theorem E_body_Uses (N : Nat) (x : Ts A_body_Uses) : evF ⟨Tryz.prog, [⟨77, A_maps_Keys_map_int_bool_int_bool, R_maps_Keys_map_int_bool_int_bool, maps_Keys_map_int_bool_int_bool N⟩, ⟨76, A_slices_Sorted_int, R_slices_Sorted_int, slices_Sorted_int N⟩], [], []⟩ 21 N Tryz.f75.results.toList (Tryz.f75.body.getD .skip) pl_body_Uses A_body_Uses R_body_Uses x = body_Uses N x := by kernel_rfl
theorem row_body_Uses (N : Nat) : RowOk Tryz.prog ⟨75, A_body_Uses, R_body_Uses, body_Uses N⟩ :=
  row_mk 75 Tryz.f75 A_body_Uses R_body_Uses (body_Uses N) _ _ _ 21 N pl_body_Uses (rows_cons (row_maps_Keys_map_int_bool_int_bool N) (rows_cons (row_slices_Sorted_int N) rows_nil)) (eqs_nil) mixed Tryz.func75 (by kernel_rfl) Tryz.ntmps75 (by kernel_rfl) (E_body_Uses N) (by kernel_rfl)
/-! (*treering/fold.State).Uses -/
abbrev A_fold_State_Uses : List Ty := [.c .ptr]
abbrev R_fold_State_Uses : List Ty := [.c .slice]
noncomputable def fold_State_Uses_L0 (N : Nat) (b2 : Nat) (r12 : Sl) (s13 : Int) : M (Int ⊕ (Unit)) :=
 vl (decide (s13 < (r12.len : Int))) fun t14 =>
 cnd t14 (
 ixA r12.a r12.len s13 1 fun a15 =>
 ld [.int .i64] a15 fun (r16 : Int) =>
 M.bind (mapPutM (.int .i64) (.int .i64 r16) (.bool true) (some b2)) fun _ =>
 vl (wi (s13 + (1 : Int))) fun i17 =>
 M.pure (inlS i17)) (
 M.pure (inrS ()))
noncomputable def fold_State_Uses_L1 (N : Nat) (b2 : Nat) (b5 : Nat) (s6 : Unit) : M (Unit ⊕ (Unit)) :=
 M.bind (nextM b5) fun o7 => optM o7 (
 M.pure (inrS ())) fun p8 =>
 M.rd (entryR (.c (.int .i64)) (.agg [.int .i64, .slice]) b5) fun (r9 : Int × Int × Sl) =>
 M.new (ob [.int .i64 0, .slice none 0 0] 47) fun b10 =>
 st ⟨b10, 0, none⟩ [.int .i64 r9.2.1, .slice r9.2.2.a r9.2.2.len r9.2.2.cap] <|
 ld [.int .i64, .slice] ⟨b10, 0, none⟩ fun (r11 : Int × Sl) =>
 M.bind (body_Uses N (r11.1, r11.2)) fun (r12 : Sl) =>
 M.bind (M.loop N (fold_State_Uses_L0 N b2 r12) 0) fun (r18 : Unit) =>
 M.pure (inlS ())
noncomputable def fold_State_Uses (N : Nat) (x : Option Addr) : M (Sl) :=
 vl (Option.isNone x) fun t1 =>
 cnd t1 (
 M.pure ⟨none, 0, 0⟩) (
 M.new (.map #[] 0) fun b2 =>
 nz x fun a3 =>
 ld [.map] (Addr.add a3 1) fun (r4 : Option Nat) =>
 M.bind (rangeM r4) fun b5 =>
 M.bind (M.loop N (fold_State_Uses_L1 N b2 b5) ()) fun (r19 : Unit) =>
 M.bind (maps_Keys_map_int_bool_int_bool N (some b2)) fun (r20 : Nat) =>
 M.bind (slices_Sorted_int N r20) fun (r21 : Sl) =>
 M.pure r21)
noncomputable def pl_fold_State_Uses : Plan := .kids (.leaf) (.kids (.leaf) (.kids (.leaf) (.kids (.kids (.leaf) (.kids (.loop [] [(.exit 0, [])] (.kids (.leaf) (.kids (.leaf) (.kids (.kids (.leaf) (.kids (.leaf) (.kids (.loop [(23, .c (.int .i64))] [(.exit 2, [])] (.leaf)) .leaf))) .leaf)))) .leaf)) (.leaf))))
theorem E_fold_State_Uses (N : Nat) (x : Ts A_fold_State_Uses) : evF ⟨Tryz.prog, [⟨75, A_body_Uses, R_body_Uses, body_Uses N⟩, ⟨77, A_maps_Keys_map_int_bool_int_bool, R_maps_Keys_map_int_bool_int_bool, maps_Keys_map_int_bool_int_bool N⟩, ⟨76, A_slices_Sorted_int, R_slices_Sorted_int, slices_Sorted_int N⟩], [], [(15, (.c (.int .i64), .agg [.int .i64, .slice]))]⟩ 33 N Tryz.f21.results.toList (Tryz.f21.body.getD .skip) pl_fold_State_Uses A_fold_State_Uses R_fold_State_Uses x = fold_State_Uses N x := by kernel_rfl
theorem row_fold_State_Uses (N : Nat) : RowOk Tryz.prog ⟨21, A_fold_State_Uses, R_fold_State_Uses, fold_State_Uses N⟩ :=
  row_mk 21 Tryz.f21 A_fold_State_Uses R_fold_State_Uses (fold_State_Uses N) _ _ _ 33 N pl_fold_State_Uses (rows_cons (row_body_Uses N) (rows_cons (row_maps_Keys_map_int_bool_int_bool N) (rows_cons (row_slices_Sorted_int N) rows_nil))) (eqs_nil) mixed Tryz.func21 (by kernel_rfl) Tryz.ntmps21 (by kernel_rfl) (E_fold_State_Uses N) (by kernel_rfl)
/-! treering/treeringlaw15.FoldUses -/
abbrev A_law15_FoldUses : List Ty := [.c .slice, .c (.int .u8)]
abbrev R_law15_FoldUses : List Ty := [.c .bool]
noncomputable def law15_FoldUses_L0 (N : Nat) (x : Sl × Int) (r5 : Option Addr) (s6 : Int) : M (Int ⊕ (Unit)) :=
 vl (decide (s6 < (x.1.len : Int))) fun t7 =>
 cnd t7 (
 ixA x.1.a x.1.len s6 7 fun a8 =>
 ld [.int .i64, .str, .str, .int .i64, .int .i64, .slice] (Addr.add a8 0) fun (r9 : Int × ByteArray × ByteArray × Int × Int × Sl) =>
 ixA x.1.a x.1.len s6 7 fun a10 =>
 ld [.slice] (Addr.add a10 6) fun (r11 : Sl) =>
 M.bind (law12_Parts N r11) fun (r12 : Sl) =>
 M.again (ldR [.int .i64, .str, .str, .int .i64, .int .i64, .slice] (Addr.add a8 0)) r9 <|
 M.bind (fold_State_Apply N (r5, (r9.1, r9.2.1, r9.2.2.1, r9.2.2.2.1, r9.2.2.2.2.1, r9.2.2.2.2.2), r12)) fun (r13 : Int) =>
 vl (wi (s6 + (1 : Int))) fun i14 =>
 M.pure (inlS i14)) (
 M.pure (inrS ()))
noncomputable def law15_FoldUses (N : Nat) (x : Sl × Int) : M (Bool) :=
 M.bind (law15_awake N ()) fun (r1 : Bool) =>
 vl (!r1) fun t2 =>
 cnd t2 (
 M.pure false) (
 M.bind (law15_Small N (x.1, 60)) fun (r3 : Bool) =>
 vl (!r3) fun t4 =>
 cnd t4 (
 M.pure true) (
 M.bind (fold_New N ()) fun (r5 : Option Addr) =>
 M.bind (M.loop N (law15_FoldUses_L0 N x r5) 0) fun (r15 : Unit) =>
 M.bind (fold_State_Uses N r5) fun (r16 : Sl) =>
 M.bind ((
 vl (decide ((r16.len : Int) > (0 : Int))) fun t17 =>
 cnd t17 (
 vl (wi ((r16.len : Int) - (1 : Int))) fun i18 =>
 ixA r16.a r16.len i18 1 fun a19 =>
 ld [.int .i64] a19 fun (r20 : Int) =>
 vl (decide (r20 ≥ (2305843009213693952 : Int))) fun t21 =>
 M.pure t21) (
 M.pure false)) : M (Bool)) fun (r22 : Bool) =>
 cnd r22 (
 M.pure true) (
 vl (wi (x.2)) fun i23 =>
 divM 64 (Int.tmod i23 64) fun i24 =>
 vl (wi ((1 : Int) + i24)) fun i25 =>
 M.new (ob [.int .i64 0, .int .i64 i25, .int .i64 2305843009213693952, .int .i64 0] 40) fun b26 =>
 M.new (ob [.int .i64 0, .int .i64 64, .int .i64 2305843009213693953, .int .i64 0] 40) fun b27 =>
 M.bind (fold_State_Apply N (r5, (1, (⟨#[47, 122, 122, 122, 122]⟩ : ByteArray), (⟨#[]⟩ : ByteArray), 0, 0, ⟨none, 0, 0⟩), ⟨none, 0, 0⟩)) fun (r28 : Int) =>
 vl (r28 != (0 : Int)) fun t29 =>
 cnd t29 (
 M.pure true) (
 M.bind (fold_State_Apply N (r5, (3, (⟨#[47, 122, 122, 122, 122]⟩ : ByteArray), (⟨#[]⟩ : ByteArray), 0, 0, ⟨none, 0, 0⟩), ⟨(some ⟨b26, 0, none⟩), 1, 1⟩)) fun (r30 : Int) =>
 M.bind (fold_State_Uses N r5) fun (r31 : Sl) =>
 M.bind (fold_State_Apply N (r5, (3, (⟨#[47, 122, 122, 122, 122]⟩ : ByteArray), (⟨#[]⟩ : ByteArray), 0, 0, ⟨none, 0, 0⟩), ⟨(some ⟨b27, 0, none⟩), 1, 1⟩)) fun (r32 : Int) =>
 M.bind (fold_State_Uses N r5) fun (r33 : Sl) =>
 M.bind (fold_State_Apply N (r5, (4, (⟨#[47, 122, 122, 122, 122]⟩ : ByteArray), (⟨#[]⟩ : ByteArray), 0, 0, ⟨none, 0, 0⟩), ⟨none, 0, 0⟩)) fun (r34 : Int) =>
 M.bind (fold_State_Uses N r5) fun (r35 : Sl) =>
 M.bind (fold_State_Apply N (r5, (6, (⟨#[47, 122, 122, 122, 122]⟩ : ByteArray), (⟨#[]⟩ : ByteArray), 0, 0, ⟨none, 0, 0⟩), ⟨none, 0, 0⟩)) fun (r36 : Int) =>
 vl (r30 == (0 : Int)) fun t37 =>
 cnd t37 (
 vl (r32 == (0 : Int)) fun t38 =>
 cnd t38 (
 vl (r34 == (0 : Int)) fun t39 =>
 cnd t39 (
 vl (r36 == (0 : Int)) fun t40 =>
 cnd t40 (
 vl (wi ((r16.len : Int) + (1 : Int))) fun i41 =>
 vl ((r31.len : Int) == i41) fun t42 =>
 cnd t42 (
 ixA r31.a r31.len (r16.len : Int) 1 fun a43 =>
 ld [.int .i64] a43 fun (r44 : Int) =>
 vl (r44 == (2305843009213693952 : Int)) fun t45 =>
 cnd t45 (
 vl (wi ((r16.len : Int) + (1 : Int))) fun i46 =>
 vl ((r33.len : Int) == i46) fun t47 =>
 cnd t47 (
 ixA r33.a r33.len (r16.len : Int) 1 fun a48 =>
 ld [.int .i64] a48 fun (r49 : Int) =>
 vl (r49 == (2305843009213693953 : Int)) fun t50 =>
 cnd t50 (
 vl ((r35.len : Int) == (r16.len : Int)) fun t51 =>
 cnd t51 (
 M.bind (fold_State_Uses N r5) fun (r52 : Sl) =>
 vl ((r52.len : Int) == (r16.len : Int)) fun t53 =>
 M.pure t53) (
 M.pure false)) (
 M.pure false)) (
 M.pure false)) (
 M.pure false)) (
 M.pure false)) (
 M.pure false)) (
 M.pure false)) (
 M.pure false)) (
 M.pure false)))))
noncomputable def pl_law15_FoldUses : Plan := .kids (.leaf) (.kids (.leaf) (.kids (.leaf) (.kids (.leaf) (.kids (.kids (.leaf) (.kids (.loop [(6, .c (.int .i64))] [(.exit 0, [])] (.kids (.leaf) (.kids (.kids (.ord [0, 1, 2, 3, 4, 5, 6, 7, 8, 9, 10, 11, 12]) .leaf) (.leaf)))) .leaf)) (.kids (.leaf) (.kids (.join [(.normal, [(56, .c .bool)])] (.leaf) (.leaf)) (.leaf)))))))
theorem E_law15_FoldUses (N : Nat) (x : Ts A_law15_FoldUses) : evF ⟨Tryz.prog, [⟨16, A_law15_awake, R_law15_awake, law15_awake N⟩, ⟨17, A_law15_Small, R_law15_Small, law15_Small N⟩, ⟨18, A_fold_New, R_fold_New, fold_New N⟩, ⟨20, A_law12_Parts, R_law12_Parts, law12_Parts N⟩, ⟨19, A_fold_State_Apply, R_fold_State_Apply, fold_State_Apply N⟩, ⟨21, A_fold_State_Uses, R_fold_State_Uses, fold_State_Uses N⟩], [], []⟩ 155 N Tryz.f3.results.toList (Tryz.f3.body.getD .skip) pl_law15_FoldUses A_law15_FoldUses R_law15_FoldUses x = law15_FoldUses N x := by kernel_rfl
theorem row_law15_FoldUses (N : Nat) : RowOk Tryz.prog ⟨3, A_law15_FoldUses, R_law15_FoldUses, law15_FoldUses N⟩ :=
  row_mk 3 Tryz.f3 A_law15_FoldUses R_law15_FoldUses (law15_FoldUses N) _ _ _ 155 N pl_law15_FoldUses (rows_cons (row_law15_awake N) (rows_cons (row_law15_Small N) (rows_cons (row_fold_New N) (rows_cons (row_law12_Parts N) (rows_cons (row_fold_State_Apply N) (rows_cons (row_fold_State_Uses N) rows_nil)))))) (eqs_nil) mixed Tryz.func3 (by kernel_rfl) Tryz.ntmps3 (by kernel_rfl) (E_law15_FoldUses N) (by kernel_rfl)
/-! (*treering/tree.Tree).Copy -/
abbrev A_tree_Tree_Copy : List Ty := [.c .ptr]
abbrev R_tree_Tree_Copy : List Ty := [.c .ptr]
noncomputable def tree_Tree_Copy (N : Nat) (x : Option Addr) : M (Option Addr) :=
 vl (Option.isNone x) fun t1 =>
 cnd t1 (
 M.pure none) (
 nz x fun a2 =>
 ld [.map] (Addr.add a2 0) fun (r3 : Option Nat) =>
 nz x fun a4 =>
 ld [.int .i64] (Addr.add a4 1) fun (r5 : Int) =>
 M.bind (maps_Clone_map_string_tree_Node_string_tree_Node N r3) fun (r6 : Option Nat) =>
 M.again (ldR [.int .i64] (Addr.add a4 1)) r5 <|
 M.new (ob [.map r6, .int .i64 r5] 161) fun b7 =>
 M.pure (some ⟨b7, 0, none⟩))
noncomputable def pl_tree_Tree_Copy : Plan := .kids (.leaf) (.kids (.leaf) (.kids (.ord [0, 1, 2, 3, 5, 6, 7, 8, 4, 9, 10, 11]) (.leaf)))
theorem E_tree_Tree_Copy (N : Nat) (x : Ts A_tree_Tree_Copy) : evF ⟨Tryz.prog, [⟨143, A_maps_Clone_map_string_tree_Node_string_tree_Node, R_maps_Clone_map_string_tree_Node_string_tree_Node, maps_Clone_map_string_tree_Node_string_tree_Node N⟩], [], []⟩ 16 N Tryz.f78.results.toList (Tryz.f78.body.getD .skip) pl_tree_Tree_Copy A_tree_Tree_Copy R_tree_Tree_Copy x = tree_Tree_Copy N x := by kernel_rfl
theorem row_tree_Tree_Copy (N : Nat) : RowOk Tryz.prog ⟨78, A_tree_Tree_Copy, R_tree_Tree_Copy, tree_Tree_Copy N⟩ :=
  row_mk 78 Tryz.f78 A_tree_Tree_Copy R_tree_Tree_Copy (tree_Tree_Copy N) _ _ _ 16 N pl_tree_Tree_Copy (rows_cons (row_maps_Clone_map_string_tree_Node_string_tree_Node N) rows_nil) (eqs_nil) mixed Tryz.func78 (by kernel_rfl) Tryz.ntmps78 (by kernel_rfl) (E_tree_Tree_Copy N) (by kernel_rfl)
/-! (*treering/fold.State).Copy -/
abbrev A_fold_State_Copy : List Ty := [.c .ptr]
abbrev R_fold_State_Copy : List Ty := [.c .ptr]
noncomputable def fold_State_Copy (N : Nat) (x : Option Addr) : M (Option Addr) :=
 vl (Option.isNone x) fun t1 =>
 cnd t1 (
 M.pure none) (
 nz x fun a2 =>
 ld [.ptr] (Addr.add a2 0) fun (r3 : Option Addr) =>
 nz x fun a4 =>
 ld [.map] (Addr.add a4 1) fun (r5 : Option Nat) =>
 M.bind (tree_Tree_Copy N r3) fun (r6 : Option Addr) =>
 M.again (ldR [.map] (Addr.add a4 1)) r5 <|
 M.bind (maps_Clone_map_int_body_Body_int_body_Body N r5) fun (r7 : Option Nat) =>
 M.new (ob [.pointer r6, .map r7] 142) fun b8 =>
 M.pure (some ⟨b8, 0, none⟩))
noncomputable def pl_fold_State_Copy : Plan := .kids (.leaf) (.kids (.leaf) (.kids (.ord [0, 1, 2, 3, 5, 6, 7, 8, 4, 9, 10, 11, 12]) (.leaf)))
theorem E_fold_State_Copy (N : Nat) (x : Ts A_fold_State_Copy) : evF ⟨Tryz.prog, [⟨78, A_tree_Tree_Copy, R_tree_Tree_Copy, tree_Tree_Copy N⟩, ⟨79, A_maps_Clone_map_int_body_Body_int_body_Body, R_maps_Clone_map_int_body_Body_int_body_Body, maps_Clone_map_int_body_Body_int_body_Body N⟩], [], []⟩ 17 N Tryz.f22.results.toList (Tryz.f22.body.getD .skip) pl_fold_State_Copy A_fold_State_Copy R_fold_State_Copy x = fold_State_Copy N x := by kernel_rfl
theorem row_fold_State_Copy (N : Nat) : RowOk Tryz.prog ⟨22, A_fold_State_Copy, R_fold_State_Copy, fold_State_Copy N⟩ :=
  row_mk 22 Tryz.f22 A_fold_State_Copy R_fold_State_Copy (fold_State_Copy N) _ _ _ 17 N pl_fold_State_Copy (rows_cons (row_tree_Tree_Copy N) (rows_cons (row_maps_Clone_map_int_body_Body_int_body_Body N) rows_nil)) (eqs_nil) mixed Tryz.func22 (by kernel_rfl) Tryz.ntmps22 (by kernel_rfl) (E_fold_State_Copy N) (by kernel_rfl)
/-! (*treering/fold.State).Tree -/
abbrev A_fold_State_Tree : List Ty := [.c .ptr]
abbrev R_fold_State_Tree : List Ty := [.c .ptr]
noncomputable def fold_State_Tree (N : Nat) (x : Option Addr) : M (Option Addr) :=
 vl (Option.isNone x) fun t1 =>
 cnd t1 (
 M.pure none) (
 nz x fun a2 =>
 ld [.ptr] (Addr.add a2 0) fun (r3 : Option Addr) =>
 M.bind (tree_Tree_Copy N r3) fun (r4 : Option Addr) =>
 M.pure r4)
noncomputable def pl_fold_State_Tree : Plan := .leaf
theorem E_fold_State_Tree (N : Nat) (x : Ts A_fold_State_Tree) : evF ⟨Tryz.prog, [⟨78, A_tree_Tree_Copy, R_tree_Tree_Copy, tree_Tree_Copy N⟩], [], []⟩ 10 N Tryz.f23.results.toList (Tryz.f23.body.getD .skip) pl_fold_State_Tree A_fold_State_Tree R_fold_State_Tree x = fold_State_Tree N x := by kernel_rfl
theorem row_fold_State_Tree (N : Nat) : RowOk Tryz.prog ⟨23, A_fold_State_Tree, R_fold_State_Tree, fold_State_Tree N⟩ :=
  row_mk 23 Tryz.f23 A_fold_State_Tree R_fold_State_Tree (fold_State_Tree N) _ _ _ 10 N pl_fold_State_Tree (rows_cons (row_tree_Tree_Copy N) rows_nil) (eqs_nil) mixed Tryz.func23 (by kernel_rfl) Tryz.ntmps23 (by kernel_rfl) (E_fold_State_Tree N) (by kernel_rfl)
/-! maps.Keys[map[string]treering/tree.Node,string,treering/tree.Node] -/
abbrev A_maps_Keys_map_string_tree_Node_string_tree_Node : List Ty := [.c .map]
abbrev R_maps_Keys_map_string_tree_Node_string_tree_Node : List Ty := [.cl 195]
noncomputable def maps_Keys_map_string_tree_Node_string_tree_Node (N : Nat) (x : Option Nat) : M (Nat) :=
 M.new (ob [.map x] 159) fun b1 =>
 M.pure b1
noncomputable def pl_maps_Keys_map_string_tree_Node_string_tree_Node : Plan := .leaf
theorem E_maps_Keys_map_string_tree_Node_string_tree_Node (N : Nat) (x : Ts A_maps_Keys_map_string_tree_Node_string_tree_Node) : evF ⟨Tryz.prog, [], [], []⟩ 4 N Tryz.f146.results.toList (Tryz.f146.body.getD .skip) pl_maps_Keys_map_string_tree_Node_string_tree_Node A_maps_Keys_map_string_tree_Node_string_tree_Node R_maps_Keys_map_string_tree_Node_string_tree_Node x = maps_Keys_map_string_tree_Node_string_tree_Node N x := by kernel_rfl
theorem row_maps_Keys_map_string_tree_Node_string_tree_Node (N : Nat) : RowOk Tryz.prog ⟨146, A_maps_Keys_map_string_tree_Node_string_tree_Node, R_maps_Keys_map_string_tree_Node_string_tree_Node, maps_Keys_map_string_tree_Node_string_tree_Node N⟩ :=
  row_mk 146 Tryz.f146 A_maps_Keys_map_string_tree_Node_string_tree_Node R_maps_Keys_map_string_tree_Node_string_tree_Node (maps_Keys_map_string_tree_Node_string_tree_Node N) _ _ _ 4 N pl_maps_Keys_map_string_tree_Node_string_tree_Node (rows_nil) (eqs_nil) mixed Tryz.func146 (by kernel_rfl) Tryz.ntmps146 (by kernel_rfl) (E_maps_Keys_map_string_tree_Node_string_tree_Node N) (by kernel_rfl)

end Go.Wz
